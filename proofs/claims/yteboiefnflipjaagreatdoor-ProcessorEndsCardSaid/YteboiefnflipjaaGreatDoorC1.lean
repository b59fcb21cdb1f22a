/- pontoonlaw04.DigestInputs: whatever the input, the call returns true and the arguments read as they did: the row, out of the walk and the plain law. -/
import Derived.Test.YteboiefnflipjaaGreatDoorM2
import Derived.Test.YteboiefnflipjaaGreatDoorG4
import Derived.Test.YteboiefnflipjaaGreatDoorRows
import Derived.Test.YteboiefnflipjaaGreatDoorTie
import Derived.Test.YteboiefnflipjaaGreatDoorCards
import Derived.ProofKit
import Derived.LaidMore
import Derived.Carry
import Derived.Stop.Joined
import Derived.SevenTiedAt
namespace Go.Proofs.YteboiefnflipjaaGreatDoor
open _root_.Go.Proofs.Tryz
open Go Go.RowKit Go.Proofs Go.ChangeShapes Go.WideShapes Go.ChangeAt Go.WideMaps Go.WideElems
set_option maxRecDepth 100000

theorem Nb {P : Program} {G : FP} {f : FuncId} {Vs : List VP} (hok : Az P G f Vs [] (fun _ => []) (AE true)) {w : World} {args : List Value} (hG : G.p (Gh w)) (ha : Ew (Gh w) Vs args) :
    Calls P f args.toArray w fun e w' => e = .returned (.bool true) ∧ Below w.heap.size w w' := by
  refine (hok (Gh w) w args [] (Ni w) hG ha trivial (by simp) (by simp)).mono fun e w' hq => ?_
  obtain ⟨v, Φ', fs', rfl, h1, _, h3, _⟩ := hq
  have h3 : v = .bool true := h3
  subst h3
  exact ⟨rfl, h1.os, h1.tape, h1.output, h1.size, fun b hb => h1.block b hb (by simp)⟩

theorem QT : ownKnob prog.godebug = none := by kernel_rfl
theorem laidOut : laidOutB prog = true := by kernel_rfl
def Lm : List (String × DataW Unit) := [("pontoon/sha.first", Rows.laid_pontoon_sha_first), ("pontoon/sha.constants", Rows.laid_pontoon_sha_constants)]
theorem N5 (os : Os) (args : Array Value) : laidMetH prog Lm ((World.doorLaid prog 400 os).forCall (fun _ _ => 0) ⟨#[], args, []⟩).memory :=
  laidMetH_of_parts3 (fuel := 8) (laidMet_of_run' 8 (by kernel_rfl) (by kernel_rfl)) (by kernel_rfl) (by kernel_rfl)
theorem Mq {P : Program} {w : World} {k : IntKind} {t e : TypeId} {n fuel base : Nat} {H : Type} {enc : TypeId × Value → H} {sp : Nat → Bool} {held : Bool} {cs : List Value} {r : DataW H × List MemPlace} {L : List Int} (ht : P.underlying t = some (.array n e)) (he : P.underlying e = some (.int k)) (h1 : P.cellsOf e = 1) (hn : P.cellsOf t = n)
    (h : DataW.trod enc P w base sp held fuel t cs = some r) (hd : r.1 = .agg (L.map fun x => .lit (.int k x))) : cs = L.map (Value.int k) ∧ L.length = n ∧ ∀ x ∈ L, H5 k x := by
  obtain ⟨xs, m, _, rfl, hl, hx, hel⟩ := DataW.trod_array ht h
  rw [h1] at hel
  have hd : xs.map (·.1) = L.map fun x => .lit (.int k x) := by simpa using hd
  have hLn : L.length = n := by have := congrArg List.length hd; simp at this; omega
  have key : ∀ i, i < n → ∃ v, L[i]? = some v ∧ cs[i]? = some (.int k v) ∧ H5 k v := by
    intro i hi
    have h2 := hel i hi
    have hix : i < xs.length := by omega
    rw [List.getElem?_eq_getElem hix] at h2
    obtain ⟨v, e1, e2, e3⟩ := DataW.trod_int he h2
    have e4 : (xs.map (·.1))[i]? = some (DataW.lit (.int k v)) := by simp [hix, e2]
    rw [hd, List.getElem?_map] at e4
    have hil : i < L.length := by omega
    rw [List.getElem?_eq_getElem hil] at e4
    have e5 : L[i] = v := by simpa using e4
    refine ⟨v, by rw [List.getElem?_eq_getElem hil, e5], ?_, J8 e3⟩
    have e6 := congrArg (fun l : List Value => l[0]?) e1
    simpa using e6
  have hcl : cs.length = n := by omega
  refine ⟨List.ext_getElem? fun i => ?_, hLn, fun x hx => ?_⟩
  · rcases Nat.lt_or_ge i n with hi | hi
    · obtain ⟨v, q1, q2, _⟩ := key i hi
      rw [q2, List.getElem?_map, q1]; rfl
    · rw [List.getElem?_eq_none (by omega), List.getElem?_eq_none (by simp; omega)]
  · obtain ⟨i, hi, rfl⟩ := List.mem_iff_getElem.1 hx
    obtain ⟨v, q1, _, q3⟩ := key i (by omega)
    rw [List.getElem?_eq_getElem hi] at q1
    rw [Option.some.inj q1]; exact q3
theorem Rb {W : World} (h : laidMetH prog Lm W) : KG.p (Gh W) := by
  rw [MakeChecks.laidMetH_plain _ _ _ (by kernel_rfl)] at h
  obtain ⟨ps, ⟨g0, t0, cs0, f0, p0, q0, hg0, ht0, hv0, hd0, ⟨g1, t1, cs1, f1, p1, q1, hg1, ht1, hv1, hd1, _, _⟩, _⟩, _, _⟩ := h
  obtain rfl := Option.some.inj ((show prog.globalNamed "pontoon/sha.first" = some 0 by kernel_rfl).symm.trans hg0)
  obtain rfl := Option.some.inj ((show prog.globalNamed "pontoon/sha.constants" = some 1 by kernel_rfl).symm.trans hg1)
  obtain rfl := Option.some.inj ((show (prog.globals[0]?).map (·.type) = some 208 by kernel_rfl).symm.trans ht0)
  obtain rfl := Option.some.inj ((show (prog.globals[1]?).map (·.type) = some 262 by kernel_rfl).symm.trans ht1)
  have a0 := Mq (L := E7) underlying208 underlying29 (by kernel_rfl) (by kernel_rfl) hd0 rfl
  have a1 := Mq (L := F2) underlying262 underlying29 (by kernel_rfl) (by kernel_rfl) hd1 rfl
  refine ⟨⟨0, 0, cs0.toList, rfl, ⟨_, [], by simp, ⟨a0.2.1, a0.1, a0.2.2⟩, rfl⟩, fun j v hj => ?_⟩, ⟨1, 0, cs1.toList, rfl, ⟨_, [], by simp, ⟨a1.2.1, a1.1, a1.2.2⟩, rfl⟩, fun j v hj => ?_⟩⟩
  · have := World.var?_cell hg0 hv0 j
    rw [Nat.zero_add]
    exact this.trans (by simpa using hj)
  · have := World.var?_cell hg1 hv1 j
    rw [Nat.zero_add]
    exact this.trans (by simpa using hj)
end Go.Proofs.YteboiefnflipjaaGreatDoor
