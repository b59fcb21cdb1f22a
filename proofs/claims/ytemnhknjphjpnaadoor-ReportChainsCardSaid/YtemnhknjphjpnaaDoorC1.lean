/- What a call needs of the world as it begins: the tables that Go's library and the report read. -/
import Derived.Test.YtemnhknjphjpnaaDoorM1
import Derived.Test.YtemnhknjphjpnaaDoorG4
import Derived.Test.YtemnhknjphjpnaaDoorRows
import Derived.Test.YtemnhknjphjpnaaDoorTie
import Derived.Test.YtemnhknjphjpnaaDoorCards
import Derived.ProofKit
import Derived.LaidMore
import Derived.Carry
import Derived.Stop.Joined
import Derived.SevenTiedAt
import Derived.Lib.LaidU8
namespace Go.Proofs.YtemnhknjphjpnaaDoor
open Go Go.RowKit Go.Proofs Go.ChangeShapes Go.WideShapes Go.ChangeAt Go.WideMaps Go.WideElems
set_option maxRecDepth 100000

theorem J7 {P : Program} {G : FP} {f : FuncId} {Vs : List VP} (hok : AX P G f Vs [] (fun _ => []) (An true)) {w : World} {args : List Value} (hG : G.p (Bu w)) (ha : D8 (Bu w) Vs args) :
    Calls P f args.toArray w fun e w' => e = .returned (.bool true) ∧ Below w.heap.size w w' := by
  refine (hok (Bu w) w args [] (Kf w) hG ha trivial (by simp) (by simp)).mono fun e w' hq => ?_
  obtain ⟨v, Φ', fs', rfl, h1, _, h3, _⟩ := hq
  have h3 : v = .bool true := h3
  subst h3
  exact ⟨rfl, h1.os, h1.tape, h1.output, h1.size, fun b hb => h1.block b hb (by simp)⟩

theorem MY : ownKnob Tryd.prog.godebug = none := by kernel_rfl
theorem laidOut : laidOutB Tryd.prog = true := by kernel_rfl
def F7 : List (String × DataW Unit) := [("math/bits.deBruijn32tab", Rows.laid_math_bits_deBruijn32tab), ("math/bits.deBruijn64tab", Rows.laid_math_bits_deBruijn64tab), ("internal/strconv.uint64pow10", Rows.laid_internal_strconv_uint64pow10), ("unicode/utf8.acceptRanges", Rows.laid_unicode_utf8_acceptRanges), ("pontoon/report.kinds", Rows.laid_pontoon_report_kinds), ("unicode/utf8.first", Rows.laid_unicode_utf8_first)]
/-- A world to begin in: what the door lays, and the table that is pinned. -/
noncomputable def HW (os : Os) : World :=
  let w0 := World.doorLaid Tryd.prog 400 os
  { w0 with heap := w0.heap.modify 3 fun
    | .cells _ t frozen => .cells (Lib.firstTab.map fun z => Value.int .u8 z).toArray t frozen
    | o => o }
theorem K1 (os : Os) (args : Array Value) : laidMetH Tryd.prog F7 ((HW os).forCall (fun _ _ => 0) ⟨#[], args, []⟩).memory :=
  laidMetH_of_parts3 (fuel := 8) (laidMet_of_run' 8 (by kernel_rfl) (by kernel_rfl)) (by kernel_rfl) (by kernel_rfl)
theorem JI {P : Program} {w : World} {k : IntKind} {t e : TypeId} {n fuel base : Nat} {H : Type} {enc : TypeId × Value → H} {sp : Nat → Bool} {held : Bool} {cs : List Value} {r : DataW H × List MemPlace} {L : List Int} (ht : P.underlying t = some (.array n e)) (he : P.underlying e = some (.int k)) (h1 : P.cellsOf e = 1) (hn : P.cellsOf t = n)
    (h : DataW.trod enc P w base sp held fuel t cs = some r) (hd : r.1 = .agg (L.map fun x => .lit (.int k x))) : cs = L.map (Value.int k) ∧ L.length = n ∧ ∀ x ∈ L, Db k x := by
  obtain ⟨xs, m, _, rfl, hl, hx, hel⟩ := DataW.trod_array ht h
  rw [h1] at hel
  have hd : xs.map (·.1) = L.map fun x => .lit (.int k x) := by simpa using hd
  have hLn : L.length = n := by have := congrArg List.length hd; simp at this; omega
  have key : ∀ i, i < n → ∃ v, L[i]? = some v ∧ cs[i]? = some (.int k v) ∧ Db k v := by
    intro i hi
    have h2 := hel i hi
    have hix : i < xs.length := by omega
    rw [List.getElem?_eq_getElem hix] at h2
    obtain ⟨v, e1, e2, e3⟩ := DataW.trod_int he h2
    have e4 : (xs.map (·.1))[i]? = some (DataW.lit (.int k v)) := by simp [hix, e2]
    rw [hd, List.getElem?_map] at e4
    have hil : i < L.length := by omega
    rw [List.getElem?_eq_getElem hil] at e4
    have e5 : L[i] = v := by simpa using e4
    refine ⟨v, by rw [List.getElem?_eq_getElem hil, e5], ?_, G0 e3⟩
    have e6 := congrArg (fun l : List Value => l[0]?) e1
    simpa using e6
  have hcl : cs.length = n := by omega
  refine ⟨List.ext_getElem? fun i => ?_, hLn, fun x hx => ?_⟩
  · rcases Nat.lt_or_ge i n with hi | hi
    · obtain ⟨v, q1, q2, _⟩ := key i hi
      rw [q2, List.getElem?_map, q1]; rfl
    · rw [List.getElem?_eq_none (by omega), List.getElem?_eq_none (by simp; omega)]
  · obtain ⟨i, hi, rfl⟩ := List.mem_iff_getElem.1 hx
    obtain ⟨v, q1, _, q3⟩ := key i (by omega)
    rw [List.getElem?_eq_getElem hi] at q1
    rw [Option.some.inj q1]; exact q3
theorem Li {P : Program} {w : World} {t e : TypeId} {n fuel base : Nat} {H : Type} {enc : TypeId × Value → H} {sp : Nat → Bool} {held : Bool} {cs : List Value} {r : DataW H × List MemPlace} {L : List (List UInt8)} (ht : P.underlying t = some (.array n e)) (he : P.underlying e = some .string) (h1 : P.cellsOf e = 1) (hn : P.cellsOf t = n)
    (h : DataW.trod enc P w base sp held fuel t cs = some r) (hd : r.1 = .agg (L.map fun x => .lit (.string x))) : cs = L.map (fun x => Value.string ⟨x.toArray⟩) ∧ L.length = n ∧ ∀ x ∈ L, x.length ≤ Bw := by
  obtain ⟨xs, m, _, rfl, hl, hx, hel⟩ := DataW.trod_array ht h
  rw [h1] at hel
  have hd : xs.map (·.1) = L.map fun x => .lit (.string x) := by simpa using hd
  have hLn : L.length = n := by have := congrArg List.length hd; simp at this; omega
  have key : ∀ i, i < n → ∃ v : List UInt8, L[i]? = some v ∧ cs[i]? = some (.string ⟨v.toArray⟩) ∧ v.length ≤ Bw := by
    intro i hi
    have h2 := hel i hi
    have hix : i < xs.length := by omega
    rw [List.getElem?_eq_getElem hix] at h2
    obtain ⟨s, e1, e2, e3⟩ := DataW.trod_string he h2
    obtain ⟨v, hv⟩ : ∃ v, v = s.data.toList := ⟨_, rfl⟩
    have hs : s = ⟨v.toArray⟩ := by rw [hv]
    rw [hs] at e1 e2 e3
    have e4 : (xs.map (·.1))[i]? = some (DataW.lit (.string v)) := by simp [hix, e2]
    rw [hd, List.getElem?_map] at e4
    have hil : i < L.length := by omega
    rw [List.getElem?_eq_getElem hil] at e4
    have e5 : L[i] = v := by simpa using e4
    refine ⟨v, by rw [List.getElem?_eq_getElem hil, e5], ?_, by have := e3; rw [C6] at this; exact this⟩
    have e6 := congrArg (fun l : List Value => l[0]?) e1
    simpa using e6
  have hcl : cs.length = n := by omega
  refine ⟨List.ext_getElem? fun i => ?_, hLn, fun x hx => ?_⟩
  · rcases Nat.lt_or_ge i n with hi | hi
    · obtain ⟨v, q1, q2, _⟩ := key i hi
      rw [q2, List.getElem?_map, q1]; rfl
    · rw [List.getElem?_eq_none (by omega), List.getElem?_eq_none (by simp; omega)]
  · obtain ⟨i, hi, rfl⟩ := List.mem_iff_getElem.1 hx
    obtain ⟨v, q1, _, q3⟩ := key i (by omega)
    rw [List.getElem?_eq_getElem hi] at q1
    rw [Option.some.inj q1]; exact q3
theorem H0 {Φ : BW} : ∀ (L : List (List UInt8)), (∀ x ∈ L, x.length ≤ Bw) → CY Φ F1 (L.map fun x => Value.string ⟨x.toArray⟩) L
  | [], _ => rfl
  | x :: L, h => ⟨[_], _, rfl, ⟨[_], [], rfl, ⟨_, rfl, rfl, rfl, h x (by simp)⟩, rfl⟩, H0 L fun y hy => h y (by simp [hy])⟩
theorem U8X : U8Extra Tryd.prog Tryd.FQ := ⟨by kernel_rfl, by kernel_rfl, by kernel_rfl, by kernel_rfl, by kernel_rfl, by kernel_rfl, by kernel_rfl⟩
theorem Nt {W : World} (h : laidMetH Tryd.prog F7 W) : KG.p (Bu W) := by
  rw [MakeChecks.laidMetH_plain _ _ _ (by kernel_rfl)] at h
  have m1 : ("internal/strconv.uint64pow10", Lib.tabData .u64 KS) ∈ F7 := .tail _ (.tail _ (.head _))
  have m2 : ("math/bits.deBruijn64tab", Lib.tabData .u8 (LC.map fun b => (b.toNat : Int))) ∈ F7 := .tail _ (.head _)
  have m3 : ("unicode/utf8.acceptRanges", Lib.acceptData) ∈ F7 := .tail _ (.tail _ (.tail _ (.head _)))
  have m4 : ("unicode/utf8.first", Lib.firstData) ∈ F7 := .tail _ (.tail _ (.tail _ (.tail _ (.tail _ (.head _)))))
  have m5 : ("pontoon/report.kinds", (Rows.laid_pontoon_report_kinds : DataW Unit)) ∈ F7 := .tail _ (.tail _ (.tail _ (.tail _ (.head _))))
  have h8 : Lib.Utf8Tabs 3 4 W := utf8Tabs_of_reads (ρ := Tryd.FQ) { Tryd.JG with } U8X (Go.Lib.laidMet.reads h m4) (Go.Lib.laidMet.reads h m3)
  obtain ⟨g1, t1, cs1, f1, p1, hg1, ht1, hv1, hd1⟩ := Go.Lib.laidMet.reads h m1
  obtain ⟨g2, t2, cs2, f2, p2, hg2, ht2, hv2, hd2⟩ := Go.Lib.laidMet.reads h m2
  obtain ⟨g5, t5, cs5, f5, p5, hg5, ht5, hv5, hd5⟩ := Go.Lib.laidMet.reads h m5
  obtain rfl := Option.some.inj ((show Tryd.prog.globalNamed "internal/strconv.uint64pow10" = some 2 by kernel_rfl).symm.trans hg1)
  obtain rfl := Option.some.inj ((show Tryd.prog.globalNamed "math/bits.deBruijn64tab" = some 6 by kernel_rfl).symm.trans hg2)
  obtain rfl := Option.some.inj ((show Tryd.prog.globalNamed "pontoon/report.kinds" = some 0 by kernel_rfl).symm.trans hg5)
  obtain rfl := Option.some.inj ((show (Tryd.prog.globals[2]?).map (·.type) = some 159 by kernel_rfl).symm.trans ht1)
  obtain rfl := Option.some.inj ((show (Tryd.prog.globals[6]?).map (·.type) = some 171 by kernel_rfl).symm.trans ht2)
  obtain rfl := Option.some.inj ((show (Tryd.prog.globals[0]?).map (·.type) = some 86 by kernel_rfl).symm.trans ht5)
  have a1 := JI (L := KS) Tryd.underlying159 Tryd.underlying23 (by kernel_rfl) (by kernel_rfl) hd1 rfl
  have a2 := JI (L := LC.map fun b => (b.toNat : Int)) Tryd.underlying171 Tryd.underlying5 (by kernel_rfl) (by kernel_rfl) hd2 rfl
  have a5 := Li (L := DV) Tryd.underlying86 Tryd.underlying9 (by kernel_rfl) (by kernel_rfl) hd5 rfl
  refine ⟨⟨2, 0, cs1.toList, rfl, ⟨cs1.toList, [], by simp, ⟨a1.2.1, a1.1, a1.2.2⟩, rfl⟩, fun j v hj => ?_⟩, ⟨6, 0, cs2.toList, rfl, ⟨cs2.toList, [], by simp, ⟨rfl, by rw [a2.1, List.map_map]; rfl⟩, rfl⟩, fun j v hj => ?_⟩, ⟨0, 0, cs5.toList, rfl, ⟨cs5.toList, [], by simp, ⟨rfl, by rw [a5.1]; exact H0 DV a5.2.2⟩, rfl⟩, fun j v hj => ?_⟩, ⟨fun c hc => h8.1 c hc, fun i hi => h8.2 i hi⟩⟩
  · have := World.var?_cell hg1 hv1 j
    rw [Nat.zero_add]
    exact this.trans (by simpa using hj)
  · have := World.var?_cell hg2 hv2 j
    rw [Nat.zero_add]
    exact this.trans (by simpa using hj)
  · have := World.var?_cell hg5 hv5 j
    rw [Nat.zero_add]
    exact this.trans (by simpa using hj)
end Go.Proofs.YtemnhknjphjpnaaDoor
