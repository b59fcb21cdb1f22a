/- A slice asked whether it is nil; an empty literal; a local struct's slice that grew, as a plain field again. -/
import Derived.Test.YtklikgigjdgjaaaGreatDoorRRRA26
import Derived.WalkSpells
namespace Go.Proofs.YtklikgigjdgjaaaGreatDoorRRR
open Go Go.RowKit Go.Proofs
set_option linter.unusedVariables false
set_option linter.unusedSimpArgs false

/-- What a test on nil tells of a slice that reads as xs. -/
def nilqVP {α : Type} (xs : List α) : VP := ⟨fun _ v => ∃ b : Bool, v = .bool b ∧ (b = true → xs = []), fun _ h => h⟩
theorem bin_slnil {P : Program} {α : Type} {c : α → List Ck} {xs : List α} {t e : TypeId} (hu : P.underlying t = some (.slice e)) : Bin P .eql t (slVP c xs) (eqVP (.slice none 0 0)) (nilqVP xs) := by
  rintro Φ u v w x y ⟨_, hx⟩ hv
  have hv : v = .slice none 0 0 := hv
  subst hv
  have hrun : ∀ (a : Option Addr) (n cap : Nat), (do eqGuard .eql t x y (.slice a n cap) (.slice none 0 0); binOp .eql t (.slice a n cap) (.slice none 0 0) : Sem Value).run P w = .ok (.bool a.isNone) w := by
    intro a n cap
    simp only [eqGuard_at_slice, binOp]
    simp [Op.equal, Op.maxDepth, Lib.run_equalIn_slice_nil w 9999 t e a n cap 0 0 hu]
  rcases hx with ⟨rfl, rfl⟩ | ⟨b, o, cap, cs, rfl, _⟩ | ⟨rfl, a, cap, rfl⟩
  · exact ⟨_, hrun _ _ _, _, rfl, fun _ => rfl⟩
  · exact ⟨_, hrun _ _ _, _, rfl, fun h => by cases h⟩
  · exact ⟨_, hrun _ _ _, _, rfl, fun _ => rfl⟩
theorem SatL.nilq {c : Cx} {l : List Ent} {a : Act} {w : World} {α : Type} {xs : List α} {d : Nat} (h : SatL c l a w) (i : Nat) (he : nthD .none l i = .slot d (nilqVP xs)) : ∃ b : Bool, (b = true → xs = []) ∧ SatL c (l.set i (.slot d (boolVP b))) a w := by
  obtain ⟨Φ, fp, h0⟩ := h
  have hi := nthD_lt he (by simp)
  have hx := h0.holds i hi
  rw [he] at hx
  obtain ⟨hf, v, hv, b, hb, hq⟩ := hx
  subst hb
  refine ⟨b, hq, Φ, fp, h0.defers, h0.size, h0.pub, h0.know, h0.step, fun j hj => ?_, fun j hj => h0.own j (by simpa using hj), fun j k hj hk => h0.apart j k (by simpa using hj) (by simpa using hk)⟩
  have hj : j < l.length := by simpa using hj
  by_cases e : i = j
  · subst e
    rw [nthD_set, if_pos ⟨rfl, hi⟩]
    exact ⟨hf, _, hv, rfl⟩
  · rw [nthD_set, if_neg (fun hc => e hc.1)]
    exact h0.holds j hj
section ops
variable {P : Program} {G : FP} {N : List Ent} {d : Nat} {ty : TypeId} {pos : String} {af : Array Edge} {gd : Option (Nat × Bool)}
theorem op_lit0 {t e : TypeId} {sz : Nat} (hu : P.underlying t = some (.slice e)) (hs : ∀ w, (sizeOf e).run P w = .ok sz w) {z : Value} (hz : ∀ w, (zeroValue e).run P w = .ok z w) :
    OpOk P G ⟨some d, .buildSlice t 0 #[], ty, pos, af, gd⟩ N [] (fun _ => [.slot d empVP]) := by
  intro Φ a w fN fC h1 h2 h3 h4 h5 h6 h7 K Q hK
  match fC, h4 with
  | [], _ =>
    have hrun : (execOp a.eval ⟨some d, .buildSlice t 0 #[], ty, pos, af, gd⟩).run P w = .ok (.value (.slice (some ⟨w.heap.size, 0, none⟩) 0 0)) (w.alloc (.cells #[] e)) := by
      simp [execOp, Instr.buildSlice, run_underlying hu, hs, hz, Instr.fill, newRow]
      have e0 : (Array.range 0).map (fun _ => (default : Value)) = #[] := by apply Array.ext'; simp [Array.toList_range]
      rw [e0]
    unfold Oper.wp
    rw [hrun, Oper.upon_value]
    exact hK _ _ Φ [[]] (step_alloc w Φ _) (pub_alloc h1 _) ⟨⟨rfl, _, put_get a _ d (h7 d rfl), .inr ⟨_, rfl⟩⟩, trivial⟩ (by simp) (by simp)
end ops
def RP.spare : RP := ⟨fun _ _ _ => True, fun _ _ _ _ => trivial⟩
/-- A struct's own slice, told as a plain field again: it doesn't grow any more. -/
theorem settle {α : Type} {p q : Value} {T T' : TypeId} {sz : Nat} {c : α → List Ck} {xs : List α} {pre post : List Ck} : RP.le (RP.sep (lb p T (pre ++ [one (eqVP q)] ++ post)) (acc q T' sz c xs)) (RP.sep (lb p T (pre ++ [one (slVP c xs)] ++ post)) RP.spare) := by
  rintro Φ f w ⟨f1, f2, rfl, ⟨b, cs, h1, h2, h3, hL, hn⟩, h4⟩
  refine ⟨f1, f2, rfl, ⟨b, cs, h1, h2, h3, ?_, hn⟩, trivial⟩
  obtain ⟨us, zs, rfl, g1, g2⟩ := hL.split
  obtain ⟨xs', ys, rfl, g3, ⟨y1, y2, rfl, ⟨v, rfl, hv1, hv2⟩, hy2⟩⟩ := g1.split
  have hv2 : v = q := hv2
  subst hv2
  exact (g3.append (M := [one (slVP c xs)]) ⟨[v], y2, rfl, ⟨v, rfl, hv1, acc_sl h4⟩, hy2⟩).append g2
end Go.Proofs.YtklikgigjdgjaaaGreatDoorRRR
