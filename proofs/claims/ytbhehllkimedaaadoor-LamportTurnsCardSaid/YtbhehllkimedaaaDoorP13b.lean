/- Without a clash: what one digest tells of its inputs. -/
import Derived.Test.YtbhehllkimedaaaDoorP11
import Derived.Test.YtbhehllkimedaaaDoorP7b
namespace Go.Proofs.YtbhehllkimedaaaDoor
open Go Go.RowKit Go.Proofs
set_option linter.unusedVariables false

theorem flat_inj : ∀ (l m : List (List UInt8)), (∀ p ∈ l, p.length = 32) → (∀ p ∈ m, p.length = 32) → l.flatten = m.flatten → l = m
  | [], [], _, _, _ => rfl
  | [], q :: m, _, hm, h => by have := congrArg List.length h; have h1 := hm q (by simp); simp only [List.flatten_cons, List.flatten_nil, List.length_append, List.length_nil] at this; omega
  | p :: l, [], hl, _, h => by have := congrArg List.length h; have h1 := hl p (by simp); simp only [List.flatten_cons, List.flatten_nil, List.length_append, List.length_nil] at this; omega
  | p :: l, q :: m, hl, hm, h => by
    have h1 := hl p (by simp)
    have h2 := hm q (by simp)
    simp only [List.flatten_cons] at h
    obtain ⟨e1, e2⟩ := List.append_inj h (by omega)
    rw [e1, flat_inj l m (fun x hx => hl x (by simp [hx])) (fun x hx => hm x (by simp [hx])) e2]
theorem inp_inj {d : Int} {ps qs : List (List UInt8)} (hp : Small ps) (hq : Small qs) (h : inp d ps = inp d qs) : ps = qs :=
  enc_inj ps qs (fun p h => by have := hp.1 p h; omega) (fun p h => by have := hq.1 p h; omega) (List.cons.inj h).2
/-- Without a clash: noted inputs of one digest are one. -/
theorem noted_inj {Q : O_RLog} {n : Nat} (A : RefOk Q n) (hn : n < 1000) (hc : ref04_Log_Clash (some Q) = some false) {d : Int} {ps qs : List (List UInt8)} (hp : Small ps) (hq : Small qs) (h1 : Noted Q (inp d ps)) (h2 : Noted Q (inp d qs)) (h : H (inp d ps) = H (inp d qs)) : ps = qs := by
  obtain ⟨L, A⟩ := A
  refine inp_inj hp hq (clash_noted A hn hc h1 h2 ?_)
  rw [(hp.H d).1, (hq.H d).1, h]
theorem clash_some {Q : O_RLog} {n : Nat} (A : RefOk Q n) (hn : n < 1000) : ∃ b, ref04_Log_Clash (some Q) = some b := by
  obtain ⟨L, A⟩ := A
  have h6 := A.j6.1
  have h5 := A.j5
  show ∃ b, ref04_Log_Clash.s Q = some b
  unfold ref04_Log_Clash.s
  rw [if_pos (by simp only [mxl]; omega)]
  exact ⟨_, rfl⟩
theorem by1_01 {a b : Int} (ha : a = 0 ∨ a = 1) (hb : b = 0 ∨ b = 1) (h : by1 a = by1 b) : a = b := by
  rcases ha with rfl | rfl <;> rcases hb with rfl | rfl <;> first | rfl | (exact absurd h (by decide))
end Go.Proofs.YtbhehllkimedaaaDoor
