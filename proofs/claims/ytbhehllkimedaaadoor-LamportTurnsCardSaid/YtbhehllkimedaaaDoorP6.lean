/- Plain law of the logs: what was noted stays noted; without a clash inputs of one digest are one. -/
import Derived.Test.YtbhehllkimedaaaDoorP5
namespace Go.Proofs.YtbhehllkimedaaaDoor
open Go Go.RowKit Go.Proofs
set_option linter.unusedVariables false

def Noted (Q : O_RLog) (x : List UInt8) : Prop := ∃ g l, sha_Sum [x] = some g ∧ lkp g Q.f_Digests = some l ∧ x ∈ l
theorem note_ref {L : O_Log} {Q : O_RLog} {n : Nat} (A : Alike L Q n) (hn : n < 1000) {g s : List UInt8} :
    (s ∈ (lkp g Q.f_Digests).getD [] → ref04_Log_Note (some Q) g s = some (some Q)) ∧ (s ∉ (lkp g Q.f_Digests).getD [] → ref04_Log_Note (some Q) g s = some (some ⟨Q.f_Inputs ++ [s], upd g (((lkp g Q.f_Digests).getD []) ++ [s]) Q.f_Digests⟩)) := by
  have hlen : ((lkp g Q.f_Digests).getD []).length ≤ n := by
    cases h : lkp g Q.f_Digests with
    | none => simp
    | some l => simpa using A.j6.2 g l h
  obtain ⟨c, h1, h2⟩ := seek (g := g) (s := s) (Q := Q) (by omega)
  have hi := A.j6.1
  refine ⟨fun h => ?_, fun h => ?_⟩
  · rcases h2 with ⟨_, rfl⟩ | ⟨h', _⟩
    · unfold ref04_Log_Note ref04_Log_Note.s
      exact bind_of h1 rfl
    · exact absurd h h'
  · rcases h2 with ⟨h', _⟩ | ⟨_, i, rfl⟩
    · exact absurd h' h
    · unfold ref04_Log_Note ref04_Log_Note.s
      refine bind_of h1 ?_
      show (if _ then _ else _) = _
      rw [if_pos (by simp only [List.length_cons, List.length_nil, mxl]; omega), if_pos (by simp only [List.length_cons, List.length_nil, mxl]; omega), upd_ens]
theorem note_noted {L : O_Log} {Q Q' : O_RLog} {n : Nat} (A : Alike L Q n) (hn : n < 1000) {g s : List UInt8} (hs : sha_Sum [s] = some g) (h : ref04_Log_Note (some Q) g s = some (some Q')) : Noted Q' s ∧ ∀ y, Noted Q y → Noted Q' y := by
  obtain ⟨h1, h2⟩ := note_ref A hn (g := g) (s := s)
  by_cases hm : s ∈ (lkp g Q.f_Digests).getD []
  · have := (h1 hm).symm.trans h
    obtain rfl := Option.some.inj (Option.some.inj this)
    refine ⟨?_, fun y hy => hy⟩
    cases hD : lkp g Q.f_Digests with
    | none => rw [hD] at hm; simp at hm
    | some l => rw [hD] at hm; exact ⟨g, l, hs, hD, hm⟩
  · have := (h2 hm).symm.trans h
    obtain rfl := Option.some.inj (Option.some.inj this)
    refine ⟨⟨g, _, hs, by show lkp g (upd g _ _) = _; rw [lkp_upd, if_pos rfl], by simp⟩, fun y ⟨k, l, e1, e2, e3⟩ => ?_⟩
    by_cases hk : k = g
    · subst hk
      exact ⟨k, _, e1, by show lkp k (upd k _ _) = _; rw [lkp_upd, if_pos rfl], by rw [e2]; simp [e3]⟩
    · exact ⟨k, l, e1, by show lkp k (upd g _ _) = _; rw [lkp_upd, if_neg hk]; exact e2, e3⟩
theorem clash_noted {L : O_Log} {Q : O_RLog} {n : Nat} (A : Alike L Q n) (hn : n < 1000) (hc : ref04_Log_Clash (some Q) = some false) {x y : List UInt8} (hx : Noted Q x) (hy : Noted Q y) (h : sha_Sum [x] = sha_Sum [y]) : x = y := by
  obtain ⟨g, l, x1, x2, x3⟩ := hx
  obtain ⟨g', l', y1, y2, y3⟩ := hy
  rw [x1, y1] at h
  obtain rfl := Option.some.inj h
  rw [x2] at y2
  obtain rfl := Option.some.inj y2
  have h0 : L.f_others.length = 0 := by
    have h2 : ref04_Log_Clash.s Q = some false := hc
    have h5 := A.j5
    have h6 := A.j6.1
    unfold ref04_Log_Clash.s at h2
    rw [if_pos (by simp only [mxl]; omega)] at h2
    have h3 := Option.some.inj h2
    have h4 : ¬ ((Q.f_Digests.length : Int) < (Q.f_Inputs.length : Int)) := by
      intro hlt
      simp [hlt] at h3
      try omega
    omega
  have hno : ∀ z, z ∉ l.tail := fun z hz => by
    have := (A.j3 z).2 ⟨g, l, x2, hz⟩
    rw [List.eq_nil_of_length_eq_zero h0] at this
    simp [lkp] at this
  cases l with
  | nil => cases x3
  | cons a t =>
    have e1 : x = a := by
      rcases List.mem_cons.1 x3 with e | e
      · exact e
      · exact absurd e (hno x)
    have e2 : y = a := by
      rcases List.mem_cons.1 y3 with e | e
      · exact e
      · exact absurd e (hno y)
    rw [e1, e2]
end Go.Proofs.YtbhehllkimedaaaDoor
