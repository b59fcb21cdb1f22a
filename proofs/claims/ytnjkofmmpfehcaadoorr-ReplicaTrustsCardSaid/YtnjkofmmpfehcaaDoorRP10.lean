/- Plain laws: P5, P6, P8a, P11a, P8, P10, as one text. -/
import Derived.Test.YtnjkofmmpfehcaaDoorRP5a
import Derived.Test.YtnjkofmmpfehcaaDoorRP7
namespace Go.Proofs.YtnjkofmmpfehcaaDoorR
open Go Go.RowKit Go.Proofs
section
set_option linter.unusedVariables false

section assoc
variable {K V : Type} [DecidableEq K]
theorem lkp_upd (k k' : K) (v : V) : ∀ m : List (K × V), lkp k (upd k' v m) = if k = k' then some v else lkp k m
  | [] => by simp only [upd, lkp]
  | (a, b) :: m => by
    by_cases h : k' = a
    · subst h
      simp only [upd, lkp, if_true]
      by_cases h2 : k = k'
      · simp [h2]
      · simp [h2]
    · simp only [upd, lkp, if_neg h]
      rw [lkp_upd k k' v m]
      by_cases h2 : k = a
      · subst h2
        simp [Ne.symm h]
      · simp [h2]
theorem len_upd (k : K) (v : V) : ∀ m : List (K × V), (upd k v m).length = if (lkp k m).isSome then m.length else m.length + 1
  | [] => rfl
  | (a, b) :: m => by
    by_cases h : k = a
    · subst h; simp [upd, lkp]
    · simp only [upd, lkp, if_neg h, List.length_cons]
      rw [len_upd k v m]
      split <;> rfl
theorem upd_ens (k : K) (v d : V) (m : List (K × V)) : upd k v (ens k d m) = upd k v m := by
  unfold ens
  by_cases h : (lkp k m).isSome
  · rw [if_pos h]
  · rw [if_neg h]
    induction m with
    | nil => simp [upd]
    | cons x m ih =>
      obtain ⟨a, b⟩ := x
      by_cases h2 : k = a
      · subst h2; simp [lkp] at h
      · simp only [lkp, if_neg h2] at h
        simp only [List.cons_append, upd, if_neg h2, ih h]
end assoc
/-- A log and the document's, alike. -/
structure Alike (L : O_Log) (Q : O_RLog) (n : Nat) : Prop where
  j1 : ∀ k, lkp k L.f_inputs = (lkp k Q.f_Digests).map (·.headD [])
  j2 : L.f_inputs.length = Q.f_Digests.length
  j3 : ∀ x, (lkp x L.f_others).isSome ↔ ∃ k l, lkp k Q.f_Digests = some l ∧ x ∈ l.tail
  j4 : ∀ k l, lkp k Q.f_Digests = some l → l ≠ [] ∧ ∀ x ∈ l, sha_Sum [x] = some k
  j5 : L.f_others.length + Q.f_Digests.length = Q.f_Inputs.length
  j6 : Q.f_Inputs.length ≤ n ∧ ∀ k l, lkp k Q.f_Digests = some l → l.length ≤ n
theorem seek {g s : List UInt8} {Q : O_RLog} (hl : ((lkp g Q.f_Digests).getD []).length < 100000) : ∃ c, loopN (fun t : Int => ref04_Log_Note.b1 Q g s t) (((((lkp g Q.f_Digests).getD []).length : Int) - 0 : Int).toNat + 2) 0 = some c ∧
    ((s ∈ (lkp g Q.f_Digests).getD [] ∧ c = .ret (some Q)) ∨ (s ∉ (lkp g Q.f_Digests).getD [] ∧ ∃ i, c = .next i)) := by
  generalize hxs : (lkp g Q.f_Digests).getD [] = xs at *
  refine loop_ok (body := fun t : Int => ref04_Log_Note.b1 Q g s t) (fun t => ∃ i : Nat, i ≤ xs.length ∧ t = (i : Int) ∧ s ∉ xs.take i) (fun c => (s ∈ xs ∧ c = .ret (some Q)) ∨ (s ∉ xs ∧ ∃ i, c = .next i)) (fun t => (xs.length - t).toNat)
    (fun t ⟨i, hi, ht, hs⟩ => by
      subst ht
      unfold ref04_Log_Note.b1
      simp only [hxs]
      by_cases h : i < xs.length
      · have g : xs.getD (i : Int).toNat default = xs[i] := by simp [List.getD, h]
        rw [if_pos (by simpa using h), if_pos (by omega), g]
        by_cases he : xs[i] = s
        · rw [if_pos (by simpa using he)]
          exact .inr (.inr ⟨_, rfl, .inl ⟨he ▸ List.getElem_mem h, rfl⟩⟩)
        · rw [if_neg (by simpa using he), w64 (by omega)]
          refine .inl ⟨_, rfl, ⟨i + 1, by omega, by simp, ?_⟩, by omega⟩
          rw [List.take_succ_eq_append_getElem h, List.mem_append]
          rintro (e | e)
          · exact hs e
          · exact he (List.mem_singleton.1 e).symm
      · rw [if_neg (by simpa using h)]
        have : i = xs.length := by omega
        subst this
        exact .inr (.inl ⟨_, rfl, .inr ⟨by simpa using hs, _, rfl⟩⟩)) _ 0 ⟨0, by omega, rfl, by simp⟩ (by omega)
theorem note_alike {L : O_Log} {Q : O_RLog} {n : Nat} (A : Alike L Q n) (hn : n < 60000) {g s : List UInt8} (hs : sha_Sum [s] = some g) :
    ∃ L' Q', digest_Log_note (some L) g s = some (some L') ∧ ref04_Log_Note (some Q) g s = some (some Q') ∧ Alike L' Q' (n + 1) ∧ (lkp g L'.f_inputs).isSome := by
  have hlen : ((lkp g Q.f_Digests).getD []).length ≤ n := by
    cases h : lkp g Q.f_Digests with
    | none => simp
    | some l => simpa using A.j6.2 g l h
  obtain ⟨c, h1, h2⟩ := seek (g := g) (s := s) (Q := Q) (by omega)
  have hstay : Alike L Q (n + 1) := ⟨A.j1, A.j2, A.j3, A.j4, A.j5, by have := A.j6.1; omega, fun k l h => by have := A.j6.2 k l h; omega⟩
  -- the document's note
  have hq : (s ∈ (lkp g Q.f_Digests).getD [] → ref04_Log_Note (some Q) g s = some (some Q)) ∧ (s ∉ (lkp g Q.f_Digests).getD [] → ref04_Log_Note (some Q) g s = some (some ⟨Q.f_Inputs ++ [s], upd g (((lkp g Q.f_Digests).getD []) ++ [s]) Q.f_Digests⟩)) := by
    have hi := A.j6.1
    refine ⟨fun h => ?_, fun h => ?_⟩
    · rcases h2 with ⟨_, rfl⟩ | ⟨h', _⟩
      · unfold ref04_Log_Note ref04_Log_Note.s
        exact bind_of h1 rfl
      · exact absurd h h'
    · rcases h2 with ⟨h', _⟩ | ⟨_, i, rfl⟩
      · exact absurd h' h
      · unfold ref04_Log_Note ref04_Log_Note.s
        refine bind_of h1 ?_
        show (if _ then _ else _) = _
        rw [if_pos (by simp only [List.length_cons, List.length_nil, mxl]; omega), if_pos (by simp only [List.length_cons, List.length_nil, mxl]; omega), upd_ens]
  have k1 := A.j1 g
  cases hD : lkp g Q.f_Digests with
  | none =>
    rw [hD] at k1 hq
    have k1 : lkp g L.f_inputs = none := k1
    have hL : digest_Log_note (some L) g s = some (some ⟨upd g s L.f_inputs, L.f_others⟩) := by
      show digest_Log_note.s L g _ = _
      unfold digest_Log_note.s
      rw [k1]
      rfl
    refine ⟨_, _, hL, hq.2 (by simp), ?_, by rw [lkp_upd]; simp⟩
    have hfresh : ∀ k l, lkp k Q.f_Digests = some l → k ≠ g := fun k l h e => by rw [e, hD] at h; cases h
    refine ⟨fun k => ?_, ?_, fun x => ?_, fun k l h => ?_, ?_, ?_, fun k l h => ?_⟩
    · show lkp k (upd g s _) = (lkp k (upd g _ _)).map _
      rw [lkp_upd, lkp_upd]
      by_cases hk : k = g
      · simp [hk]
      · rw [if_neg hk, if_neg hk]; exact A.j1 k
    · show (upd g s _).length = (upd g _ _).length
      rw [len_upd, len_upd, k1, hD, A.j2]
      rfl
    · show (lkp x L.f_others).isSome ↔ ∃ k l, lkp k (upd g _ _) = some l ∧ _
      rw [A.j3 x]
      constructor
      · rintro ⟨k, l, h, hx⟩
        exact ⟨k, l, by rw [lkp_upd, if_neg (hfresh k l h)]; exact h, hx⟩
      · rintro ⟨k, l, h, hx⟩
        rw [lkp_upd] at h
        by_cases hk : k = g
        · rw [if_pos hk] at h
          have : l = [s] := by simpa using h.symm
          subst this
          simp at hx
        · rw [if_neg hk] at h
          exact ⟨k, l, h, hx⟩
    · have h : lkp k (upd g _ _) = some l := h
      rw [lkp_upd] at h
      by_cases hk : k = g
      · rw [if_pos hk] at h
        have : l = [s] := by simpa using h.symm
        subst this
        exact ⟨by simp, fun x hx => by rw [List.mem_singleton.1 hx, hk]; exact hs⟩
      · rw [if_neg hk] at h
        exact A.j4 k l h
    · show L.f_others.length + (upd g _ _).length = (Q.f_Inputs ++ [s]).length
      have := A.j5
      rw [len_upd, hD]
      simp
      omega
    · have := A.j6.1
      show (Q.f_Inputs ++ [s]).length ≤ n + 1
      simp; omega
    · have h : lkp k (upd g _ _) = some l := h
      rw [lkp_upd] at h
      by_cases hk : k = g
      · rw [if_pos hk] at h
        have : l = [s] := by simpa using h.symm
        subst this
        simp
      · rw [if_neg hk] at h
        have := A.j6.2 k l h
        omega
  | some l0 =>
    rw [hD] at k1 hq
    have hl0 := A.j4 g l0 hD
    obtain ⟨a, t, rfl⟩ : ∃ a t, l0 = a :: t := by
      cases l0 with
      | nil => exact absurd rfl hl0.1
      | cons a t => exact ⟨a, t, rfl⟩
    have k1 : lkp g L.f_inputs = some a := k1
    by_cases hsa : a = s
    · subst hsa
      have hL : digest_Log_note (some L) g a = some (some ⟨upd g a L.f_inputs, L.f_others⟩) := by
        show digest_Log_note.s L g _ = _
        unfold digest_Log_note.s
        rw [k1]
        simp [digest_Log_note.j1, digest_Log_note.j2]
      refine ⟨_, _, hL, hq.1 (by simp), ?_, by rw [lkp_upd]; simp⟩
      refine ⟨fun k => ?_, ?_, hstay.j3, hstay.j4, hstay.j5, hstay.j6⟩
      · show lkp k (upd g a _) = _
        rw [lkp_upd]
        by_cases hk : k = g
        · rw [if_pos hk, hk, hD]; rfl
        · rw [if_neg hk]; exact A.j1 k
      · show (upd g a _).length = _
        rw [len_upd, k1, ← A.j2]
        rfl
    · have hL : digest_Log_note (some L) g s = some (some ⟨L.f_inputs, upd s true L.f_others⟩) := by
        show digest_Log_note.s L g _ = _
        unfold digest_Log_note.s
        rw [k1]
        simp [digest_Log_note.j1, digest_Log_note.j2, hsa]
      by_cases hst : s ∈ t
      · have ho : (lkp s L.f_others).isSome := (A.j3 s).2 ⟨g, a :: t, hD, hst⟩
        refine ⟨_, _, hL, hq.1 (by simp [hst]), ?_, by show (lkp g L.f_inputs).isSome = true; rw [k1]; rfl⟩
        refine ⟨hstay.j1, hstay.j2, fun x => ?_, hstay.j4, ?_, hstay.j6⟩
        · show (lkp x (upd s true _)).isSome ↔ _
          rw [lkp_upd, ← A.j3 x]
          by_cases hx : x = s
          · subst hx; simp [ho]
          · rw [if_neg hx]
        · show (upd s true _).length + _ = _
          rw [len_upd, if_pos ho]
          exact A.j5
      · have ho : ¬ (lkp s L.f_others).isSome := by
          rw [A.j3 s]
          rintro ⟨k, l, h, hx⟩
          have h4 := (A.j4 k l h).2 s (List.mem_of_mem_tail hx)
          rw [hs] at h4
          obtain rfl := Option.some.inj h4
          rw [hD] at h
          obtain rfl := Option.some.inj h
          exact hst hx
        refine ⟨_, _, hL, hq.2 (by simp [hst, Ne.symm hsa]), ?_, by show (lkp g L.f_inputs).isSome = true; rw [k1]; rfl⟩
        refine ⟨fun k => ?_, ?_, fun x => ?_, fun k l h => ?_, ?_, ?_, fun k l h => ?_⟩
        · show lkp k L.f_inputs = (lkp k (upd g _ _)).map _
          rw [lkp_upd, A.j1 k]
          by_cases hk : k = g
          · rw [if_pos hk, hk, hD]; rfl
          · rw [if_neg hk]
        · show L.f_inputs.length = (upd g _ _).length
          rw [len_upd, hD, A.j2]
          rfl
        · show (lkp x (upd s true _)).isSome ↔ ∃ k l, lkp k (upd g _ _) = some l ∧ _
          rw [lkp_upd]
          by_cases hx : x = s
          · rw [if_pos hx]
            refine ⟨fun _ => ⟨g, (a :: t) ++ [s], by rw [lkp_upd, if_pos rfl]; rfl, by rw [hx]; simp⟩, fun _ => rfl⟩
          · rw [if_neg hx, A.j3 x]
            constructor
            · rintro ⟨k, l, h, hxl⟩
              by_cases hk : k = g
              · subst hk
                rw [hD] at h
                obtain rfl := Option.some.inj h
                exact ⟨k, (a :: t) ++ [s], by rw [lkp_upd, if_pos rfl]; rfl, by simp at hxl ⊢; exact .inl hxl⟩
              · exact ⟨k, l, by rw [lkp_upd, if_neg hk]; exact h, hxl⟩
            · rintro ⟨k, l, h, hxl⟩
              rw [lkp_upd] at h
              by_cases hk : k = g
              · rw [if_pos hk] at h
                have : l = (a :: t) ++ [s] := by simpa using h.symm
                subst this
                refine ⟨g, a :: t, hD, ?_⟩
                simp at hxl
                rcases hxl with h | h
                · exact h
                · exact absurd h hx
              · rw [if_neg hk] at h
                exact ⟨k, l, h, hxl⟩
        · have h : lkp k (upd g _ _) = some l := h
          rw [lkp_upd] at h
          by_cases hk : k = g
          · rw [if_pos hk] at h
            have : l = (a :: t) ++ [s] := by simpa using h.symm
            subst this
            refine ⟨by simp, fun x hx => ?_⟩
            rw [List.mem_append] at hx
            rcases hx with hx | hx
            · rw [hk]; exact hl0.2 x hx
            · rw [List.mem_singleton.1 hx, hk]; exact hs
          · rw [if_neg hk] at h
            exact A.j4 k l h
        · show (upd s true _).length + (upd g _ _).length = (Q.f_Inputs ++ [s]).length
          have := A.j5
          rw [len_upd, len_upd, hD, if_neg ho]
          simp
          omega
        · have := A.j6.1
          show (Q.f_Inputs ++ [s]).length ≤ n + 1
          simp; omega
        · have h : lkp k (upd g _ _) = some l := h
          rw [lkp_upd] at h
          by_cases hk : k = g
          · rw [if_pos hk] at h
            have : l = (a :: t) ++ [s] := by simpa using h.symm
            subst this
            have := A.j6.2 g _ hD
            simp at this ⊢; omega
          · rw [if_neg hk] at h
            have := A.j6.2 k l h
            omega
end

section
set_option linter.unusedVariables false

def Noted (Q : O_RLog) (x : List UInt8) : Prop := ∃ g l, sha_Sum [x] = some g ∧ lkp g Q.f_Digests = some l ∧ x ∈ l
theorem note_ref {L : O_Log} {Q : O_RLog} {n : Nat} (A : Alike L Q n) (hn : n < 60000) {g s : List UInt8} :
    (s ∈ (lkp g Q.f_Digests).getD [] → ref04_Log_Note (some Q) g s = some (some Q)) ∧ (s ∉ (lkp g Q.f_Digests).getD [] → ref04_Log_Note (some Q) g s = some (some ⟨Q.f_Inputs ++ [s], upd g (((lkp g Q.f_Digests).getD []) ++ [s]) Q.f_Digests⟩)) := by
  have hlen : ((lkp g Q.f_Digests).getD []).length ≤ n := by
    cases h : lkp g Q.f_Digests with
    | none => simp
    | some l => simpa using A.j6.2 g l h
  obtain ⟨c, h1, h2⟩ := seek (g := g) (s := s) (Q := Q) (by omega)
  have hi := A.j6.1
  refine ⟨fun h => ?_, fun h => ?_⟩
  · rcases h2 with ⟨_, rfl⟩ | ⟨h', _⟩
    · unfold ref04_Log_Note ref04_Log_Note.s
      exact bind_of h1 rfl
    · exact absurd h h'
  · rcases h2 with ⟨h', _⟩ | ⟨_, i, rfl⟩
    · exact absurd h' h
    · unfold ref04_Log_Note ref04_Log_Note.s
      refine bind_of h1 ?_
      show (if _ then _ else _) = _
      rw [if_pos (by simp only [List.length_cons, List.length_nil, mxl]; omega), if_pos (by simp only [List.length_cons, List.length_nil, mxl]; omega), upd_ens]
theorem note_noted {L : O_Log} {Q Q' : O_RLog} {n : Nat} (A : Alike L Q n) (hn : n < 60000) {g s : List UInt8} (hs : sha_Sum [s] = some g) (h : ref04_Log_Note (some Q) g s = some (some Q')) : Noted Q' s ∧ ∀ y, Noted Q y → Noted Q' y := by
  obtain ⟨h1, h2⟩ := note_ref A hn (g := g) (s := s)
  by_cases hm : s ∈ (lkp g Q.f_Digests).getD []
  · have := (h1 hm).symm.trans h
    obtain rfl := Option.some.inj (Option.some.inj this)
    refine ⟨?_, fun y hy => hy⟩
    cases hD : lkp g Q.f_Digests with
    | none => rw [hD] at hm; simp at hm
    | some l => rw [hD] at hm; exact ⟨g, l, hs, hD, hm⟩
  · have := (h2 hm).symm.trans h
    obtain rfl := Option.some.inj (Option.some.inj this)
    refine ⟨⟨g, _, hs, by show lkp g (upd g _ _) = _; rw [lkp_upd, if_pos rfl], by simp⟩, fun y ⟨k, l, e1, e2, e3⟩ => ?_⟩
    by_cases hk : k = g
    · subst hk
      exact ⟨k, _, e1, by show lkp k (upd k _ _) = _; rw [lkp_upd, if_pos rfl], by rw [e2]; simp [e3]⟩
    · exact ⟨k, l, e1, by show lkp k (upd g _ _) = _; rw [lkp_upd, if_neg hk]; exact e2, e3⟩
theorem clash_noted {L : O_Log} {Q : O_RLog} {n : Nat} (A : Alike L Q n) (hn : n < 60000) (hc : ref04_Log_Clash (some Q) = some false) {x y : List UInt8} (hx : Noted Q x) (hy : Noted Q y) (h : sha_Sum [x] = sha_Sum [y]) : x = y := by
  obtain ⟨g, l, x1, x2, x3⟩ := hx
  obtain ⟨g', l', y1, y2, y3⟩ := hy
  rw [x1, y1] at h
  obtain rfl := Option.some.inj h
  rw [x2] at y2
  obtain rfl := Option.some.inj y2
  have h0 : L.f_others.length = 0 := by
    have h2 : ref04_Log_Clash.s Q = some false := hc
    have h5 := A.j5
    have h6 := A.j6.1
    unfold ref04_Log_Clash.s at h2
    rw [if_pos (by simp only [mxl]; omega)] at h2
    have h3 := Option.some.inj h2
    have h4 : ¬ ((Q.f_Digests.length : Int) < (Q.f_Inputs.length : Int)) := by
      intro hlt
      simp [hlt] at h3
      try omega
    omega
  have hno : ∀ z, z ∉ l.tail := fun z hz => by
    have := (A.j3 z).2 ⟨g, l, x2, hz⟩
    rw [List.eq_nil_of_length_eq_zero h0] at this
    simp [lkp] at this
  cases l with
  | nil => cases x3
  | cons a t =>
    have e1 : x = a := by
      rcases List.mem_cons.1 x3 with e | e
      · exact e
      · exact absurd e (hno x)
    have e2 : y = a := by
      rcases List.mem_cons.1 y3 with e | e
      · exact e
      · exact absurd e (hno y)
    rw [e1, e2]
end

section
set_option linter.unusedVariables false

theorem Small.R {ps : List (List UInt8)} (h : Small ps) (d : Int) : ref01_Sum (inp d ps) = some (Go.Proofs.YtnjkofmmpfehcaaDoorR.H (inp d ps)) := by
  obtain ⟨x, h1, h2, _⟩ := sum_eq (inp d ps) (by have := h.enc; simp [inp, mxl]; omega)
  rw [(h.H d).1] at h1
  rw [h2, h1]
theorem rdig_eq {x : List UInt8} (h : x.length = 32) : ref03_Bytes x = some x := dig_eq h
end

section
set_option linter.unusedVariables false

end

section
set_option linter.unusedVariables false

def RefOk (Q : O_RLog) (n : Nat) : Prop := ∃ L, Alike L Q n
theorem refNew : RefOk ⟨[], []⟩ 0 := ⟨⟨[], []⟩, fun _ => rfl, rfl, fun x => by simp [lkp], fun k l h => by simp [lkp] at h, rfl, by simp, fun k l h => by simp [lkp] at h⟩
theorem rOf {Q : O_RLog} {n : Nat} (A : RefOk Q n) (hn : n < 60000) (d : Int) {ps : List (List UInt8)} (h : Small ps) :
    ∃ Q', ref04_Log_Of (some Q) d ps = some (H (inp d ps), some Q') ∧ RefOk Q' (n + 1) ∧ Noted Q' (inp d ps) ∧ ∀ y, Noted Q y → Noted Q' y := by
  obtain ⟨L, A⟩ := A
  have he := h.enc
  obtain ⟨L', Q', n1, n2, A', _⟩ := note_alike A hn (h.H d).1
  obtain ⟨h3, h4⟩ := note_noted A hn (h.H d).1 n2
  refine ⟨Q', ?_, ⟨L', A'⟩, h3, h4⟩
  unfold ref04_Log_Of
  exact bind_of (ref_input d ps (fun p hp => by have := h.1 p hp; omega) (by omega) (by have := h.2; omega)) (bind_of (h.R d) (bind_of n2 rfl))
/-- What grows with each note. -/
structure Grow (Q : O_RLog) (n : Nat) (Q' : O_RLog) (n' : Nat) : Prop where
  ok : RefOk Q' n'
  old : ∀ y, Noted Q y → Noted Q' y
end

section
set_option linter.unusedVariables false

theorem Grow.trans {Q Q' Q'' : O_RLog} {n n' n'' : Nat} (h : Grow Q n Q' n') (k : Grow Q' n' Q'' n'') : Grow Q n Q'' n'' := ⟨k.ok, fun y hy => k.old y (h.old y hy)⟩
/-- The inputs of a key's first k publics are noted. -/
def NotedW (Q : O_RLog) (seed : List UInt8) (idx : Int) (k : Nat) : Prop := ∀ j, j < k → Noted Q (inp 1 (secP seed idx ((j / 2 : Nat) : Int) ((j % 2 : Nat) : Int))) ∧ Noted Q (inp 2 [sec seed idx ((j / 2 : Nat) : Int) ((j % 2 : Nat) : Int)])
theorem NotedW.mono {Q Q' : O_RLog} {seed : List UInt8} {idx : Int} {k : Nat} (h : NotedW Q seed idx k) (hg : ∀ y, Noted Q y → Noted Q' y) : NotedW Q' seed idx k := fun j hj => ⟨hg _ (h j hj).1, hg _ (h j hj).2⟩
end
end Go.Proofs.YtnjkofmmpfehcaaDoorR
