/- Plain law of DigestJoins: a log that another one was joined to knows what was noted in both, whatever the order. -/
import Derived.Test.YtbhehllkimedaaaDoorP5
import Derived.Test.YtbhehllkimedaaaDoorP2b
namespace Go.Proofs.YtbhehllkimedaaaDoor
open Go Go.RowKit Go.Proofs
set_option linter.unusedVariables false
set_option linter.unusedSimpArgs false

section assoc
variable {K V : Type} [DecidableEq K]
theorem lkp_mem {k : K} {v : V} : ∀ {m : List (K × V)}, lkp k m = some v → (k, v) ∈ m
  | [], h => by cases h
  | (a, b) :: m, h => by
    by_cases e : k = a
    · subst e; simp [lkp] at h; subst h; simp
    · simp only [lkp, if_neg e] at h
      exact List.mem_cons_of_mem _ (lkp_mem h)
theorem mem_lkp {k : K} {v : V} : ∀ {m : List (K × V)}, (m.map (·.1)).Nodup → (k, v) ∈ m → lkp k m = some v
  | [], _, h => by cases h
  | (a, b) :: m, hn, h => by
    simp only [List.map_cons, List.nodup_cons] at hn
    by_cases e : k = a
    · subst e
      rcases List.mem_cons.1 h with h | h
      · obtain ⟨_, rfl⟩ := Prod.mk.inj h; simp [lkp]
      · exact absurd (List.mem_map.2 ⟨_, h, rfl⟩) hn.1
    · rcases List.mem_cons.1 h with h | h
      · exact absurd (Prod.mk.inj h).1 e
      · simp only [lkp, if_neg e]; exact mem_lkp hn.2 h
theorem lkp_some_key {k : K} : ∀ {m : List (K × V)}, (lkp k m).isSome ↔ k ∈ m.map (·.1)
  | [] => by simp [lkp]
  | (a, b) :: m => by
    by_cases e : k = a
    · subst e; simp [lkp]
    · simp only [lkp, if_neg e, List.map_cons, List.mem_cons, e, false_or]
      exact lkp_some_key
theorem upd_new {k : K} {v : V} : ∀ {m : List (K × V)}, lkp k m = none → upd k v m = m ++ [(k, v)]
  | [], _ => rfl
  | (a, b) :: m, h => by
    by_cases e : k = a
    · subst e; simp [lkp] at h
    · simp only [lkp, if_neg e] at h
      simp only [upd, if_neg e, List.cons_append, upd_new h]
theorem upd_same {k : K} {v : V} : ∀ {m : List (K × V)}, lkp k m = some v → upd k v m = m
  | [], h => by cases h
  | (a, b) :: m, h => by
    by_cases e : k = a
    · subst e; simp [lkp] at h; subst h; simp [upd]
    · simp only [lkp, if_neg e] at h
      simp only [upd, if_neg e, upd_same h]
theorem upd_key {k : K} {v : V} : ∀ {m : List (K × V)}, (lkp k m).isSome → (upd k v m).map (·.1) = m.map (·.1)
  | [], h => by cases h
  | (a, b) :: m, h => by
    by_cases e : k = a
    · subst e; simp [upd]
    · simp only [lkp, if_neg e] at h
      simp only [upd, if_neg e, List.map_cons, upd_key h]
end assoc
/-- What a log knows. -/
def known (L : O_Log) : List (List UInt8) := L.f_inputs.map (·.2) ++ L.f_others.map (·.1)
structure Good (L : O_Log) : Prop where
  k1 : (known L).Nodup
  k2 : ∀ x ∈ L.f_inputs, sha_Sum [x.2] = some x.1
  k3 : (L.f_inputs.map (·.1)).Nodup
  k4 : ∀ x ∈ L.f_others, ∃ g, sha_Sum [x.1] = some g ∧ (lkp g L.f_inputs).isSome
theorem good_new : Good ⟨[], []⟩ := ⟨by simp [known], by simp, by simp, by simp⟩
theorem good_note {L : O_Log} (A : Good L) {g s : List UInt8} (hs : sha_Sum [s] = some g) : ∃ L', digest_Log_note (some L) g s = some (some L') ∧ Good L' ∧ (∀ y, y ∈ known L' ↔ y ∈ known L ∨ y = s) ∧ (known L').length ≤ (known L).length + 1 := by
  cases hk : lkp g L.f_inputs with
  | none =>
    have hL : digest_Log_note (some L) g s = some (some ⟨L.f_inputs ++ [(g, s)], L.f_others⟩) := by
      show digest_Log_note.s L g s = _
      unfold digest_Log_note.s
      rw [hk, ← upd_new (v := s) hk]
      rfl
    have hnk : s ∉ known L := by
      intro h
      rcases List.mem_append.1 h with h | h
      · obtain ⟨x, hx, rfl⟩ := List.mem_map.1 h
        have := A.k2 x hx
        rw [hs] at this
        have h2 := mem_lkp A.k3 (show (x.1, x.2) ∈ L.f_inputs from hx)
        rw [← Option.some.inj this, hk] at h2
        cases h2
      · obtain ⟨x, hx, rfl⟩ := List.mem_map.1 h
        obtain ⟨g', h1, h2⟩ := A.k4 x hx
        rw [hs] at h1
        rw [← Option.some.inj h1, hk] at h2
        cases h2
    refine ⟨_, hL, ⟨?_, ?_, ?_, ?_⟩, fun y => ?_, ?_⟩
    · show (((L.f_inputs ++ [(g, s)]).map (·.2)) ++ L.f_others.map (·.1)).Nodup
      have : (((L.f_inputs ++ [(g, s)]).map (·.2)) ++ L.f_others.map (·.1)).Perm (s :: known L) := by
        simp only [List.map_append, List.map_cons, List.map_nil, List.append_assoc, List.singleton_append]
        exact List.perm_middle
      exact this.nodup_iff.2 (List.nodup_cons.2 ⟨hnk, A.k1⟩)
    · intro x hx
      rcases List.mem_append.1 hx with h | h
      · exact A.k2 x h
      · rw [List.mem_singleton.1 h]; exact hs
    · show ((L.f_inputs ++ [(g, s)]).map (·.1)).Nodup
      rw [← upd_new (v := s) hk]
      exact upd_keys g s L.f_inputs A.k3
    · intro x hx
      obtain ⟨g', h1, h2⟩ := A.k4 x hx
      refine ⟨g', h1, ?_⟩
      show (lkp g' (L.f_inputs ++ [(g, s)])).isSome
      rw [← upd_new (v := s) hk, lkp_upd]
      split
      · rfl
      · exact h2
    · simp only [known, List.map_append, List.map_cons, List.map_nil, List.mem_append, List.mem_singleton, List.mem_cons, List.not_mem_nil, or_false]
      constructor
      · rintro ((h | h) | h)
        · exact .inl (.inl h)
        · exact .inr h
        · exact .inl (.inr h)
      · rintro ((h | h) | h)
        · exact .inl (.inl h)
        · exact .inr h
        · exact .inl (.inr h)
    · simp [known]; omega
  | some a =>
    have ha : (g, a) ∈ L.f_inputs := lkp_mem hk
    by_cases hsa : a = s
    · subst hsa
      have hL : digest_Log_note (some L) g a = some (some L) := by
        show digest_Log_note.s L g a = _
        unfold digest_Log_note.s
        rw [hk]
        simp [digest_Log_note.j1, digest_Log_note.j2, upd_same hk]
      have hin : a ∈ known L := List.mem_append.2 (.inl (List.mem_map.2 ⟨_, ha, rfl⟩))
      exact ⟨L, hL, A, fun y => ⟨.inl, fun h => h.elim id (fun e => e ▸ hin)⟩, by omega⟩
    · have hL : digest_Log_note (some L) g s = some (some ⟨L.f_inputs, upd s true L.f_others⟩) := by
        show digest_Log_note.s L g s = _
        unfold digest_Log_note.s
        rw [hk]
        simp [digest_Log_note.j1, digest_Log_note.j2, hsa]
      by_cases ho : (lkp s L.f_others).isSome
      · have hkey := upd_key (v := true) ho
        have hkn : known ⟨L.f_inputs, upd s true L.f_others⟩ = known L := by simp only [known, hkey]
        have hin : s ∈ known L := List.mem_append.2 (.inr (lkp_some_key.1 ho))
        refine ⟨_, hL, ⟨by rw [hkn]; exact A.k1, A.k2, A.k3, fun x hx => ?_⟩, fun y => ?_, by rw [hkn]; omega⟩
        · have : x.1 ∈ (upd s true L.f_others).map (·.1) := List.mem_map.2 ⟨x, hx, rfl⟩
          rw [hkey] at this
          obtain ⟨z, hz, hz2⟩ := List.mem_map.1 this
          obtain ⟨g', h1, h2⟩ := A.k4 z hz
          rw [hz2] at h1
          exact ⟨g', h1, h2⟩
        · rw [hkn]; exact ⟨.inl, fun h => h.elim id (fun e => e ▸ hin)⟩
      · have hnone : lkp s L.f_others = none := by
          cases h : lkp s L.f_others with
          | none => rfl
          | some _ => rw [h] at ho; exact absurd rfl ho
        have hup := upd_new (v := true) hnone
        have hnk : s ∉ known L := by
          intro h
          rcases List.mem_append.1 h with h | h
          · obtain ⟨x, hx, rfl⟩ := List.mem_map.1 h
            have := A.k2 x hx
            rw [hs] at this
            have h2 := mem_lkp A.k3 (show (x.1, x.2) ∈ L.f_inputs from hx)
            rw [← Option.some.inj this, hk] at h2
            exact hsa (Option.some.inj h2)
          · exact ho (lkp_some_key.2 h)
        rw [hup] at hL
        refine ⟨_, hL, ⟨?_, A.k2, A.k3, fun x hx => ?_⟩, fun y => ?_, ?_⟩
        · show (L.f_inputs.map (·.2) ++ (L.f_others ++ [(s, true)]).map (·.1)).Nodup
          have : (L.f_inputs.map (·.2) ++ (L.f_others ++ [(s, true)]).map (·.1)).Perm (s :: known L) := by
            simp only [List.map_append, List.map_cons, List.map_nil, ← List.append_assoc]
            exact List.perm_append_singleton _ _
          exact this.nodup_iff.2 (List.nodup_cons.2 ⟨hnk, A.k1⟩)
        · rcases List.mem_append.1 hx with h | h
          · exact A.k4 x h
          · rw [List.mem_singleton.1 h]; exact ⟨g, hs, by show (lkp g L.f_inputs).isSome = true; rw [hk]; rfl⟩
        · simp only [known, List.map_append, List.map_cons, List.map_nil, List.mem_append, List.mem_singleton, List.mem_cons, List.not_mem_nil, or_false]
          constructor
          · rintro (h | h | h)
            · exact .inl (.inl h)
            · exact .inl (.inr h)
            · exact .inr h
          · rintro ((h | h) | h)
            · exact .inl h
            · exact .inr (.inl h)
            · exact .inr (.inr h)
        · simp [known]; omega
theorem good_clash {L : O_Log} (A : Good L) : 0 < L.f_others.length ↔ ∃ x ∈ known L, ∃ y ∈ known L, x ≠ y ∧ sha_Sum [x] = sha_Sum [y] := by
  constructor
  · intro h
    obtain ⟨o, ho⟩ := List.exists_mem_of_length_pos h
    obtain ⟨g, h1, h2⟩ := A.k4 o ho
    obtain ⟨y, hy⟩ := Option.isSome_iff_exists.1 h2
    have hym := lkp_mem hy
    refine ⟨o.1, List.mem_append.2 (.inr (List.mem_map.2 ⟨o, ho, rfl⟩)), y, List.mem_append.2 (.inl (List.mem_map.2 ⟨_, hym, rfl⟩)), ?_, ?_⟩
    · intro e
      have hd := (List.nodup_append.1 A.k1).2.2 y (List.mem_map.2 ⟨_, hym, rfl⟩) o.1 (List.mem_map.2 ⟨o, ho, rfl⟩)
      exact hd e.symm
    · rw [h1, A.k2 _ hym]
  · rintro ⟨x, hx, y, hy, hne, h⟩
    rcases Nat.eq_zero_or_pos L.f_others.length with h0 | h0
    · exfalso
      have ho := List.eq_nil_of_length_eq_zero h0
      simp only [known, ho, List.map_nil, List.append_nil] at hx hy
      obtain ⟨a, ha, rfl⟩ := List.mem_map.1 hx
      obtain ⟨b, hb, rfl⟩ := List.mem_map.1 hy
      rw [A.k2 a ha, A.k2 b hb] at h
      have e := Option.some.inj h
      have h1 := mem_lkp A.k3 (show (a.1, a.2) ∈ L.f_inputs from ha)
      have h2 := mem_lkp A.k3 (show (b.1, b.2) ∈ L.f_inputs from hb)
      rw [e, h2] at h1
      exact hne (Option.some.inj h1).symm
    · exact h0
theorem nodup_len {α : Type} [DecidableEq α] : ∀ {l m : List α}, l.Nodup → (∀ x ∈ l, x ∈ m) → l.length ≤ m.length
  | [], m, _, _ => by simp
  | a :: l, m, hn, h => by
    simp only [List.nodup_cons] at hn
    obtain ⟨m1, m2, hm⟩ := List.append_of_mem (h a (by simp))
    have := nodup_len (l := l) (m := m1 ++ m2) hn.2 fun x hx => by
      have h1 := h x (by simp [hx])
      rw [hm] at h1
      rcases List.mem_append.1 h1 with q | q
      · exact List.mem_append.2 (.inl q)
      · rcases List.mem_cons.1 q with q | q
        · subst q; exact absurd hx hn.1
        · exact List.mem_append.2 (.inr q)
    rw [hm]
    simp only [List.length_append, List.length_cons] at this ⊢
    omega
theorem same_known {L M : O_Log} (A : Good L) (B : Good M) (h : ∀ y, y ∈ known L ↔ y ∈ known M) : L.f_inputs.length + L.f_others.length = M.f_inputs.length + M.f_others.length ∧ (0 < L.f_others.length ↔ 0 < M.f_others.length) := by
  have h1 := nodup_len A.k1 fun x hx => (h x).1 hx
  have h2 := nodup_len B.k1 fun x hx => (h x).2 hx
  simp only [known, List.length_append, List.length_map] at h1 h2
  refine ⟨by omega, ?_⟩
  rw [good_clash A, good_clash B]
  constructor
  · rintro ⟨x, hx, y, hy, q⟩; exact ⟨x, (h x).1 hx, y, (h y).1 hy, q⟩
  · rintro ⟨x, hx, y, hy, q⟩; exact ⟨x, (h x).2 hx, y, (h y).2 hy, q⟩
theorem fold_inputs : ∀ (d : List (List UInt8 × List UInt8)) {L : O_Log}, Good L → (∀ x ∈ d, sha_Sum [x.2] = some x.1) → ∃ L', foldO (fun L x => digest_Log_note L x.1 x.2) d (some L) = some (some L') ∧ Good L' ∧ ∀ y, y ∈ known L' ↔ y ∈ known L ∨ y ∈ d.map (·.2)
  | [], L, A, _ => ⟨L, rfl, A, fun y => by simp⟩
  | x :: d, L, A, h => by
    obtain ⟨L1, e1, A1, k1, _⟩ := good_note A (h x (by simp))
    obtain ⟨L2, e2, A2, k2⟩ := fold_inputs d A1 fun z hz => h z (by simp [hz])
    refine ⟨L2, ?_, A2, fun y => ?_⟩
    · show (digest_Log_note (some L) x.1 x.2).bind _ = _
      rw [e1]; exact e2
    · rw [k2 y, k1 y]
      simp only [List.map_cons, List.mem_cons]
      constructor
      · rintro ((h | h) | h)
        · exact .inl h
        · exact .inr (.inl h)
        · exact .inr (.inr h)
      · rintro (h | h | h)
        · exact .inl (.inl h)
        · exact .inl (.inr h)
        · exact .inr h
theorem fold_others : ∀ (d : List (List UInt8 × Bool)) {L : O_Log}, Good L → (∀ x ∈ d, ∃ g, sha_Sum [x.1] = some g) → ∃ L', foldO (fun L x => (sha_Sum [x.1]).bind fun g => digest_Log_note L g x.1) d (some L) = some (some L') ∧ Good L' ∧ ∀ y, y ∈ known L' ↔ y ∈ known L ∨ y ∈ d.map (·.1)
  | [], L, A, _ => ⟨L, rfl, A, fun y => by simp⟩
  | x :: d, L, A, h => by
    obtain ⟨g, hg⟩ := h x (by simp)
    obtain ⟨L1, e1, A1, k1, _⟩ := good_note A hg
    obtain ⟨L2, e2, A2, k2⟩ := fold_others d A1 fun z hz => h z (by simp [hz])
    refine ⟨L2, ?_, A2, fun y => ?_⟩
    · show ((sha_Sum [x.1]).bind fun g => digest_Log_note (some L) g x.1).bind _ = _
      rw [hg]
      show (digest_Log_note (some L) g x.1).bind _ = _
      rw [e1]; exact e2
    · rw [k2 y, k1 y]
      simp only [List.map_cons, List.mem_cons]
      constructor
      · rintro ((h | h) | h)
        · exact .inl h
        · exact .inr (.inl h)
        · exact .inr (.inr h)
      · rintro (h | h | h)
        · exact .inl (.inl h)
        · exact .inl (.inr h)
        · exact .inr h
theorem fold_none1 : ∀ (d : List (List UInt8 × List UInt8)), foldO (fun L x => digest_Log_note L x.1 x.2) d none = some none
  | [] => rfl
  | x :: d => fold_none1 d
theorem fold_none2 : ∀ (d : List (List UInt8 × Bool)), (∀ x ∈ d, ∃ g, sha_Sum [x.1] = some g) → foldO (fun L x => (sha_Sum [x.1]).bind fun g => digest_Log_note L g x.1) d none = some none
  | [], _ => rfl
  | x :: d, h => by
    obtain ⟨g, hg⟩ := h x (by simp)
    show ((sha_Sum [x.1]).bind fun g => digest_Log_note none g x.1).bind _ = _
    rw [hg]
    exact fold_none2 d fun z hz => h z (by simp [hz])
theorem joinAll_of {γ : Type} {L M : Option O_Log} {k : Option O_Log → Option γ} {r : γ} (h : JoinAll L M (fun l => k l = some r)) : joinAll L M k = some r := by
  refine joinAll_intro h fun r' h' => ?_
  cases M with
  | none =>
    have h1 : k L = some r := h
    have h2 : k L = some r' := h'
    rw [h1] at h2
    exact (Option.some.inj h2).symm
  | some m =>
    obtain ⟨l1, e1, q⟩ := h m.f_inputs (List.Perm.refl _)
    obtain ⟨l2, e2, q2⟩ := q m.f_others (List.Perm.refl _)
    obtain ⟨l1', e1', q'⟩ := h' m.f_inputs (List.Perm.refl _)
    rw [e1] at e1'; obtain rfl := Option.some.inj e1'
    obtain ⟨l2', e2', q2'⟩ := q' m.f_others (List.Perm.refl _)
    rw [e2] at e2'; obtain rfl := Option.some.inj e2'
    rw [q2] at q2'
    exact (Option.some.inj q2').symm
/-- What a log comes to that another one is joined to. -/
theorem join_some {γ : Type} {L M : O_Log} (A : Good L) (B : Good M) {k : Option O_Log → Option γ} {r : γ} (h : ∀ L', Good L' → (∀ y, y ∈ known L' ↔ y ∈ known L ∨ y ∈ known M) → k (some L') = some r) : joinAll (some L) (some M) k = some r := by
  refine joinAll_of fun d1 h1 => ?_
  obtain ⟨L1, e1, A1, k1⟩ := fold_inputs d1 A fun x hx => B.k2 x (h1.subset hx)
  refine ⟨_, e1, fun d2 h2 => ?_⟩
  obtain ⟨L2, e2, A2, k2⟩ := fold_others d2 A1 fun x hx => by obtain ⟨g, hg, _⟩ := B.k4 x (h2.subset hx); exact ⟨g, hg⟩
  refine ⟨_, e2, h L2 A2 fun y => ?_⟩
  rw [k2 y, k1 y]
  have p1 : y ∈ d1.map (·.2) ↔ y ∈ M.f_inputs.map (·.2) := (h1.map _).mem_iff
  have p2 : y ∈ d2.map (·.1) ↔ y ∈ M.f_others.map (·.1) := (h2.map _).mem_iff
  rw [p1, p2, or_assoc]
  simp only [known, List.mem_append]
theorem join_nil {γ : Type} {L : Option O_Log} {k : Option O_Log → Option γ} : ∀ {r : γ}, k L = some r → joinAll L none k = some r := fun h => joinAll_of h
theorem join_none {γ : Type} {M : O_Log} (B : Good M) {k : Option O_Log → Option γ} {r : γ} (h : k none = some r) : joinAll none (some M) k = some r :=
  joinAll_of fun d1 h1 => ⟨_, fold_none1 d1, fun d2 h2 => ⟨_, fold_none2 d2 fun x hx => by obtain ⟨g, hg, _⟩ := B.k4 x (h2.subset hx); exact ⟨g, hg⟩, h⟩⟩
theorem ask_step {L : O_Log} {Q : O_RLog} {n : Nat} (A : Alike L Q n) (G : Good L) (hk : n < 1000) (d : Int) {ps : List (List UInt8)} (hp : ∀ p ∈ ps, p.length < 4294967296) (hl : (enc ps).length + 1 ≤ 140737488355328) (hn : ps.length < 4294967296) :
    ∃ g L' Q', digest_Log_Of (some L) d ps = some (g, some L') ∧ ref04_Log_Of (some Q) d ps = some (g, some Q') ∧ Alike L' Q' (n + 1) ∧ Good L' ∧ ∀ y, y ∈ known L' ↔ y ∈ known L ∨ y = u8of d :: enc ps := by
  obtain ⟨g, h1, h2, h3⟩ := sum_eq (u8of d :: enc ps) (by simp only [List.length_cons, mxl]; omega)
  obtain ⟨L', Q', n1, n2, A', _⟩ := note_alike A hk h1
  obtain ⟨L2, n3, G', hkn, _⟩ := good_note G h1
  rw [n1] at n3
  obtain rfl := Option.some.inj (Option.some.inj n3)
  refine ⟨g, L', Q', ?_, ?_, A', G', hkn⟩
  · unfold digest_Log_Of
    exact bind_of (input_eq d ps hp hl hn) (bind_of h1 (bind_of n1 rfl))
  · unfold ref04_Log_Of
    exact bind_of (ref_input d ps hp hl hn) (bind_of h2 (bind_of n2 rfl))
theorem own_step {L : O_Log} (G : Good L) (d : Int) {ps : List (List UInt8)} (hp : ∀ p ∈ ps, p.length < 4294967296) (hl : (enc ps).length + 1 ≤ 140737488355328) (hn : ps.length < 4294967296) :
    ∃ g L', digest_Log_Of (some L) d ps = some (g, some L') ∧ Good L' ∧ (∀ y, y ∈ known L' ↔ y ∈ known L ∨ y = u8of d :: enc ps) ∧ (known L').length ≤ (known L).length + 1 := by
  obtain ⟨g, h1, h2, h3⟩ := sum_eq (u8of d :: enc ps) (by simp only [List.length_cons, mxl]; omega)
  obtain ⟨L', n1, G', hkn, hlen⟩ := good_note G h1
  refine ⟨g, L', ?_, G', hkn, hlen⟩
  unfold digest_Log_Of
  exact bind_of (input_eq d ps hp hl hn) (bind_of h1 (bind_of n1 rfl))
theorem count_known {L : O_Log} (h : (known L).length < 1000) : digest_Log_Count (some L) = some ((known L).length : Int) := by
  show digest_Log_Count.s L = _
  simp only [known, List.length_append, List.length_map] at h ⊢
  unfold digest_Log_Count.s
  rw [if_pos (by simp only [mxl]; omega), if_pos (by simp only [mxl]; omega), w64 (by omega)]
  congr 1
theorem bounds {x : S_law04_Ask} (h : x.f_Parts.length ≤ 20 ∧ ∀ p ∈ x.f_Parts, p.length ≤ 1000) : (∀ p ∈ x.f_Parts, p.length < 4294967296) ∧ (enc x.f_Parts).length + 1 ≤ 140737488355328 ∧ x.f_Parts.length < 4294967296 := by
  have := light_bound h
  exact ⟨fun p hp => by have := h.2 p hp; omega, by omega, by omega⟩
theorem first_loop (a : List S_law04_Ask) (ha : LightP a) : ∃ (i : Int) (L : O_Log) (Q : O_RLog), loopN (fun s : Int × (Option O_Log) × (Option O_RLog) => law04_DigestJoins.b1 a s.1 s.2.1 s.2.2) (((a.length : Int) - 0 : Int).toNat + 2) (0, some ⟨[], []⟩, some ⟨[], []⟩) = some (.next (i, some L, some Q)) ∧ Alike L Q a.length ∧ Good L := by
  obtain ⟨c, h1, h2⟩ := loop_ok (body := fun s : Int × (Option O_Log) × (Option O_RLog) => law04_DigestJoins.b1 a s.1 s.2.1 s.2.2) (fun s => ∃ (i : Nat) (L : O_Log) (Q : O_RLog), i ≤ a.length ∧ s = ((i : Int), some L, some Q) ∧ Alike L Q i ∧ Good L)
    (fun c => match c with | .next s => ∃ (i : Int) (L : O_Log) (Q : O_RLog), s = (i, some L, some Q) ∧ Alike L Q a.length ∧ Good L | .ret _ => False) (fun s => (a.length - s.1).toNat)
    (fun s ⟨i, L, Q, hi, hs, A, G⟩ => by
      subst hs
      by_cases h : i < a.length
      · obtain ⟨b1, b2, b3⟩ := bounds (ha.2 _ (List.getElem_mem h))
        obtain ⟨g, L', Q', e1, e2, A', G', _⟩ := ask_step A G (by have := ha.1; omega) (a[i]).f_Domain b1 b2 b3
        refine .inl ⟨(((i + 1 : Nat) : Int), some L', some Q'), ?_, ⟨i + 1, L', Q', by omega, rfl, A', G'⟩, by simp; omega⟩
        show law04_DigestJoins.b1 a i _ _ = _
        have hg : a.getD (i : Int).toNat default = a[i] := by simp [List.getD, h]
        have := ha.1
        unfold law04_DigestJoins.b1
        rw [if_pos (by simpa using h), if_pos (by omega), hg]
        refine bind_of e1 (bind_of e2 ?_)
        rw [w64 (by omega)]
        rfl
      · have : i = a.length := by omega
        subst this
        refine .inr (.inl ⟨((a.length : Int), some L, some Q), ?_, _, L, Q, rfl, A, G⟩)
        show law04_DigestJoins.b1 a _ _ _ = _
        unfold law04_DigestJoins.b1
        rw [if_neg (by simp)]) (((a.length : Int) - 0 : Int).toNat + 2) (0, some ⟨[], []⟩, some ⟨[], []⟩) ⟨0, ⟨[], []⟩, ⟨[], []⟩, by omega, rfl, ⟨fun _ => rfl, rfl, fun x => by simp [lkp], fun k l h => by simp [lkp] at h, rfl, by simp, fun k l h => by simp [lkp] at h⟩, good_new⟩ (by simp)
  cases c with
  | ret r => exact h2.elim
  | next s =>
    obtain ⟨i, L, Q, rfl, A, G⟩ : ∃ (i : Int) (L : O_Log) (Q : O_RLog), s = (i, some L, some Q) ∧ Alike L Q a.length ∧ Good L := h2
    exact ⟨i, L, Q, h1, A, G⟩
theorem second_loop (a : List S_law04_Ask) (ha : LightP a) {L0 : O_Log} {Q0 : O_RLog} {n : Nat} (hn : n ≤ 40) (A0 : Alike L0 Q0 n) (G0 : Good L0) : ∃ (i : Int) (M : O_Log) (Q : O_RLog) (Gh : O_Log), loopN (fun s : Int × (Option O_Log) × (Option O_RLog) => law04_DigestJoins.b2 a s.1 s.2.1 s.2.2) (((a.length : Int) - 0 : Int).toNat + 2) (0, some ⟨[], []⟩, some Q0) = some (.next (i, some M, some Q)) ∧
    Good M ∧ (known M).length < 100 ∧ Alike Gh Q (n + a.length) ∧ Good Gh ∧ ∀ y, y ∈ known Gh ↔ y ∈ known L0 ∨ y ∈ known M := by
  have h40 := ha.1
  obtain ⟨c, h1, h2⟩ := loop_ok (body := fun s : Int × (Option O_Log) × (Option O_RLog) => law04_DigestJoins.b2 a s.1 s.2.1 s.2.2) (fun s => ∃ (i : Nat) (M : O_Log) (Q : O_RLog) (Gh : O_Log), i ≤ a.length ∧ s = ((i : Int), some M, some Q) ∧ Good M ∧ (known M).length ≤ i ∧ Alike Gh Q (n + i) ∧ Good Gh ∧ ∀ y, y ∈ known Gh ↔ y ∈ known L0 ∨ y ∈ known M)
    (fun c => match c with | .next s => ∃ (i : Int) (M : O_Log) (Q : O_RLog) (Gh : O_Log), s = (i, some M, some Q) ∧ Good M ∧ (known M).length < 100 ∧ Alike Gh Q (n + a.length) ∧ Good Gh ∧ ∀ y, y ∈ known Gh ↔ y ∈ known L0 ∨ y ∈ known M | .ret _ => False) (fun s => (a.length - s.1).toNat)
    (fun s ⟨i, M, Q, Gh, hi, hs, GM, hlen, A, G, hkn⟩ => by
      subst hs
      by_cases h : i < a.length
      · obtain ⟨b1, b2, b3⟩ := bounds (ha.2 _ (List.getElem_mem h))
        obtain ⟨g, Gh', Q', e1, e2, A', G', k1⟩ := ask_step A G (by omega) (a[i]).f_Domain b1 b2 b3
        obtain ⟨g', M', e3, GM', k2, hlen'⟩ := own_step GM (a[i]).f_Domain b1 b2 b3
        refine .inl ⟨(((i + 1 : Nat) : Int), some M', some Q'), ?_, ⟨i + 1, M', Q', Gh', by omega, rfl, GM', by omega, A', G', fun y => ?_⟩, by simp; omega⟩
        · show law04_DigestJoins.b2 a i _ _ = _
          have hg : a.getD (i : Int).toNat default = a[i] := by simp [List.getD, h]
          unfold law04_DigestJoins.b2
          rw [if_pos (by simpa using h), if_pos (by omega), hg]
          refine bind_of e3 (bind_of e2 ?_)
          rw [w64 (by omega)]
          rfl
        · rw [k1 y, k2 y, hkn y, or_assoc]
      · have : i = a.length := by omega
        subst this
        refine .inr (.inl ⟨((a.length : Int), some M, some Q), ?_, _, M, Q, Gh, rfl, GM, by omega, A, G, hkn⟩)
        show law04_DigestJoins.b2 a _ _ _ = _
        unfold law04_DigestJoins.b2
        rw [if_neg (by simp)]) (((a.length : Int) - 0 : Int).toNat + 2) (0, some ⟨[], []⟩, some Q0) ⟨0, ⟨[], []⟩, Q0, L0, by omega, rfl, good_new, by simp [known], A0, G0, fun y => by simp [known]⟩ (by simp)
  cases c with
  | ret r => exact h2.elim
  | next s =>
    obtain ⟨i, M, Q, Gh, rfl, q⟩ : ∃ (i : Int) (M : O_Log) (Q : O_RLog) (Gh : O_Log), s = (i, some M, some Q) ∧ Good M ∧ (known M).length < 100 ∧ Alike Gh Q (n + a.length) ∧ Good Gh ∧ ∀ y, y ∈ known Gh ↔ y ∈ known L0 ∨ y ∈ known M := h2
    exact ⟨i, M, Q, Gh, h1, q⟩
theorem newJ : digest_New = some ⟨[], []⟩ := rfl
theorem newR : ref04_New = some ⟨[], []⟩ := rfl
theorem digestJoins_true (a b : List S_law04_Ask) (ha : a.length ≤ mxl) (hqa : ∀ x ∈ a, x.f_Parts.length ≤ mxl) (hb : b.length ≤ mxl) (hqb : ∀ x ∈ b, x.f_Parts.length ≤ mxl) : law04_DigestJoins a b = some true := by
  have hj : ∀ t, (t = false → LightP a ∧ LightP b) → law04_DigestJoins.j1 a b t = some true := by
    intro t ht
    unfold law04_DigestJoins.j1
    cases t with
    | true => rw [if_pos rfl]; exact bind_of awake_eq rfl
    | false =>
      rw [if_neg (by simp)]
      obtain ⟨la, lb⟩ := ht rfl
      obtain ⟨i1, L, Q, e1, A, G⟩ := first_loop a la
      obtain ⟨i2, M, Q2, Gh, e2, GM, hlen, A2, G2, hkn⟩ := second_loop b lb la.1 A G
      have hl1 := la.1
      have hl2 := lb.1
      refine bind_of newJ ?_
      refine bind_of newJ ?_
      refine bind_of newR ?_
      refine bind_next e1 ?_
      dsimp only
      refine bind_next e2 ?_
      dsimp only
      refine bind_of (count_known (by omega)) ?_
      refine join_some G GM fun L' G' k' => ?_
      refine join_nil ?_
      refine join_none GM ?_
      refine bind_of (x := Q2) rfl ?_
      refine bind_of awake_eq ?_
      rw [if_pos rfl]
      have hsame := same_known G' G2 fun y => by rw [k' y, hkn y]
      have j2 := A2.j2
      have j5 := A2.j5
      have j6 := A2.j6.1
      have hcl : (known L').length = Q2.f_Inputs.length := by simp only [known, List.length_append, List.length_map]; omega
      refine bind_of (count_known (by omega)) ?_
      rw [if_pos (by simp [hcl])]
      have hc1 : digest_Log_Clash (some L') = some (decide (Q2.f_Digests.length < Q2.f_Inputs.length)) := by
        show digest_Log_Clash.s L' = _
        unfold digest_Log_Clash.s
        rw [if_pos (by simp only [mxl]; omega)]
        congr 1
        rw [decide_eq_decide]
        have := hsame.2
        omega
      have hc2 : ref04_Log_Clash (some ⟨Q2.f_Inputs, Q2.f_Digests⟩) = some (decide (Q2.f_Digests.length < Q2.f_Inputs.length)) := by
        show ref04_Log_Clash.s Q2 = _
        unfold ref04_Log_Clash.s
        rw [if_pos (by simp only [mxl]; omega)]
        congr 1
        rw [decide_eq_decide]
        omega
      refine bind_of hc1 ?_
      refine bind_of hc2 ?_
      rw [if_pos (by simp)]
      refine bind_of (count_known (by omega)) ?_
      unfold law04_DigestJoins.j2
      simp
  unfold law04_DigestJoins
  refine bind_of awake_eq ?_
  rw [if_neg (by simp)]
  obtain ⟨t1, h1, h2⟩ := light_eq a ha hqa
  obtain ⟨t2, h3, h4⟩ := light_eq b hb hqb
  have nilL : ∀ {x : List S_law04_Ask}, x = [] ∨ LightP x → LightP x := fun {x} h => by
    rcases h with h | h
    · subst h; exact ⟨by simp, by simp⟩
    · exact h
  refine bind_of h1 ?_
  cases t1 with
  | false => rw [if_pos (by simp)]; exact hj true (fun h => by cases h)
  | true =>
    rw [if_neg (by simp)]
    refine bind_of h3 ?_
    exact hj _ fun h => ⟨nilL (h2 rfl), nilL (h4 (by cases t2 with | true => rfl | false => cases h))⟩
end Go.Proofs.YtbhehllkimedaaaDoor
