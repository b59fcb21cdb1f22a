/- Plain law: the two logs kept alike. -/
import Derived.Test.YtbhehllkimedaaaDoorP4c
import Derived.Test.YtbhehllkimedaaaDoorP2
namespace Go.Proofs.YtbhehllkimedaaaDoor
open Go Go.RowKit Go.Proofs
set_option linter.unusedVariables false

section assoc
variable {K V : Type} [DecidableEq K]
theorem lkp_upd (k k' : K) (v : V) : ∀ m : List (K × V), lkp k (upd k' v m) = if k = k' then some v else lkp k m
  | [] => by simp only [upd, lkp]
  | (a, b) :: m => by
    by_cases h : k' = a
    · subst h
      simp only [upd, lkp, if_true]
      by_cases h2 : k = k'
      · simp [h2]
      · simp [h2]
    · simp only [upd, lkp, if_neg h]
      rw [lkp_upd k k' v m]
      by_cases h2 : k = a
      · subst h2
        simp [Ne.symm h]
      · simp [h2]
theorem len_upd (k : K) (v : V) : ∀ m : List (K × V), (upd k v m).length = if (lkp k m).isSome then m.length else m.length + 1
  | [] => rfl
  | (a, b) :: m => by
    by_cases h : k = a
    · subst h; simp [upd, lkp]
    · simp only [upd, lkp, if_neg h, List.length_cons]
      rw [len_upd k v m]
      split <;> rfl
theorem upd_ens (k : K) (v d : V) (m : List (K × V)) : upd k v (ens k d m) = upd k v m := by
  unfold ens
  by_cases h : (lkp k m).isSome
  · rw [if_pos h]
  · rw [if_neg h]
    induction m with
    | nil => simp [upd]
    | cons x m ih =>
      obtain ⟨a, b⟩ := x
      by_cases h2 : k = a
      · subst h2; simp [lkp] at h
      · simp only [lkp, if_neg h2] at h
        simp only [List.cons_append, upd, if_neg h2, ih h]
end assoc
theorem u8mod (x : Nat) : (u8of (IntKind.wrap .u8 ((x % 256 : Nat) : Int))).toNat = x % 256 := by
  simp only [IntKind.wrap, IntKind.bits, IntKind.signed, u8of]
  simp
  omega
theorem rbig_step (x : Nat) (i : Nat) (w : List UInt8) (hx : x < 18446744073709551616) (hi : i < 4) : ref03_Big.b1 (x : Int) (i : Int) w = some (.cont (((x / 256 : Nat) : Int), (i : Int) - 1, w.set i (u8of (IntKind.wrap .u8 ((x % 256 : Nat) : Int))))) := by
  unfold ref03_Big.b1
  rw [if_pos (by simp), if_pos (by omega)]
  have e1 : (x : Int).tdiv 256 = ((x / 256 : Nat) : Int) := by rw [Int.tdiv_eq_ediv_of_nonneg (by omega)]; simp
  have e2 : (x : Int).tmod 256 = ((x % 256 : Nat) : Int) := by rw [Int.tmod_eq_emod_of_nonneg (by omega)]; simp
  rw [e1, e2]
  simp (disch := omega) only [w64, wu64]
  rfl
theorem rbig_end (x : Int) (w : List UInt8) : ref03_Big.b1 x (-1) w = some (.brk (x, -1, w)) := by
  unfold ref03_Big.b1
  rw [if_neg (by simp)]
theorem loop_cont {R S : Type} {body : S → Option (Flow R S)} (k : Nat) {s s' : S} {r : Option (Ctl R S)} (h1 : body s = some (.cont s')) (h2 : loopN body k s' = r) : loopN body (k + 1) s = r := by
  unfold loopN
  rw [h1]
  exact h2
theorem loop_brk {R S : Type} {body : S → Option (Flow R S)} (k : Nat) {s s' : S} (h1 : body s = some (.brk s')) : loopN body (k + 1) s = some (.next s') := by
  unfold loopN
  rw [h1]
theorem ref_big1 (n : Nat) (hn : n < 18446744073709551616) : ref03_Big (n : Int) 1 = some [u8of (IntKind.wrap .u8 ((n % 256 : Nat) : Int))] := by
  have k3 : IntKind.wrap .i64 (1 - 1) = ((0 : Nat) : Int) := by decide
  have hloop : loopN (fun s : Int × Int × (List UInt8) => ref03_Big.b1 s.1 s.2.1 s.2.2) (((IntKind.wrap .i64 (1 - 1)) - 0 : Int).toNat + 2) ((n : Int), IntKind.wrap .i64 (1 - 1), (List.replicate 8 0)) =
      some (.next (((n / 256 : Nat) : Int), -1, [u8of (IntKind.wrap .u8 ((n % 256 : Nat) : Int)), 0, 0, 0, 0, 0, 0, 0])) := by
    rw [k3]
    exact loop_cont 1 (rbig_step n 0 (List.replicate 8 0) hn (by decide)) (loop_brk 0 (rbig_end _ _))
  unfold ref03_Big
  refine bind_next hloop ?_
  show (if _ then _ else _) = _
  rw [if_pos (by decide), if_pos (by decide)]
  rfl
theorem ref_big4 (n : Nat) (hn : n < 18446744073709551616) : ref03_Big (n : Int) 4 = some (hd4 n) := by
  have hloop : loopN (fun s : Int × Int × (List UInt8) => ref03_Big.b1 s.1 s.2.1 s.2.2) (((IntKind.wrap .i64 (4 - 1)) - 0 : Int).toNat + 2) ((n : Int), IntKind.wrap .i64 (4 - 1), (List.replicate 8 0)) =
      some (.next (((n / 256 / 256 / 256 / 256 : Nat) : Int), -1, [u8of (IntKind.wrap .u8 ((n / 256 / 256 / 256 % 256 : Nat) : Int)), u8of (IntKind.wrap .u8 ((n / 256 / 256 % 256 : Nat) : Int)), u8of (IntKind.wrap .u8 ((n / 256 % 256 : Nat) : Int)), u8of (IntKind.wrap .u8 ((n % 256 : Nat) : Int)), 0, 0, 0, 0])) := by
    have k3 : IntKind.wrap .i64 (4 - 1) = ((3 : Nat) : Int) := by decide
    rw [k3]
    show loopN _ 5 _ = _
    have s0 := rbig_step n 3 (List.replicate 8 0) hn (by decide)
    have s1 := rbig_step (n / 256) 2 [0, 0, 0, u8of (IntKind.wrap .u8 ((n % 256 : Nat) : Int)), 0, 0, 0, 0] (by omega) (by decide)
    have s2 := rbig_step (n / 256 / 256) 1 [0, 0, u8of (IntKind.wrap .u8 ((n / 256 % 256 : Nat) : Int)), u8of (IntKind.wrap .u8 ((n % 256 : Nat) : Int)), 0, 0, 0, 0] (by omega) (by decide)
    have s3 := rbig_step (n / 256 / 256 / 256) 0 [0, u8of (IntKind.wrap .u8 ((n / 256 / 256 % 256 : Nat) : Int)), u8of (IntKind.wrap .u8 ((n / 256 % 256 : Nat) : Int)), u8of (IntKind.wrap .u8 ((n % 256 : Nat) : Int)), 0, 0, 0, 0] (by omega) (by decide)
    exact loop_cont 4 s0 (loop_cont 3 s1 (loop_cont 2 s2 (loop_cont 1 s3 (loop_brk 0 (rbig_end _ _)))))
  unfold ref03_Big
  refine bind_next hloop ?_
  show (if _ then _ else _) = _
  rw [if_pos (by decide), if_pos (by decide)]
  have e0 : u8of (IntKind.wrap .u8 (shr .u64 (n : Int) 24)) = u8of (IntKind.wrap .u8 ((n / 256 / 256 / 256 % 256 : Nat) : Int)) := UInt8.toNat_inj.1 (by rw [byteOf (q := 16777216) (by decide) (by decide), u8mod]; omega)
  have e1 : u8of (IntKind.wrap .u8 (shr .u64 (n : Int) 16)) = u8of (IntKind.wrap .u8 ((n / 256 / 256 % 256 : Nat) : Int)) := UInt8.toNat_inj.1 (by rw [byteOf (q := 65536) (by decide) (by decide), u8mod]; omega)
  have e2 : u8of (IntKind.wrap .u8 (shr .u64 (n : Int) 8)) = u8of (IntKind.wrap .u8 ((n / 256 % 256 : Nat) : Int)) := UInt8.toNat_inj.1 (by rw [byteOf (q := 256) (by decide) (by decide), u8mod])
  have e3 : u8of (IntKind.wrap .u8 (shr .u64 (n : Int) 0)) = u8of (IntKind.wrap .u8 ((n % 256 : Nat) : Int)) := UInt8.toNat_inj.1 (by rw [byteOf (q := 1) (by decide) (by decide), u8mod]; omega)
  unfold hd4
  rw [e0, e1, e2, e3]
  rfl
theorem ref_text (p : List UInt8) (h : p.length < 4294967296) : ref03_Text p = some (hd4 p.length ++ p) := by
  unfold ref03_Text
  rw [wu64 (by omega), ref_big4 _ (by omega)]
  refine bind_of rfl ?_
  rw [if_pos (by simp only [hd4, List.length_cons, List.length_nil, mxl]; omega)]
theorem ref_input (d : Int) (ps : List (List UInt8)) (hp : ∀ p ∈ ps, p.length < 4294967296) (hl : (enc ps).length + 1 ≤ 140737488355328) (hn : ps.length < 4294967296) : ref04_Input d ps = some (u8of d :: enc ps) := by
  obtain ⟨c, h1, h2⟩ := loop_ok (body := fun s : (List UInt8) × Int => ref04_Input.b1 ps s.1 s.2) (fun s => ∃ i : Nat, i ≤ ps.length ∧ s = (u8of d :: enc (ps.take i), (i : Int)))
    (fun c => match c with | .next s => s.1 = u8of d :: enc ps | .ret _ => False) (fun s => (ps.length - s.2).toNat)
    (fun s ⟨i, hi, hs⟩ => by
      subst hs
      show (∃ s', ref04_Input.b1 ps (u8of d :: enc (ps.take i)) (i : Int) = some (.cont s') ∧ _) ∨ (∃ s', ref04_Input.b1 ps (u8of d :: enc (ps.take i)) (i : Int) = some (.brk s') ∧ _) ∨ _
      unfold ref04_Input.b1
      by_cases h : i < ps.length
      · have g : ps.getD (i : Int).toNat default = ps[i] := by simp [List.getD, h]
        have htk : ps.take (i + 1) = ps.take i ++ [ps[i]] := List.take_succ_eq_append_getElem h
        have hbound : (enc (ps.take (i + 1))).length ≤ (enc ps).length := by
          have : ps = ps.take (i + 1) ++ ps.drop (i + 1) := (List.take_append_drop _ _).symm
          conv => rhs; rw [this, enc_append]
          simp
        rw [htk, enc_append] at hbound
        rw [if_pos (by simpa using h), if_pos (by omega), g, ref_text _ (hp _ (List.getElem_mem h)), Option.bind_some, if_pos (by simp only [enc, mxl, List.length_append, List.length_cons, List.append_nil] at hbound ⊢; omega), w64 (by omega)]
        refine .inl ⟨_, rfl, ⟨i + 1, by omega, ?_⟩, by simp; omega⟩
        rw [htk, enc_append]
        simp [enc]
      · rw [if_neg (by simpa using h)]
        have : i = ps.length := by omega
        subst this
        exact .inr (.inl ⟨_, rfl, by simp⟩)) (((ps.length : Int) - 0 : Int).toNat + 2) ([u8of d], 0) ⟨0, by omega, rfl⟩ (by simp)
  unfold ref04_Input
  cases c with
  | ret r => exact h2.elim
  | next s =>
    refine bind_next h1 ?_
    obtain ⟨x, y⟩ := s
    have h2 : x = _ := h2
    rw [h2]
/-- A log and the document's, alike. -/
structure Alike (L : O_Log) (Q : O_RLog) (n : Nat) : Prop where
  j1 : ∀ k, lkp k L.f_inputs = (lkp k Q.f_Digests).map (·.headD [])
  j2 : L.f_inputs.length = Q.f_Digests.length
  j3 : ∀ x, (lkp x L.f_others).isSome ↔ ∃ k l, lkp k Q.f_Digests = some l ∧ x ∈ l.tail
  j4 : ∀ k l, lkp k Q.f_Digests = some l → l ≠ [] ∧ ∀ x ∈ l, sha_Sum [x] = some k
  j5 : L.f_others.length + Q.f_Digests.length = Q.f_Inputs.length
  j6 : Q.f_Inputs.length ≤ n ∧ ∀ k l, lkp k Q.f_Digests = some l → l.length ≤ n
theorem seek {g s : List UInt8} {Q : O_RLog} (hl : ((lkp g Q.f_Digests).getD []).length < 100000) : ∃ c, loopN (fun t : Int => ref04_Log_Note.b1 Q g s t) (((((lkp g Q.f_Digests).getD []).length : Int) - 0 : Int).toNat + 2) 0 = some c ∧
    ((s ∈ (lkp g Q.f_Digests).getD [] ∧ c = .ret (some Q)) ∨ (s ∉ (lkp g Q.f_Digests).getD [] ∧ ∃ i, c = .next i)) := by
  generalize hxs : (lkp g Q.f_Digests).getD [] = xs at *
  refine loop_ok (body := fun t : Int => ref04_Log_Note.b1 Q g s t) (fun t => ∃ i : Nat, i ≤ xs.length ∧ t = (i : Int) ∧ s ∉ xs.take i) (fun c => (s ∈ xs ∧ c = .ret (some Q)) ∨ (s ∉ xs ∧ ∃ i, c = .next i)) (fun t => (xs.length - t).toNat)
    (fun t ⟨i, hi, ht, hs⟩ => by
      subst ht
      unfold ref04_Log_Note.b1
      simp only [hxs]
      by_cases h : i < xs.length
      · have g : xs.getD (i : Int).toNat default = xs[i] := by simp [List.getD, h]
        rw [if_pos (by simpa using h), if_pos (by omega), g]
        by_cases he : xs[i] = s
        · rw [if_pos (by simpa using he)]
          exact .inr (.inr ⟨_, rfl, .inl ⟨he ▸ List.getElem_mem h, rfl⟩⟩)
        · rw [if_neg (by simpa using he), w64 (by omega)]
          refine .inl ⟨_, rfl, ⟨i + 1, by omega, by simp, ?_⟩, by omega⟩
          rw [List.take_succ_eq_append_getElem h, List.mem_append]
          rintro (e | e)
          · exact hs e
          · exact he (List.mem_singleton.1 e).symm
      · rw [if_neg (by simpa using h)]
        have : i = xs.length := by omega
        subst this
        exact .inr (.inl ⟨_, rfl, .inr ⟨by simpa using hs, _, rfl⟩⟩)) _ 0 ⟨0, by omega, rfl, by simp⟩ (by omega)
theorem note_alike {L : O_Log} {Q : O_RLog} {n : Nat} (A : Alike L Q n) (hn : n < 1000) {g s : List UInt8} (hs : sha_Sum [s] = some g) :
    ∃ L' Q', digest_Log_note (some L) g s = some (some L') ∧ ref04_Log_Note (some Q) g s = some (some Q') ∧ Alike L' Q' (n + 1) ∧ (lkp g L'.f_inputs).isSome := by
  have hlen : ((lkp g Q.f_Digests).getD []).length ≤ n := by
    cases h : lkp g Q.f_Digests with
    | none => simp
    | some l => simpa using A.j6.2 g l h
  obtain ⟨c, h1, h2⟩ := seek (g := g) (s := s) (Q := Q) (by omega)
  have hstay : Alike L Q (n + 1) := ⟨A.j1, A.j2, A.j3, A.j4, A.j5, by have := A.j6.1; omega, fun k l h => by have := A.j6.2 k l h; omega⟩
  -- the document's note
  have hq : (s ∈ (lkp g Q.f_Digests).getD [] → ref04_Log_Note (some Q) g s = some (some Q)) ∧ (s ∉ (lkp g Q.f_Digests).getD [] → ref04_Log_Note (some Q) g s = some (some ⟨Q.f_Inputs ++ [s], upd g (((lkp g Q.f_Digests).getD []) ++ [s]) Q.f_Digests⟩)) := by
    have hi := A.j6.1
    refine ⟨fun h => ?_, fun h => ?_⟩
    · rcases h2 with ⟨_, rfl⟩ | ⟨h', _⟩
      · unfold ref04_Log_Note ref04_Log_Note.s
        exact bind_of h1 rfl
      · exact absurd h h'
    · rcases h2 with ⟨h', _⟩ | ⟨_, i, rfl⟩
      · exact absurd h' h
      · unfold ref04_Log_Note ref04_Log_Note.s
        refine bind_of h1 ?_
        show (if _ then _ else _) = _
        rw [if_pos (by simp only [List.length_cons, List.length_nil, mxl]; omega), if_pos (by simp only [List.length_cons, List.length_nil, mxl]; omega), upd_ens]
  have k1 := A.j1 g
  cases hD : lkp g Q.f_Digests with
  | none =>
    rw [hD] at k1 hq
    have k1 : lkp g L.f_inputs = none := k1
    have hL : digest_Log_note (some L) g s = some (some ⟨upd g s L.f_inputs, L.f_others⟩) := by
      show digest_Log_note.s L g _ = _
      unfold digest_Log_note.s
      rw [k1]
      rfl
    refine ⟨_, _, hL, hq.2 (by simp), ?_, by rw [lkp_upd]; simp⟩
    have hfresh : ∀ k l, lkp k Q.f_Digests = some l → k ≠ g := fun k l h e => by rw [e, hD] at h; cases h
    refine ⟨fun k => ?_, ?_, fun x => ?_, fun k l h => ?_, ?_, ?_, fun k l h => ?_⟩
    · show lkp k (upd g s _) = (lkp k (upd g _ _)).map _
      rw [lkp_upd, lkp_upd]
      by_cases hk : k = g
      · simp [hk]
      · rw [if_neg hk, if_neg hk]; exact A.j1 k
    · show (upd g s _).length = (upd g _ _).length
      rw [len_upd, len_upd, k1, hD, A.j2]
      rfl
    · show (lkp x L.f_others).isSome ↔ ∃ k l, lkp k (upd g _ _) = some l ∧ _
      rw [A.j3 x]
      constructor
      · rintro ⟨k, l, h, hx⟩
        exact ⟨k, l, by rw [lkp_upd, if_neg (hfresh k l h)]; exact h, hx⟩
      · rintro ⟨k, l, h, hx⟩
        rw [lkp_upd] at h
        by_cases hk : k = g
        · rw [if_pos hk] at h
          have : l = [s] := by simpa using h.symm
          subst this
          simp at hx
        · rw [if_neg hk] at h
          exact ⟨k, l, h, hx⟩
    · have h : lkp k (upd g _ _) = some l := h
      rw [lkp_upd] at h
      by_cases hk : k = g
      · rw [if_pos hk] at h
        have : l = [s] := by simpa using h.symm
        subst this
        exact ⟨by simp, fun x hx => by rw [List.mem_singleton.1 hx, hk]; exact hs⟩
      · rw [if_neg hk] at h
        exact A.j4 k l h
    · show L.f_others.length + (upd g _ _).length = (Q.f_Inputs ++ [s]).length
      have := A.j5
      rw [len_upd, hD]
      simp
      omega
    · have := A.j6.1
      show (Q.f_Inputs ++ [s]).length ≤ n + 1
      simp; omega
    · have h : lkp k (upd g _ _) = some l := h
      rw [lkp_upd] at h
      by_cases hk : k = g
      · rw [if_pos hk] at h
        have : l = [s] := by simpa using h.symm
        subst this
        simp
      · rw [if_neg hk] at h
        have := A.j6.2 k l h
        omega
  | some l0 =>
    rw [hD] at k1 hq
    have hl0 := A.j4 g l0 hD
    obtain ⟨a, t, rfl⟩ : ∃ a t, l0 = a :: t := by
      cases l0 with
      | nil => exact absurd rfl hl0.1
      | cons a t => exact ⟨a, t, rfl⟩
    have k1 : lkp g L.f_inputs = some a := k1
    by_cases hsa : a = s
    · subst hsa
      have hL : digest_Log_note (some L) g a = some (some ⟨upd g a L.f_inputs, L.f_others⟩) := by
        show digest_Log_note.s L g _ = _
        unfold digest_Log_note.s
        rw [k1]
        simp [digest_Log_note.j1, digest_Log_note.j2]
      refine ⟨_, _, hL, hq.1 (by simp), ?_, by rw [lkp_upd]; simp⟩
      refine ⟨fun k => ?_, ?_, hstay.j3, hstay.j4, hstay.j5, hstay.j6⟩
      · show lkp k (upd g a _) = _
        rw [lkp_upd]
        by_cases hk : k = g
        · rw [if_pos hk, hk, hD]; rfl
        · rw [if_neg hk]; exact A.j1 k
      · show (upd g a _).length = _
        rw [len_upd, k1, ← A.j2]
        rfl
    · have hL : digest_Log_note (some L) g s = some (some ⟨L.f_inputs, upd s true L.f_others⟩) := by
        show digest_Log_note.s L g _ = _
        unfold digest_Log_note.s
        rw [k1]
        simp [digest_Log_note.j1, digest_Log_note.j2, hsa]
      by_cases hst : s ∈ t
      · have ho : (lkp s L.f_others).isSome := (A.j3 s).2 ⟨g, a :: t, hD, hst⟩
        refine ⟨_, _, hL, hq.1 (by simp [hst]), ?_, by show (lkp g L.f_inputs).isSome = true; rw [k1]; rfl⟩
        refine ⟨hstay.j1, hstay.j2, fun x => ?_, hstay.j4, ?_, hstay.j6⟩
        · show (lkp x (upd s true _)).isSome ↔ _
          rw [lkp_upd, ← A.j3 x]
          by_cases hx : x = s
          · subst hx; simp [ho]
          · rw [if_neg hx]
        · show (upd s true _).length + _ = _
          rw [len_upd, if_pos ho]
          exact A.j5
      · have ho : ¬ (lkp s L.f_others).isSome := by
          rw [A.j3 s]
          rintro ⟨k, l, h, hx⟩
          have h4 := (A.j4 k l h).2 s (List.mem_of_mem_tail hx)
          rw [hs] at h4
          obtain rfl := Option.some.inj h4
          rw [hD] at h
          obtain rfl := Option.some.inj h
          exact hst hx
        refine ⟨_, _, hL, hq.2 (by simp [hst, Ne.symm hsa]), ?_, by show (lkp g L.f_inputs).isSome = true; rw [k1]; rfl⟩
        refine ⟨fun k => ?_, ?_, fun x => ?_, fun k l h => ?_, ?_, ?_, fun k l h => ?_⟩
        · show lkp k L.f_inputs = (lkp k (upd g _ _)).map _
          rw [lkp_upd, A.j1 k]
          by_cases hk : k = g
          · rw [if_pos hk, hk, hD]; rfl
          · rw [if_neg hk]
        · show L.f_inputs.length = (upd g _ _).length
          rw [len_upd, hD, A.j2]
          rfl
        · show (lkp x (upd s true _)).isSome ↔ ∃ k l, lkp k (upd g _ _) = some l ∧ _
          rw [lkp_upd]
          by_cases hx : x = s
          · rw [if_pos hx]
            refine ⟨fun _ => ⟨g, (a :: t) ++ [s], by rw [lkp_upd, if_pos rfl]; rfl, by rw [hx]; simp⟩, fun _ => rfl⟩
          · rw [if_neg hx, A.j3 x]
            constructor
            · rintro ⟨k, l, h, hxl⟩
              by_cases hk : k = g
              · subst hk
                rw [hD] at h
                obtain rfl := Option.some.inj h
                exact ⟨k, (a :: t) ++ [s], by rw [lkp_upd, if_pos rfl]; rfl, by simp at hxl ⊢; exact .inl hxl⟩
              · exact ⟨k, l, by rw [lkp_upd, if_neg hk]; exact h, hxl⟩
            · rintro ⟨k, l, h, hxl⟩
              rw [lkp_upd] at h
              by_cases hk : k = g
              · rw [if_pos hk] at h
                have : l = (a :: t) ++ [s] := by simpa using h.symm
                subst this
                refine ⟨g, a :: t, hD, ?_⟩
                simp at hxl
                rcases hxl with h | h
                · exact h
                · exact absurd h hx
              · rw [if_neg hk] at h
                exact ⟨k, l, h, hxl⟩
        · have h : lkp k (upd g _ _) = some l := h
          rw [lkp_upd] at h
          by_cases hk : k = g
          · rw [if_pos hk] at h
            have : l = (a :: t) ++ [s] := by simpa using h.symm
            subst this
            refine ⟨by simp, fun x hx => ?_⟩
            rw [List.mem_append] at hx
            rcases hx with hx | hx
            · rw [hk]; exact hl0.2 x hx
            · rw [List.mem_singleton.1 hx, hk]; exact hs
          · rw [if_neg hk] at h
            exact A.j4 k l h
        · show (upd s true _).length + (upd g _ _).length = (Q.f_Inputs ++ [s]).length
          have := A.j5
          rw [len_upd, len_upd, hD, if_neg ho]
          simp
          omega
        · have := A.j6.1
          show (Q.f_Inputs ++ [s]).length ≤ n + 1
          simp; omega
        · have h : lkp k (upd g _ _) = some l := h
          rw [lkp_upd] at h
          by_cases hk : k = g
          · rw [if_pos hk] at h
            have : l = (a :: t) ++ [s] := by simpa using h.symm
            subst this
            have := A.j6.2 g _ hD
            simp at this ⊢; omega
          · rw [if_neg hk] at h
            have := A.j6.2 k l h
            omega
theorem ofs_eq (d : Int) (ps : List (List UInt8)) (hp : ∀ p ∈ ps, p.length < 4294967296) (hl : (enc ps).length + 1 ≤ 140737488355328) (hn : ps.length < 4294967296) {L : O_Log} {Q : O_RLog} {n : Nat} (A : Alike L Q n) (hk : n < 1000) :
    ∃ g L' Q', digest_Log_Of (some L) d ps = some (g, some L') ∧ ref04_Log_Of (some Q) d ps = some (g, some Q') ∧ digest_Log_Of none d ps = some (g, none) ∧ Alike L' Q' (n + 1) ∧ (lkp g L'.f_inputs).isSome := by
  obtain ⟨g, h1, h2, h3⟩ := sum_eq (u8of d :: enc ps) (by simp only [List.length_cons, mxl]; omega)
  obtain ⟨L', Q', n1, n2, A', hh⟩ := note_alike A hk h1
  refine ⟨g, L', Q', ?_, ?_, ?_, A', hh⟩
  · unfold digest_Log_Of
    exact bind_of (input_eq d ps hp hl hn) (bind_of h1 (bind_of n1 rfl))
  · unfold ref04_Log_Of
    exact bind_of (ref_input d ps hp hl hn) (bind_of h2 (bind_of n2 rfl))
  · unfold digest_Log_Of
    exact bind_of (input_eq d ps hp hl hn) (bind_of h1 rfl)
theorem clash_eq {L : O_Log} {Q : O_RLog} {n : Nat} (A : Alike L Q n) (hk : n < 1000) : ∃ b, digest_Log_Clash (some L) = some b ∧ ref04_Log_Clash (some Q) = some b := by
  have h2 := A.j2
  have h5 := A.j5
  have h6 := A.j6.1
  refine ⟨decide ((0 : Int) < (L.f_others.length : Int)), ?_, ?_⟩
  · show digest_Log_Clash.s L = _
    unfold digest_Log_Clash.s
    rw [if_pos (by simp only [mxl]; omega)]
  · show ref04_Log_Clash.s Q = _
    unfold ref04_Log_Clash.s
    rw [if_pos (by simp only [mxl]; omega)]
    have : ((Q.f_Digests.length : Int) < (Q.f_Inputs.length : Int)) ↔ ((0 : Int) < (L.f_others.length : Int)) := by omega
    simp only [this]
    try split <;> rfl
end Go.Proofs.YtbhehllkimedaaaDoor
