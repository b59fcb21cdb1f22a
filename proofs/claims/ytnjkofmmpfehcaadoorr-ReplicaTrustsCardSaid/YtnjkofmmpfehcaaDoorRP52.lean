/- Plain laws: P50, P51, P52, as one text. -/
import Derived.Test.YtnjkofmmpfehcaaDoorRP24
import Derived.Test.YtnjkofmmpfehcaaDoorRP33s
namespace Go.Proofs.YtnjkofmmpfehcaaDoorR
open Go Go.RowKit Go.Proofs
section
set_option linter.unusedVariables false

/- The first place of a kind. -/
def fi (P : Nat → Bool) : Nat → Int
  | 0 => -1
  | i + 1 => if 0 ≤ fi P i then fi P i else if P i = true then (i : Int) else -1
theorem fi_succ (P : Nat → Bool) (i : Nat) : fi P (i + 1) = if 0 ≤ fi P i then fi P i else if P i = true then (i : Int) else -1 := rfl
theorem fi_range (P : Nat → Bool) : ∀ n, -1 ≤ fi P n ∧ fi P n < n
  | 0 => by simp [fi]
  | n + 1 => by
    have := fi_range P n
    rw [fi_succ]
    split
    · omega
    · split <;> omega
theorem fi_stay (P : Nat → Bool) (i : Nat) (h : 0 ≤ fi P i) : ∀ k, fi P (i + k) = fi P i
  | 0 => rfl
  | k + 1 => by
    show fi P (i + k + 1) = _
    rw [fi_succ, fi_stay P i h k, if_pos h]
theorem fi_at (P : Nat → Bool) : ∀ n, 0 ≤ fi P n → P (fi P n).toNat = true
  | 0, h => by simp [fi] at h
  | n + 1, h => by
    rw [fi_succ] at h ⊢
    by_cases a : 0 ≤ fi P n
    · rw [if_pos a]; exact fi_at P n a
    · rw [if_neg a] at h ⊢
      by_cases b : P n = true
      · rw [if_pos b]; simpa using b
      · rw [if_neg b] at h; exact absurd h (by decide)
def rtP (d : List UInt8) (t : S_api_Timed) : Bool := decide (t.f_Root = d)
noncomputable def rtI (r : S_api_Replica) (d : List UInt8) : Int := fi (fun i => rtP d (r.f_Roots.getD i default)) r.f_Roots.length
theorem root_idx (r : S_api_Replica) (d : List UInt8) (hl : r.f_Roots.length < 1000000) : replica_root r d = some (rtI r d) := by
  have hg : ∀ t, replica_root_1 t d = some (rtP d t) := fun t => rfl
  unfold replica_root
  refine bind_of (x := rtI r d) ?_ rfl
  unfold rtI
  generalize r.f_Roots = l at hl
  unfold slices_IndexFunc_api_Timed
  obtain ⟨c, h1, h2⟩ := loop_ok (body := fun s : Int => slices_IndexFunc_api_Timed.b1 l (fun x => replica_root_1 x d) s) (fun s => ∃ i : Nat, i ≤ l.length ∧ s = (i : Int) ∧ fi (fun i => rtP d (l.getD i default)) i = -1)
      (fun c => match c with | .next s => fi (fun i => rtP d (l.getD i default)) l.length = -1 | .ret r => fi (fun i => rtP d (l.getD i default)) l.length = r) (fun s => (l.length - s).toNat)
      (fun s ⟨i, hi, hs, hf⟩ => by
        subst hs
        have e1 : ((i : Nat) : Int).toNat = i := by omega
        by_cases q : i < l.length
        · by_cases w : rtP d (l.getD i default) = true
          · refine .inr (.inr ⟨(i : Int), ?_, ?_⟩)
            · show slices_IndexFunc_api_Timed.b1 l _ (i : Int) = _
              unfold slices_IndexFunc_api_Timed.b1
              rw [if_pos (by simp; omega), if_pos (by omega), e1]
              refine bind_of (hg _) ?_
              rw [if_pos w]
            · have e2 : fi (fun i => rtP d (l.getD i default)) (i + 1) = (i : Int) := by
                rw [fi_succ, hf, if_neg (by decide), if_pos w]
              have := fi_stay (fun i => rtP d (l.getD i default)) (i + 1) (by rw [e2]; omega) (l.length - (i + 1))
              rw [show i + 1 + (l.length - (i + 1)) = l.length by omega, e2] at this
              exact this
          · refine .inl ⟨((i + 1 : Nat) : Int), ?_, ⟨i + 1, by omega, rfl, ?_⟩, by simp; omega⟩
            · show slices_IndexFunc_api_Timed.b1 l _ (i : Int) = _
              unfold slices_IndexFunc_api_Timed.b1
              rw [if_pos (by simp; omega), if_pos (by omega), e1]
              refine bind_of (hg _) ?_
              rw [if_neg w, w64 (by omega)]
              rfl
            · rw [fi_succ, hf, if_neg (by decide), if_neg w]
        · have : i = l.length := by omega
          subst this
          refine .inr (.inl ⟨(l.length : Int), ?_, hf⟩)
          show slices_IndexFunc_api_Timed.b1 l _ (l.length : Int) = _
          unfold slices_IndexFunc_api_Timed.b1
          rw [if_neg (by simp)]) (((l.length : Int) - 0 : Int).toNat + 2) 0 ⟨0, by omega, rfl, rfl⟩ (by simp)
  cases c with
  | ret r =>
    have h2 : fi (fun i => rtP d (l.getD i default)) l.length = r := h2
    rw [h2]
    exact bind_of h1 rfl
  | next s =>
    have h2 : fi (fun i => rtP d (l.getD i default)) l.length = -1 := h2
    rw [h2]
    exact bind_next h1 rfl
theorem rt_at (r : S_api_Replica) (d : List UInt8) (h : 0 ≤ rtI r d) : (r.f_Roots.getD (rtI r d).toNat default).f_Root = d := by
  have := fi_at (fun i => rtP d (r.f_Roots.getD i default)) r.f_Roots.length h
  exact of_decide_eq_true this
theorem rt_lt (r : S_api_Replica) (d : List UInt8) : -1 ≤ rtI r d ∧ rtI r d < r.f_Roots.length := fi_range _ _
end

section
set_option linter.unusedVariables false

theorem cloneD (l : List (List UInt8)) (h : l.length ≤ 1000000) : slices_Clone_api_Digest l = some l := by
  unfold slices_Clone_api_Digest
  rw [if_pos (by omega)]
theorem leaf_total : ∃ d L, letter_Leaf none (S_api_Letter.mk 1 (0 : Int) 2 [] [] []) = some (d, L) := by
  have w : ∀ x : Int, 0 ≤ x ∧ x < 4294967296 → wire_Word x = some (wrd x) := fun x h => wordU h
  have t : wire_Text [] = some (hd4 ((0 : Nat) : Int)) := (text_eq [] (by simp)).trans (by simp)
  have hp : letter_plain (S_api_Letter.mk 1 (0 : Int) 2 [] [] []) = some (wrd 1 ++ wrd 0 ++ wrd 2 ++ hd4 ((0 : Nat) : Int) ++ hd4 ((0 : Nat) : Int) ++ hd4 ((0 : Nat) : Int)) := by
    unfold letter_plain
    refine bind_of (w 1 (by omega)) (bind_of (w 0 (by omega)) ?_)
    rw [if_pos (by simp [wrd, hd4, mxl])]
    refine bind_of (w 2 (by omega)) ?_
    rw [if_pos (by simp [wrd, hd4, mxl])]
    refine bind_of t ?_
    rw [if_pos (by simp [wrd, hd4, mxl])]
    refine bind_of t ?_
    rw [if_pos (by simp [wrd, hd4, mxl])]
    refine bind_of t ?_
    rw [if_pos (by simp [wrd, hd4, mxl])]
  have hS : Small [wrd 1 ++ wrd 0 ++ wrd 2 ++ hd4 ((0 : Nat) : Int) ++ hd4 ((0 : Nat) : Int) ++ hd4 ((0 : Nat) : Int)] := ⟨fun p hp => by rw [List.mem_singleton.1 hp]; simp [wrd, hd4], by simp⟩
  obtain ⟨L, a1, a2⟩ := dOf none 5 hS
  exact ⟨_, _, by unfold letter_Leaf; exact bind_of hp (bind_of a1 rfl)⟩
theorem awake17 : law17_awake = some true := by
  obtain ⟨d, L, hL⟩ := leaf_total
  unfold law17_awake
  refine bind_of (x := (⟨1, 2, ([u8of 1] ++ List.replicate (32 - 1) 0), [], 5, List.replicate 32 0, [], [], false, false⟩ : S_api_Replica)) ?_ ?_
  · unfold replica_New
    exact bind_of (cloneD [] (by simp)) rfl
  · generalize ([u8of 1] ++ List.replicate (32 - 1) 0 : List UInt8) = x
    generalize (List.replicate 32 0 : List UInt8) = y
    refine bind_of (x := ((⟨1, 2, x, [], 5, y, [], [], false, false⟩ : S_api_Replica), (37 : Int), L)) ?_ rfl
    unfold replica_Take
    refine bind_of (x := 0) rfl ?_
    rw [if_neg (by decide), if_neg (by simp)]
    unfold replica_Take.j1
    rw [if_neg (by simp)]
    refine bind_of hL ?_
    refine bind_of (x := -1) rfl ?_
    rw [if_pos (by decide)]
    unfold replica_Take.j2
    rw [if_pos rfl]
end

section
set_option linter.unusedVariables false

def stP (d : List UInt8) (t : S_api_State) : Bool := decide (t.f_Leaf = d)
noncomputable def stI (l : List S_api_State) (d : List UInt8) : Int := fi (fun i => stP d (l.getD i default)) l.length
theorem state_idx (r : S_api_Replica) (d : List UInt8) (hl : r.f_States.length < 1000000) : replica_state r d = some (stI r.f_States d) := by
  have hg : ∀ t, replica_state_1 t d = some (stP d t) := fun t => rfl
  unfold replica_state
  refine bind_of (x := stI r.f_States d) ?_ rfl
  unfold stI
  generalize r.f_States = l at hl
  unfold slices_IndexFunc_api_State
  obtain ⟨c, h1, h2⟩ := loop_ok (body := fun s : Int => slices_IndexFunc_api_State.b1 l (fun x => replica_state_1 x d) s) (fun s => ∃ i : Nat, i ≤ l.length ∧ s = (i : Int) ∧ fi (fun i => stP d (l.getD i default)) i = -1)
      (fun c => match c with | .next s => fi (fun i => stP d (l.getD i default)) l.length = -1 | .ret r => fi (fun i => stP d (l.getD i default)) l.length = r) (fun s => (l.length - s).toNat)
      (fun s ⟨i, hi, hs, hf⟩ => by
        subst hs
        have e1 : ((i : Nat) : Int).toNat = i := by omega
        by_cases q : i < l.length
        · by_cases w : stP d (l.getD i default) = true
          · refine .inr (.inr ⟨(i : Int), ?_, ?_⟩)
            · show slices_IndexFunc_api_State.b1 l _ (i : Int) = _
              unfold slices_IndexFunc_api_State.b1
              rw [if_pos (by simp; omega), if_pos (by omega), e1]
              refine bind_of (hg _) ?_
              rw [if_pos w]
            · have e2 : fi (fun i => stP d (l.getD i default)) (i + 1) = (i : Int) := by
                rw [fi_succ, hf, if_neg (by decide), if_pos w]
              have := fi_stay (fun i => stP d (l.getD i default)) (i + 1) (by rw [e2]; omega) (l.length - (i + 1))
              rw [show i + 1 + (l.length - (i + 1)) = l.length by omega, e2] at this
              exact this
          · refine .inl ⟨((i + 1 : Nat) : Int), ?_, ⟨i + 1, by omega, rfl, ?_⟩, by simp; omega⟩
            · show slices_IndexFunc_api_State.b1 l _ (i : Int) = _
              unfold slices_IndexFunc_api_State.b1
              rw [if_pos (by simp; omega), if_pos (by omega), e1]
              refine bind_of (hg _) ?_
              rw [if_neg w, w64 (by omega)]
              rfl
            · rw [fi_succ, hf, if_neg (by decide), if_neg w]
        · have : i = l.length := by omega
          subst this
          refine .inr (.inl ⟨(l.length : Int), ?_, hf⟩)
          show slices_IndexFunc_api_State.b1 l _ (l.length : Int) = _
          unfold slices_IndexFunc_api_State.b1
          rw [if_neg (by simp)]) (((l.length : Int) - 0 : Int).toNat + 2) 0 ⟨0, by omega, rfl, rfl⟩ (by simp)
  cases c with
  | ret r =>
    have h2 : fi (fun i => stP d (l.getD i default)) l.length = r := h2
    rw [h2]
    exact bind_of h1 rfl
  | next s =>
    have h2 : fi (fun i => stP d (l.getD i default)) l.length = -1 := h2
    rw [h2]
    exact bind_next h1 rfl
theorem counts_total (r : S_api_Replica) (d : List UInt8) (now : Int) (hl : r.f_Roots.length < 1000000) : ∃ k, replica_Counts r d now = some k := by
  have h := rt_lt r d
  unfold replica_Counts
  by_cases q : rtI r d < 0
  · exact ⟨31, bind_of (root_idx r d hl) (by rw [if_pos (decide_eq_true q)])⟩
  · by_cases z : now < (r.f_Roots.getD (rtI r d).toNat default).f_At
    · exact ⟨36, bind_of (root_idx r d hl) (by rw [if_neg (by rw [decide_eq_false q]; decide), if_pos ⟨by omega, h.2⟩, if_pos (decide_eq_true z)])⟩
    · exact ⟨0, bind_of (root_idx r d hl) (by rw [if_neg (by rw [decide_eq_false q]; decide), if_pos ⟨by omega, h.2⟩, if_neg (by rw [decide_eq_false z]; decide)])⟩
theorem open_cases (r : S_api_Replica) : (replica_open r = some 0) ∨ ∃ k, k ≠ 0 ∧ replica_open r = some k := by
  unfold replica_open
  by_cases a : r.f_Failed = true
  · exact .inr ⟨30, by decide, by rw [if_pos a]⟩
  · by_cases b : r.f_Cut = true
    · exact .inr ⟨34, by decide, by rw [if_neg a, if_pos b]⟩
    · exact .inl (by rw [if_neg a, if_neg b])
end
end Go.Proofs.YtnjkofmmpfehcaaDoorR
