/- Plain laws: P50, P51, P52, as one text. -/
import Derived.Test.YtnjkofmmpfehcaaDoorRP24
import Derived.Test.YtnjkofmmpfehcaaDoorRP33s
namespace Go.Proofs.YtnjkofmmpfehcaaDoorR
open Go Go.RowKit Go.Proofs
section
set_option linter.unusedVariables false

/- The first place of a kind. -/
def fi (P : Nat → Bool) : Nat → Int
  | 0 => -1
  | i + 1 => if 0 ≤ fi P i then fi P i else if P i = true then (i : Int) else -1
theorem fi_succ (P : Nat → Bool) (i : Nat) : fi P (i + 1) = if 0 ≤ fi P i then fi P i else if P i = true then (i : Int) else -1 := rfl
theorem fi_range (P : Nat → Bool) : ∀ n, -1 ≤ fi P n ∧ fi P n < n
  | 0 => by simp [fi]
  | n + 1 => by
    have := fi_range P n
    rw [fi_succ]
    split
    · omega
    · split <;> omega
theorem fi_stay (P : Nat → Bool) (i : Nat) (h : 0 ≤ fi P i) : ∀ k, fi P (i + k) = fi P i
  | 0 => rfl
  | k + 1 => by
    show fi P (i + k + 1) = _
    rw [fi_succ, fi_stay P i h k, if_pos h]
theorem fi_at (P : Nat → Bool) : ∀ n, 0 ≤ fi P n → P (fi P n).toNat = true
  | 0, h => by simp [fi] at h
  | n + 1, h => by
    rw [fi_succ] at h ⊢
    by_cases a : 0 ≤ fi P n
    · rw [if_pos a]; exact fi_at P n a
    · rw [if_neg a] at h ⊢
      by_cases b : P n = true
      · rw [if_pos b]; simpa using b
      · rw [if_neg b] at h; exact absurd h (by decide)
def rtP (d : List UInt8) (t : S_api_Timed) : Bool := decide (t.f_Root = d)
noncomputable def rtI (r : S_api_Replica) (d : List UInt8) : Int := fi (fun i => rtP d (r.f_Roots.getD i default)) r.f_Roots.length
theorem root_idx (r : S_api_Replica) (d : List UInt8) (hl : r.f_Roots.length < 1000000) : replica_root r d = some (rtI r d) := by
  have hg : ∀ t, replica_root_1 t d = some (rtP d t) := fun t => rfl
  unfold replica_root
  refine bind_of (x := rtI r d) ?_ rfl
  unfold rtI
  generalize r.f_Roots = l at hl
  unfold slices_IndexFunc_api_Timed
  obtain ⟨c, h1, h2⟩ := loop_ok (body := fun s : Int => slices_IndexFunc_api_Timed.b1 l (fun x => replica_root_1 x d) s) (fun s => ∃ i : Nat, i ≤ l.length ∧ s = (i : Int) ∧ fi (fun i => rtP d (l.getD i default)) i = -1)
      (fun c => match c with | .next s => fi (fun i => rtP d (l.getD i default)) l.length = -1 | .ret r => fi (fun i => rtP d (l.getD i default)) l.length = r) (fun s => (l.length - s).toNat)
      (fun s ⟨i, hi, hs, hf⟩ => by
        subst hs
        have e1 : ((i : Nat) : Int).toNat = i := by omega
        by_cases q : i < l.length
        · by_cases w : rtP d (l.getD i default) = true
          · refine .inr (.inr ⟨(i : Int), ?_, ?_⟩)
            · show slices_IndexFunc_api_Timed.b1 l _ (i : Int) = _
              unfold slices_IndexFunc_api_Timed.b1
              rw [if_pos (by simp; omega), if_pos (by omega), e1]
              refine bind_of (hg _) ?_
              rw [if_pos w]
            · have e2 : fi (fun i => rtP d (l.getD i default)) (i + 1) = (i : Int) := by
                rw [fi_succ, hf, if_neg (by decide), if_pos w]
              have := fi_stay (fun i => rtP d (l.getD i default)) (i + 1) (by rw [e2]; omega) (l.length - (i + 1))
              rw [show i + 1 + (l.length - (i + 1)) = l.length by omega, e2] at this
              exact this
          · refine .inl ⟨((i + 1 : Nat) : Int), ?_, ⟨i + 1, by omega, rfl, ?_⟩, by simp; omega⟩
            · show slices_IndexFunc_api_Timed.b1 l _ (i : Int) = _
              unfold slices_IndexFunc_api_Timed.b1
              rw [if_pos (by simp; omega), if_pos (by omega), e1]
              refine bind_of (hg _) ?_
              rw [if_neg w, w64 (by omega)]
              rfl
            · rw [fi_succ, hf, if_neg (by decide), if_neg w]
        · have : i = l.length := by omega
          subst this
          refine .inr (.inl ⟨(l.length : Int), ?_, hf⟩)
          show slices_IndexFunc_api_Timed.b1 l _ (l.length : Int) = _
          unfold slices_IndexFunc_api_Timed.b1
          rw [if_neg (by simp)]) (((l.length : Int) - 0 : Int).toNat + 2) 0 ⟨0, by omega, rfl, rfl⟩ (by simp)
  cases c with
  | ret r =>
    have h2 : fi (fun i => rtP d (l.getD i default)) l.length = r := h2
    rw [h2]
    exact bind_of h1 rfl
  | next s =>
    have h2 : fi (fun i => rtP d (l.getD i default)) l.length = -1 := h2
    rw [h2]
    exact bind_next h1 rfl
theorem rt_lt (r : S_api_Replica) (d : List UInt8) : -1 ≤ rtI r d ∧ rtI r d < r.f_Roots.length := fi_range _ _
end

section
set_option linter.unusedVariables false

theorem same17 (r : S_api_Replica) (h1 : r.f_Watchers.length < 1000000) (h2 : r.f_Roots.length < 1000000) (h3 : r.f_States.length < 1000000) : ref17_Same r r = some true := by
  have hj : ref17_Same.j1 r r false = some true := by
    unfold ref17_Same.j1
    rw [if_neg (by decide)]
    obtain ⟨c, k1, k2⟩ := loop_ok (body := fun s : Int => ref17_Same.b1 r r s) (fun s => ∃ i : Nat, i ≤ r.f_Roots.length ∧ s = (i : Int)) (fun c => match c with | .next _ => True | .ret _ => False) (fun s => (r.f_Roots.length - s).toNat)
      (fun s ⟨i, hi, hs⟩ => by
        subst hs
        by_cases q : i < r.f_Roots.length
        · refine .inl ⟨((i + 1 : Nat) : Int), ?_, ⟨i + 1, by omega, rfl⟩, by simp; omega⟩
          show ref17_Same.b1 r r (i : Int) = _
          unfold ref17_Same.b1
          rw [if_pos (by simp; omega), if_pos (by omega), if_pos (by omega), if_neg (by simp), w64 (by omega)]
          rfl
        · refine .inr (.inl ⟨(i : Int), ?_, trivial⟩)
          show ref17_Same.b1 r r (i : Int) = _
          unfold ref17_Same.b1
          rw [if_neg (by simp; omega)]) (((r.f_Roots.length : Int) - 0 : Int).toNat + 2) 0 ⟨0, by omega, rfl⟩ (by simp)
    obtain ⟨d, m1, m2⟩ := loop_ok (body := fun s : Int => ref17_Same.b2 r r s) (fun s => ∃ i : Nat, i ≤ r.f_States.length ∧ s = (i : Int)) (fun c => match c with | .next _ => True | .ret _ => False) (fun s => (r.f_States.length - s).toNat)
      (fun s ⟨i, hi, hs⟩ => by
        subst hs
        by_cases q : i < r.f_States.length
        · refine .inl ⟨((i + 1 : Nat) : Int), ?_, ⟨i + 1, by omega, rfl⟩, by simp; omega⟩
          show ref17_Same.b2 r r (i : Int) = _
          unfold ref17_Same.b2
          rw [if_pos (by simp; omega), if_pos (by omega), if_pos (by omega), if_neg (by simp), w64 (by omega)]
          rfl
        · refine .inr (.inl ⟨(i : Int), ?_, trivial⟩)
          show ref17_Same.b2 r r (i : Int) = _
          unfold ref17_Same.b2
          rw [if_neg (by simp; omega)]) (((r.f_States.length : Int) - 0 : Int).toNat + 2) 0 ⟨0, by omega, rfl⟩ (by simp)
    cases c with
    | ret _ => exact k2.elim
    | next _ =>
      refine bind_next k1 ?_
      cases d with
      | ret _ => exact m2.elim
      | next _ => exact bind_next m1 rfl
  unfold ref17_Same
  rw [if_neg (by simp), if_neg (by simp), if_neg (by simp), if_neg (by simp), if_neg (by simp), if_neg (by simp), if_neg (by simp)]
  refine bind_of (x := true) ((sameL _ _ h1).trans (by simp)) ?_
  rw [if_neg (by decide), if_neg (by simp)]
  simpa using hj
theorem cloneD (l : List (List UInt8)) (h : l.length ≤ 1000000) : slices_Clone_api_Digest l = some l := by
  unfold slices_Clone_api_Digest
  rw [if_pos (by omega)]
theorem leaf_total : ∃ d L, letter_Leaf none (S_api_Letter.mk 1 (0 : Int) 2 [] [] []) = some (d, L) := by
  have w : ∀ x : Int, 0 ≤ x ∧ x < 4294967296 → wire_Word x = some (wrd x) := fun x h => wordU h
  have t : wire_Text [] = some (hd4 ((0 : Nat) : Int)) := (text_eq [] (by simp)).trans (by simp)
  have hp : letter_plain (S_api_Letter.mk 1 (0 : Int) 2 [] [] []) = some (wrd 1 ++ wrd 0 ++ wrd 2 ++ hd4 ((0 : Nat) : Int) ++ hd4 ((0 : Nat) : Int) ++ hd4 ((0 : Nat) : Int)) := by
    unfold letter_plain
    refine bind_of (w 1 (by omega)) (bind_of (w 0 (by omega)) ?_)
    rw [if_pos (by simp [wrd, hd4, mxl])]
    refine bind_of (w 2 (by omega)) ?_
    rw [if_pos (by simp [wrd, hd4, mxl])]
    refine bind_of t ?_
    rw [if_pos (by simp [wrd, hd4, mxl])]
    refine bind_of t ?_
    rw [if_pos (by simp [wrd, hd4, mxl])]
    refine bind_of t ?_
    rw [if_pos (by simp [wrd, hd4, mxl])]
  have hS : Small [wrd 1 ++ wrd 0 ++ wrd 2 ++ hd4 ((0 : Nat) : Int) ++ hd4 ((0 : Nat) : Int) ++ hd4 ((0 : Nat) : Int)] := ⟨fun p hp => by rw [List.mem_singleton.1 hp]; simp [wrd, hd4], by simp⟩
  obtain ⟨L, a1, a2⟩ := dOf none 5 hS
  exact ⟨_, _, by unfold letter_Leaf; exact bind_of hp (bind_of a1 rfl)⟩
theorem awake17 : law17_awake = some true := by
  obtain ⟨d, L, hL⟩ := leaf_total
  unfold law17_awake
  refine bind_of (x := (⟨1, 2, ([u8of 1] ++ List.replicate (32 - 1) 0), [], 5, List.replicate 32 0, [], [], false, false⟩ : S_api_Replica)) ?_ ?_
  · unfold replica_New
    exact bind_of (cloneD [] (by simp)) rfl
  · generalize ([u8of 1] ++ List.replicate (32 - 1) 0 : List UInt8) = x
    generalize (List.replicate 32 0 : List UInt8) = y
    refine bind_of (x := ((⟨1, 2, x, [], 5, y, [], [], false, false⟩ : S_api_Replica), (37 : Int), L)) ?_ rfl
    unfold replica_Take
    refine bind_of (x := 0) rfl ?_
    rw [if_neg (by decide), if_neg (by simp)]
    unfold replica_Take.j1
    rw [if_neg (by simp)]
    refine bind_of hL ?_
    refine bind_of (x := -1) rfl ?_
    rw [if_pos (by decide)]
    unfold replica_Take.j2
    rw [if_pos rfl]
theorem few17 (r : S_api_Replica) : law17_Few r = some (decide (r.f_Watchers.length ≤ 20 ∧ r.f_Roots.length ≤ 300 ∧ r.f_States.length ≤ 100)) := by
  unfold law17_Few law17_Few.j1
  by_cases a : r.f_Watchers.length ≤ 20
  · rw [if_pos (by simp; omega)]
    by_cases b : r.f_Roots.length ≤ 300
    · rw [if_pos (by simp; omega)]
      by_cases c : r.f_States.length ≤ 100
      · simp [a, b, c]; omega
      · simp [a, b, c]; omega
    · rw [if_neg (by simp; omega)]; simp [b]
  · rw [if_neg (by simp; omega)]; simp [a]
end

section
set_option linter.unusedVariables false

def stP (d : List UInt8) (t : S_api_State) : Bool := decide (t.f_Leaf = d)
noncomputable def stI (l : List S_api_State) (d : List UInt8) : Int := fi (fun i => stP d (l.getD i default)) l.length
theorem state_idx (r : S_api_Replica) (d : List UInt8) (hl : r.f_States.length < 1000000) : replica_state r d = some (stI r.f_States d) := by
  have hg : ∀ t, replica_state_1 t d = some (stP d t) := fun t => rfl
  unfold replica_state
  refine bind_of (x := stI r.f_States d) ?_ rfl
  unfold stI
  generalize r.f_States = l at hl
  unfold slices_IndexFunc_api_State
  obtain ⟨c, h1, h2⟩ := loop_ok (body := fun s : Int => slices_IndexFunc_api_State.b1 l (fun x => replica_state_1 x d) s) (fun s => ∃ i : Nat, i ≤ l.length ∧ s = (i : Int) ∧ fi (fun i => stP d (l.getD i default)) i = -1)
      (fun c => match c with | .next s => fi (fun i => stP d (l.getD i default)) l.length = -1 | .ret r => fi (fun i => stP d (l.getD i default)) l.length = r) (fun s => (l.length - s).toNat)
      (fun s ⟨i, hi, hs, hf⟩ => by
        subst hs
        have e1 : ((i : Nat) : Int).toNat = i := by omega
        by_cases q : i < l.length
        · by_cases w : stP d (l.getD i default) = true
          · refine .inr (.inr ⟨(i : Int), ?_, ?_⟩)
            · show slices_IndexFunc_api_State.b1 l _ (i : Int) = _
              unfold slices_IndexFunc_api_State.b1
              rw [if_pos (by simp; omega), if_pos (by omega), e1]
              refine bind_of (hg _) ?_
              rw [if_pos w]
            · have e2 : fi (fun i => stP d (l.getD i default)) (i + 1) = (i : Int) := by
                rw [fi_succ, hf, if_neg (by decide), if_pos w]
              have := fi_stay (fun i => stP d (l.getD i default)) (i + 1) (by rw [e2]; omega) (l.length - (i + 1))
              rw [show i + 1 + (l.length - (i + 1)) = l.length by omega, e2] at this
              exact this
          · refine .inl ⟨((i + 1 : Nat) : Int), ?_, ⟨i + 1, by omega, rfl, ?_⟩, by simp; omega⟩
            · show slices_IndexFunc_api_State.b1 l _ (i : Int) = _
              unfold slices_IndexFunc_api_State.b1
              rw [if_pos (by simp; omega), if_pos (by omega), e1]
              refine bind_of (hg _) ?_
              rw [if_neg w, w64 (by omega)]
              rfl
            · rw [fi_succ, hf, if_neg (by decide), if_neg w]
        · have : i = l.length := by omega
          subst this
          refine .inr (.inl ⟨(l.length : Int), ?_, hf⟩)
          show slices_IndexFunc_api_State.b1 l _ (l.length : Int) = _
          unfold slices_IndexFunc_api_State.b1
          rw [if_neg (by simp)]) (((l.length : Int) - 0 : Int).toNat + 2) 0 ⟨0, by omega, rfl, rfl⟩ (by simp)
  cases c with
  | ret r =>
    have h2 : fi (fun i => stP d (l.getD i default)) l.length = r := h2
    rw [h2]
    exact bind_of h1 rfl
  | next s =>
    have h2 : fi (fun i => stP d (l.getD i default)) l.length = -1 := h2
    rw [h2]
    exact bind_next h1 rfl
/-- Where all states of a leaf are Done, and there is one, the first one is Done. -/
theorem st_done (y : List S_api_State) (d z : List UInt8) (hy : ∀ s ∈ y, s.f_Leaf = d → s.f_Status = 2) :
    (0 ≤ stI (y ++ [S_api_State.mk d 2 z]) d ∧ stI (y ++ [S_api_State.mk d 2 z]) d < (y ++ [S_api_State.mk d 2 z]).length) ∧ ((y ++ [S_api_State.mk d 2 z]).getD (stI (y ++ [S_api_State.mk d 2 z]) d).toNat default).f_Status = 2 := by
  have hr := fi_range (fun i => stP d ((y ++ [S_api_State.mk d 2 z]).getD i default)) (y ++ [S_api_State.mk d 2 z]).length
  have h0 : 0 ≤ stI (y ++ [S_api_State.mk d 2 z]) d := by
    unfold stI
    have e : (y ++ [S_api_State.mk d 2 z]).length = y.length + 1 := by simp
    rw [e, fi_succ]
    have hg : (y ++ [S_api_State.mk d 2 z]).getD y.length default = S_api_State.mk d 2 z := by simp [List.getD]
    by_cases a : 0 ≤ fi (fun i => stP d ((y ++ [S_api_State.mk d 2 z]).getD i default)) y.length
    · rw [if_pos a]; exact a
    · rw [if_neg a, if_pos (show stP d ((y ++ [S_api_State.mk d 2 z]).getD y.length default) = true by rw [hg]; simp [stP])]
      omega
  have hlt : stI (y ++ [S_api_State.mk d 2 z]) d < (y ++ [S_api_State.mk d 2 z]).length := hr.2
  refine ⟨⟨h0, hlt⟩, ?_⟩
  have ha : stP d ((y ++ [S_api_State.mk d 2 z]).getD (stI (y ++ [S_api_State.mk d 2 z]) d).toNat default) = true := fi_at _ _ h0
  have hL : ((y ++ [S_api_State.mk d 2 z]).getD (stI (y ++ [S_api_State.mk d 2 z]) d).toNat default).f_Leaf = d := of_decide_eq_true ha
  generalize hk : (stI (y ++ [S_api_State.mk d 2 z]) d).toNat = k at hL ⊢
  have hkl : k < (y ++ [S_api_State.mk d 2 z]).length := by omega
  have hm : (y ++ [S_api_State.mk d 2 z]).getD k default ∈ y ++ [S_api_State.mk d 2 z] := by
    have : (y ++ [S_api_State.mk d 2 z]).getD k default = (y ++ [S_api_State.mk d 2 z])[k] := by simp only [List.getD, List.getElem?_eq_getElem hkl, Option.getD_some]
    rw [this]; exact List.getElem_mem _
  rcases List.mem_append.1 hm with q | q
  · exact hy _ q hL
  · rw [List.mem_singleton.1 q]
theorem counts_total (r : S_api_Replica) (d : List UInt8) (now : Int) (hl : r.f_Roots.length < 1000000) : ∃ k, replica_Counts r d now = some k := by
  have h := rt_lt r d
  unfold replica_Counts
  by_cases q : rtI r d < 0
  · exact ⟨31, bind_of (root_idx r d hl) (by rw [if_pos (decide_eq_true q)])⟩
  · by_cases z : now < (r.f_Roots.getD (rtI r d).toNat default).f_At
    · exact ⟨36, bind_of (root_idx r d hl) (by rw [if_neg (by rw [decide_eq_false q]; decide), if_pos ⟨by omega, h.2⟩, if_pos (decide_eq_true z)])⟩
    · exact ⟨0, bind_of (root_idx r d hl) (by rw [if_neg (by rw [decide_eq_false q]; decide), if_pos ⟨by omega, h.2⟩, if_neg (by rw [decide_eq_false z]; decide)])⟩
theorem node_total (L : Option O_Log) {a b : List UInt8} (ha : a.length = 32) (hb : b.length = 32) : ∃ d L', merkle_node L a b = some (d, L') ∧ d.length = 32 := by
  obtain ⟨L', h1, h2⟩ := dOf L 6 (ndSmall ha hb)
  refine ⟨_, L', ?_, ((ndSmall ha hb).H 6).2⟩
  unfold merkle_node
  refine bind_of (x := (H (inp 6 [a, b]), L')) ?_ rfl
  unfold digest_Log_Two
  exact bind_of (dig_eq ha) (bind_of (dig_eq hb) (bind_of h1 rfl))
theorem climb_total (L : Option O_Log) {d : List UInt8} (hd : d.length = 32) (i : Int) {br : List (List UInt8)} (hb : ∀ p ∈ br, p.length = 32) (hl : br.length = 32) : ∃ e L', merkle_Climb L d i br = some (e, L') := by
  have hm : (if (32 : Int) < (br.length : Int) then (32 : Int) else (br.length : Int)) = 32 := by rw [hl]; rfl
  have hw : (br.take (if (32 : Int) < (br.length : Int) then (32 : Int) else (br.length : Int)).toNat).drop (0 : Int).toNat = br := by
    rw [hm]
    show (br.take 32).drop 0 = br
    rw [List.take_of_length_le (by omega)]; rfl
  unfold merkle_Climb
  rw [if_pos (by rw [hm, hl]; decide)]
  obtain ⟨c, h1, h2⟩ := loop_ok (body := fun s : Int × (Option O_Log) × (List UInt8) => merkle_Climb.b1 i br s.1 s.2.1 s.2.2) (fun s => ∃ k : Nat, k ≤ br.length ∧ s.1 = (k : Int) ∧ s.2.2.length = 32) (fun c => match c with | .next _ => True | .ret _ => False) (fun s => (br.length - s.1).toNat)
      (fun s ⟨k, hk, hs, h32⟩ => by
        obtain ⟨s1, s2, s3⟩ := s
        simp only at hs h32
        subst hs
        have e1 : ((k : Nat) : Int).toNat = k := by omega
        by_cases q : k < br.length
        · have hg : (br.getD k default).length = 32 := by
            have : br.getD k default = br[k] := by simp [List.getD, q]
            rw [this]; exact hb _ (List.getElem_mem _)
          by_cases w : bits .and .u32 (shr .u32 i (k : Int)) 1 = (1 : Int)
          · obtain ⟨e, L', n1, n2⟩ := node_total s2 hg h32
            refine .inl ⟨(((k + 1 : Nat) : Int), L', e), ?_, ⟨k + 1, by omega, rfl, n2⟩, by simp; omega⟩
            show merkle_Climb.b1 i br (k : Int) s2 s3 = _
            unfold merkle_Climb.b1
            rw [hw, if_pos (by simp; omega), if_pos (by omega), if_pos (by omega), if_pos (decide_eq_true w), e1]
            refine bind_of n1 ?_
            unfold merkle_Climb.j1
            rw [w64 (by omega)]
            rfl
          · obtain ⟨e, L', n1, n2⟩ := node_total s2 h32 hg
            refine .inl ⟨(((k + 1 : Nat) : Int), L', e), ?_, ⟨k + 1, by omega, rfl, n2⟩, by simp; omega⟩
            show merkle_Climb.b1 i br (k : Int) s2 s3 = _
            unfold merkle_Climb.b1
            rw [hw, if_pos (by simp; omega), if_pos (by omega), if_pos (by omega), if_neg (by rw [decide_eq_false w]; decide), e1]
            refine bind_of n1 ?_
            unfold merkle_Climb.j1
            rw [w64 (by omega)]
            rfl
        · refine .inr (.inl ⟨((k : Int), s2, s3), ?_, trivial⟩)
          show merkle_Climb.b1 i br (k : Int) s2 s3 = _
          unfold merkle_Climb.b1
          rw [hw, if_neg (by simp; omega)]) (((((br.take (if (32 : Int) < (br.length : Int) then (32 : Int) else (br.length : Int)).toNat).drop (0 : Int).toNat).length : Int) - 0 : Int).toNat + 2) (0, L, d) ⟨0, by omega, rfl, hd⟩ (by rw [hw]; simp)
  cases c with
  | ret _ => exact h2.elim
  | next s => exact ⟨s.2.2, s.2.1, bind_next h1 rfl⟩
def ltP (x : S_api_Letter) : List UInt8 := wrd x.f_From ++ wrd x.f_Nonce ++ wrd x.f_To ++ (hd4 (x.f_Sender.length : Int) ++ x.f_Sender) ++ (hd4 (x.f_Receiver.length : Int) ++ x.f_Receiver) ++ (hd4 (x.f_Body.length : Int) ++ x.f_Body)
def LtOk (x : S_api_Letter) : Prop := (0 ≤ x.f_From ∧ x.f_From < 4294967296) ∧ (0 ≤ x.f_Nonce ∧ x.f_Nonce < 4294967296) ∧ (0 ≤ x.f_To ∧ x.f_To < 4294967296) ∧ x.f_Sender.length ≤ 1000 ∧ x.f_Receiver.length ≤ 1000 ∧ x.f_Body.length ≤ 1000
theorem wl4 (i : Int) : (wrd i).length = 4 := by simp [wrd, hd4]
theorem hl4 (i : Int) : (hd4 i).length = 4 := by simp [hd4]
theorem ltP_len {x : S_api_Letter} (h : LtOk x) : (ltP x).length ≤ 3024 := by
  obtain ⟨_, _, _, a, b, c⟩ := h
  simp only [ltP, List.length_append, wl4, hl4]
  omega
theorem ltSmall {x : S_api_Letter} (h : LtOk x) : Small [ltP x] := ⟨fun p hp => by rw [List.mem_singleton.1 hp]; have := ltP_len h; omega, by simp⟩
noncomputable def ltD (x : S_api_Letter) : List UInt8 := H (inp 5 [ltP x])
theorem ltD_len {x : S_api_Letter} (h : LtOk x) : (ltD x).length = 32 := ((ltSmall h).H 5).2
theorem leaf_eq {x : S_api_Letter} (h : LtOk x) : ∃ L, letter_Leaf none x = some (ltD x, L) := by
  have hS := ltSmall h
  obtain ⟨f, n, t, a, b, c⟩ := h
  obtain ⟨L, h1, _⟩ := dOf none 5 hS
  refine ⟨L, ?_⟩
  unfold letter_Leaf
  refine bind_of (x := ltP x) ?_ (bind_of h1 rfl)
  unfold letter_plain
  refine bind_of (wordU f) (bind_of (wordU n) ?_)
  rw [if_pos (by simp only [wl4, mxl]; omega)]
  refine bind_of (wordU t) ?_
  rw [if_pos (by simp only [List.length_append, wl4, mxl]; omega)]
  refine bind_of (text_eq _ (by omega)) ?_
  rw [if_pos (by simp only [List.length_append, wl4, hl4, mxl]; omega)]
  refine bind_of (text_eq _ (by omega)) ?_
  rw [if_pos (by simp only [List.length_append, wl4, hl4, mxl]; omega)]
  refine bind_of (text_eq _ (by omega)) ?_
  rw [if_pos (by simp only [List.length_append, wl4, hl4, mxl]; omega)]
  rfl
theorem rleaf_eq {x : S_api_Letter} (h : LtOk x) : ref09_Leaf none x = some (ltD x, none) := by
  have hS := ltSmall h
  obtain ⟨f, n, t, a, b, c⟩ := h
  unfold ref09_Leaf
  refine bind_of (x := ltP x) ?_ (bind_of (rNone 5 hS) rfl)
  unfold ref09_Plain
  refine bind_of (rword_eq _) (bind_of (rword_eq _) ?_)
  rw [if_pos (by simp only [wl4, mxl]; omega)]
  refine bind_of (rword_eq _) ?_
  rw [if_pos (by simp only [List.length_append, wl4, mxl]; omega)]
  refine bind_of (ref_text _ (by omega)) ?_
  rw [if_pos (by simp only [List.length_append, wl4, hl4, mxl]; omega)]
  refine bind_of (ref_text _ (by omega)) ?_
  rw [if_pos (by simp only [List.length_append, wl4, hl4, mxl]; omega)]
  refine bind_of (ref_text _ (by omega)) ?_
  rw [if_pos (by simp only [List.length_append, wl4, hl4, mxl]; omega)]
  rfl
theorem open_cases (r : S_api_Replica) : (replica_open r = some 0) ∨ ∃ k, k ≠ 0 ∧ replica_open r = some k := by
  unfold replica_open
  by_cases a : r.f_Failed = true
  · exact .inr ⟨30, by decide, by rw [if_pos a]⟩
  · by_cases b : r.f_Cut = true
    · exact .inr ⟨34, by decide, by rw [if_neg a, if_pos b]⟩
    · exact .inl (by rw [if_neg a, if_neg b])
theorem take_done (r : S_api_Replica) (now : Int) {x : S_api_Letter} (h : LtOk x) (hl : r.f_States.length < 1000000) (hi : 0 ≤ stI r.f_States (ltD x) ∧ stI r.f_States (ltD x) < r.f_States.length) (hs : (r.f_States.getD (stI r.f_States (ltD x)).toNat default).f_Status = 2) : ∃ k L, k ≠ 0 ∧ replica_Take none r now x = some (r, k, L) := by
  obtain ⟨L, hL⟩ := leaf_eq h
  unfold replica_Take
  rcases open_cases r with o | ⟨k, k0, o⟩
  · have j1t : replica_Take.j1 none r now x true = some (r, 38, none) := by
      unfold replica_Take.j1
      rw [if_pos rfl]
    have j1f : replica_Take.j1 none r now x false = some (r, 37, L) := by
      unfold replica_Take.j1
      rw [if_neg (by decide)]
      refine bind_of hL (bind_of (state_idx r _ hl) ?_)
      rw [if_neg (by rw [decide_eq_false (show ¬ stI r.f_States (ltD x) < 0 by omega)]; decide), if_pos hi, hs]
      unfold replica_Take.j2
      rw [if_pos (by decide)]
    by_cases a : x.f_To = r.f_Here
    · by_cases b : x.f_From = r.f_Chain
      · refine ⟨37, L, by decide, bind_of o ?_⟩
        rw [if_neg (by decide), if_neg (show ¬ (!decide (x.f_To = r.f_Here)) = true by rw [decide_eq_true a]; decide), decide_eq_true b]
        exact j1f
      · refine ⟨38, none, by decide, bind_of o ?_⟩
        rw [if_neg (by decide), if_neg (show ¬ (!decide (x.f_To = r.f_Here)) = true by rw [decide_eq_true a]; decide), decide_eq_false b]
        exact j1t
    · refine ⟨38, none, by decide, bind_of o ?_⟩
      rw [if_neg (by decide), if_pos (show (!decide (x.f_To = r.f_Here)) = true by rw [decide_eq_false a]; rfl)]
      exact j1t
  · exact ⟨k, none, k0, bind_of o (by rw [if_pos (by simp [k0])])⟩
theorem prove_done (L : Option O_Log) (r : S_api_Replica) (now : Int) {d : List UInt8} (hd : d.length = 32) (i : Int) {br : List (List UInt8)} (hb : ∀ p ∈ br, p.length = 32) (hr : r.f_Roots.length < 1000000) (hl : r.f_States.length < 1000000) (hi : 0 ≤ stI r.f_States d ∧ stI r.f_States d < r.f_States.length) (hs : (r.f_States.getD (stI r.f_States d).toNat default).f_Status = 2) :
    ∃ k L', k ≠ 0 ∧ replica_Prove L r now d i br = some (r, k, L') := by
  unfold replica_Prove
  rcases open_cases r with o | ⟨k, k0, o⟩
  · by_cases a : br.length = 32
    · obtain ⟨e, L', c1⟩ := climb_total L hd i hb a
      obtain ⟨k, c2⟩ := counts_total r e now hr
      by_cases k0 : k = 0
      · refine ⟨37, L', by decide, bind_of o ?_⟩
        rw [if_neg (by decide), if_neg (by simp [a])]
        refine bind_of c1 (bind_of c2 ?_)
        rw [if_neg (by simp [k0])]
        refine bind_of (state_idx r d hl) ?_
        rw [if_pos (decide_eq_true hi.1), if_pos hi, hs]
        unfold replica_Prove.j1
        rw [if_pos (by decide)]
      · refine ⟨k, L', k0, bind_of o ?_⟩
        rw [if_neg (by decide), if_neg (by simp [a])]
        refine bind_of c1 (bind_of c2 ?_)
        rw [if_pos (by simp [k0])]
    · refine ⟨35, L, by decide, bind_of o ?_⟩
      rw [if_neg (by decide), if_pos (by simp; omega)]
  · exact ⟨k, L, k0, bind_of o (by rw [if_pos (by simp [k0])])⟩
theorem replicaOnce_true (r : S_api_Replica) (now : Int) (x : S_api_Letter) (i : Int) (br : List (List UInt8)) (at_ : Int) (hf : InR .u32 x.f_From) (hn : InR .u32 x.f_Nonce) (ht : InR .u32 x.f_To) (hb : ∀ p ∈ br, p.length = 32) : law17_ReplicaOnce r now x i br at_ = some true := by
  have hj : law17_ReplicaOnce.j1 r now x i br true = some true := by
    unfold law17_ReplicaOnce.j1
    rw [if_pos rfl]
  unfold law17_ReplicaOnce
  refine bind_of awake17 ?_
  rw [if_neg (by decide)]
  refine bind_of (few17 r) ?_
  by_cases hfw : r.f_Watchers.length ≤ 20 ∧ r.f_Roots.length ≤ 300 ∧ r.f_States.length ≤ 100
  · rw [if_neg (by rw [decide_eq_true hfw]; decide)]
    obtain ⟨f1, f2, f3⟩ := hfw
    by_cases hc : 100 < br.length
    · rw [if_pos (by simp; omega)]; exact hj
    · rw [if_neg (by simp; omega)]
      generalize hm : (if (if (x.f_Sender.length : Int) < (x.f_Receiver.length : Int) then (x.f_Receiver.length : Int) else (x.f_Sender.length : Int)) < (x.f_Body.length : Int) then (x.f_Body.length : Int) else (if (x.f_Sender.length : Int) < (x.f_Receiver.length : Int) then (x.f_Receiver.length : Int) else (x.f_Sender.length : Int))) = m
      by_cases hmm : 1000 < m
      · rw [decide_eq_true hmm]; exact hj
      · rw [decide_eq_false hmm]
        have hx : LtOk x := by
          refine ⟨inr32 hf, inr32 hn, inr32 ht, ?_, ?_, ?_⟩ <;> (split at hm <;> split at hm <;> omega)
        have hD := ltD_len hx
        unfold law17_ReplicaOnce.j1
        rw [if_neg (by decide)]
        refine bind_of (rleaf_eq hx) ?_
        refine bind_of (x := r) ?_ ?_
        · unfold replica_Twin
          exact bind_of (cloneD _ (by omega)) (bind_of (x := r.f_Roots) (by unfold slices_Clone_api_Timed; rw [if_pos (by omega)]) (bind_of (x := r.f_States) (by unfold slices_Clone_api_State; rw [if_pos (by omega)]) rfl))
        · generalize hd : ltD x = d at hD
          obtain ⟨c, h1, h2⟩ := loop_ok (body := fun s : Int × (List (S_api_State)) => law17_ReplicaOnce.b1 (d, none) r s.1 s.2) (fun s => ∃ k : Nat, k ≤ r.f_States.length ∧ s.1 = (k : Int) ∧ s.2.length = r.f_States.length ∧ ∀ j, j < k → (s.2.getD j default).f_Leaf = d → (s.2.getD j default).f_Status = 2)
              (fun c => match c with | .next s => s.2.length = r.f_States.length ∧ ∀ t ∈ s.2, t.f_Leaf = d → t.f_Status = 2 | .ret _ => False) (fun s => (r.f_States.length - s.1).toNat)
              (fun s ⟨k, hk, hs, hlen, hdone⟩ => by
                obtain ⟨s1, l⟩ := s
                simp only at hs hlen hdone
                subst hs
                have e1 : ((k : Nat) : Int).toNat = k := by omega
                have e2 : IntKind.wrap .i64 ((k : Int) + 1) = ((k + 1 : Nat) : Int) := by rw [w64 (by omega)]; rfl
                by_cases q : k < r.f_States.length
                · by_cases w : (l.getD k default).f_Leaf = d
                  · refine .inl ⟨(((k + 1 : Nat) : Int), l.set k ⟨(l.getD k default).f_Leaf, 2, (l.getD k default).f_Root⟩), ?_, ⟨k + 1, by omega, rfl, by simp [hlen], fun j hj' => ?_⟩, by simp; omega⟩
                    · show law17_ReplicaOnce.b1 (d, none) r (k : Int) l = _
                      unfold law17_ReplicaOnce.b1 law17_ReplicaOnce.j2
                      rw [if_pos (by simp; omega), if_pos (by omega), e1, if_pos (decide_eq_true w), if_pos (by omega), e2]
                    · by_cases e : j = k
                      · subst e
                        intro _
                        simp only [List.getD, List.getElem?_set_self (show j < l.length by omega), Option.getD_some]
                      · have : (l.set k ⟨(l.getD k default).f_Leaf, 2, (l.getD k default).f_Root⟩).getD j default = l.getD j default := by
                          simp only [List.getD, List.getElem?_set_ne (show k ≠ j by omega)]
                        rw [this]
                        exact hdone j (by omega)
                  · refine .inl ⟨(((k + 1 : Nat) : Int), l), ?_, ⟨k + 1, by omega, rfl, hlen, fun j hj' => ?_⟩, by simp; omega⟩
                    · show law17_ReplicaOnce.b1 (d, none) r (k : Int) l = _
                      unfold law17_ReplicaOnce.b1 law17_ReplicaOnce.j2
                      rw [if_pos (by simp; omega), if_pos (by omega), e1, if_neg (by rw [decide_eq_false w]; decide), e2]
                    · by_cases e : j = k
                      · subst e
                        exact fun z => absurd z w
                      · exact hdone j (by omega)
                · refine .inr (.inl ⟨((k : Int), l), ?_, hlen, fun t htm => ?_⟩)
                  · show law17_ReplicaOnce.b1 (d, none) r (k : Int) l = _
                    unfold law17_ReplicaOnce.b1
                    rw [if_neg (by simp; omega)]
                  · obtain ⟨j, hj2, rfl⟩ := List.mem_iff_getElem.1 htm
                    have hj2 : j < l.length := hj2
                    have := hdone j (by omega)
                    rwa [show l.getD j default = l[j] by simp [List.getD, hj2]] at this) (((r.f_States.length : Int) - 0 : Int).toNat + 2) (0, r.f_States) ⟨0, by omega, rfl, rfl, fun j hj => by omega⟩ (by simp)
          cases c with
          | ret _ => exact h2.elim
          | next s =>
            obtain ⟨s1, y⟩ := s
            have h2 : y.length = r.f_States.length ∧ ∀ t ∈ y, t.f_Leaf = d → t.f_Status = 2 := h2
            refine bind_next h1 ?_
            show (if _ then _ else _) = _
            rw [if_pos (by simp [mxl]; omega)]
            obtain ⟨q1, q2⟩ := st_done y d (List.replicate 32 0) h2.2
            generalize hY : y ++ [(S_api_State.mk d 2 (List.replicate 32 0))] = Y at q1 q2
            have hYl : Y.length ≤ 101 := by rw [← hY]; simp; omega
            obtain ⟨k, L, k0, t1⟩ := take_done ⟨r.f_Chain, r.f_Here, r.f_Updater, r.f_Watchers, r.f_Window, r.f_Committed, r.f_Roots, Y, r.f_Failed, r.f_Cut⟩ now hx (by simp only; omega) (by rw [hd]; exact q1) (by rw [hd]; exact q2)
            obtain ⟨k2, L2, k20, t2⟩ := prove_done L ⟨r.f_Chain, r.f_Here, r.f_Updater, r.f_Watchers, r.f_Window, r.f_Committed, r.f_Roots, Y, r.f_Failed, r.f_Cut⟩ now hD i hb (by simp only; omega) (by simp only; omega) q1 q2
            refine bind_of t1 (bind_of t2 ?_)
            refine bind_of (x := ((2 : Int), (Y.getD (stI Y d).toNat default).f_Root)) ?_ ?_
            · unfold replica_Status
              refine bind_of (state_idx _ d (by simp only; omega)) ?_
              show (if decide (stI Y d < 0) = true then _ else if 0 ≤ stI Y d ∧ stI Y d < Y.length then some ((Y.getD (stI Y d).toNat default).f_Status, (Y.getD (stI Y d).toNat default).f_Root) else none) = _
              rw [if_neg (by rw [decide_eq_false (show ¬ stI Y d < 0 by omega)]; decide), if_pos q1, q2]
            · have hS := same17 ⟨r.f_Chain, r.f_Here, r.f_Updater, r.f_Watchers, r.f_Window, r.f_Committed, r.f_Roots, Y, r.f_Failed, r.f_Cut⟩ (by simp only; omega) (by simp only; omega) (by simp only; omega)
              rw [if_pos (by simp [k0]), if_pos (by simp [k20])]
              refine bind_of hS ?_
              rw [if_pos rfl]
              refine bind_of hS ?_
              rw [if_pos rfl]
              rfl
  · rw [if_pos (by rw [decide_eq_false hfw]; rfl)]
    exact hj
end
end Go.Proofs.YtnjkofmmpfehcaaDoorR
