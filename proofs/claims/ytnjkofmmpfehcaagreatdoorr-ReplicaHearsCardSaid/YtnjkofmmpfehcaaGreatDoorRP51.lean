/- Plain laws: P50, P51, as one text. -/
import Derived.Test.YtnjkofmmpfehcaaGreatDoorRP24
import Derived.Test.YtnjkofmmpfehcaaGreatDoorRP33s
namespace Go.Proofs.YtnjkofmmpfehcaaGreatDoorR
open Go Go.RowKit Go.Proofs
section
set_option linter.unusedVariables false

/- The first place of a kind. -/
def fi (P : Nat → Bool) : Nat → Int
  | 0 => -1
  | i + 1 => if 0 ≤ fi P i then fi P i else if P i = true then (i : Int) else -1
theorem fi_succ (P : Nat → Bool) (i : Nat) : fi P (i + 1) = if 0 ≤ fi P i then fi P i else if P i = true then (i : Int) else -1 := rfl
theorem fi_range (P : Nat → Bool) : ∀ n, -1 ≤ fi P n ∧ fi P n < n
  | 0 => by simp [fi]
  | n + 1 => by
    have := fi_range P n
    rw [fi_succ]
    split
    · omega
    · split <;> omega
theorem fi_stay (P : Nat → Bool) (i : Nat) (h : 0 ≤ fi P i) : ∀ k, fi P (i + k) = fi P i
  | 0 => rfl
  | k + 1 => by
    show fi P (i + k + 1) = _
    rw [fi_succ, fi_stay P i h k, if_pos h]
theorem fi_at (P : Nat → Bool) : ∀ n, 0 ≤ fi P n → P (fi P n).toNat = true
  | 0, h => by simp [fi] at h
  | n + 1, h => by
    rw [fi_succ] at h ⊢
    by_cases a : 0 ≤ fi P n
    · rw [if_pos a]; exact fi_at P n a
    · rw [if_neg a] at h ⊢
      by_cases b : P n = true
      · rw [if_pos b]; simpa using b
      · rw [if_neg b] at h; exact absurd h (by decide)
def rtP (d : List UInt8) (t : S_api_Timed) : Bool := decide (t.f_Root = d)
noncomputable def rtI (r : S_api_Replica) (d : List UInt8) : Int := fi (fun i => rtP d (r.f_Roots.getD i default)) r.f_Roots.length
theorem root_idx (r : S_api_Replica) (d : List UInt8) (hl : r.f_Roots.length < 1000000) : replica_root r d = some (rtI r d) := by
  have hg : ∀ t, replica_root_1 t d = some (rtP d t) := fun t => rfl
  unfold replica_root
  refine bind_of (x := rtI r d) ?_ rfl
  unfold rtI
  generalize r.f_Roots = l at hl
  unfold slices_IndexFunc_api_Timed
  obtain ⟨c, h1, h2⟩ := loop_ok (body := fun s : Int => slices_IndexFunc_api_Timed.b1 l (fun x => replica_root_1 x d) s) (fun s => ∃ i : Nat, i ≤ l.length ∧ s = (i : Int) ∧ fi (fun i => rtP d (l.getD i default)) i = -1)
      (fun c => match c with | .next s => fi (fun i => rtP d (l.getD i default)) l.length = -1 | .ret r => fi (fun i => rtP d (l.getD i default)) l.length = r) (fun s => (l.length - s).toNat)
      (fun s ⟨i, hi, hs, hf⟩ => by
        subst hs
        have e1 : ((i : Nat) : Int).toNat = i := by omega
        by_cases q : i < l.length
        · by_cases w : rtP d (l.getD i default) = true
          · refine .inr (.inr ⟨(i : Int), ?_, ?_⟩)
            · show slices_IndexFunc_api_Timed.b1 l _ (i : Int) = _
              unfold slices_IndexFunc_api_Timed.b1
              rw [if_pos (by simp; omega), if_pos (by omega), e1]
              refine bind_of (hg _) ?_
              rw [if_pos w]
            · have e2 : fi (fun i => rtP d (l.getD i default)) (i + 1) = (i : Int) := by
                rw [fi_succ, hf, if_neg (by decide), if_pos w]
              have := fi_stay (fun i => rtP d (l.getD i default)) (i + 1) (by rw [e2]; omega) (l.length - (i + 1))
              rw [show i + 1 + (l.length - (i + 1)) = l.length by omega, e2] at this
              exact this
          · refine .inl ⟨((i + 1 : Nat) : Int), ?_, ⟨i + 1, by omega, rfl, ?_⟩, by simp; omega⟩
            · show slices_IndexFunc_api_Timed.b1 l _ (i : Int) = _
              unfold slices_IndexFunc_api_Timed.b1
              rw [if_pos (by simp; omega), if_pos (by omega), e1]
              refine bind_of (hg _) ?_
              rw [if_neg w, w64 (by omega)]
              rfl
            · rw [fi_succ, hf, if_neg (by decide), if_neg w]
        · have : i = l.length := by omega
          subst this
          refine .inr (.inl ⟨(l.length : Int), ?_, hf⟩)
          show slices_IndexFunc_api_Timed.b1 l _ (l.length : Int) = _
          unfold slices_IndexFunc_api_Timed.b1
          rw [if_neg (by simp)]) (((l.length : Int) - 0 : Int).toNat + 2) 0 ⟨0, by omega, rfl, rfl⟩ (by simp)
  cases c with
  | ret r =>
    have h2 : fi (fun i => rtP d (l.getD i default)) l.length = r := h2
    rw [h2]
    exact bind_of h1 rfl
  | next s =>
    have h2 : fi (fun i => rtP d (l.getD i default)) l.length = -1 := h2
    rw [h2]
    exact bind_next h1 rfl
/-- Whether a root is there, by the document's count. -/
theorem rcounts (r : S_api_Replica) (d : List UInt8) (now : Int) (hl : r.f_Roots.length < 1000000) : ∃ k, ref17_Counts r d now = some k ∧ (k = 31 ↔ rtI r d < 0) := by
  unfold ref17_Counts
  obtain ⟨c, h1, h2⟩ := loop_ok (body := fun s : Int => ref17_Counts.b1 r d now s) (fun s => ∃ i : Nat, i ≤ r.f_Roots.length ∧ s = (i : Int) ∧ fi (fun i => rtP d (r.f_Roots.getD i default)) i = -1)
      (fun c => match c with | .next s => rtI r d < 0 | .ret k => (k = 36 ∨ k = 0) ∧ 0 ≤ rtI r d) (fun s => (r.f_Roots.length - s).toNat)
      (fun s ⟨i, hi, hs, hf⟩ => by
        subst hs
        have e1 : ((i : Nat) : Int).toNat = i := by omega
        by_cases q : i < r.f_Roots.length
        · by_cases w : (r.f_Roots.getD i default).f_Root = d
          · have e2 : fi (fun i => rtP d (r.f_Roots.getD i default)) (i + 1) = (i : Int) := by
              rw [fi_succ, hf, if_neg (by decide), if_pos (by unfold rtP; exact decide_eq_true w)]
            have e3 := fi_stay (fun i => rtP d (r.f_Roots.getD i default)) (i + 1) (by rw [e2]; omega) (r.f_Roots.length - (i + 1))
            rw [show i + 1 + (r.f_Roots.length - (i + 1)) = r.f_Roots.length by omega, e2] at e3
            have e4 : 0 ≤ rtI r d := by unfold rtI; rw [e3]; omega
            by_cases z : now < (r.f_Roots.getD i default).f_At
            · refine .inr (.inr ⟨36, ?_, .inl rfl, e4⟩)
              show ref17_Counts.b1 r d now (i : Int) = _
              unfold ref17_Counts.b1
              rw [if_pos (by simp; omega), if_pos (by omega), e1, if_pos (decide_eq_true w), if_pos (decide_eq_true z)]
            · refine .inr (.inr ⟨0, ?_, .inr rfl, e4⟩)
              show ref17_Counts.b1 r d now (i : Int) = _
              unfold ref17_Counts.b1
              rw [if_pos (by simp; omega), if_pos (by omega), e1, if_pos (decide_eq_true w), if_neg (by rw [decide_eq_false z]; decide)]
          · refine .inl ⟨((i + 1 : Nat) : Int), ?_, ⟨i + 1, by omega, rfl, ?_⟩, by simp; omega⟩
            · show ref17_Counts.b1 r d now (i : Int) = _
              unfold ref17_Counts.b1
              rw [if_pos (by simp; omega), if_pos (by omega), e1, if_neg (by rw [decide_eq_false w]; decide), w64 (by omega)]
              rfl
            · rw [fi_succ, hf, if_neg (by decide), if_neg (by unfold rtP; rw [decide_eq_false w]; decide)]
        · have : i = r.f_Roots.length := by omega
          refine .inr (.inl ⟨(i : Int), ?_, ?_⟩)
          · show ref17_Counts.b1 r d now (i : Int) = _
            unfold ref17_Counts.b1
            rw [if_neg (by simp; omega)]
          · show rtI r d < 0
            unfold rtI
            rw [← this, hf]; decide) (((r.f_Roots.length : Int) - 0 : Int).toNat + 2) 0 ⟨0, by omega, rfl, rfl⟩ (by simp)
  cases c with
  | ret k =>
    have h2 : (k = 36 ∨ k = 0) ∧ 0 ≤ rtI r d := h2
    exact ⟨k, bind_of h1 rfl, by omega⟩
  | next s =>
    have h2 : rtI r d < 0 := h2
    exact ⟨31, bind_next h1 rfl, by simp [h2]⟩
noncomputable def trV (r : S_api_Replica) (u : S_api_Update) : Int :=
  if r.f_Failed = true then 30 else if r.f_Cut = true then 34 else if u.f_Home ≠ r.f_Chain then 38 else if u.f_Old ≠ r.f_Committed then 32 else if rightV r.f_Updater u = false then 21 else 0
theorem trusted_eq (r : S_api_Replica) {u : S_api_Update} (h : UpdW u) : replica_trusted none r u = some (trV r u, none) := by
  obtain ⟨L, a1, a2⟩ := right_eq none r.f_Updater h
  rw [a2 rfl] at a1
  unfold replica_trusted trV
  by_cases h1 : r.f_Failed = true
  · rw [if_pos h1]
    refine bind_of (x := 30) (by unfold replica_open; rw [if_pos h1]) ?_
    rw [if_pos (by decide)]
  rw [if_neg h1]
  by_cases h2 : r.f_Cut = true
  · rw [if_pos h2]
    refine bind_of (x := 34) (by unfold replica_open; rw [if_neg h1, if_pos h2]) ?_
    rw [if_pos (by decide)]
  rw [if_neg h2]
  refine bind_of (x := 0) (by unfold replica_open; rw [if_neg h1, if_neg h2]) ?_
  rw [if_neg (by decide)]
  by_cases h3 : u.f_Home = r.f_Chain
  · rw [if_neg (show ¬ (!decide (u.f_Home = r.f_Chain)) = true by rw [decide_eq_true h3]; decide), if_neg (show ¬ u.f_Home ≠ r.f_Chain from fun q => q h3)]
    by_cases h4 : u.f_Old = r.f_Committed
    · rw [if_neg (show ¬ (!decide (u.f_Old = r.f_Committed)) = true by rw [decide_eq_true h4]; decide), if_neg (show ¬ u.f_Old ≠ r.f_Committed from fun q => q h4)]
      refine bind_of a1 ?_
      cases rightV r.f_Updater u <;> simp
    · rw [if_pos (show (!decide (u.f_Old = r.f_Committed)) = true by rw [decide_eq_false h4]; rfl), if_pos (show u.f_Old ≠ r.f_Committed from h4)]
  · rw [if_pos (show (!decide (u.f_Home = r.f_Chain)) = true by rw [decide_eq_false h3]; rfl), if_pos (show u.f_Home ≠ r.f_Chain from h3)]
/-- The roots behind an update. -/
noncomputable def rtsV (r : S_api_Replica) (d : List UInt8) (at_ : Int) : List S_api_Timed :=
  if 0 ≤ rtI r d then r.f_Roots.set (rtI r d).toNat ⟨d, at_⟩ else r.f_Roots ++ [⟨d, at_⟩]
noncomputable def accV (r : S_api_Replica) (now : Int) (u : S_api_Update) : S_api_Replica × Int :=
  if trV r u ≠ 0 then (r, trV r u) else if rtI r u.f_New < 0 ∧ 256 ≤ r.f_Roots.length then (r, 6) else if 18446744073709551616 ≤ now + r.f_Window then (r, 10) else
    (⟨r.f_Chain, r.f_Here, r.f_Updater, r.f_Watchers, r.f_Window, u.f_New, rtsV r u.f_New (now + r.f_Window), r.f_States, r.f_Failed, r.f_Cut⟩, 0)
theorem rt_at (r : S_api_Replica) (d : List UInt8) (h : 0 ≤ rtI r d) : (r.f_Roots.getD (rtI r d).toNat default).f_Root = d := by
  have := fi_at (fun i => rtP d (r.f_Roots.getD i default)) r.f_Roots.length h
  exact of_decide_eq_true this
theorem rt_lt (r : S_api_Replica) (d : List UInt8) : -1 ≤ rtI r d ∧ rtI r d < r.f_Roots.length := fi_range _ _
theorem accept_eq (r : S_api_Replica) (now : Int) {u : S_api_Update} (h : UpdW u) (hl : r.f_Roots.length ≤ 1000) (hw : 0 ≤ r.f_Window ∧ r.f_Window < 18446744073709551616) (hn : 0 ≤ now ∧ now < 18446744073709551616) :
    replica_Accept none r now u = some ((accV r now u).1, (accV r now u).2, none) := by
  have hr := rt_lt r u.f_New
  have ha := rt_at r u.f_New
  unfold replica_Accept accV
  refine bind_of (trusted_eq r h) ?_
  by_cases h0 : trV r u = 0
  · rw [if_neg (by simp [h0]), if_neg (by simp [h0])]
    refine bind_of (root_idx r u.f_New (by omega)) ?_
    have key : ∀ b : Bool, (b = true ↔ rtI r u.f_New < 0 ∧ 256 ≤ r.f_Roots.length) → replica_Accept.j1 r now u (trV r u, none) (rtI r u.f_New) b = some ((if rtI r u.f_New < 0 ∧ 256 ≤ r.f_Roots.length then (r, 6) else if 18446744073709551616 ≤ now + r.f_Window then (r, 10) else
        ((⟨r.f_Chain, r.f_Here, r.f_Updater, r.f_Watchers, r.f_Window, u.f_New, rtsV r u.f_New (now + r.f_Window), r.f_States, r.f_Failed, r.f_Cut⟩ : S_api_Replica), (0 : Int))).1, (if rtI r u.f_New < 0 ∧ 256 ≤ r.f_Roots.length then (r, 6) else if 18446744073709551616 ≤ now + r.f_Window then (r, 10) else
        ((⟨r.f_Chain, r.f_Here, r.f_Updater, r.f_Watchers, r.f_Window, u.f_New, rtsV r u.f_New (now + r.f_Window), r.f_States, r.f_Failed, r.f_Cut⟩ : S_api_Replica), (0 : Int))).2, none) := by
      intro b hb
      unfold replica_Accept.j1
      by_cases q : rtI r u.f_New < 0 ∧ 256 ≤ r.f_Roots.length
      · rw [if_pos (hb.2 q), if_pos q]
      · rw [if_neg (fun w => q (hb.1 w)), if_neg q]
        unfold amount_Add
        rw [Int.add_zero]
        by_cases z : 18446744073709551616 ≤ now + r.f_Window
        · rw [if_neg (by rw [decide_eq_false (by omega)]; decide)]
          refine bind_of (x := ((0 : Int), (10 : Int))) rfl ?_
          rw [if_pos (by decide), if_pos z]
        · have em : (now + r.f_Window) % 18446744073709551616 = now + r.f_Window := by omega
          rw [if_pos (decide_eq_true (by omega)), em]
          refine bind_of (x := (now + r.f_Window, (0 : Int))) rfl ?_
          rw [if_neg (by simp), if_neg z]
          refine bind_of (x := r.f_Roots) (by unfold slices_Clone_api_Timed; rw [if_pos (by omega)]) ?_
          unfold rtsV replica_Accept.j2
          by_cases y : 0 ≤ rtI r u.f_New
          · rw [if_pos (decide_eq_true y), if_pos ⟨y, hr.2⟩, if_pos y, ha y]
          · rw [if_neg (by rw [decide_eq_false y]; decide), if_pos (by simp [mxl]; omega), if_neg y]
    by_cases y : rtI r u.f_New < 0
    · rw [if_pos (decide_eq_true y)]
      exact key _ (by simp [y]; omega)
    · rw [if_neg (by rw [decide_eq_false y]; decide)]
      exact key _ (by simp [y])
  · rw [if_pos (by simp [h0]), if_pos h0]
theorem rloop (r : S_api_Replica) (u : S_api_Update) (at_ e : Int) (hl : r.f_Roots.length ≤ 1000) :
    ∃ z, loopN (fun s : Bool × Int × (List (S_api_Timed)) => ref17_Accept.b1 r u (at_, e) s.1 s.2.1 s.2.2) (((r.f_Roots.length : Int) - 0 : Int).toNat + 2) (false, 0, []) = some (.next (decide (0 ≤ rtI r u.f_New), z, if 0 ≤ rtI r u.f_New then r.f_Roots.set (rtI r u.f_New).toNat ⟨u.f_New, at_⟩ else r.f_Roots)) := by
  generalize hP : (fun i => rtP u.f_New (r.f_Roots.getD i default)) = P
  have hI : rtI r u.f_New = fi P r.f_Roots.length := by rw [← hP]; rfl
  have hPi : ∀ i, P i = decide ((r.f_Roots.getD i default).f_Root = u.f_New) := fun i => by rw [← hP]; rfl
  let R : Nat → List S_api_Timed := fun i => if 0 ≤ fi P i then (r.f_Roots.take i).set (fi P i).toNat ⟨u.f_New, at_⟩ else r.f_Roots.take i
  have hR : ∀ i, R i = if 0 ≤ fi P i then (r.f_Roots.take i).set (fi P i).toNat ⟨u.f_New, at_⟩ else r.f_Roots.take i := fun i => rfl
  have hlen : ∀ i, i ≤ r.f_Roots.length → (R i).length = i := by
    intro i hi
    rw [hR]
    split <;> simp <;> omega
  obtain ⟨c, h1, h2⟩ := loop_ok (body := fun s : Bool × Int × (List (S_api_Timed)) => ref17_Accept.b1 r u (at_, e) s.1 s.2.1 s.2.2) (fun s => ∃ i : Nat, i ≤ r.f_Roots.length ∧ s = (decide (0 ≤ fi P i), (i : Int), R i))
      (fun c => match c with | .next s => s.1 = decide (0 ≤ fi P r.f_Roots.length) ∧ s.2.2 = R r.f_Roots.length | .ret _ => False) (fun s => (r.f_Roots.length - s.2.1).toNat)
      (fun s ⟨i, hi, hs⟩ => by
        subst hs
        have e1 : ((i : Nat) : Int).toNat = i := by omega
        by_cases q : i < r.f_Roots.length
        · refine .inl ⟨(decide (0 ≤ fi P (i + 1)), ((i + 1 : Nat) : Int), R (i + 1)), ?_, ⟨i + 1, by omega, rfl⟩, by simp; omega⟩
          show ref17_Accept.b1 r u (at_, e) (decide (0 ≤ fi P i)) (i : Int) (R i) = _
          have hPq := hPi i
          have hrg := fi_range P i
          have hL := hlen i hi
          have e2 : IntKind.wrap .i64 ((i : Int) + 1) = ((i + 1 : Nat) : Int) := by rw [w64 (by omega)]; rfl
          have hg : r.f_Roots.getD i default = r.f_Roots[i] := by simp [List.getD, q]
          have ht : r.f_Roots.take (i + 1) = r.f_Roots.take i ++ [r.f_Roots[i]] := List.take_succ_eq_append_getElem q
          have k3 : ∀ (b : Bool) (x : S_api_Timed), ref17_Accept.j3 (i : Int) (R i) b x = some (.cont (b, ((i + 1 : Nat) : Int), R i ++ [x])) := by
            intro b x
            unfold ref17_Accept.j3
            rw [if_pos (by simp [mxl]; omega), e2]
          have stay : ¬ (P i = true ∧ fi P i < 0) → R (i + 1) = R i ++ [r.f_Roots[i]] ∧ fi P (i + 1) = fi P i := by
            intro w
            have ef : fi P (i + 1) = fi P i := by
              rw [fi_succ]
              by_cases a : 0 ≤ fi P i
              · rw [if_pos a]
              · rw [if_neg a, if_neg (fun b => w ⟨b, by omega⟩)]; omega
            refine ⟨?_, ef⟩
            rw [hR, hR, ef, ht]
            by_cases a : 0 ≤ fi P i
            · rw [if_pos a, if_pos a, List.set_append_left _ _ (by simp; omega)]
            · rw [if_neg a, if_neg a]
          unfold ref17_Accept.b1
          rw [if_pos (by simp; omega), if_pos (by omega), e1]
          by_cases w : (r.f_Roots.getD i default).f_Root = u.f_New
          · rw [if_pos (decide_eq_true w)]
            unfold ref17_Accept.j2
            rw [e1]
            by_cases a : 0 ≤ fi P i
            · obtain ⟨s1, s2⟩ := stay (fun z => by omega)
              rw [decide_eq_true a, if_neg (by decide), k3, s1, s2, hg, decide_eq_true a]
            · rw [decide_eq_false a, if_pos (by decide), k3]
              have ef : fi P (i + 1) = (i : Int) := by
                rw [fi_succ, if_neg a, if_pos (by rw [hPq]; exact decide_eq_true w)]
              have hR1 : R (i + 1) = R i ++ [⟨(r.f_Roots.getD i default).f_Root, at_⟩] := by
                rw [hR, hR, ef, if_pos (by omega), if_neg a, e1, ht, w, List.set_append_right _ _ (by simp; omega)]
                have : i - (r.f_Roots.take i).length = 0 := by simp; omega
                rw [this]; rfl
              rw [hR1, ef, decide_eq_true (show (0 : Int) ≤ (i : Int) by omega)]
          · rw [if_neg (by rw [decide_eq_false w]; decide)]
            obtain ⟨s1, s2⟩ := stay (fun z => by rw [hPq] at z; exact w (of_decide_eq_true z.1))
            unfold ref17_Accept.j2
            rw [if_neg (by decide), e1, k3, s1, s2, hg]
        · have : i = r.f_Roots.length := by omega
          subst this
          refine .inr (.inl ⟨(decide (0 ≤ fi P r.f_Roots.length), (r.f_Roots.length : Int), R r.f_Roots.length), ?_, rfl, rfl⟩)
          show ref17_Accept.b1 r u (at_, e) _ (r.f_Roots.length : Int) _ = _
          unfold ref17_Accept.b1
          rw [if_neg (by simp)]) (((r.f_Roots.length : Int) - 0 : Int).toNat + 2) (false, 0, []) ⟨0, by omega, rfl⟩ (by simp)
  cases c with
  | ret k => exact h2.elim
  | next s =>
    have h2 : s.1 = decide (0 ≤ fi P r.f_Roots.length) ∧ s.2.2 = R r.f_Roots.length := h2
    refine ⟨s.2.1, ?_⟩
    rw [h1, hI]
    obtain ⟨a, b, c⟩ := s
    simp only at h2
    rw [h2.1, h2.2, hR, List.take_length]
theorem raccept_eq (r : S_api_Replica) (now : Int) {u : S_api_Update} (h : UpdW u) (hl : r.f_Roots.length ≤ 1000) (hw : 0 ≤ r.f_Window ∧ r.f_Window < 18446744073709551616) (hn : 0 ≤ now ∧ now < 18446744073709551616) :
    ref17_Accept none r now u = some ((accV r now u).1, (accV r now u).2, none) := by
  have a1 := rright0 r.f_Updater h
  obtain ⟨k, k1, k2⟩ := rcounts r u.f_New now (by omega)
  have no : ∀ k : Int, k ≠ 0 → trV r u = k → accV r now u = (r, k) := fun k hk e => by
    unfold accV
    rw [if_pos (show trV r u ≠ 0 by rw [e]; exact hk), e]
  unfold ref17_Accept
  by_cases h1 : r.f_Failed = true
  · rw [if_pos h1, no 30 (by decide) (by unfold trV; rw [if_pos h1])]
  rw [if_neg h1]
  by_cases h2 : r.f_Cut = true
  · rw [if_pos h2, no 34 (by decide) (by unfold trV; rw [if_neg h1, if_pos h2])]
  rw [if_neg h2]
  by_cases h3 : u.f_Home = r.f_Chain
  · rw [if_neg (show ¬ (!decide (u.f_Home = r.f_Chain)) = true by rw [decide_eq_true h3]; decide)]
    by_cases h4 : u.f_Old = r.f_Committed
    · rw [if_neg (show ¬ (!decide (u.f_Old = r.f_Committed)) = true by rw [decide_eq_true h4]; decide)]
      refine bind_of a1 ?_
      have ht : trV r u = if rightV r.f_Updater u = false then 21 else 0 := by
        unfold trV
        rw [if_neg h1, if_neg h2, if_neg (show ¬ u.f_Home ≠ r.f_Chain from fun q => q h3), if_neg (show ¬ u.f_Old ≠ r.f_Committed from fun q => q h4)]
      cases hv : rightV r.f_Updater u with
      | false =>
        rw [no 21 (by decide) (by rw [ht, if_pos hv])]
        rfl
      | true =>
        have h0 : trV r u = 0 := by rw [ht, hv]; rfl
        unfold accV
        rw [if_neg (show ¬ trV r u ≠ 0 from fun q => q h0), if_neg (show ¬ (!(true, (none : Option O_RLog)).1) = true by simp)]
        refine bind_of k1 ?_
        have key : ∀ b : Bool, (b = true ↔ rtI r u.f_New < 0 ∧ 256 ≤ r.f_Roots.length) → ref17_Accept.j1 r now u (true, none) b = some ((if rtI r u.f_New < 0 ∧ 256 ≤ r.f_Roots.length then (r, 6) else if 18446744073709551616 ≤ now + r.f_Window then (r, 10) else
            ((⟨r.f_Chain, r.f_Here, r.f_Updater, r.f_Watchers, r.f_Window, u.f_New, rtsV r u.f_New (now + r.f_Window), r.f_States, r.f_Failed, r.f_Cut⟩ : S_api_Replica), (0 : Int))).1, (if rtI r u.f_New < 0 ∧ 256 ≤ r.f_Roots.length then (r, 6) else if 18446744073709551616 ≤ now + r.f_Window then (r, 10) else
            ((⟨r.f_Chain, r.f_Here, r.f_Updater, r.f_Watchers, r.f_Window, u.f_New, rtsV r u.f_New (now + r.f_Window), r.f_States, r.f_Failed, r.f_Cut⟩ : S_api_Replica), (0 : Int))).2, none) := by
          intro b hb
          unfold ref17_Accept.j1
          by_cases q : rtI r u.f_New < 0 ∧ 256 ≤ r.f_Roots.length
          · rw [if_pos (hb.2 q), if_pos q]
          · rw [if_neg (fun w => q (hb.1 w)), if_neg q]
            unfold ref08_Add
            rw [wu64 (x := 18446744073709551615 - r.f_Window) (by omega)]
            by_cases z : 18446744073709551616 ≤ now + r.f_Window
            · rw [if_pos (decide_eq_true (by omega)), if_pos z]
              refine bind_of (x := ((0 : Int), (10 : Int))) rfl ?_
              rw [if_pos (by decide)]
            · rw [if_neg (by rw [decide_eq_false (by omega)]; decide), if_neg z, wu64 (x := now + r.f_Window) (by omega)]
              refine bind_of (x := (now + r.f_Window, (0 : Int))) rfl ?_
              rw [if_neg (by simp)]
              obtain ⟨y, y1⟩ := rloop r u (now + r.f_Window) 0 hl
              refine bind_next y1 ?_
              unfold rtsV ref17_Accept.j4
              by_cases w : 0 ≤ rtI r u.f_New
              · simp only [if_pos w, decide_eq_true w]
                rw [if_neg (by decide)]
              · simp only [if_neg w, decide_eq_false w]
                rw [if_pos (by decide), if_pos (by simp [mxl]; omega)]
        by_cases y : rtI r u.f_New < 0
        · rw [if_pos (by rw [decide_eq_true (k2.2 y)]; decide)]
          exact key _ (by simp only [y, true_and]; simp; omega)
        · rw [if_neg (by rw [decide_eq_false (fun q => y (k2.1 q))]; decide)]
          exact key _ (by simp [y])
    · rw [if_pos (show (!decide (u.f_Old = r.f_Committed)) = true by rw [decide_eq_false h4]; rfl), no 32 (by decide) (by unfold trV; rw [if_neg h1, if_neg h2, if_neg (show ¬ u.f_Home ≠ r.f_Chain from fun q => q h3), if_pos (show u.f_Old ≠ r.f_Committed from h4)])]
  · rw [if_pos (show (!decide (u.f_Home = r.f_Chain)) = true by rw [decide_eq_false h3]; rfl), no 38 (by decide) (by unfold trV; rw [if_neg h1, if_neg h2, if_pos (show u.f_Home ≠ r.f_Chain from h3)])]
end

section
set_option linter.unusedVariables false

noncomputable def dbdV (r : S_api_Replica) (u v : S_api_Update) : S_api_Replica × Int :=
  if r.f_Failed = true then (r, 30) else if u.f_Home ≠ r.f_Chain then (r, 38) else if dblV r.f_Updater u v = false then (r, 33) else
    (⟨r.f_Chain, r.f_Here, r.f_Updater, r.f_Watchers, r.f_Window, r.f_Committed, r.f_Roots, r.f_States, true, r.f_Cut⟩, 0)
theorem doubled_eq (r : S_api_Replica) {u v : S_api_Update} (hu : UpdW u) (hv : UpdW v) : replica_Doubled none r u v = some ((dbdV r u v).1, (dbdV r u v).2, none) := by
  obtain ⟨L, a1, a2⟩ := double_eq none r.f_Updater hu hv
  rw [a2 rfl] at a1
  unfold replica_Doubled dbdV
  by_cases h1 : r.f_Failed = true
  · rw [if_pos h1, if_pos h1]
  rw [if_neg h1, if_neg h1]
  by_cases h3 : u.f_Home = r.f_Chain
  · rw [if_neg (show ¬ (!decide (u.f_Home = r.f_Chain)) = true by rw [decide_eq_true h3]; decide), if_neg (show ¬ u.f_Home ≠ r.f_Chain from fun q => q h3)]
    refine bind_of a1 ?_
    cases dblV r.f_Updater u v <;> rfl
  · rw [if_pos (show (!decide (u.f_Home = r.f_Chain)) = true by rw [decide_eq_false h3]; rfl), if_pos (show u.f_Home ≠ r.f_Chain from h3)]
theorem rdoubled_eq (r : S_api_Replica) {u v : S_api_Update} (hu : UpdW u) (hv : UpdW v) : ref17_Doubled none r u v = some ((dbdV r u v).1, (dbdV r u v).2, none) := by
  have a1 := rdouble0 r.f_Updater hu hv
  unfold ref17_Doubled dbdV
  by_cases h1 : r.f_Failed = true
  · rw [if_pos h1, if_pos h1]
  rw [if_neg h1, if_neg h1]
  by_cases h3 : u.f_Home = r.f_Chain
  · rw [if_neg (show ¬ (!decide (u.f_Home = r.f_Chain)) = true by rw [decide_eq_true h3]; decide), if_neg (show ¬ u.f_Home ≠ r.f_Chain from fun q => q h3)]
    refine bind_of a1 ?_
    cases dblV r.f_Updater u v <;> rfl
  · rw [if_pos (show (!decide (u.f_Home = r.f_Chain)) = true by rw [decide_eq_false h3]; rfl), if_pos (show u.f_Home ≠ r.f_Chain from h3)]
noncomputable def hltV (r : S_api_Replica) (s : S_api_Stop) : S_api_Replica × Int :=
  if r.f_Cut = true then (r, 34) else if ¬ (s.f_Home = r.f_Chain ∧ s.f_Key = r.f_Updater) then (r, 38) else if ¬ (0 ≤ s.f_Watcher ∧ s.f_Watcher < r.f_Watchers.length) then (r, 14) else
    if haltsV (r.f_Watchers.getD s.f_Watcher.toNat default) s = false then (r, 21) else (⟨r.f_Chain, r.f_Here, r.f_Updater, r.f_Watchers, r.f_Window, r.f_Committed, r.f_Roots, r.f_States, r.f_Failed, true⟩, 0)
theorem halt17_eq (r : S_api_Replica) {s : S_api_Stop} (hs : StopW s) : replica_Halt none r s = some ((hltV r s).1, (hltV r s).2, none) := by
  obtain ⟨L, a1, a2⟩ := halts_eq none (r.f_Watchers.getD s.f_Watcher.toNat default) hs
  rw [a2 rfl] at a1
  unfold replica_Halt hltV
  by_cases h1 : r.f_Cut = true
  · rw [if_pos h1, if_pos h1]
  rw [if_neg h1, if_neg h1]
  by_cases h2 : s.f_Home = r.f_Chain ∧ s.f_Key = r.f_Updater
  · rw [if_neg (show ¬ (!decide (s.f_Home = r.f_Chain)) = true by rw [decide_eq_true h2.1]; decide), decide_eq_true h2.2, if_neg (show ¬ ¬ (s.f_Home = r.f_Chain ∧ s.f_Key = r.f_Updater) from fun q => q h2)]
    unfold replica_Halt.j1
    rw [if_neg (by decide)]
    by_cases h3 : s.f_Watcher < 0
    · rw [if_pos (decide_eq_true h3), if_pos (show ¬ (0 ≤ s.f_Watcher ∧ s.f_Watcher < r.f_Watchers.length) by omega)]
      unfold replica_Halt.j2
      rw [if_pos rfl]
    · rw [if_neg (by rw [decide_eq_false h3]; decide)]
      unfold replica_Halt.j2
      by_cases h4 : s.f_Watcher < r.f_Watchers.length
      · rw [decide_eq_false (show ¬ (r.f_Watchers.length : Int) ≤ s.f_Watcher by omega), if_neg (show ¬ (false = true) by decide), if_pos (show 0 ≤ s.f_Watcher ∧ s.f_Watcher < r.f_Watchers.length by omega), if_neg (show ¬ ¬ (0 ≤ s.f_Watcher ∧ s.f_Watcher < r.f_Watchers.length) by omega)]
        refine bind_of a1 ?_
        cases haltsV (r.f_Watchers.getD s.f_Watcher.toNat default) s <;> rfl
      · rw [decide_eq_true (show (r.f_Watchers.length : Int) ≤ s.f_Watcher by omega), if_pos rfl, if_pos (show ¬ (0 ≤ s.f_Watcher ∧ s.f_Watcher < r.f_Watchers.length) by omega)]
  · rw [if_pos (show ¬ (s.f_Home = r.f_Chain ∧ s.f_Key = r.f_Updater) from h2)]
    have hj : replica_Halt.j1 none r s true = some (r, 38, none) := by
      unfold replica_Halt.j1
      rw [if_pos rfl]
    by_cases h5 : s.f_Home = r.f_Chain
    · rw [if_neg (show ¬ (!decide (s.f_Home = r.f_Chain)) = true by rw [decide_eq_true h5]; decide), decide_eq_false (fun q => h2 ⟨h5, q⟩)]
      exact hj
    · rw [if_pos (show (!decide (s.f_Home = r.f_Chain)) = true by rw [decide_eq_false h5]; rfl)]
      exact hj
theorem rhalt17_eq (r : S_api_Replica) {s : S_api_Stop} (hs : StopW s) (hl : r.f_Watchers.length ≤ 1000) : ref17_Halt none r s = some ((hltV r s).1, (hltV r s).2, none) := by
  unfold ref17_Halt hltV
  by_cases h1 : r.f_Cut = true
  · rw [if_pos h1, if_pos h1]
  rw [if_neg h1, if_neg h1]
  by_cases h2 : s.f_Home = r.f_Chain ∧ s.f_Key = r.f_Updater
  · rw [if_neg (show ¬ (!decide (s.f_Home = r.f_Chain)) = true by rw [decide_eq_true h2.1]; decide), decide_eq_true h2.2, if_neg (show ¬ ¬ (s.f_Home = r.f_Chain ∧ s.f_Key = r.f_Updater) from fun q => q h2)]
    unfold ref17_Halt.j1
    rw [if_neg (by decide)]
    obtain ⟨c, h3, h4⟩ := loop_ok (body := fun z : Int => ref17_Halt.b1 none r s z) (fun z => ∃ i : Nat, i ≤ r.f_Watchers.length ∧ z = (i : Int) ∧ (0 ≤ s.f_Watcher → (i : Int) ≤ s.f_Watcher))
        (fun c => match c with | .next _ => ¬ (0 ≤ s.f_Watcher ∧ s.f_Watcher < r.f_Watchers.length) | .ret k => (0 ≤ s.f_Watcher ∧ s.f_Watcher < r.f_Watchers.length) ∧ k = (if haltsV (r.f_Watchers.getD s.f_Watcher.toNat default) s = false then (r, 21, none) else (⟨r.f_Chain, r.f_Here, r.f_Updater, r.f_Watchers, r.f_Window, r.f_Committed, r.f_Roots, r.f_States, r.f_Failed, true⟩, 0, none))) (fun z => (r.f_Watchers.length - z).toNat)
        (fun z ⟨i, hi, hz, hj⟩ => by
          subst hz
          by_cases q : i < r.f_Watchers.length
          · by_cases w : (i : Int) = s.f_Watcher
            · refine .inr (.inr ⟨_, ?_, by omega, rfl⟩)
              show ref17_Halt.b1 none r s (i : Int) = _
              unfold ref17_Halt.b1
              rw [if_pos (by simp; omega), if_pos (by omega), if_pos (decide_eq_true w), w]
              refine bind_of (rhalts0 _ hs) ?_
              cases haltsV (r.f_Watchers.getD s.f_Watcher.toNat default) s <;> rfl
            · refine .inl ⟨((i + 1 : Nat) : Int), ?_, ⟨i + 1, by omega, rfl, fun z => by have := hj z; omega⟩, by simp; omega⟩
              show ref17_Halt.b1 none r s (i : Int) = _
              unfold ref17_Halt.b1
              rw [if_pos (by simp; omega), if_pos (by omega), if_neg (by rw [decide_eq_false w]; decide), w64 (by omega)]
              rfl
          · refine .inr (.inl ⟨(i : Int), ?_, ?_⟩)
            · show ref17_Halt.b1 none r s (i : Int) = _
              unfold ref17_Halt.b1
              rw [if_neg (by simp; omega)]
            · show ¬ (0 ≤ s.f_Watcher ∧ s.f_Watcher < r.f_Watchers.length)
              intro ⟨z1, z2⟩
              have := hj z1
              omega) (((r.f_Watchers.length : Int) - 0 : Int).toNat + 2) 0 ⟨0, by omega, rfl, fun z => by simpa using z⟩ (by simp)
    cases c with
    | ret k =>
      have h4 : (0 ≤ s.f_Watcher ∧ s.f_Watcher < r.f_Watchers.length) ∧ k = (if haltsV (r.f_Watchers.getD s.f_Watcher.toNat default) s = false then (r, 21, none) else (⟨r.f_Chain, r.f_Here, r.f_Updater, r.f_Watchers, r.f_Window, r.f_Committed, r.f_Roots, r.f_States, r.f_Failed, true⟩, 0, none)) := h4
      rw [if_neg (show ¬ ¬ (0 ≤ s.f_Watcher ∧ s.f_Watcher < r.f_Watchers.length) from fun q => q h4.1)]
      refine bind_of h3 ?_
      show some k = _
      rw [h4.2]
      cases haltsV (r.f_Watchers.getD s.f_Watcher.toNat default) s <;> rfl
    | next z =>
      have h4 : ¬ (0 ≤ s.f_Watcher ∧ s.f_Watcher < r.f_Watchers.length) := h4
      rw [if_pos (show ¬ (0 ≤ s.f_Watcher ∧ s.f_Watcher < r.f_Watchers.length) from h4)]
      exact bind_next h3 rfl
  · rw [if_pos (show ¬ (s.f_Home = r.f_Chain ∧ s.f_Key = r.f_Updater) from h2)]
    have hj : ref17_Halt.j1 none r s true = some (r, 38, none) := by
      unfold ref17_Halt.j1
      rw [if_pos rfl]
    by_cases h5 : s.f_Home = r.f_Chain
    · rw [if_neg (show ¬ (!decide (s.f_Home = r.f_Chain)) = true by rw [decide_eq_true h5]; decide), decide_eq_false (fun q => h2 ⟨h5, q⟩)]
      exact hj
    · rw [if_pos (show (!decide (s.f_Home = r.f_Chain)) = true by rw [decide_eq_false h5]; rfl)]
      exact hj
theorem same17 (r : S_api_Replica) (h1 : r.f_Watchers.length < 1000000) (h2 : r.f_Roots.length < 1000000) (h3 : r.f_States.length < 1000000) : ref17_Same r r = some true := by
  have hj : ref17_Same.j1 r r false = some true := by
    unfold ref17_Same.j1
    rw [if_neg (by decide)]
    obtain ⟨c, k1, k2⟩ := loop_ok (body := fun s : Int => ref17_Same.b1 r r s) (fun s => ∃ i : Nat, i ≤ r.f_Roots.length ∧ s = (i : Int)) (fun c => match c with | .next _ => True | .ret _ => False) (fun s => (r.f_Roots.length - s).toNat)
      (fun s ⟨i, hi, hs⟩ => by
        subst hs
        by_cases q : i < r.f_Roots.length
        · refine .inl ⟨((i + 1 : Nat) : Int), ?_, ⟨i + 1, by omega, rfl⟩, by simp; omega⟩
          show ref17_Same.b1 r r (i : Int) = _
          unfold ref17_Same.b1
          rw [if_pos (by simp; omega), if_pos (by omega), if_pos (by omega), if_neg (by simp), w64 (by omega)]
          rfl
        · refine .inr (.inl ⟨(i : Int), ?_, trivial⟩)
          show ref17_Same.b1 r r (i : Int) = _
          unfold ref17_Same.b1
          rw [if_neg (by simp; omega)]) (((r.f_Roots.length : Int) - 0 : Int).toNat + 2) 0 ⟨0, by omega, rfl⟩ (by simp)
    obtain ⟨d, m1, m2⟩ := loop_ok (body := fun s : Int => ref17_Same.b2 r r s) (fun s => ∃ i : Nat, i ≤ r.f_States.length ∧ s = (i : Int)) (fun c => match c with | .next _ => True | .ret _ => False) (fun s => (r.f_States.length - s).toNat)
      (fun s ⟨i, hi, hs⟩ => by
        subst hs
        by_cases q : i < r.f_States.length
        · refine .inl ⟨((i + 1 : Nat) : Int), ?_, ⟨i + 1, by omega, rfl⟩, by simp; omega⟩
          show ref17_Same.b2 r r (i : Int) = _
          unfold ref17_Same.b2
          rw [if_pos (by simp; omega), if_pos (by omega), if_pos (by omega), if_neg (by simp), w64 (by omega)]
          rfl
        · refine .inr (.inl ⟨(i : Int), ?_, trivial⟩)
          show ref17_Same.b2 r r (i : Int) = _
          unfold ref17_Same.b2
          rw [if_neg (by simp; omega)]) (((r.f_States.length : Int) - 0 : Int).toNat + 2) 0 ⟨0, by omega, rfl⟩ (by simp)
    cases c with
    | ret _ => exact k2.elim
    | next _ =>
      refine bind_next k1 ?_
      cases d with
      | ret _ => exact m2.elim
      | next _ => exact bind_next m1 rfl
  unfold ref17_Same
  rw [if_neg (by simp), if_neg (by simp), if_neg (by simp), if_neg (by simp), if_neg (by simp), if_neg (by simp), if_neg (by simp)]
  refine bind_of (x := true) ((sameL _ _ h1).trans (by simp)) ?_
  rw [if_neg (by decide), if_neg (by simp)]
  simpa using hj
theorem cloneD (l : List (List UInt8)) (h : l.length ≤ 1000000) : slices_Clone_api_Digest l = some l := by
  unfold slices_Clone_api_Digest
  rw [if_pos (by omega)]
theorem leaf_total : ∃ d L, letter_Leaf none (S_api_Letter.mk 1 (0 : Int) 2 [] [] []) = some (d, L) := by
  have w : ∀ x : Int, 0 ≤ x ∧ x < 4294967296 → wire_Word x = some (wrd x) := fun x h => wordU h
  have t : wire_Text [] = some (hd4 ((0 : Nat) : Int)) := (text_eq [] (by simp)).trans (by simp)
  have hp : letter_plain (S_api_Letter.mk 1 (0 : Int) 2 [] [] []) = some (wrd 1 ++ wrd 0 ++ wrd 2 ++ hd4 ((0 : Nat) : Int) ++ hd4 ((0 : Nat) : Int) ++ hd4 ((0 : Nat) : Int)) := by
    unfold letter_plain
    refine bind_of (w 1 (by omega)) (bind_of (w 0 (by omega)) ?_)
    rw [if_pos (by simp [wrd, hd4, mxl])]
    refine bind_of (w 2 (by omega)) ?_
    rw [if_pos (by simp [wrd, hd4, mxl])]
    refine bind_of t ?_
    rw [if_pos (by simp [wrd, hd4, mxl])]
    refine bind_of t ?_
    rw [if_pos (by simp [wrd, hd4, mxl])]
    refine bind_of t ?_
    rw [if_pos (by simp [wrd, hd4, mxl])]
  have hS : Small [wrd 1 ++ wrd 0 ++ wrd 2 ++ hd4 ((0 : Nat) : Int) ++ hd4 ((0 : Nat) : Int) ++ hd4 ((0 : Nat) : Int)] := ⟨fun p hp => by rw [List.mem_singleton.1 hp]; simp [wrd, hd4], by simp⟩
  obtain ⟨L, a1, a2⟩ := dOf none 5 hS
  exact ⟨_, _, by unfold letter_Leaf; exact bind_of hp (bind_of a1 rfl)⟩
theorem awake17 : law17_awake = some true := by
  obtain ⟨d, L, hL⟩ := leaf_total
  unfold law17_awake
  refine bind_of (x := (⟨1, 2, ([u8of 1] ++ List.replicate (32 - 1) 0), [], 5, List.replicate 32 0, [], [], false, false⟩ : S_api_Replica)) ?_ ?_
  · unfold replica_New
    exact bind_of (cloneD [] (by simp)) rfl
  · generalize ([u8of 1] ++ List.replicate (32 - 1) 0 : List UInt8) = x
    generalize (List.replicate 32 0 : List UInt8) = y
    refine bind_of (x := ((⟨1, 2, x, [], 5, y, [], [], false, false⟩ : S_api_Replica), (37 : Int), L)) ?_ rfl
    unfold replica_Take
    refine bind_of (x := 0) rfl ?_
    rw [if_neg (by decide), if_neg (by simp)]
    unfold replica_Take.j1
    rw [if_neg (by simp)]
    refine bind_of hL ?_
    refine bind_of (x := -1) rfl ?_
    rw [if_pos (by decide)]
    unfold replica_Take.j2
    rw [if_pos rfl]
theorem short17 (s : S_api_Sig) : ∃ b, law17_short s = some b := by
  unfold law17_short law17_short.j1
  split
  · split <;> exact ⟨_, rfl⟩
  · exact ⟨_, rfl⟩
theorem few17 (r : S_api_Replica) : law17_Few r = some (decide (r.f_Watchers.length ≤ 20 ∧ r.f_Roots.length ≤ 300 ∧ r.f_States.length ≤ 100)) := by
  unfold law17_Few law17_Few.j1
  by_cases a : r.f_Watchers.length ≤ 20
  · rw [if_pos (by simp; omega)]
    by_cases b : r.f_Roots.length ≤ 300
    · rw [if_pos (by simp; omega)]
      by_cases c : r.f_States.length ≤ 100
      · simp [a, b, c]; omega
      · simp [a, b, c]; omega
    · rw [if_neg (by simp; omega)]; simp [b]
  · rw [if_neg (by simp; omega)]; simp [a]
theorem rng64 {x : Int} (h : InR .u64 x) : 0 ≤ x ∧ x < 18446744073709551616 := by
  have h1 := h.1
  have h2 := h.2
  simp [IntKind.min, IntKind.max, IntKind.bits, IntKind.signed] at h1 h2
  omega
theorem replicaHears_true (r : S_api_Replica) (now : Int) (u v : S_api_Update) (s : S_api_Stop) (hw : InR .u64 r.f_Window) (hn : InR .u64 now) (hu : UpdW u) (hv : UpdW v) (hs : StopW s) : law17_ReplicaHears r now u v s = some true := by
  have hj : law17_ReplicaHears.j1 r now u v s true = some true := by
    unfold law17_ReplicaHears.j1
    rw [if_pos rfl]
  unfold law17_ReplicaHears
  refine bind_of awake17 ?_
  rw [if_neg (by decide)]
  refine bind_of (few17 r) ?_
  by_cases hf : r.f_Watchers.length ≤ 20 ∧ r.f_Roots.length ≤ 300 ∧ r.f_States.length ≤ 100
  · rw [if_neg (by simp [hf])]
    obtain ⟨b1, e1⟩ := short17 u.f_Sig
    obtain ⟨b2, e2⟩ := short17 v.f_Sig
    obtain ⟨b3, e3⟩ := short17 s.f_Sig
    obtain ⟨f1, f2, f3⟩ := hf
    have main : law17_ReplicaHears.j1 r now u v s false = some true := by
      have A := accept_eq r now hu (by omega) (rng64 hw) (rng64 hn)
      have B := raccept_eq r now hu (by omega) (rng64 hw) (rng64 hn)
      have hA : (accV r now u).1.f_Watchers.length < 1000000 ∧ (accV r now u).1.f_Roots.length < 1000000 ∧ (accV r now u).1.f_States.length < 1000000 := by
        unfold accV
        split
        · exact ⟨by simp only; omega, by simp only; omega, by simp only; omega⟩
        · split
          · exact ⟨by simp only; omega, by simp only; omega, by simp only; omega⟩
          · split
            · exact ⟨by simp only; omega, by simp only; omega, by simp only; omega⟩
            · refine ⟨by simp only; omega, ?_, by simp only; omega⟩
              simp only [rtsV]
              split <;> simp <;> omega
      have hD : (dbdV r u v).1.f_Watchers.length < 1000000 ∧ (dbdV r u v).1.f_Roots.length < 1000000 ∧ (dbdV r u v).1.f_States.length < 1000000 := by
        unfold dbdV
        split
        · exact ⟨by simp only; omega, by simp only; omega, by simp only; omega⟩
        · split
          · exact ⟨by simp only; omega, by simp only; omega, by simp only; omega⟩
          · split <;> exact ⟨by simp only; omega, by simp only; omega, by simp only; omega⟩
      have hH : (hltV r s).1.f_Watchers.length < 1000000 ∧ (hltV r s).1.f_Roots.length < 1000000 ∧ (hltV r s).1.f_States.length < 1000000 := by
        unfold hltV
        split
        · exact ⟨by simp only; omega, by simp only; omega, by simp only; omega⟩
        · split
          · exact ⟨by simp only; omega, by simp only; omega, by simp only; omega⟩
          · split
            · exact ⟨by simp only; omega, by simp only; omega, by simp only; omega⟩
            · split <;> exact ⟨by simp only; omega, by simp only; omega, by simp only; omega⟩
      unfold law17_ReplicaHears.j1
      rw [if_neg (by decide)]
      refine bind_of (x := r) ?_ ?_
      · unfold replica_Twin
        exact bind_of (cloneD _ (by omega)) (bind_of (x := r.f_Roots) (by unfold slices_Clone_api_Timed; rw [if_pos (by omega)]) (bind_of (x := r.f_States) (by unfold slices_Clone_api_State; rw [if_pos (by omega)]) rfl))
      refine bind_of A (bind_of B (bind_of (doubled_eq r hu hv) (bind_of (rdoubled_eq r hu hv) (bind_of (halt17_eq r hs) (bind_of (rhalt17_eq r hs (by omega)) ?_)))))
      refine bind_of (x := (⟨r.f_Chain, r.f_Here, r.f_Updater, r.f_Watchers, now, u.f_Old, [], [], false, false⟩ : S_api_Replica)) (by unfold replica_New; exact bind_of (cloneD _ (by omega)) rfl) ?_
      refine bind_of (same17 _ hA.1 hA.2.1 hA.2.2) ?_
      rw [if_pos rfl, if_pos (by simp)]
      refine bind_of (same17 _ hD.1 hD.2.1 hD.2.2) ?_
      rw [if_pos rfl, if_pos (by simp)]
      refine bind_of (same17 _ hH.1 hH.2.1 hH.2.2) ?_
      rw [if_pos rfl, if_pos (by simp)]
      refine bind_of (same17 r (by omega) (by omega) (by omega)) ?_
      rw [if_pos rfl]
      refine bind_of (x := (⟨r.f_Chain, r.f_Here, r.f_Updater, r.f_Watchers, now, u.f_Old, [], [], false, false⟩ : S_api_Replica)) (by unfold ref17_New; rw [if_pos (by simp [mxl]; omega)]; rfl) ?_
      exact bind_of (same17 _ (by simp only; omega) (by simp) (by simp)) rfl
    refine bind_of e1 ?_
    cases b1 with
    | false => exact hj
    | true =>
      rw [if_neg (by decide)]
      refine bind_of e2 ?_
      cases b2 with
      | false => exact hj
      | true =>
        rw [if_neg (by decide)]
        refine bind_of e3 ?_
        cases b3 with
        | false => exact hj
        | true => exact main
  · rw [if_pos (by rw [decide_eq_false hf]; rfl)]
    exact hj
end
end Go.Proofs.YtnjkofmmpfehcaaGreatDoorR
