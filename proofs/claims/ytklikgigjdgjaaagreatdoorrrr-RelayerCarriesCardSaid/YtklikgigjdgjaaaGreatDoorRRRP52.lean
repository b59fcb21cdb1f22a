/- Plain laws: P50, P51, P52, as one text. -/
import Derived.Test.YtklikgigjdgjaaaGreatDoorRRRP24
import Derived.Test.YtklikgigjdgjaaaGreatDoorRRRP33t
namespace Go.Proofs.YtklikgigjdgjaaaGreatDoorRRR
open Go Go.RowKit Go.Proofs
section
set_option linter.unusedVariables false

/- The first place of a kind. -/
def fi (P : Nat → Bool) : Nat → Int
  | 0 => -1
  | i + 1 => if 0 ≤ fi P i then fi P i else if P i = true then (i : Int) else -1
theorem fi_succ (P : Nat → Bool) (i : Nat) : fi P (i + 1) = if 0 ≤ fi P i then fi P i else if P i = true then (i : Int) else -1 := rfl
theorem fi_range (P : Nat → Bool) : ∀ n, -1 ≤ fi P n ∧ fi P n < n
  | 0 => by simp [fi]
  | n + 1 => by
    have := fi_range P n
    rw [fi_succ]
    split
    · omega
    · split <;> omega
theorem fi_stay (P : Nat → Bool) (i : Nat) (h : 0 ≤ fi P i) : ∀ k, fi P (i + k) = fi P i
  | 0 => rfl
  | k + 1 => by
    show fi P (i + k + 1) = _
    rw [fi_succ, fi_stay P i h k, if_pos h]
theorem fi_at (P : Nat → Bool) : ∀ n, 0 ≤ fi P n → P (fi P n).toNat = true
  | 0, h => by simp [fi] at h
  | n + 1, h => by
    rw [fi_succ] at h ⊢
    by_cases a : 0 ≤ fi P n
    · rw [if_pos a]; exact fi_at P n a
    · rw [if_neg a] at h ⊢
      by_cases b : P n = true
      · rw [if_pos b]; simpa using b
      · rw [if_neg b] at h; exact absurd h (by decide)
def rtP (d : List UInt8) (t : S_api_Timed) : Bool := decide (t.f_Root = d)
noncomputable def rtI (r : S_api_Replica) (d : List UInt8) : Int := fi (fun i => rtP d (r.f_Roots.getD i default)) r.f_Roots.length
theorem root_idx (r : S_api_Replica) (d : List UInt8) (hl : r.f_Roots.length < 1000000) : replica_root r d = some (rtI r d) := by
  have hg : ∀ t, replica_root_1 t d = some (rtP d t) := fun t => rfl
  unfold replica_root
  refine bind_of (x := rtI r d) ?_ rfl
  unfold rtI
  generalize r.f_Roots = l at hl
  unfold slices_IndexFunc_api_Timed
  obtain ⟨c, h1, h2⟩ := loop_ok (body := fun s : Int => slices_IndexFunc_api_Timed.b1 l (fun x => replica_root_1 x d) s) (fun s => ∃ i : Nat, i ≤ l.length ∧ s = (i : Int) ∧ fi (fun i => rtP d (l.getD i default)) i = -1)
      (fun c => match c with | .next s => fi (fun i => rtP d (l.getD i default)) l.length = -1 | .ret r => fi (fun i => rtP d (l.getD i default)) l.length = r) (fun s => (l.length - s).toNat)
      (fun s ⟨i, hi, hs, hf⟩ => by
        subst hs
        have e1 : ((i : Nat) : Int).toNat = i := by omega
        by_cases q : i < l.length
        · by_cases w : rtP d (l.getD i default) = true
          · refine .inr (.inr ⟨(i : Int), ?_, ?_⟩)
            · show slices_IndexFunc_api_Timed.b1 l _ (i : Int) = _
              unfold slices_IndexFunc_api_Timed.b1
              rw [if_pos (by simp; omega), if_pos (by omega), e1]
              refine bind_of (hg _) ?_
              rw [if_pos w]
            · have e2 : fi (fun i => rtP d (l.getD i default)) (i + 1) = (i : Int) := by
                rw [fi_succ, hf, if_neg (by decide), if_pos w]
              have := fi_stay (fun i => rtP d (l.getD i default)) (i + 1) (by rw [e2]; omega) (l.length - (i + 1))
              rw [show i + 1 + (l.length - (i + 1)) = l.length by omega, e2] at this
              exact this
          · refine .inl ⟨((i + 1 : Nat) : Int), ?_, ⟨i + 1, by omega, rfl, ?_⟩, by simp; omega⟩
            · show slices_IndexFunc_api_Timed.b1 l _ (i : Int) = _
              unfold slices_IndexFunc_api_Timed.b1
              rw [if_pos (by simp; omega), if_pos (by omega), e1]
              refine bind_of (hg _) ?_
              rw [if_neg w, w64 (by omega)]
              rfl
            · rw [fi_succ, hf, if_neg (by decide), if_neg w]
        · have : i = l.length := by omega
          subst this
          refine .inr (.inl ⟨(l.length : Int), ?_, hf⟩)
          show slices_IndexFunc_api_Timed.b1 l _ (l.length : Int) = _
          unfold slices_IndexFunc_api_Timed.b1
          rw [if_neg (by simp)]) (((l.length : Int) - 0 : Int).toNat + 2) 0 ⟨0, by omega, rfl, rfl⟩ (by simp)
  cases c with
  | ret r =>
    have h2 : fi (fun i => rtP d (l.getD i default)) l.length = r := h2
    rw [h2]
    exact bind_of h1 rfl
  | next s =>
    have h2 : fi (fun i => rtP d (l.getD i default)) l.length = -1 := h2
    rw [h2]
    exact bind_next h1 rfl
noncomputable def trV (r : S_api_Replica) (u : S_api_Update) : Int :=
  if r.f_Failed = true then 30 else if r.f_Cut = true then 34 else if u.f_Home ≠ r.f_Chain then 38 else if u.f_Old ≠ r.f_Committed then 32 else if rightV r.f_Updater u = false then 21 else 0
theorem trusted_eq (r : S_api_Replica) {u : S_api_Update} (h : UpdW u) : replica_trusted none r u = some (trV r u, none) := by
  obtain ⟨L, a1, a2⟩ := right_eq none r.f_Updater h
  rw [a2 rfl] at a1
  unfold replica_trusted trV
  by_cases h1 : r.f_Failed = true
  · rw [if_pos h1]
    refine bind_of (x := 30) (by unfold replica_open; rw [if_pos h1]) ?_
    rw [if_pos (by decide)]
  rw [if_neg h1]
  by_cases h2 : r.f_Cut = true
  · rw [if_pos h2]
    refine bind_of (x := 34) (by unfold replica_open; rw [if_neg h1, if_pos h2]) ?_
    rw [if_pos (by decide)]
  rw [if_neg h2]
  refine bind_of (x := 0) (by unfold replica_open; rw [if_neg h1, if_neg h2]) ?_
  rw [if_neg (by decide)]
  by_cases h3 : u.f_Home = r.f_Chain
  · rw [if_neg (show ¬ (!decide (u.f_Home = r.f_Chain)) = true by rw [decide_eq_true h3]; decide), if_neg (show ¬ u.f_Home ≠ r.f_Chain from fun q => q h3)]
    by_cases h4 : u.f_Old = r.f_Committed
    · rw [if_neg (show ¬ (!decide (u.f_Old = r.f_Committed)) = true by rw [decide_eq_true h4]; decide), if_neg (show ¬ u.f_Old ≠ r.f_Committed from fun q => q h4)]
      refine bind_of a1 ?_
      cases rightV r.f_Updater u <;> simp
    · rw [if_pos (show (!decide (u.f_Old = r.f_Committed)) = true by rw [decide_eq_false h4]; rfl), if_pos (show u.f_Old ≠ r.f_Committed from h4)]
  · rw [if_pos (show (!decide (u.f_Home = r.f_Chain)) = true by rw [decide_eq_false h3]; rfl), if_pos (show u.f_Home ≠ r.f_Chain from h3)]
/-- The roots behind an update. -/
noncomputable def rtsV (r : S_api_Replica) (d : List UInt8) (at_ : Int) : List S_api_Timed :=
  if 0 ≤ rtI r d then r.f_Roots.set (rtI r d).toNat ⟨d, at_⟩ else r.f_Roots ++ [⟨d, at_⟩]
noncomputable def accV (r : S_api_Replica) (now : Int) (u : S_api_Update) : S_api_Replica × Int :=
  if trV r u ≠ 0 then (r, trV r u) else if rtI r u.f_New < 0 ∧ 256 ≤ r.f_Roots.length then (r, 6) else if 18446744073709551616 ≤ now + r.f_Window then (r, 10) else
    (⟨r.f_Chain, r.f_Here, r.f_Updater, r.f_Watchers, r.f_Window, u.f_New, rtsV r u.f_New (now + r.f_Window), r.f_States, r.f_Failed, r.f_Cut⟩, 0)
theorem rt_at (r : S_api_Replica) (d : List UInt8) (h : 0 ≤ rtI r d) : (r.f_Roots.getD (rtI r d).toNat default).f_Root = d := by
  have := fi_at (fun i => rtP d (r.f_Roots.getD i default)) r.f_Roots.length h
  exact of_decide_eq_true this
theorem rt_lt (r : S_api_Replica) (d : List UInt8) : -1 ≤ rtI r d ∧ rtI r d < r.f_Roots.length := fi_range _ _
theorem accept_eq (r : S_api_Replica) (now : Int) {u : S_api_Update} (h : UpdW u) (hl : r.f_Roots.length ≤ 1000) (hw : 0 ≤ r.f_Window ∧ r.f_Window < 18446744073709551616) (hn : 0 ≤ now ∧ now < 18446744073709551616) :
    replica_Accept none r now u = some ((accV r now u).1, (accV r now u).2, none) := by
  have hr := rt_lt r u.f_New
  have ha := rt_at r u.f_New
  unfold replica_Accept accV
  refine bind_of (trusted_eq r h) ?_
  by_cases h0 : trV r u = 0
  · rw [if_neg (by simp [h0]), if_neg (by simp [h0])]
    refine bind_of (root_idx r u.f_New (by omega)) ?_
    have key : ∀ b : Bool, (b = true ↔ rtI r u.f_New < 0 ∧ 256 ≤ r.f_Roots.length) → replica_Accept.j1 r now u (trV r u, none) (rtI r u.f_New) b = some ((if rtI r u.f_New < 0 ∧ 256 ≤ r.f_Roots.length then (r, 6) else if 18446744073709551616 ≤ now + r.f_Window then (r, 10) else
        ((⟨r.f_Chain, r.f_Here, r.f_Updater, r.f_Watchers, r.f_Window, u.f_New, rtsV r u.f_New (now + r.f_Window), r.f_States, r.f_Failed, r.f_Cut⟩ : S_api_Replica), (0 : Int))).1, (if rtI r u.f_New < 0 ∧ 256 ≤ r.f_Roots.length then (r, 6) else if 18446744073709551616 ≤ now + r.f_Window then (r, 10) else
        ((⟨r.f_Chain, r.f_Here, r.f_Updater, r.f_Watchers, r.f_Window, u.f_New, rtsV r u.f_New (now + r.f_Window), r.f_States, r.f_Failed, r.f_Cut⟩ : S_api_Replica), (0 : Int))).2, none) := by
      intro b hb
      unfold replica_Accept.j1
      by_cases q : rtI r u.f_New < 0 ∧ 256 ≤ r.f_Roots.length
      · rw [if_pos (hb.2 q), if_pos q]
      · rw [if_neg (fun w => q (hb.1 w)), if_neg q]
        unfold amount_Add
        rw [Int.add_zero]
        by_cases z : 18446744073709551616 ≤ now + r.f_Window
        · rw [if_neg (by rw [decide_eq_false (by omega)]; decide)]
          refine bind_of (x := ((0 : Int), (10 : Int))) rfl ?_
          rw [if_pos (by decide), if_pos z]
        · have em : (now + r.f_Window) % 18446744073709551616 = now + r.f_Window := by omega
          rw [if_pos (decide_eq_true (by omega)), em]
          refine bind_of (x := (now + r.f_Window, (0 : Int))) rfl ?_
          rw [if_neg (by simp), if_neg z]
          refine bind_of (x := r.f_Roots) (by unfold slices_Clone_api_Timed; rw [if_pos (by omega)]) ?_
          unfold rtsV replica_Accept.j2
          by_cases y : 0 ≤ rtI r u.f_New
          · rw [if_pos (decide_eq_true y), if_pos ⟨y, hr.2⟩, if_pos y, ha y]
          · rw [if_neg (by rw [decide_eq_false y]; decide), if_pos (by simp [mxl]; omega), if_neg y]
    by_cases y : rtI r u.f_New < 0
    · rw [if_pos (decide_eq_true y)]
      exact key _ (by simp [y]; omega)
    · rw [if_neg (by rw [decide_eq_false y]; decide)]
      exact key _ (by simp [y])
  · rw [if_pos (by simp [h0]), if_pos h0]
end

section
set_option linter.unusedVariables false

end

section
set_option linter.unusedVariables false

def ltP (x : S_api_Letter) : List UInt8 := wrd x.f_From ++ wrd x.f_Nonce ++ wrd x.f_To ++ (hd4 (x.f_Sender.length : Int) ++ x.f_Sender) ++ (hd4 (x.f_Receiver.length : Int) ++ x.f_Receiver) ++ (hd4 (x.f_Body.length : Int) ++ x.f_Body)
def LtOk (x : S_api_Letter) : Prop := (0 ≤ x.f_From ∧ x.f_From < 4294967296) ∧ (0 ≤ x.f_Nonce ∧ x.f_Nonce < 4294967296) ∧ (0 ≤ x.f_To ∧ x.f_To < 4294967296) ∧ x.f_Sender.length ≤ 1000 ∧ x.f_Receiver.length ≤ 1000 ∧ x.f_Body.length ≤ 1000
theorem wl4 (i : Int) : (wrd i).length = 4 := by simp [wrd, hd4]
theorem hl4 (i : Int) : (hd4 i).length = 4 := by simp [hd4]
theorem ltP_len {x : S_api_Letter} (h : LtOk x) : (ltP x).length ≤ 3024 := by
  obtain ⟨_, _, _, a, b, c⟩ := h
  simp only [ltP, List.length_append, wl4, hl4]
  omega
theorem ltSmall {x : S_api_Letter} (h : LtOk x) : Small [ltP x] := ⟨fun p hp => by rw [List.mem_singleton.1 hp]; have := ltP_len h; omega, by simp⟩
noncomputable def ltD (x : S_api_Letter) : List UInt8 := H (inp 5 [ltP x])
theorem ltD_len {x : S_api_Letter} (h : LtOk x) : (ltD x).length = 32 := ((ltSmall h).H 5).2
theorem rleaf_eq {x : S_api_Letter} (h : LtOk x) : ref09_Leaf none x = some (ltD x, none) := by
  have hS := ltSmall h
  obtain ⟨f, n, t, a, b, c⟩ := h
  unfold ref09_Leaf
  refine bind_of (x := ltP x) ?_ (bind_of (rNone 5 hS) rfl)
  unfold ref09_Plain
  refine bind_of (rword_eq _) (bind_of (rword_eq _) ?_)
  rw [if_pos (by simp only [wl4, mxl]; omega)]
  refine bind_of (rword_eq _) ?_
  rw [if_pos (by simp only [List.length_append, wl4, mxl]; omega)]
  refine bind_of (ref_text _ (by omega)) ?_
  rw [if_pos (by simp only [List.length_append, wl4, hl4, mxl]; omega)]
  refine bind_of (ref_text _ (by omega)) ?_
  rw [if_pos (by simp only [List.length_append, wl4, hl4, mxl]; omega)]
  refine bind_of (ref_text _ (by omega)) ?_
  rw [if_pos (by simp only [List.length_append, wl4, hl4, mxl]; omega)]
  rfl
end
end Go.Proofs.YtklikgigjdgjaaaGreatDoorRRR
