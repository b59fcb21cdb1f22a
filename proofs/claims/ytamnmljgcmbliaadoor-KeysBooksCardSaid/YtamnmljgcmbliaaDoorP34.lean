/- Plain law of KeysBooks: who has signed what, noted in any book. -/
import Derived.Test.YtamnmljgcmbliaaDoorP31
namespace Go.Proofs.YtamnmljgcmbliaaDoor
open Go Go.RowKit Go.Proofs
set_option linter.unusedVariables false

def rsg (x : S_keys_Signed) : S_ref06_Signed := ⟨x.f_Root, x.f_Digest⟩
theorem signed_ext {x y : S_keys_Signed} (h1 : x.f_Root = y.f_Root) (h2 : x.f_Digest = y.f_Digest) : x = y := by
  cases x; cases y; simp_all
instance : DecidableEq S_keys_Signed := fun x y => if h : x.f_Root = y.f_Root ∧ x.f_Digest = y.f_Digest then .isTrue (signed_ext h.1 h.2) else .isFalse (fun e => h (e ▸ ⟨rfl, rfl⟩))
theorem getD_nat' {α : Type} [Inhabited α] (l : List α) (i : Nat) (h : i < l.length) : l.getD (i : Int).toNat default = l[i] := by simp [List.getD, h]
/-- A search that stops at the first. -/
theorem index_eq (l : List S_keys_Signed) (x : S_keys_Signed) (hl : l.length < 1000000) : ∃ r, slices_Index_keys_Signed l x = some r ∧ (0 ≤ r ↔ x ∈ l) := by
  unfold slices_Index_keys_Signed
  obtain ⟨c, h1, h2⟩ := loop_ok (body := fun s : Int => slices_Index_keys_Signed.b1 l x s) (fun s => ∃ i : Nat, i ≤ l.length ∧ s = (i : Int) ∧ ∀ j (hj : j < l.length), j < i → l[j] ≠ x)
    (fun c => match c with | .next _ => x ∉ l | .ret r => 0 ≤ r ∧ x ∈ l) (fun s => (l.length - s).toNat)
    (fun s ⟨i, hi, hs, hj⟩ => by
      subst hs
      by_cases h : i < l.length
      · have e1 := getD_nat' l i h
        by_cases he : l[i] = x
        · refine .inr (.inr ⟨(i : Int), ?_, by omega, by rw [← he]; exact List.getElem_mem h⟩)
          unfold slices_Index_keys_Signed.b1
          rw [if_pos (by simp; omega), if_pos (by omega), e1, if_pos (by simp [he])]
        · refine .inl ⟨((i + 1 : Nat) : Int), ?_, ⟨i + 1, by omega, rfl, fun j hj1 hj2 => ?_⟩, by simp; omega⟩
          · unfold slices_Index_keys_Signed.b1
            have : ¬(x.f_Root = l[i].f_Root ∧ x.f_Digest = l[i].f_Digest) := fun ⟨q1, q2⟩ => he (signed_ext q1.symm q2.symm)
            rw [if_pos (by simp; omega), if_pos (by omega), e1, if_neg (by simpa using this), w64 (by omega)]
            rfl
          · by_cases e : j = i
            · subst e; exact he
            · exact hj j hj1 (by omega)
      · have : i = l.length := by omega
        subst this
        refine .inr (.inl ⟨((l.length : Nat) : Int), ?_, fun hm => ?_⟩)
        · unfold slices_Index_keys_Signed.b1
          rw [if_neg (by simp)]
        · obtain ⟨j, hj', e⟩ := List.getElem_of_mem hm
          exact hj j hj' hj' e) (((l.length : Int) - 0 : Int).toNat + 2) 0 ⟨0, by omega, rfl, fun j _ hj => by omega⟩ (by simp)
  cases c with
  | ret r => exact ⟨r, bind_of h1 rfl, by simp [h2.1, h2.2]⟩
  | next s => exact ⟨-1, bind_of h1 rfl, by have h2 : x ∉ l := h2; simp [h2]⟩
theorem has_eq (l : List S_keys_Signed) (a b : List UInt8) (hl : l.length < 1000000) : keys_Has l a b = some (decide ((⟨a, b⟩ : S_keys_Signed) ∈ l)) := by
  obtain ⟨r, h1, h2⟩ := index_eq l ⟨a, b⟩ hl
  unfold keys_Has slices_Contains_keys_Signed
  refine bind_of (bind_of h1 rfl) ?_
  simp only [Option.some.injEq]
  exact decide_eq_decide.2 h2
theorem rhas_eq (l : List S_keys_Signed) (a b : List UInt8) (hl : l.length < 1000000) : ref06_Has (l.map rsg) a b = some (decide ((⟨a, b⟩ : S_keys_Signed) ∈ l)) := by
  have hml : (l.map rsg).length = l.length := by simp
  unfold ref06_Has
  obtain ⟨c, h1, h2⟩ := loop_ok (body := fun s : Int => ref06_Has.b1 (l.map rsg) a b s) (fun s => ∃ i : Nat, i ≤ l.length ∧ s = (i : Int) ∧ ∀ j (hj : j < l.length), j < i → l[j] ≠ ⟨a, b⟩)
    (fun c => match c with | .next _ => (⟨a, b⟩ : S_keys_Signed) ∉ l | .ret r => r = true ∧ (⟨a, b⟩ : S_keys_Signed) ∈ l) (fun s => (l.length - s).toNat)
    (fun s ⟨i, hi, hs, hj⟩ => by
      subst hs
      by_cases h : i < l.length
      · have e1 : (l.map rsg).getD (i : Int).toNat default = rsg l[i] := by rw [getD_nat' _ i (by simpa using h)]; simp
        have hb1 : ∀ q, ref06_Has.b1 (l.map rsg) a b (i : Int) = q ↔ (if (decide (l[i].f_Root = a)) = true then ref06_Has.j1 (i : Int) (decide (l[i].f_Digest = b)) else ref06_Has.j1 (i : Int) false) = q := by
          intro q
          unfold ref06_Has.b1
          rw [if_pos (by simp; omega), if_pos (by simp; omega), e1]
          rfl
        by_cases he : l[i] = ⟨a, b⟩
        · refine .inr (.inr ⟨true, ?_, rfl, by rw [← he]; exact List.getElem_mem h⟩)
          rw [hb1, if_pos (by simp [he])]
          unfold ref06_Has.j1
          rw [if_pos (by simp [he])]
        · refine .inl ⟨((i + 1 : Nat) : Int), ?_, ⟨i + 1, by omega, rfl, fun j hj1 hj2 => ?_⟩, by simp; omega⟩
          · rw [hb1]
            by_cases hr : l[i].f_Root = a
            · rw [if_pos (by simpa using hr)]
              unfold ref06_Has.j1
              rw [if_neg (by simpa using fun hq => he (signed_ext hr hq)), w64 (by omega)]
              rfl
            · rw [if_neg (by simpa using hr)]
              unfold ref06_Has.j1
              rw [if_neg (by simp), w64 (by omega)]
              rfl
          · by_cases e : j = i
            · subst e; exact he
            · exact hj j hj1 (by omega)
      · have : i = l.length := by omega
        subst this
        refine .inr (.inl ⟨((l.length : Nat) : Int), ?_, fun hm => ?_⟩)
        · unfold ref06_Has.b1
          rw [if_neg (by simp)]
        · obtain ⟨j, hj', e⟩ := List.getElem_of_mem hm
          exact hj j hj' hj' e) ((((l.map rsg).length : Int) - 0 : Int).toNat + 2) 0 ⟨0, by omega, rfl, fun j _ hj => by omega⟩ (by simp)
  cases c with
  | ret r =>
    obtain ⟨rfl, h2⟩ := h2
    exact bind_of h1 (by simp [h2])
  | next s =>
    have h2 : (⟨a, b⟩ : S_keys_Signed) ∉ l := h2
    exact bind_of h1 (by simp [h2])
def noteB (l : List S_keys_Signed) (a b : List UInt8) : List S_keys_Signed := if (⟨a, b⟩ : S_keys_Signed) ∈ l then l else l ++ [⟨a, b⟩]
theorem note_eq6 (l : List S_keys_Signed) (a b : List UInt8) (hl : l.length < 1000) : keys_Note l a b = some (noteB l a b) := by
  have hc : slices_Clone_keys_Signed l = some l := by
    unfold slices_Clone_keys_Signed
    rw [if_pos (by omega)]
  unfold keys_Note keys_Note.j1 noteB
  refine bind_of hc (bind_of (has_eq l a b (by omega)) ?_)
  by_cases h : (⟨a, b⟩ : S_keys_Signed) ∈ l
  · rw [if_neg (by simp [h]), if_pos h]
  · rw [if_pos (by simp [h]), if_pos (by simp [mxl]; omega), if_neg h]
theorem rnote_eq6 (l : List S_keys_Signed) (a b : List UInt8) (hl : l.length < 1000) : ref06_Note (l.map rsg) a b = some ((noteB l a b).map rsg) := by
  unfold ref06_Note noteB
  rw [if_pos (by simp [mxl]; omega)]
  refine bind_of (rhas_eq l a b (by omega)) ?_
  by_cases h : (⟨a, b⟩ : S_keys_Signed) ∈ l
  · rw [if_pos (by simp [h]), if_pos h]
    rfl
  · rw [if_neg (by simp [h]), if_pos (by simp [mxl]; omega), if_neg h]
    simp [rsg]
theorem keysBooks_true (book : List S_keys_Signed) (a b : List UInt8) : law06_KeysBooks book a b = some true := by
  unfold law06_KeysBooks
  refine bind_of awake6 ?_
  rw [if_neg (by simp)]
  by_cases h200 : 200 < book.length
  · rw [if_pos (by simp; omega)]
    exact bind_of awake6 rfl
  rw [if_neg (by simp; omega)]
  obtain ⟨c, h1, h2⟩ := loop_ok (body := fun s : Int × (List S_ref06_Signed) => law06_KeysBooks.b1 book s.1 s.2) (fun s => ∃ i : Nat, i ≤ book.length ∧ s = ((i : Int), (book.take i).map rsg))
    (fun c => match c with | .next s => s.2 = book.map rsg | .ret _ => False) (fun s => (book.length - s.1).toNat)
    (fun s ⟨i, hi, hs⟩ => by
      subst hs
      by_cases h : i < book.length
      · refine .inl ⟨(((i + 1 : Nat) : Int), (book.take (i + 1)).map rsg), ?_, ⟨i + 1, by omega, rfl⟩, by simp; omega⟩
        show law06_KeysBooks.b1 book (i : Int) _ = _
        unfold law06_KeysBooks.b1
        rw [if_pos (by simp; omega), if_pos (by omega), getD_nat' book i h, if_pos (by simp [mxl]; omega), w64 (by omega), List.take_succ_eq_append_getElem h, List.map_append]
        rfl
      · have : i = book.length := by omega
        subst this
        refine .inr (.inl ⟨(((book.length : Nat) : Int), (book.take book.length).map rsg), ?_, ?_⟩)
        · show law06_KeysBooks.b1 book (book.length : Int) _ = _
          unfold law06_KeysBooks.b1
          rw [if_neg (by simp)]
        · rw [List.take_length]) (((book.length : Int) - 0 : Int).toNat + 2) (0, []) ⟨0, by omega, rfl⟩ (by simp)
  cases c with
  | ret r => exact h2.elim
  | next s =>
    obtain ⟨x, q⟩ := s
    obtain rfl : q = book.map rsg := h2
    refine bind_next h1 ?_
    have hn : (noteB book a b).length ≤ 201 := by
      unfold noteB
      split
      · omega
      · simp only [List.length_append, List.length_cons, List.length_nil]; omega
    have hin : (⟨a, b⟩ : S_keys_Signed) ∈ noteB book a b := by
      unfold noteB
      split
      · assumption
      · simp
    refine bind_of (note_eq6 book a b (by omega)) (bind_of (rnote_eq6 book a b (by omega)) ?_)
    rw [if_neg (by simp)]
    refine bind_of (has_eq book a b (by omega)) (bind_of (rhas_eq book a b (by omega)) ?_)
    rw [if_neg (by simp)]
    refine bind_of (has_eq (noteB book a b) a b (by omega)) ?_
    unfold law06_KeysBooks.j1
    rw [if_neg (by simp [hin])]
    generalize noteB book a b = N at *
    obtain ⟨c, h3, h4⟩ := loop_ok (body := fun s : Int => law06_KeysBooks.b2 N (N.map rsg) s) (fun s => ∃ i : Nat, i ≤ N.length ∧ s = (i : Int)) (fun c => match c with | .next _ => True | .ret _ => False) (fun s => (N.length - s).toNat)
      (fun s ⟨i, hi, hs⟩ => by
        subst hs
        by_cases h : i < N.length
        · refine .inl ⟨((i + 1 : Nat) : Int), ?_, ⟨i + 1, by omega, rfl⟩, by simp; omega⟩
          have e1 : (N.map rsg).getD (i : Int).toNat default = rsg N[i] := by rw [getD_nat' _ i (by simpa using h)]; simp
          unfold law06_KeysBooks.b2
          rw [if_pos (by simp; omega), if_pos (by omega), if_pos (by simp; omega), getD_nat' N i h, e1, if_neg (by simp [rsg]), w64 (by omega)]
          rfl
        · refine .inr (.inl ⟨(i : Int), ?_, trivial⟩)
          unfold law06_KeysBooks.b2
          rw [if_neg (by simp; omega)]) (((N.length : Int) - 0 : Int).toNat + 2) 0 ⟨0, by omega, rfl⟩ (by simp)
    cases c with
    | ret r => exact h4.elim
    | next s => exact bind_next h3 (bind_of awake6 rfl)
end Go.Proofs.YtamnmljgcmbliaaDoor
