/- Plain laws: P23a, P23, as one text. -/
import Derived.Test.YtnjkofmmpfehcaaGreatDoorRP20b
import Derived.Test.YtnjkofmmpfehcaaGreatDoorRP11a
namespace Go.Proofs.YtnjkofmmpfehcaaGreatDoorR
open Go Go.RowKit Go.Proofs
section
set_option linter.unusedVariables false

/-- Up from a leaf, along a path. -/
noncomputable def climbV : List (List UInt8) → Nat → List UInt8 → List UInt8
  | [], _, w => w
  | p :: ps, n, w => climbV ps (n / 2) (if n % 2 = 1 then nd p w else nd w p)
theorem shr1 (n : Nat) : shr .i64 (n : Int) 1 = ((n / 2 : Nat) : Int) := by
  unfold shr
  have : min (1 : Int).toNat IntKind.i64.bits = 1 := by simp [IntKind.bits]
  rw [this, Int.fdiv_eq_ediv_of_nonneg _ (by exact Int.le_of_lt (Int.pow_pos (by decide)))]
  simp
theorem drop_at {l : List (List UInt8)} {i : Nat} (hi : i < l.length) : l.drop i = l.getD i default :: l.drop (i + 1) := by
  rw [List.drop_eq_getElem_cons hi]; simp [List.getD, hi]
theorem climbN_eq (L : Option O_Log) {w : List UInt8} (hw : w.length = 32) (n : Nat) (hn : n < 1000000) {path : List (List UInt8)} (hp : ∀ p ∈ path, p.length = 32) (hl : path.length ≤ 1000) :
    ∃ L', keys_Climb L w (n : Int) path = some (climbV path n w, L') ∧ (L = none → L' = none) := by
  obtain ⟨c, h1, h2⟩ := loop_ok (body := fun s : Int × Int × (Option O_Log) × (List UInt8) => keys_Climb.b1 path s.1 s.2.1 s.2.2.1 s.2.2.2)
    (fun s => ∃ (i m : Nat) (lg : Option O_Log) (cur : List UInt8), i ≤ path.length ∧ m < 1000000 ∧ s = ((m : Int), (i : Int), lg, cur) ∧ climbV (path.drop i) m cur = climbV path n w ∧ cur.length = 32 ∧ (L = none → lg = none))
    (fun c => match c with | .next s => (L = none → s.2.2.1 = none) ∧ s.2.2.2 = climbV path n w | .ret _ => False) (fun s => (path.length - s.2.1).toNat)
    (fun s ⟨i, m, lg, cur, hi, hm, hs, hc, h32, hL⟩ => by
      subst hs
      by_cases hlt : i < path.length
      · have hq := get32 hp hlt
        rw [drop_at hlt, climbV] at hc
        have hpo : (path.length : Int) - ((i + 1 : Nat) : Int) < path.length - (i : Int) := by omega
        by_cases hb : m % 2 = 1
        · obtain ⟨lg', a1, a2⟩ := two_eq lg hq h32
          rw [if_pos hb] at hc
          refine .inl ⟨(((m / 2 : Nat) : Int), ((i + 1 : Nat) : Int), lg', nd (path.getD i default) cur), ?_, ⟨i + 1, m / 2, lg', _, by omega, by omega, rfl, hc, nd_len hq h32, fun e => a2 (hL e)⟩, by simp; omega⟩
          show keys_Climb.b1 path (m : Int) (i : Int) lg cur = _
          unfold keys_Climb.b1
          rw [i64_and1, if_pos (by simp; omega), if_pos (by omega), if_pos (by simp; omega)]
          refine bind_of a1 ?_
          unfold keys_Climb.j1
          rw [shr1, w64 (by omega)]
          rfl
        · obtain ⟨lg', a1, a2⟩ := two_eq lg h32 hq
          rw [if_neg hb] at hc
          refine .inl ⟨(((m / 2 : Nat) : Int), ((i + 1 : Nat) : Int), lg', nd cur (path.getD i default)), ?_, ⟨i + 1, m / 2, lg', _, by omega, by omega, rfl, hc, nd_len h32 hq, fun e => a2 (hL e)⟩, by simp; omega⟩
          show keys_Climb.b1 path (m : Int) (i : Int) lg cur = _
          unfold keys_Climb.b1
          rw [i64_and1, if_pos (by simp; omega), if_pos (by omega), if_neg (by simp; omega)]
          refine bind_of a1 ?_
          unfold keys_Climb.j1
          rw [shr1, w64 (by omega)]
          rfl
      · have : i = path.length := by omega
        subst this
        rw [List.drop_length, climbV] at hc
        refine .inr (.inl ⟨((m : Int), ((path.length : Nat) : Int), lg, cur), ?_, hL, hc⟩)
        show keys_Climb.b1 path (m : Int) (path.length : Int) lg cur = _
        unfold keys_Climb.b1
        rw [if_neg (by simp)]) (((path.length : Int) - 0 : Int).toNat + 2) ((n : Int), 0, L, w) ⟨0, n, L, w, by omega, hn, rfl, rfl, hw, fun e => e⟩ (by simp)
  unfold keys_Climb
  cases c with
  | ret r => exact h2.elim
  | next s =>
    obtain ⟨x, y, lg, cur⟩ := s
    obtain ⟨h2, h3⟩ : (L = none → lg = none) ∧ cur = climbV path n w := h2
    subst h3
    exact ⟨lg, bind_next h1 rfl, h2⟩
/-- Is a signature right under a root? -/
noncomputable def verV (root d : List UInt8) (s : S_api_Sig) : Bool :=
  decide (0 ≤ s.f_Index) && decide (s.f_Index < 16) && decide (s.f_Path.length = 4) && decide (s.f_Parts.length = 32) && decide (s.f_Others.length = 32) &&
    decide (climbV s.f_Path s.f_Index.toNat (wordOf (opn d s.f_Parts s.f_Others)) = root)
def Sig32 (s : S_api_Sig) : Prop := (∀ p ∈ s.f_Parts, p.length = 32) ∧ (∀ p ∈ s.f_Others, p.length = 32) ∧ ∀ p ∈ s.f_Path, p.length = 32
theorem verV_no {root d : List UInt8} {s : S_api_Sig} (h : ¬(0 ≤ s.f_Index ∧ s.f_Index < 16 ∧ s.f_Path.length = 4)) : verV root d s = false := by
  unfold verV
  by_cases h1 : 0 ≤ s.f_Index
  · by_cases h2 : s.f_Index < 16
    · have h3 : ¬ s.f_Path.length = 4 := fun e => h ⟨h1, h2, e⟩
      simp [h3]
    · simp [h2]
  · simp [h1]
theorem verV_no2 {root d : List UInt8} {s : S_api_Sig} (h : ¬(s.f_Parts.length = 32 ∧ s.f_Others.length = 32)) : verV root d s = false := by
  unfold verV
  by_cases h1 : s.f_Parts.length = 32
  · have h3 : ¬ s.f_Others.length = 32 := fun e => h ⟨h1, e⟩
    simp [h3]
  · simp [h1]
theorem verify_eq (L : Option O_Log) (root d : List UInt8) {s : S_api_Sig} (hs : Sig32 s) : ∃ L', keys_Verify L root d s = some (verV root d s, L') ∧ (L = none → L' = none) := by
  unfold keys_Verify
  by_cases h1 : 0 ≤ s.f_Index
  · rw [if_neg (by simp; omega)]
    by_cases h2 : s.f_Index < 16
    · rw [if_neg (by simp; omega)]
      unfold keys_Verify.j1
      by_cases h3 : s.f_Path.length = 4
      · rw [if_neg (by simp [h3])]
        by_cases h4 : s.f_Parts.length = 32 ∧ s.f_Others.length = 32
        · obtain ⟨L1, a1, b1⟩ := opened_eq L d ⟨h4.1, hs.1⟩ ⟨h4.2, hs.2.1⟩
          obtain ⟨n, hn⟩ : ∃ n : Nat, s.f_Index = (n : Int) := ⟨s.f_Index.toNat, by omega⟩
          have hol := opn_len (d := d) ⟨h4.1, hs.1⟩ ⟨h4.2, hs.2.1⟩
          obtain ⟨L2, a2, b2⟩ := climbN_eq L1 (word_len hol.1 hol.2) n (by omega) hs.2.2 (by omega)
          refine ⟨L2, ?_, fun e => b2 (b1 e)⟩
          refine bind_of a1 ?_
          rw [if_pos rfl, hn]
          refine bind_of a2 ?_
          unfold keys_Verify.j2 verV
          simp [hn, h3, h4.1, h4.2, show (n : Int) < 16 by omega]
        · refine ⟨L, ?_, fun e => e⟩
          refine bind_of (opened_no L d h4) ?_
          rw [if_neg (by simp), verV_no2 h4]
          rfl
      · rw [if_pos (by simp; omega), verV_no (fun h => h3 h.2.2)]
        exact ⟨L, rfl, fun e => e⟩
    · rw [if_pos (by simp; omega), verV_no (fun h => h2 h.2.1)]
      exact ⟨L, rfl, fun e => e⟩
  · rw [if_pos (by simp; omega), verV_no (fun h => h1 h.1)]
    exact ⟨L, rfl, fun e => e⟩
end

section
set_option linter.unusedVariables false
theorem rtwo0 {a b : List UInt8} (ha : a.length = 32) (hb : b.length = 32) : ref04_Log_Two none 4 a b = some (nd a b, none) := by
  unfold ref04_Log_Two
  exact bind_of (rdig_eq ha) (bind_of (rdig_eq hb) (bind_of (rNone 4 (ndSmall ha hb)) rfl))
theorem rpub0 {s : List UInt8} (h : s.length = 32) : ref05_Public none s = some (pub s, none) := by
  unfold ref05_Public
  exact bind_of (rdig_eq h) (bind_of (rNone 2 (pubSmall h)) rfl)
theorem ropened0 (d : List UInt8) {parts others : List (List UInt8)} (hp : parts.length = 32 ∧ ∀ p ∈ parts, p.length = 32) (ho : others.length = 32 ∧ ∀ p ∈ others, p.length = 32) :
    ref05_Opened none d parts others = some (wordOf (opn d parts others), true, none) := by
  have hol := opn_len (d := d) hp ho
  obtain ⟨c, h1, h2⟩ := loop_ok (body := fun s : Int × (Option O_RLog) × (List (UInt8)) => ref05_Opened.b1 d parts others s.1 s.2.1 s.2.2)
    (fun s => ∃ i : Nat, i ≤ 32 ∧ s = ((i : Int), none, ((opn d parts others).take (2 * i)).flatten))
    (fun c => match c with | .next s => s.2 = (none, (opn d parts others).flatten) | .ret _ => False) (fun s => (32 - s.1).toNat)
    (fun s ⟨i, hi, hs⟩ => by
      subst hs
      by_cases hlt : i < 32
      · obtain ⟨hb, hb2⟩ := bit_eq d i (by omega)
        have hpi : (parts.getD i default).length = 32 := get32 hp.2 (by omega)
        have hoi : (others.getD i default).length = 32 := get32 ho.2 (by omega)
        have hoj : (others.getD (i : Int).toNat default).length = 32 := hoi
        have k0 : opnA d parts others (2 * i) = if 0 = bitv d i then pub (parts.getD i default) else others.getD i default := by
          unfold opnA
          rw [show 2 * i % 2 = 0 by omega, show 2 * i / 2 = i by omega]
          rfl
        have k1 : opnA d parts others (2 * i + 1) = if 1 = bitv d i then pub (parts.getD i default) else others.getD i default := by
          unfold opnA
          rw [show (2 * i + 1) % 2 = 1 by omega, show (2 * i + 1) / 2 = i by omega]
          rfl
        have f1 := flat_succ _ _ _ (opn_at d parts others (2 * i) (by omega))
        have f2 := flat_succ _ _ _ (opn_at d parts others (2 * i + 1) (by omega))
        have hlen := flat_take_len hol.2 (2 * i) (by omega)
        have hpp := pub_len hpi
        have a1 := rpub0 hpi
        have hstep : ref05_Opened.b1 d parts others i none ((opn d parts others).take (2 * i)).flatten = some (.cont (((i + 1 : Nat) : Int), none, ((opn d parts others).take (2 * (i + 1))).flatten)) := by
          rw [show 2 * (i + 1) = 2 * i + 1 + 1 by omega, f2, f1]
          unfold ref05_Opened.b1
          rw [if_pos (by simp; omega), if_pos (by omega)]
          refine bind_of a1 (bind_of (rdig_eq hpp) ?_)
          refine bind_of ((rbit_eq d i).1.trans hb) ?_
          rcases hb2 with e | e
          · rw [e] at k0 k1
            rw [e, if_pos (by simp), if_pos (by simp only [mxl]; omega), if_pos (by omega)]
            refine bind_of (rdig_eq hoi) ?_
            rw [if_pos (by simp only [List.length_append, mxl]; omega), k0, k1]
            unfold ref05_Opened.j2
            rw [w64 (by omega)]
            rfl
          · rw [e] at k0 k1
            rw [e, if_neg (by simp), if_pos (by omega)]
            refine bind_of (rdig_eq hoi) ?_
            rw [if_pos (by simp only [mxl]; omega), if_pos (by simp only [List.length_append, mxl]; omega), k0, k1]
            unfold ref05_Opened.j2
            rw [w64 (by omega)]
            rfl
        exact .inl ⟨_, hstep, ⟨i + 1, by omega, rfl⟩, by simp; omega⟩
      · have : i = 32 := by omega
        subst this
        refine .inr (.inl ⟨((32 : Nat), none, ((opn d parts others).take (2 * 32)).flatten), ?_, ?_⟩)
        · show ref05_Opened.b1 d parts others 32 _ _ = _
          unfold ref05_Opened.b1
          rw [if_neg (by simp)]
          rfl
        · rw [List.take_of_length_le (by rw [hol.1]; decide)]) ((32 - 0 : Int).toNat + 2) (0, none, []) ⟨0, by omega, rfl⟩ (by simp)
  unfold ref05_Opened
  rw [if_neg (by simp [hp.1])]
  unfold ref05_Opened.j1
  rw [if_neg (by simp [ho.1])]
  cases c with
  | ret r => exact h2.elim
  | next s =>
    obtain ⟨i, s2⟩ := s
    obtain rfl : s2 = (none, (opn d parts others).flatten) := h2
    refine bind_next h1 ?_
    exact bind_of (rNone 3 (flatSmall hol.1 hol.2)) rfl
theorem u64of {n : Nat} (h : n < 1000000) : IntKind.wrap .u64 (n : Int) = (n : Int) := by simp only [IntKind.wrap, IntKind.bits, IntKind.signed]; simp; omega
theorem rclimb0 {w : List UInt8} (hw : w.length = 32) (n : Nat) (hn : n < 1000000) {path : List (List UInt8)} (hp : ∀ p ∈ path, p.length = 32) (hl : path.length ≤ 1000) :
    ref06_Climb none w (n : Int) path = some (climbV path n w, none) := by
  obtain ⟨c, h1, h2⟩ := loop_ok (body := fun s : Int × Int × (Option O_RLog) × (List UInt8) => ref06_Climb.b1 (n : Int) path s.1 s.2.1 s.2.2.1 s.2.2.2)
    (fun s => ∃ (i m : Nat) (cur : List UInt8), i ≤ path.length ∧ m < 1000000 ∧ s = ((m : Int), (i : Int), none, cur) ∧ climbV (path.drop i) m cur = climbV path n w ∧ cur.length = 32)
    (fun c => match c with | .next s => s.2.2 = (none, climbV path n w) | .ret _ => False) (fun s => (path.length - s.2.1).toNat)
    (fun s ⟨i, m, cur, hi, hm, hs, hc, h32⟩ => by
      subst hs
      have hd : (m : Int).tdiv 2 = ((m / 2 : Nat) : Int) := by rw [Int.tdiv_eq_ediv_of_nonneg (by omega)]; simp
      have hr : (m : Int).tmod 2 = ((m % 2 : Nat) : Int) := by rw [Int.tmod_eq_emod_of_nonneg (by omega)]; simp
      by_cases hlt : i < path.length
      · have hq := get32 hp hlt
        rw [drop_at hlt, climbV] at hc
        by_cases hb : m % 2 = 1
        · rw [if_pos hb] at hc
          refine .inl ⟨(((m / 2 : Nat) : Int), ((i + 1 : Nat) : Int), none, nd (path.getD i default) cur), ?_, ⟨i + 1, m / 2, _, by omega, by omega, rfl, hc, nd_len hq h32⟩, by simp; omega⟩
          show ref06_Climb.b1 (n : Int) path (m : Int) (i : Int) none cur = _
          unfold ref06_Climb.b1
          rw [hr, if_pos (by simp; omega), if_pos (by simp; omega), if_pos (by omega)]
          refine bind_of (rtwo0 hq h32) ?_
          unfold ref06_Climb.j1
          rw [if_neg (by simp)]
          unfold ref06_Climb.j2
          rw [hd, u64of (by omega), w64 (by omega)]
          rfl
        · rw [if_neg hb] at hc
          refine .inl ⟨(((m / 2 : Nat) : Int), ((i + 1 : Nat) : Int), none, nd cur (path.getD i default)), ?_, ⟨i + 1, m / 2, _, by omega, by omega, rfl, hc, nd_len h32 hq⟩, by simp; omega⟩
          show ref06_Climb.b1 (n : Int) path (m : Int) (i : Int) none cur = _
          unfold ref06_Climb.b1
          rw [hr, if_pos (by simp; omega), if_neg (by simp; omega), if_pos (by omega)]
          refine bind_of (rtwo0 h32 hq) ?_
          unfold ref06_Climb.j1
          rw [if_neg (by simp)]
          unfold ref06_Climb.j2
          rw [hd, u64of (by omega), w64 (by omega)]
          rfl
      · have : i = path.length := by omega
        subst this
        rw [List.drop_length, climbV] at hc
        refine .inr (.inl ⟨((m : Int), ((path.length : Nat) : Int), none, cur), ?_, by rw [hc]⟩)
        show ref06_Climb.b1 (n : Int) path (m : Int) (path.length : Int) none cur = _
        unfold ref06_Climb.b1
        rw [if_neg (by simp)]) (((path.length : Int) - 0 : Int).toNat + 2) ((n : Int), 0, none, w) ⟨0, n, w, by omega, hn, rfl, rfl, hw⟩ (by simp)
  unfold ref06_Climb
  rw [u64of hn]
  cases c with
  | ret r => exact h2.elim
  | next s =>
    obtain ⟨x, y, s2⟩ := s
    obtain rfl : s2 = (none, climbV path n w) := h2
    exact bind_next h1 rfl
theorem rverify0 (root d : List UInt8) {s : S_api_Sig} (hs : Sig32 s) : ref06_Verify none root d s = some (verV root d s, none) := by
  unfold ref06_Verify
  by_cases h1 : 0 ≤ s.f_Index
  · rw [if_neg (by simp; omega)]
    by_cases h2 : s.f_Index < 16
    · rw [if_neg (by simp; omega)]
      unfold ref06_Verify.j1
      by_cases h3 : s.f_Path.length = 4
      · rw [if_neg (by simp [h3])]
        by_cases h4 : s.f_Parts.length = 32 ∧ s.f_Others.length = 32
        · obtain ⟨n, hn⟩ : ∃ n : Nat, s.f_Index = (n : Int) := ⟨s.f_Index.toNat, by omega⟩
          have hol := opn_len (d := d) ⟨h4.1, hs.1⟩ ⟨h4.2, hs.2.1⟩
          refine bind_of (ropened0 d ⟨h4.1, hs.1⟩ ⟨h4.2, hs.2.1⟩) ?_
          rw [if_neg (by simp), hn]
          refine bind_of (rclimb0 (word_len hol.1 hol.2) n (by omega) hs.2.2 (by omega)) ?_
          unfold verV
          simp [hn, h3, h4.1, h4.2, show (n : Int) < 16 by omega]
        · refine bind_of (ropened_no none d h4) ?_
          rw [if_pos (by simp), verV_no2 h4]
      · rw [if_pos (by simp; omega), verV_no (fun h => h3 h.2.2)]
    · rw [if_pos (by simp; omega), verV_no (fun h => h2 h.2.1)]
      rfl
  · rw [if_pos (by simp; omega), verV_no (fun h => h1 h.1)]
    rfl
end
end Go.Proofs.YtnjkofmmpfehcaaGreatDoorR
