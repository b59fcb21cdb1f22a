/- Plain laws: P8a, P20, P20b, P23a, P21, P32, as one text. -/
import Derived.Test.YtklikgigjdgjaaaGreatDoorRRRP5a
import Derived.Test.YtklikgigjdgjaaaGreatDoorRRRP7
namespace Go.Proofs.YtklikgigjdgjaaaGreatDoorRRR
open Go Go.RowKit Go.Proofs
section
set_option linter.unusedVariables false

theorem Small.R {ps : List (List UInt8)} (h : Small ps) (d : Int) : ref01_Sum (inp d ps) = some (Go.Proofs.YtklikgigjdgjaaaGreatDoorRRR.H (inp d ps)) := by
  obtain ⟨x, h1, h2, _⟩ := sum_eq (inp d ps) (by have := h.enc; simp [inp, mxl]; omega)
  rw [(h.H d).1] at h1
  rw [h2, h1]
theorem wrap64 (i : Int) : ∃ n : Nat, IntKind.wrap .u64 i = (n : Int) ∧ n < 18446744073709551616 ∧ ((n : Int) = i % 18446744073709551616) := by
  refine ⟨(i % 18446744073709551616).toNat, ?_, by omega, by omega⟩
  simp only [IntKind.wrap, IntKind.bits, IntKind.signed]; simp; omega
theorem wrap32 (i : Int) : ∃ n : Nat, IntKind.wrap .u32 i = (n : Int) ∧ n < 4294967296 ∧ ((n : Int) = i % 4294967296) := by
  refine ⟨(i % 4294967296).toNat, ?_, by omega, by omega⟩
  simp only [IntKind.wrap, IntKind.bits, IntKind.signed]; simp; omega
theorem rword_eq (i : Int) : ref03_Big (IntKind.wrap .u64 i) 4 = some (wrd i) := by
  obtain ⟨n, h1, h2, h3⟩ := wrap64 i
  obtain ⟨m, k1, k2, k3⟩ := wrap32 i
  rw [h1, ref_big4 n h2]
  unfold wrd
  rw [k1]
  have hmn : m = n % 4294967296 := by omega
  unfold hd4
  have e0 : u8of (IntKind.wrap .u8 (shr .u64 (n : Int) 24)) = u8of (IntKind.wrap .u8 (shr .u64 (m : Int) 24)) := UInt8.toNat_inj.1 (by rw [byteOf (q := 16777216) (by decide) (by decide), byteOf (q := 16777216) (by decide) (by decide)]; omega)
  have e1 : u8of (IntKind.wrap .u8 (shr .u64 (n : Int) 16)) = u8of (IntKind.wrap .u8 (shr .u64 (m : Int) 16)) := UInt8.toNat_inj.1 (by rw [byteOf (q := 65536) (by decide) (by decide), byteOf (q := 65536) (by decide) (by decide)]; omega)
  have e2 : u8of (IntKind.wrap .u8 (shr .u64 (n : Int) 8)) = u8of (IntKind.wrap .u8 (shr .u64 (m : Int) 8)) := UInt8.toNat_inj.1 (by rw [byteOf (q := 256) (by decide) (by decide), byteOf (q := 256) (by decide) (by decide)]; omega)
  have e3 : u8of (IntKind.wrap .u8 (shr .u64 (n : Int) 0)) = u8of (IntKind.wrap .u8 (shr .u64 (m : Int) 0)) := UInt8.toNat_inj.1 (by rw [byteOf (q := 1) (by decide) (by decide), byteOf (q := 1) (by decide) (by decide)]; omega)
  rw [e0, e1, e2, e3]
theorem rNone (d : Int) {ps : List (List UInt8)} (h : Small ps) : ref04_Log_Of none d ps = some (H (inp d ps), none) := by
  have he := h.enc
  unfold ref04_Log_Of
  exact bind_of (ref_input d ps (fun p hp => by have := h.1 p hp; omega) (by omega) (by have := h.2; omega)) (bind_of (h.R d) (bind_of rfl rfl))
end

section
set_option linter.unusedVariables false

noncomputable def nd (a b : List UInt8) : List UInt8 := H (inp 4 [a, b])
theorem ndSmall {a b : List UInt8} (ha : a.length = 32) (hb : b.length = 32) : Small [a, b] := ⟨fun p hp => by simp only [List.mem_cons, List.not_mem_nil, or_false] at hp; rcases hp with rfl | rfl <;> omega, by simp⟩
theorem nd_len {a b : List UInt8} (ha : a.length = 32) (hb : b.length = 32) : (nd a b).length = 32 := ((ndSmall ha hb).H 4).2
theorem two_eq (L : Option O_Log) {a b : List UInt8} (ha : a.length = 32) (hb : b.length = 32) : ∃ L', digest_Log_Two L 4 a b = some (nd a b, L') ∧ (L = none → L' = none) := by
  obtain ⟨L', h1, h2⟩ := dOf L 4 (ndSmall ha hb)
  refine ⟨L', ?_, h2⟩
  unfold digest_Log_Two
  exact bind_of (dig_eq ha) (bind_of (dig_eq hb) (bind_of h1 rfl))
/-- The level above. -/
noncomputable def upA (l : List (List UInt8)) (j : Nat) : List UInt8 := nd (l.getD (2 * j) default) (l.getD (2 * j + 1) default)
noncomputable def upL (l : List (List UInt8)) : List (List UInt8) := (List.range (l.length / 2)).map (upA l)
theorem get32 {l : List (List UInt8)} (h : ∀ p ∈ l, p.length = 32) {i : Nat} (hi : i < l.length) : (l.getD i default).length = 32 := by
  rw [show l.getD i default = l[i] from by simp [List.getD, hi]]
  exact h _ (List.getElem_mem hi)
theorem upL_len {l : List (List UInt8)} (h : ∀ p ∈ l, p.length = 32) : (upL l).length = l.length / 2 ∧ ∀ p ∈ upL l, p.length = 32 := by
  refine ⟨by simp [upL], fun p hp => ?_⟩
  obtain ⟨j, hj, rfl⟩ := List.mem_map.1 hp
  have hj : j < l.length / 2 := List.mem_range.1 hj
  exact nd_len (get32 h (by omega)) (get32 h (by omega))
theorem upL_at (l : List (List UInt8)) (j : Nat) (hj : j < l.length / 2) : (upL l).getD j default = nd (l.getD (2 * j) default) (l.getD (2 * j + 1) default) := by
  simp [upL, List.getD, hj, upA]
theorem up_eq (L : Option O_Log) {l : List (List UInt8)} (hl : l.length ≤ 1000) (h : ∀ p ∈ l, p.length = 32) : ∃ L', keys_up L l = some (upL l, L') ∧ (L = none → L' = none) := by
  obtain ⟨c, h1, h2⟩ := loop_ok (body := fun s : Int × (Option O_Log) × (List (List UInt8)) => keys_up.b1 l s.1 s.2.1 s.2.2)
    (fun s => ∃ i : Nat, i ≤ l.length / 2 ∧ s.1 = ((2 * i : Nat) : Int) ∧ (L = none → s.2.1 = none) ∧ s.2.2 = (List.range i).map (upA l))
    (fun c => match c with | .next s => (L = none → s.2.1 = none) ∧ s.2.2 = upL l | .ret _ => False) (fun s => (l.length + 1 - s.1).toNat)
    (fun s ⟨i, hi, q1, q2, q3⟩ => by
      obtain ⟨x, lg, w⟩ := s
      have q1 : x = ((2 * i : Nat) : Int) := q1
      have q3 : w = _ := q3
      subst q1 q3
      by_cases hlt : i < l.length / 2
      · obtain ⟨lg', a1, a2⟩ := two_eq lg (get32 h (i := 2 * i) (by omega)) (get32 h (i := 2 * i + 1) (by omega))
        refine .inl ⟨(((2 * (i + 1) : Nat) : Int), lg', (List.range (i + 1)).map (upA l)), ?_, ⟨i + 1, by omega, rfl, fun e => a2 (q2 e), rfl⟩, by simp; omega⟩
        show keys_up.b1 l ((2 * i : Nat) : Int) lg _ = _
        unfold keys_up.b1
        have e1 : ((2 * i : Nat) : Int).toNat = 2 * i := by omega
        have e2 : (((2 * i : Nat) : Int) + 1).toNat = 2 * i + 1 := by omega
        rw [w64 (x := ((2 * i : Nat) : Int) + 1) (by omega), w64 (x := ((2 * i : Nat) : Int) + 2) (by omega), if_pos (by simp; omega), if_pos (by omega), if_pos (by omega), e1, e2]
        refine bind_of a1 ?_
        rw [if_pos (by simp [mxl]; omega), List.range_succ, List.map_append]
        have e3 : ((2 * i : Nat) : Int) + 2 = ((2 * (i + 1) : Nat) : Int) := by omega
        rw [e3]
        rfl
      · have hie : i = l.length / 2 := by omega
        refine .inr (.inl ⟨(((2 * i : Nat) : Int), lg, (List.range i).map (upA l)), ?_, q2, by rw [hie]; rfl⟩)
        show keys_up.b1 l ((2 * i : Nat) : Int) lg _ = _
        unfold keys_up.b1
        rw [w64 (x := ((2 * i : Nat) : Int) + 1) (by omega), if_neg (by simp; omega)]) 100000 (0, L, []) ⟨0, by omega, rfl, fun e => e, rfl⟩ (by simp; omega)
  unfold keys_up
  cases c with
  | ret r => exact h2.elim
  | next s =>
    obtain ⟨i, lg, w⟩ := s
    obtain ⟨h2, h3⟩ : (L = none → lg = none) ∧ w = upL l := h2
    subst h3
    exact ⟨lg, bind_next h1 rfl, h2⟩
theorem lc {R S : Type} {body : S → Option (Flow R S)} (k : Nat) {s s' : S} {r : Option (Ctl R S)} (h1 : body s = some (.cont s')) (h2 : loopN body k s' = r) : loopN body (k + 1) s = r := by
  unfold loopN
  rw [h1]
  exact h2
theorem lb_ {R S : Type} {body : S → Option (Flow R S)} (k : Nat) {s s' : S} (h1 : body s = some (.brk s')) : loopN body (k + 1) s = some (.next s') := by
  unfold loopN
  rw [h1]
noncomputable def rootL (l : List (List UInt8)) : List UInt8 := (upL (upL (upL (upL l)))).getD 0 default
/-- Sixteen leaves, and the levels above them. -/
theorem levels {l : List (List UInt8)} (hl : l.length = 16) (h : ∀ p ∈ l, p.length = 32) : (upL l).length = 8 ∧ (∀ p ∈ upL l, p.length = 32) ∧ (upL (upL l)).length = 4 ∧ (∀ p ∈ upL (upL l), p.length = 32) ∧ (upL (upL (upL l))).length = 2 ∧ (∀ p ∈ upL (upL (upL l)), p.length = 32) ∧ (upL (upL (upL (upL l)))).length = 1 ∧ ∀ p ∈ upL (upL (upL (upL l))), p.length = 32 := by
  have a := upL_len h
  have b := upL_len a.2
  have c := upL_len b.2
  have d := upL_len c.2
  refine ⟨by omega, a.2, by omega, b.2, by omega, c.2, by omega, d.2⟩
theorem root_eq (L : Option O_Log) {s : S_keys_Signer} (hl : s.f_Leaves.length = 16) (h : ∀ p ∈ s.f_Leaves, p.length = 32) : ∃ L', keys_Signer_Root s L = some (rootL s.f_Leaves, L') ∧ (L = none → L' = none) := by
  obtain ⟨n1, h1, n2, h2, n3, h3, n4, h4⟩ := levels hl h
  obtain ⟨L1, a1, b1⟩ := up_eq L (by omega) h
  obtain ⟨L2, a2, b2⟩ := up_eq L1 (by omega) h1
  obtain ⟨L3, a3, b3⟩ := up_eq L2 (by omega) h2
  obtain ⟨L4, a4, b4⟩ := up_eq L3 (by omega) h3
  refine ⟨L4, ?_, fun e => b4 (b3 (b2 (b1 e)))⟩
  have st : ∀ (x : List (List UInt8)) (lg lg' : Option O_Log), 1 < x.length → keys_up lg x = some (upL x, lg') → keys_Signer_Root.b1 x lg = some (.cont (upL x, lg')) := by
    intro x lg lg' hx hu
    unfold keys_Signer_Root.b1
    rw [if_pos (by simp; omega)]
    exact bind_of hu rfl
  have en : ∀ (x : List (List UInt8)) (lg : Option O_Log), x.length = 1 → keys_Signer_Root.b1 x lg = some (.brk (x, lg)) := by
    intro x lg hx
    unfold keys_Signer_Root.b1
    rw [if_neg (by simp; omega)]
  have s1 := st s.f_Leaves L L1 (by omega) a1
  have s2 := st _ L1 L2 (by omega) a2
  have s3 := st _ L2 L3 (by omega) a3
  have s4 := st _ L3 L4 (by omega) a4
  unfold keys_Signer_Root
  rw [if_neg (by simp [hl])]
  have hf : ((s.f_Leaves.length : Int) - 1 : Int).toNat + 2 = 17 := by omega
  rw [hf]
  refine bind_next (lc (body := fun s : (List (List UInt8)) × (Option O_Log) => keys_Signer_Root.b1 s.1 s.2) 16 s1 (lc 15 s2 (lc 14 s3 (lc 13 s4 (lb_ 12 (en _ _ n4)))))) ?_
  show (if (0 : Int) ≤ 0 ∧ (0 : Int) < (upL (upL (upL (upL s.f_Leaves)))).length then _ else _) = _
  rw [if_pos (by omega)]
  rfl
noncomputable def leaves (seed : List UInt8) : List (List UInt8) := (List.range 16).map fun (i : Nat) => wordOf (pubs seed (i : Int))
theorem word_len {ps : List (List UInt8)} (h : ps.length = 64) (hp : ∀ p ∈ ps, p.length = 32) : (wordOf ps).length = 32 := ((flatSmall h hp).H 3).2
theorem leaves_len {seed : List UInt8} (h : seed.length = 32) : (leaves seed).length = 16 ∧ ∀ p ∈ leaves seed, p.length = 32 := by
  refine ⟨by simp [leaves], fun p hp => ?_⟩
  obtain ⟨j, _, rfl⟩ := List.mem_map.1 hp
  exact word_len (pubs_len h _).1 (pubs_len h _).2
theorem new_eq (L : Option O_Log) {seed : List UInt8} (h : seed.length = 32) : ∃ L', keys_New L seed = some (⟨seed, 0, leaves seed⟩, L') ∧ (L = none → L' = none) := by
  obtain ⟨c, h1, h2⟩ := loop_ok (body := fun s : Int × (Option O_Log) × (Option S_keys_Signer) => keys_New.b1 seed s.1 s.2.1 s.2.2)
    (fun s => ∃ i : Nat, i ≤ 16 ∧ s.1 = (i : Int) ∧ (L = none → s.2.1 = none) ∧ s.2.2 = some ⟨seed, 0, (List.range i).map fun (i : Nat) => wordOf (pubs seed (i : Int))⟩)
    (fun c => match c with | .next s => (L = none → s.2.1 = none) ∧ s.2.2 = some ⟨seed, 0, leaves seed⟩ | .ret _ => False) (fun s => (16 - s.1).toNat)
    (fun s ⟨i, hi, q1, q2, q3⟩ => by
      obtain ⟨x, lg, w⟩ := s
      have q1 : x = (i : Int) := q1
      have q3 : w = _ := q3
      subst q1 q3
      by_cases hlt : i < 16
      · obtain ⟨lg', a1, a2⟩ := word_law lg h (i : Int)
        refine .inl ⟨(((i + 1 : Nat) : Int), lg', _), ?_, ⟨i + 1, by omega, rfl, fun e => a2 (q2 e), rfl⟩, by simp; omega⟩
        show keys_New.b1 seed (i : Int) lg _ = _
        unfold keys_New.b1
        rw [if_pos (by simp; omega)]
        refine bind_of rfl (bind_of a1 ?_)
        rw [if_pos (by simp [mxl]; omega), w64 (by omega), List.range_succ, List.map_append]
        rfl
      · have : i = 16 := by omega
        subst this
        refine .inr (.inl ⟨((16 : Nat), lg, _), ?_, q2, rfl⟩)
        show keys_New.b1 seed 16 lg _ = _
        unfold keys_New.b1
        rw [if_neg (by simp)]
        rfl) ((16 - 0 : Int).toNat + 2) (0, L, some ⟨seed, 0, []⟩) ⟨0, by omega, rfl, fun e => e, rfl⟩ (by simp)
  unfold keys_New
  cases c with
  | ret r => exact h2.elim
  | next s =>
    obtain ⟨i, lg, w⟩ := s
    obtain ⟨h2, h3⟩ : (L = none → lg = none) ∧ w = some ⟨seed, 0, leaves seed⟩ := h2
    subst h3
    exact ⟨lg, bind_next h1 rfl, h2⟩
end

section
set_option linter.unusedVariables false

end

section
set_option linter.unusedVariables false

/-- Up from a leaf, along a path. -/
noncomputable def climbV : List (List UInt8) → Nat → List UInt8 → List UInt8
  | [], _, w => w
  | p :: ps, n, w => climbV ps (n / 2) (if n % 2 = 1 then nd p w else nd w p)
theorem shr1 (n : Nat) : shr .i64 (n : Int) 1 = ((n / 2 : Nat) : Int) := by
  unfold shr
  have : min (1 : Int).toNat IntKind.i64.bits = 1 := by simp [IntKind.bits]
  rw [this, Int.fdiv_eq_ediv_of_nonneg _ (by exact Int.le_of_lt (Int.pow_pos (by decide)))]
  simp
theorem drop_at {l : List (List UInt8)} {i : Nat} (hi : i < l.length) : l.drop i = l.getD i default :: l.drop (i + 1) := by
  rw [List.drop_eq_getElem_cons hi]; simp [List.getD, hi]
theorem climbN_eq (L : Option O_Log) {w : List UInt8} (hw : w.length = 32) (n : Nat) (hn : n < 1000000) {path : List (List UInt8)} (hp : ∀ p ∈ path, p.length = 32) (hl : path.length ≤ 1000) :
    ∃ L', keys_Climb L w (n : Int) path = some (climbV path n w, L') ∧ (L = none → L' = none) := by
  obtain ⟨c, h1, h2⟩ := loop_ok (body := fun s : Int × Int × (Option O_Log) × (List UInt8) => keys_Climb.b1 path s.1 s.2.1 s.2.2.1 s.2.2.2)
    (fun s => ∃ (i m : Nat) (lg : Option O_Log) (cur : List UInt8), i ≤ path.length ∧ m < 1000000 ∧ s = ((m : Int), (i : Int), lg, cur) ∧ climbV (path.drop i) m cur = climbV path n w ∧ cur.length = 32 ∧ (L = none → lg = none))
    (fun c => match c with | .next s => (L = none → s.2.2.1 = none) ∧ s.2.2.2 = climbV path n w | .ret _ => False) (fun s => (path.length - s.2.1).toNat)
    (fun s ⟨i, m, lg, cur, hi, hm, hs, hc, h32, hL⟩ => by
      subst hs
      by_cases hlt : i < path.length
      · have hq := get32 hp hlt
        rw [drop_at hlt, climbV] at hc
        have hpo : (path.length : Int) - ((i + 1 : Nat) : Int) < path.length - (i : Int) := by omega
        by_cases hb : m % 2 = 1
        · obtain ⟨lg', a1, a2⟩ := two_eq lg hq h32
          rw [if_pos hb] at hc
          refine .inl ⟨(((m / 2 : Nat) : Int), ((i + 1 : Nat) : Int), lg', nd (path.getD i default) cur), ?_, ⟨i + 1, m / 2, lg', _, by omega, by omega, rfl, hc, nd_len hq h32, fun e => a2 (hL e)⟩, by simp; omega⟩
          show keys_Climb.b1 path (m : Int) (i : Int) lg cur = _
          unfold keys_Climb.b1
          rw [i64_and1, if_pos (by simp; omega), if_pos (by omega), if_pos (by simp; omega)]
          refine bind_of a1 ?_
          unfold keys_Climb.j1
          rw [shr1, w64 (by omega)]
          rfl
        · obtain ⟨lg', a1, a2⟩ := two_eq lg h32 hq
          rw [if_neg hb] at hc
          refine .inl ⟨(((m / 2 : Nat) : Int), ((i + 1 : Nat) : Int), lg', nd cur (path.getD i default)), ?_, ⟨i + 1, m / 2, lg', _, by omega, by omega, rfl, hc, nd_len h32 hq, fun e => a2 (hL e)⟩, by simp; omega⟩
          show keys_Climb.b1 path (m : Int) (i : Int) lg cur = _
          unfold keys_Climb.b1
          rw [i64_and1, if_pos (by simp; omega), if_pos (by omega), if_neg (by simp; omega)]
          refine bind_of a1 ?_
          unfold keys_Climb.j1
          rw [shr1, w64 (by omega)]
          rfl
      · have : i = path.length := by omega
        subst this
        rw [List.drop_length, climbV] at hc
        refine .inr (.inl ⟨((m : Int), ((path.length : Nat) : Int), lg, cur), ?_, hL, hc⟩)
        show keys_Climb.b1 path (m : Int) (path.length : Int) lg cur = _
        unfold keys_Climb.b1
        rw [if_neg (by simp)]) (((path.length : Int) - 0 : Int).toNat + 2) ((n : Int), 0, L, w) ⟨0, n, L, w, by omega, hn, rfl, rfl, hw, fun e => e⟩ (by simp)
  unfold keys_Climb
  cases c with
  | ret r => exact h2.elim
  | next s =>
    obtain ⟨x, y, lg, cur⟩ := s
    obtain ⟨h2, h3⟩ : (L = none → lg = none) ∧ cur = climbV path n w := h2
    subst h3
    exact ⟨lg, bind_next h1 rfl, h2⟩
/-- Is a signature right under a root? -/
noncomputable def verV (root d : List UInt8) (s : S_api_Sig) : Bool :=
  decide (0 ≤ s.f_Index) && decide (s.f_Index < 16) && decide (s.f_Path.length = 4) && decide (s.f_Parts.length = 32) && decide (s.f_Others.length = 32) &&
    decide (climbV s.f_Path s.f_Index.toNat (wordOf (opn d s.f_Parts s.f_Others)) = root)
def Sig32 (s : S_api_Sig) : Prop := (∀ p ∈ s.f_Parts, p.length = 32) ∧ (∀ p ∈ s.f_Others, p.length = 32) ∧ ∀ p ∈ s.f_Path, p.length = 32
theorem verV_no {root d : List UInt8} {s : S_api_Sig} (h : ¬(0 ≤ s.f_Index ∧ s.f_Index < 16 ∧ s.f_Path.length = 4)) : verV root d s = false := by
  unfold verV
  by_cases h1 : 0 ≤ s.f_Index
  · by_cases h2 : s.f_Index < 16
    · have h3 : ¬ s.f_Path.length = 4 := fun e => h ⟨h1, h2, e⟩
      simp [h3]
    · simp [h2]
  · simp [h1]
theorem verV_no2 {root d : List UInt8} {s : S_api_Sig} (h : ¬(s.f_Parts.length = 32 ∧ s.f_Others.length = 32)) : verV root d s = false := by
  unfold verV
  by_cases h1 : s.f_Parts.length = 32
  · have h3 : ¬ s.f_Others.length = 32 := fun e => h ⟨h1, e⟩
    simp [h3]
  · simp [h1]
theorem verify_eq (L : Option O_Log) (root d : List UInt8) {s : S_api_Sig} (hs : Sig32 s) : ∃ L', keys_Verify L root d s = some (verV root d s, L') ∧ (L = none → L' = none) := by
  unfold keys_Verify
  by_cases h1 : 0 ≤ s.f_Index
  · rw [if_neg (by simp; omega)]
    by_cases h2 : s.f_Index < 16
    · rw [if_neg (by simp; omega)]
      unfold keys_Verify.j1
      by_cases h3 : s.f_Path.length = 4
      · rw [if_neg (by simp [h3])]
        by_cases h4 : s.f_Parts.length = 32 ∧ s.f_Others.length = 32
        · obtain ⟨L1, a1, b1⟩ := opened_eq L d ⟨h4.1, hs.1⟩ ⟨h4.2, hs.2.1⟩
          obtain ⟨n, hn⟩ : ∃ n : Nat, s.f_Index = (n : Int) := ⟨s.f_Index.toNat, by omega⟩
          have hol := opn_len (d := d) ⟨h4.1, hs.1⟩ ⟨h4.2, hs.2.1⟩
          obtain ⟨L2, a2, b2⟩ := climbN_eq L1 (word_len hol.1 hol.2) n (by omega) hs.2.2 (by omega)
          refine ⟨L2, ?_, fun e => b2 (b1 e)⟩
          refine bind_of a1 ?_
          rw [if_pos rfl, hn]
          refine bind_of a2 ?_
          unfold keys_Verify.j2 verV
          simp [hn, h3, h4.1, h4.2, show (n : Int) < 16 by omega]
        · refine ⟨L, ?_, fun e => e⟩
          refine bind_of (opened_no L d h4) ?_
          rw [if_neg (by simp), verV_no2 h4]
          rfl
      · rw [if_pos (by simp; omega), verV_no (fun h => h3 h.2.2)]
        exact ⟨L, rfl, fun e => e⟩
    · rw [if_pos (by simp; omega), verV_no (fun h => h2 h.2.1)]
      exact ⟨L, rfl, fun e => e⟩
  · rw [if_pos (by simp; omega), verV_no (fun h => h1 h.1)]
    exact ⟨L, rfl, fun e => e⟩
end

section
set_option linter.unusedVariables false

theorem wordU {x : Int} (h : 0 ≤ x ∧ x < 4294967296) : wire_Word x = some (wrd x) := by
  unfold wire_Word wrd
  rw [wu64 (by omega), wu32 h, big4]
  rfl
def clP (home : Int) (a b : List UInt8) : List (List UInt8) := [wrd home, a, b]
theorem clSmall {home : Int} {a b : List UInt8} (ha : a.length = 32) (hb : b.length = 32) : Small (clP home a b) := ⟨fun p hp => by
  simp only [clP, List.mem_cons, List.not_mem_nil, or_false] at hp
  rcases hp with rfl | rfl | rfl
  · simp [wrd, hd4]
  · omega
  · omega, by simp [clP]⟩
noncomputable def claim (home : Int) (a b : List UInt8) : List UInt8 := H (inp 7 (clP home a b))
theorem claim_eq (L : Option O_Log) {home : Int} (hh : 0 ≤ home ∧ home < 4294967296) {a b : List UInt8} (ha : a.length = 32) (hb : b.length = 32) : ∃ L', update_Claim L home a b = some (claim home a b, L') ∧ (L = none → L' = none) := by
  obtain ⟨L', h1, h2⟩ := dOf L 7 (clSmall (home := home) ha hb)
  refine ⟨L', ?_, h2⟩
  unfold update_Claim
  exact bind_of (wordU hh) (bind_of (dig_eq ha) (bind_of (dig_eq hb) (bind_of h1 rfl)))
end

section
set_option linter.unusedVariables false

/-- The neighbour of a place. -/
def sib (n : Nat) : Nat := if n % 2 = 1 then n - 1 else n + 1
theorem sib_lt {n m : Nat} (h : n < 2 * m) : sib n < 2 * m := by unfold sib; split <;> omega
theorem xor1 (n : Nat) (h : n < 16) : bits .xor .i64 (n : Int) 1 = ((sib n : Nat) : Int) := by
  have : ∀ n : Fin 16, bits .xor .i64 ((n.val : Nat) : Int) 1 = ((sib n.val : Nat) : Int) := by decide
  exact this ⟨n, h⟩
noncomputable def pathL (l : List (List UInt8)) (i : Nat) : List (List UInt8) := [l.getD (sib i) default, (upL l).getD (sib (i / 2)) default, (upL (upL l)).getD (sib (i / 2 / 2)) default, (upL (upL (upL l))).getD (sib (i / 2 / 2 / 2)) default]
theorem pathL_len {l : List (List UInt8)} (hl : l.length = 16) (h : ∀ p ∈ l, p.length = 32) {i : Nat} (hi : i < 16) : ∀ p ∈ pathL l i, p.length = 32 := by
  obtain ⟨n1, h1, n2, h2, n3, h3, _⟩ := levels hl h
  have s0 := sib_lt (n := i) (m := 8) (by omega)
  have s1 := sib_lt (n := i / 2) (m := 4) (by omega)
  have s2 := sib_lt (n := i / 2 / 2) (m := 2) (by omega)
  have s3 := sib_lt (n := i / 2 / 2 / 2) (m := 1) (by omega)
  intro p hp
  simp only [pathL, List.mem_cons, List.not_mem_nil, or_false] at hp
  rcases hp with rfl | rfl | rfl | rfl
  · exact get32 h (by omega)
  · exact get32 h1 (by omega)
  · exact get32 h2 (by omega)
  · exact get32 h3 (by omega)
theorem half_i (n : Nat) (h : n < 16) : IntKind.wrap .i64 ((n : Int).tdiv 2) = ((n / 2 : Nat) : Int) := by
  rw [Int.tdiv_eq_ediv_of_nonneg (by omega), w64 (by omega)]
  omega
theorem pathI_eq (L : Option O_Log) {s : S_keys_Signer} (hl : s.f_Leaves.length = 16) (h : ∀ p ∈ s.f_Leaves, p.length = 32) {i : Nat} (hi : i < 16) : ∃ L', keys_Signer_path s L (i : Int) = some (pathL s.f_Leaves i, L') ∧ (L = none → L' = none) := by
  obtain ⟨n1, h1, n2, h2, n3, h3, n4, h4⟩ := levels hl h
  obtain ⟨L1, a1, b1⟩ := up_eq L (by omega) h
  obtain ⟨L2, a2, b2⟩ := up_eq L1 (by omega) h1
  obtain ⟨L3, a3, b3⟩ := up_eq L2 (by omega) h2
  obtain ⟨L4, a4, b4⟩ := up_eq L3 (by omega) h3
  refine ⟨L4, ?_, fun e => b4 (b3 (b2 (b1 e)))⟩
  have st : ∀ (n m : Nat) (x : List (List UInt8)) (lg lg' : Option O_Log) (w : List (List UInt8)), n < 16 → n < 2 * m → 0 < m → x.length = 2 * m → w.length < 100 → keys_up lg x = some (upL x, lg') → keys_Signer_path.b1 (n : Int) x lg w = some (.cont (((n / 2 : Nat) : Int), upL x, lg', w ++ [x.getD (sib n) default])) := by
    intro n m x lg lg' w hn hnm hm hx1 hw hu
    have hs := sib_lt hnm
    have e1 : ((sib n : Nat) : Int).toNat = sib n := by omega
    unfold keys_Signer_path.b1
    rw [xor1 n hn, half_i n hn, if_pos (by simp; omega), if_pos (by omega), if_pos (by simp [mxl]; omega), e1]
    exact bind_of hu rfl
  have en : ∀ (n : Int) (x : List (List UInt8)) (lg : Option O_Log) (w : List (List UInt8)), x.length = 1 → keys_Signer_path.b1 n x lg w = some (.brk (n, x, lg, w)) := by
    intro n x lg w hx1
    unfold keys_Signer_path.b1
    rw [if_neg (by simp; omega)]
  have s1 := st i 8 s.f_Leaves L L1 [] (by omega) (by omega) (by omega) (by omega) (by simp) a1
  have s2 := st (i / 2) 4 _ L1 L2 ([] ++ [s.f_Leaves.getD (sib i) default]) (by omega) (by omega) (by omega) (by omega) (by simp) a2
  have s3 := st (i / 2 / 2) 2 _ L2 L3 (([] ++ [s.f_Leaves.getD (sib i) default]) ++ [(upL s.f_Leaves).getD (sib (i / 2)) default]) (by omega) (by omega) (by omega) (by omega) (by simp) a3
  have s4 := st (i / 2 / 2 / 2) 1 _ L3 L4 ((([] ++ [s.f_Leaves.getD (sib i) default]) ++ [(upL s.f_Leaves).getD (sib (i / 2)) default]) ++ [(upL (upL s.f_Leaves)).getD (sib (i / 2 / 2)) default]) (by omega) (by omega) (by omega) (by omega) (by simp) a4
  unfold keys_Signer_path
  have hf : ((s.f_Leaves.length : Int) - 1 : Int).toNat + 2 = 17 := by omega
  rw [hf]
  refine bind_next (lc (body := fun s : Int × (List (List UInt8)) × (Option O_Log) × (List (List UInt8)) => keys_Signer_path.b1 s.1 s.2.1 s.2.2.1 s.2.2.2) 16 s1 (lc 15 s2 (lc 14 s3 (lc 13 s4 (lb_ 12 (en _ _ _ _ n4)))))) ?_
  rfl
/-- What a key signs. -/
noncomputable def sigV (seed : List UInt8) (ls : List (List UInt8)) (i : Nat) (d : List UInt8) : S_api_Sig := ⟨(i : Int), sgP seed (i : Int) d, sgO seed (i : Int) d, pathL ls i⟩
theorem again_eq (L : Option O_Log) {s : S_keys_Signer} (hs : s.f_Seed.length = 32) (hl : s.f_Leaves.length = 16) (h : ∀ p ∈ s.f_Leaves, p.length = 32) {i : Nat} (hi : i < 16) (d : List UInt8) : ∃ L', keys_Signer_Again s L (i : Int) d = some (sigV s.f_Seed s.f_Leaves i d, 0, L') ∧ (L = none → L' = none) := by
  obtain ⟨L1, a1, b1⟩ := sign_eq L hs (i : Int) d
  obtain ⟨L2, a2, b2⟩ := pathI_eq L1 hl h hi
  refine ⟨L2, ?_, fun e => b2 (b1 e)⟩
  unfold keys_Signer_Again
  rw [if_neg (by simp [hl]), if_neg (by simp <;> omega)]
  unfold keys_Signer_Again.j1
  rw [if_neg (by simp <;> omega)]
  exact bind_of a1 (bind_of a2 rfl)
theorem signer_eq (L : Option O_Log) {s : S_keys_Signer} (hs : s.f_Seed.length = 32) (hl : s.f_Leaves.length = 16) (h : ∀ p ∈ s.f_Leaves, p.length = 32) {i : Nat} (hi : i < 16) (hn : s.f_Next = (i : Int)) (d : List UInt8) : ∃ L', keys_Signer_Sign s L d = some (⟨s.f_Seed, (i : Int) + 1, s.f_Leaves⟩, sigV s.f_Seed s.f_Leaves i d, 0, L') ∧ (L = none → L' = none) := by
  obtain ⟨L1, a1, b1⟩ := again_eq L hs hl h hi d
  have hc : slices_Clone_api_Digest s.f_Leaves = some s.f_Leaves := by
    unfold slices_Clone_api_Digest
    rw [if_pos (by omega)]
  refine ⟨L1, ?_, b1⟩
  unfold keys_Signer_Sign
  rw [hn, if_neg (by simp <;> omega)]
  unfold keys_Signer_Sign.j1
  rw [if_neg (by simp <;> omega), hn]
  refine bind_of a1 ?_
  rw [if_neg (by simp)]
  refine bind_of hc ?_
  rw [w64 (by omega)]
/-- From a level to the one above. -/
theorem climb_step {l : List (List UInt8)} {m i : Nat} (hl : l.length = 2 * m) (hi : i < 2 * m) : (if i % 2 = 1 then nd (l.getD (sib i) default) (l.getD i default) else nd (l.getD i default) (l.getD (sib i) default)) = (upL l).getD (i / 2) default := by
  rw [upL_at l (i / 2) (by omega)]
  unfold sib
  split
  · rw [show i - 1 = 2 * (i / 2) by omega, show 2 * (i / 2) + 1 = i by omega]
  · rw [show i + 1 = 2 * (i / 2) + 1 by omega, show 2 * (i / 2) = i by omega]
theorem climb_pathL {l : List (List UInt8)} (hl : l.length = 16) (h : ∀ p ∈ l, p.length = 32) {i : Nat} (hi : i < 16) : climbV (pathL l i) i (l.getD i default) = rootL l := by
  obtain ⟨n1, h1, n2, h2, n3, h3, n4, h4⟩ := levels hl h
  unfold pathL
  simp only [climbV]
  rw [climb_step (l := l) (m := 8) (by omega) (by omega), climb_step (l := upL l) (m := 4) (by omega) (by omega), climb_step (l := upL (upL l)) (m := 2) (by omega) (by omega), climb_step (l := upL (upL (upL l))) (m := 1) (by omega) (by omega)]
  have : i / 2 / 2 / 2 / 2 = 0 := by omega
  rw [this]
  rfl
theorem leaf_at (seed : List UInt8) {i : Nat} (hi : i < 16) : (leaves seed).getD i default = wordOf (pubs seed (i : Int)) := by simp [leaves, List.getD, hi]
/-- What a signer's key signed is right under its root. -/
theorem verV_sig {seed : List UInt8} (h : seed.length = 32) {i : Nat} (hi : i < 16) (d : List UInt8) : verV (rootL (leaves seed)) d (sigV seed (leaves seed) i d) = true := by
  obtain ⟨hl, h32⟩ := leaves_len h
  have hc := climb_pathL hl h32 hi
  rw [leaf_at seed hi, ← opn_sign seed (i : Int) d] at hc
  unfold verV sigV
  simp only [Int.toNat_natCast, hc, decide_true, Bool.and_true]
  simp [(sgP_len h (i : Int) d).1, (sgO_len h (i : Int) d).1, pathL]
  omega
end
end Go.Proofs.YtklikgigjdgjaaaGreatDoorRRR
