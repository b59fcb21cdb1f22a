/- Plain laws: P20, P20b, P23a, as one text. -/
import Derived.Test.YtamnmljgcmbliaaDoorP7
namespace Go.Proofs.YtamnmljgcmbliaaDoor
open Go Go.RowKit Go.Proofs
section
set_option linter.unusedVariables false

noncomputable def nd (a b : List UInt8) : List UInt8 := H (inp 4 [a, b])
theorem ndSmall {a b : List UInt8} (ha : a.length = 32) (hb : b.length = 32) : Small [a, b] := ⟨fun p hp => by simp only [List.mem_cons, List.not_mem_nil, or_false] at hp; rcases hp with rfl | rfl <;> omega, by simp⟩
theorem nd_len {a b : List UInt8} (ha : a.length = 32) (hb : b.length = 32) : (nd a b).length = 32 := ((ndSmall ha hb).H 4).2
theorem two_eq (L : Option O_Log) {a b : List UInt8} (ha : a.length = 32) (hb : b.length = 32) : ∃ L', digest_Log_Two L 4 a b = some (nd a b, L') ∧ (L = none → L' = none) := by
  obtain ⟨L', h1, h2⟩ := dOf L 4 (ndSmall ha hb)
  refine ⟨L', ?_, h2⟩
  unfold digest_Log_Two
  exact bind_of (dig_eq ha) (bind_of (dig_eq hb) (bind_of h1 rfl))
/-- The level above. -/
noncomputable def upA (l : List (List UInt8)) (j : Nat) : List UInt8 := nd (l.getD (2 * j) default) (l.getD (2 * j + 1) default)
noncomputable def upL (l : List (List UInt8)) : List (List UInt8) := (List.range (l.length / 2)).map (upA l)
theorem get32 {l : List (List UInt8)} (h : ∀ p ∈ l, p.length = 32) {i : Nat} (hi : i < l.length) : (l.getD i default).length = 32 := by
  rw [show l.getD i default = l[i] from by simp [List.getD, hi]]
  exact h _ (List.getElem_mem hi)
theorem upL_len {l : List (List UInt8)} (h : ∀ p ∈ l, p.length = 32) : (upL l).length = l.length / 2 ∧ ∀ p ∈ upL l, p.length = 32 := by
  refine ⟨by simp [upL], fun p hp => ?_⟩
  obtain ⟨j, hj, rfl⟩ := List.mem_map.1 hp
  have hj : j < l.length / 2 := List.mem_range.1 hj
  exact nd_len (get32 h (by omega)) (get32 h (by omega))
theorem upL_at (l : List (List UInt8)) (j : Nat) (hj : j < l.length / 2) : (upL l).getD j default = nd (l.getD (2 * j) default) (l.getD (2 * j + 1) default) := by
  simp [upL, List.getD, hj, upA]
theorem up_eq (L : Option O_Log) {l : List (List UInt8)} (hl : l.length ≤ 1000) (h : ∀ p ∈ l, p.length = 32) : ∃ L', keys_up L l = some (upL l, L') ∧ (L = none → L' = none) := by
  obtain ⟨c, h1, h2⟩ := loop_ok (body := fun s : Int × (Option O_Log) × (List (List UInt8)) => keys_up.b1 l s.1 s.2.1 s.2.2)
    (fun s => ∃ i : Nat, i ≤ l.length / 2 ∧ s.1 = ((2 * i : Nat) : Int) ∧ (L = none → s.2.1 = none) ∧ s.2.2 = (List.range i).map (upA l))
    (fun c => match c with | .next s => (L = none → s.2.1 = none) ∧ s.2.2 = upL l | .ret _ => False) (fun s => (l.length + 1 - s.1).toNat)
    (fun s ⟨i, hi, q1, q2, q3⟩ => by
      obtain ⟨x, lg, w⟩ := s
      have q1 : x = ((2 * i : Nat) : Int) := q1
      have q3 : w = _ := q3
      subst q1 q3
      by_cases hlt : i < l.length / 2
      · obtain ⟨lg', a1, a2⟩ := two_eq lg (get32 h (i := 2 * i) (by omega)) (get32 h (i := 2 * i + 1) (by omega))
        refine .inl ⟨(((2 * (i + 1) : Nat) : Int), lg', (List.range (i + 1)).map (upA l)), ?_, ⟨i + 1, by omega, rfl, fun e => a2 (q2 e), rfl⟩, by simp; omega⟩
        show keys_up.b1 l ((2 * i : Nat) : Int) lg _ = _
        unfold keys_up.b1
        have e1 : ((2 * i : Nat) : Int).toNat = 2 * i := by omega
        have e2 : (((2 * i : Nat) : Int) + 1).toNat = 2 * i + 1 := by omega
        rw [w64 (x := ((2 * i : Nat) : Int) + 1) (by omega), w64 (x := ((2 * i : Nat) : Int) + 2) (by omega), if_pos (by simp; omega), if_pos (by omega), if_pos (by omega), e1, e2]
        refine bind_of a1 ?_
        rw [if_pos (by simp [mxl]; omega), List.range_succ, List.map_append]
        have e3 : ((2 * i : Nat) : Int) + 2 = ((2 * (i + 1) : Nat) : Int) := by omega
        rw [e3]
        rfl
      · have hie : i = l.length / 2 := by omega
        refine .inr (.inl ⟨(((2 * i : Nat) : Int), lg, (List.range i).map (upA l)), ?_, q2, by rw [hie]; rfl⟩)
        show keys_up.b1 l ((2 * i : Nat) : Int) lg _ = _
        unfold keys_up.b1
        rw [w64 (x := ((2 * i : Nat) : Int) + 1) (by omega), if_neg (by simp; omega)]) 100000 (0, L, []) ⟨0, by omega, rfl, fun e => e, rfl⟩ (by simp; omega)
  unfold keys_up
  cases c with
  | ret r => exact h2.elim
  | next s =>
    obtain ⟨i, lg, w⟩ := s
    obtain ⟨h2, h3⟩ : (L = none → lg = none) ∧ w = upL l := h2
    subst h3
    exact ⟨lg, bind_next h1 rfl, h2⟩
theorem lc {R S : Type} {body : S → Option (Flow R S)} (k : Nat) {s s' : S} {r : Option (Ctl R S)} (h1 : body s = some (.cont s')) (h2 : loopN body k s' = r) : loopN body (k + 1) s = r := by
  unfold loopN
  rw [h1]
  exact h2
theorem lb_ {R S : Type} {body : S → Option (Flow R S)} (k : Nat) {s s' : S} (h1 : body s = some (.brk s')) : loopN body (k + 1) s = some (.next s') := by
  unfold loopN
  rw [h1]
noncomputable def rootL (l : List (List UInt8)) : List UInt8 := (upL (upL (upL (upL l)))).getD 0 default
/-- Sixteen leaves, and the levels above them. -/
theorem levels {l : List (List UInt8)} (hl : l.length = 16) (h : ∀ p ∈ l, p.length = 32) : (upL l).length = 8 ∧ (∀ p ∈ upL l, p.length = 32) ∧ (upL (upL l)).length = 4 ∧ (∀ p ∈ upL (upL l), p.length = 32) ∧ (upL (upL (upL l))).length = 2 ∧ (∀ p ∈ upL (upL (upL l)), p.length = 32) ∧ (upL (upL (upL (upL l)))).length = 1 ∧ ∀ p ∈ upL (upL (upL (upL l))), p.length = 32 := by
  have a := upL_len h
  have b := upL_len a.2
  have c := upL_len b.2
  have d := upL_len c.2
  refine ⟨by omega, a.2, by omega, b.2, by omega, c.2, by omega, d.2⟩
theorem root_eq (L : Option O_Log) {s : S_keys_Signer} (hl : s.f_Leaves.length = 16) (h : ∀ p ∈ s.f_Leaves, p.length = 32) : ∃ L', keys_Signer_Root s L = some (rootL s.f_Leaves, L') ∧ (L = none → L' = none) := by
  obtain ⟨n1, h1, n2, h2, n3, h3, n4, h4⟩ := levels hl h
  obtain ⟨L1, a1, b1⟩ := up_eq L (by omega) h
  obtain ⟨L2, a2, b2⟩ := up_eq L1 (by omega) h1
  obtain ⟨L3, a3, b3⟩ := up_eq L2 (by omega) h2
  obtain ⟨L4, a4, b4⟩ := up_eq L3 (by omega) h3
  refine ⟨L4, ?_, fun e => b4 (b3 (b2 (b1 e)))⟩
  have st : ∀ (x : List (List UInt8)) (lg lg' : Option O_Log), 1 < x.length → keys_up lg x = some (upL x, lg') → keys_Signer_Root.b1 x lg = some (.cont (upL x, lg')) := by
    intro x lg lg' hx hu
    unfold keys_Signer_Root.b1
    rw [if_pos (by simp; omega)]
    exact bind_of hu rfl
  have en : ∀ (x : List (List UInt8)) (lg : Option O_Log), x.length = 1 → keys_Signer_Root.b1 x lg = some (.brk (x, lg)) := by
    intro x lg hx
    unfold keys_Signer_Root.b1
    rw [if_neg (by simp; omega)]
  have s1 := st s.f_Leaves L L1 (by omega) a1
  have s2 := st _ L1 L2 (by omega) a2
  have s3 := st _ L2 L3 (by omega) a3
  have s4 := st _ L3 L4 (by omega) a4
  unfold keys_Signer_Root
  rw [if_neg (by simp [hl])]
  have hf : ((s.f_Leaves.length : Int) - 1 : Int).toNat + 2 = 17 := by omega
  rw [hf]
  refine bind_next (lc (body := fun s : (List (List UInt8)) × (Option O_Log) => keys_Signer_Root.b1 s.1 s.2) 16 s1 (lc 15 s2 (lc 14 s3 (lc 13 s4 (lb_ 12 (en _ _ n4)))))) ?_
  show (if (0 : Int) ≤ 0 ∧ (0 : Int) < (upL (upL (upL (upL s.f_Leaves)))).length then _ else _) = _
  rw [if_pos (by omega)]
  rfl
/-- The first leaf's path. -/
noncomputable def path0 (l : List (List UInt8)) : List (List UInt8) := [l.getD 1 default, (upL l).getD 1 default, (upL (upL l)).getD 1 default, (upL (upL (upL l))).getD 1 default]
theorem path_eq (L : Option O_Log) {s : S_keys_Signer} (hl : s.f_Leaves.length = 16) (h : ∀ p ∈ s.f_Leaves, p.length = 32) : ∃ L', keys_Signer_path s L 0 = some (path0 s.f_Leaves, L') ∧ (L = none → L' = none) := by
  obtain ⟨n1, h1, n2, h2, n3, h3, n4, h4⟩ := levels hl h
  obtain ⟨L1, a1, b1⟩ := up_eq L (by omega) h
  obtain ⟨L2, a2, b2⟩ := up_eq L1 (by omega) h1
  obtain ⟨L3, a3, b3⟩ := up_eq L2 (by omega) h2
  obtain ⟨L4, a4, b4⟩ := up_eq L3 (by omega) h3
  refine ⟨L4, ?_, fun e => b4 (b3 (b2 (b1 e)))⟩
  have hx : bits .xor .i64 0 1 = 1 := by decide
  have hd : IntKind.wrap .i64 ((0 : Int).tdiv 2) = 0 := by decide
  have st : ∀ (x : List (List UInt8)) (lg lg' : Option O_Log) (w : List (List UInt8)), 1 < x.length → w.length < 100 → keys_up lg x = some (upL x, lg') → keys_Signer_path.b1 0 x lg w = some (.cont (0, upL x, lg', w ++ [x.getD 1 default])) := by
    intro x lg lg' w hx1 hw hu
    unfold keys_Signer_path.b1
    rw [hx, hd, if_pos (by simp; omega), if_pos (by omega), if_pos (by simp [mxl]; omega)]
    exact bind_of hu rfl
  have en : ∀ (x : List (List UInt8)) (lg : Option O_Log) (w : List (List UInt8)), x.length = 1 → keys_Signer_path.b1 0 x lg w = some (.brk (0, x, lg, w)) := by
    intro x lg w hx1
    unfold keys_Signer_path.b1
    rw [if_neg (by simp; omega)]
  have s1 := st s.f_Leaves L L1 [] (by omega) (by simp) a1
  have s2 := st _ L1 L2 ([] ++ [s.f_Leaves.getD 1 default]) (by omega) (by simp) a2
  have s3 := st _ L2 L3 (([] ++ [s.f_Leaves.getD 1 default]) ++ [(upL s.f_Leaves).getD 1 default]) (by omega) (by simp) a3
  have s4 := st _ L3 L4 ((([] ++ [s.f_Leaves.getD 1 default]) ++ [(upL s.f_Leaves).getD 1 default]) ++ [(upL (upL s.f_Leaves)).getD 1 default]) (by omega) (by simp) a4
  unfold keys_Signer_path
  have hf : ((s.f_Leaves.length : Int) - 1 : Int).toNat + 2 = 17 := by omega
  rw [hf]
  refine bind_next (lc (body := fun s : Int × (List (List UInt8)) × (Option O_Log) × (List (List UInt8)) => keys_Signer_path.b1 s.1 s.2.1 s.2.2.1 s.2.2.2) 16 s1 (lc 15 s2 (lc 14 s3 (lc 13 s4 (lb_ 12 (en _ _ _ n4)))))) ?_
  rfl
theorem climb_eq (L : Option O_Log) {w : List UInt8} (hw : w.length = 32) {p0 p1 p2 p3 : List UInt8} (h0 : p0.length = 32) (h1 : p1.length = 32) (h2 : p2.length = 32) (h3 : p3.length = 32) : ∃ L', keys_Climb L w 0 [p0, p1, p2, p3] = some (nd (nd (nd (nd w p0) p1) p2) p3, L') ∧ (L = none → L' = none) := by
  obtain ⟨L1, a1, b1⟩ := two_eq L hw h0
  obtain ⟨L2, a2, b2⟩ := two_eq L1 (nd_len hw h0) h1
  obtain ⟨L3, a3, b3⟩ := two_eq L2 (nd_len (nd_len hw h0) h1) h2
  obtain ⟨L4, a4, b4⟩ := two_eq L3 (nd_len (nd_len (nd_len hw h0) h1) h2) h3
  refine ⟨L4, ?_, fun e => b4 (b3 (b2 (b1 e)))⟩
  have hand : bits .and .i64 0 1 = 0 := by decide
  have hsh : shr .i64 0 1 = 0 := by decide
  have st : ∀ (j : Nat) (lg lg' : Option O_Log) (x y : List UInt8), j < 4 → [p0, p1, p2, p3].getD j default = y → digest_Log_Two lg 4 x y = some (nd x y, lg') → keys_Climb.b1 [p0, p1, p2, p3] 0 (j : Int) lg x = some (.cont (0, ((j + 1 : Nat) : Int), lg', nd x y)) := by
    intro j lg lg' x y hj hy hu
    unfold keys_Climb.b1
    have e : [p0, p1, p2, p3].getD (j : Int).toNat default = y := hy
    rw [hand, if_pos (by simp; omega), if_pos (by simp; omega), if_neg (by decide), e]
    refine bind_of hu ?_
    unfold keys_Climb.j1
    rw [hsh, w64 (by omega)]
    rfl
  have en : ∀ (lg : Option O_Log) (x : List UInt8), keys_Climb.b1 [p0, p1, p2, p3] 0 4 lg x = some (.brk (0, 4, lg, x)) := by
    intro lg x
    unfold keys_Climb.b1
    rw [if_neg (by simp)]
  unfold keys_Climb
  refine bind_next (lc (body := fun s : Int × Int × (Option O_Log) × (List UInt8) => keys_Climb.b1 [p0, p1, p2, p3] s.1 s.2.1 s.2.2.1 s.2.2.2) 5 (st 0 _ _ _ _ (by omega) rfl a1) (lc 4 (st 1 _ _ _ _ (by omega) rfl a2) (lc 3 (st 2 _ _ _ _ (by omega) rfl a3) (lc 2 (st 3 _ _ _ _ (by omega) rfl a4) (lb_ 1 (en _ _)))))) ?_
  rfl
theorem climb_root {l : List (List UInt8)} (hl : l.length = 16) (h : ∀ p ∈ l, p.length = 32) : nd (nd (nd (nd (l.getD 0 default) (l.getD 1 default)) ((upL l).getD 1 default)) ((upL (upL l)).getD 1 default)) ((upL (upL (upL l))).getD 1 default) = rootL l := by
  obtain ⟨n1, h1, n2, h2, n3, h3, n4, h4⟩ := levels hl h
  unfold rootL
  rw [upL_at (upL (upL (upL l))) 0 (by omega), upL_at (upL (upL l)) 0 (by omega), upL_at (upL l) 0 (by omega), upL_at l 0 (by omega)]
noncomputable def leaves (seed : List UInt8) : List (List UInt8) := (List.range 16).map fun (i : Nat) => wordOf (pubs seed (i : Int))
theorem word_len {ps : List (List UInt8)} (h : ps.length = 64) (hp : ∀ p ∈ ps, p.length = 32) : (wordOf ps).length = 32 := ((flatSmall h hp).H 3).2
theorem leaves_len {seed : List UInt8} (h : seed.length = 32) : (leaves seed).length = 16 ∧ ∀ p ∈ leaves seed, p.length = 32 := by
  refine ⟨by simp [leaves], fun p hp => ?_⟩
  obtain ⟨j, _, rfl⟩ := List.mem_map.1 hp
  exact word_len (pubs_len h _).1 (pubs_len h _).2
theorem new_eq (L : Option O_Log) {seed : List UInt8} (h : seed.length = 32) : ∃ L', keys_New L seed = some (⟨seed, 0, leaves seed⟩, L') ∧ (L = none → L' = none) := by
  obtain ⟨c, h1, h2⟩ := loop_ok (body := fun s : Int × (Option O_Log) × (Option S_keys_Signer) => keys_New.b1 seed s.1 s.2.1 s.2.2)
    (fun s => ∃ i : Nat, i ≤ 16 ∧ s.1 = (i : Int) ∧ (L = none → s.2.1 = none) ∧ s.2.2 = some ⟨seed, 0, (List.range i).map fun (i : Nat) => wordOf (pubs seed (i : Int))⟩)
    (fun c => match c with | .next s => (L = none → s.2.1 = none) ∧ s.2.2 = some ⟨seed, 0, leaves seed⟩ | .ret _ => False) (fun s => (16 - s.1).toNat)
    (fun s ⟨i, hi, q1, q2, q3⟩ => by
      obtain ⟨x, lg, w⟩ := s
      have q1 : x = (i : Int) := q1
      have q3 : w = _ := q3
      subst q1 q3
      by_cases hlt : i < 16
      · obtain ⟨lg', a1, a2⟩ := word_law lg h (i : Int)
        refine .inl ⟨(((i + 1 : Nat) : Int), lg', _), ?_, ⟨i + 1, by omega, rfl, fun e => a2 (q2 e), rfl⟩, by simp; omega⟩
        show keys_New.b1 seed (i : Int) lg _ = _
        unfold keys_New.b1
        rw [if_pos (by simp; omega)]
        refine bind_of rfl (bind_of a1 ?_)
        rw [if_pos (by simp [mxl]; omega), w64 (by omega), List.range_succ, List.map_append]
        rfl
      · have : i = 16 := by omega
        subst this
        refine .inr (.inl ⟨((16 : Nat), lg, _), ?_, q2, rfl⟩)
        show keys_New.b1 seed 16 lg _ = _
        unfold keys_New.b1
        rw [if_neg (by simp)]
        rfl) ((16 - 0 : Int).toNat + 2) (0, L, some ⟨seed, 0, []⟩) ⟨0, by omega, rfl, fun e => e, rfl⟩ (by simp)
  unfold keys_New
  cases c with
  | ret r => exact h2.elim
  | next s =>
    obtain ⟨i, lg, w⟩ := s
    obtain ⟨h2, h3⟩ : (L = none → lg = none) ∧ w = some ⟨seed, 0, leaves seed⟩ := h2
    subst h3
    exact ⟨lg, bind_next h1 rfl, h2⟩
end

section
set_option linter.unusedVariables false
/-- What a fresh signer signs first. -/
theorem again0 (L : Option O_Log) {seed d : List UInt8} (h : seed.length = 32) : ∃ L', keys_Signer_Again ⟨seed, 0, leaves seed⟩ L 0 d = some (⟨0, sgP seed 0 d, sgO seed 0 d, path0 (leaves seed)⟩, 0, L') ∧ (L = none → L' = none) := by
  obtain ⟨L1, a1, b1⟩ := sign_eq L h 0 d
  obtain ⟨L2, a2, b2⟩ := path_eq L1 (s := ⟨seed, 0, leaves seed⟩) (leaves_len h).1 (leaves_len h).2
  refine ⟨L2, ?_, fun e => b2 (b1 e)⟩
  have hl := (leaves_len h).1
  unfold keys_Signer_Again
  rw [if_neg (by simp [hl]), if_neg (by simp)]
  unfold keys_Signer_Again.j1
  rw [if_neg (by simp)]
  exact bind_of a1 (bind_of a2 rfl)
theorem sign0 (L : Option O_Log) {seed d : List UInt8} (h : seed.length = 32) : ∃ L', keys_Signer_Sign ⟨seed, 0, leaves seed⟩ L d = some (⟨seed, 1, leaves seed⟩, ⟨0, sgP seed 0 d, sgO seed 0 d, path0 (leaves seed)⟩, 0, L') ∧ (L = none → L' = none) := by
  obtain ⟨L1, a1, b1⟩ := again0 L (d := d) h
  have hl := (leaves_len h).1
  have hc : slices_Clone_api_Digest (leaves seed) = some (leaves seed) := by
    unfold slices_Clone_api_Digest
    rw [if_pos (by omega)]
  refine ⟨L1, ?_, b1⟩
  unfold keys_Signer_Sign
  rw [if_neg (by simp)]
  unfold keys_Signer_Sign.j1
  rw [if_neg (by simp)]
  refine bind_of a1 ?_
  rw [if_neg (by simp)]
  exact bind_of hc rfl
theorem verify0 (L : Option O_Log) {seed d : List UInt8} (h : seed.length = 32) : ∃ L', keys_Verify L (rootL (leaves seed)) d ⟨0, sgP seed 0 d, sgO seed 0 d, path0 (leaves seed)⟩ = some (true, L') ∧ (L = none → L' = none) := by
  obtain ⟨L1, a1, b1⟩ := opened_eq L d (sgP_len h 0 d) (sgO_len h 0 d)
  obtain ⟨hl, h32⟩ := leaves_len h
  obtain ⟨n1, h1, n2, h2, n3, h3, n4, h4⟩ := levels hl h32
  have hw : wordOf (opn d (sgP seed 0 d) (sgO seed 0 d)) = (leaves seed).getD 0 default := by
    rw [opn_sign]
    simp [leaves, List.getD]
  rw [hw] at a1
  obtain ⟨L2, a2, b2⟩ := climb_eq L1 (get32 h32 (i := 0) (by omega)) (get32 h32 (i := 1) (by omega)) (get32 h1 (i := 1) (by omega)) (get32 h2 (i := 1) (by omega)) (get32 h3 (i := 1) (by omega))
  rw [climb_root hl h32] at a2
  refine ⟨L2, ?_, fun e => b2 (b1 e)⟩
  unfold keys_Verify
  rw [if_neg (by simp), if_neg (by simp)]
  unfold keys_Verify.j1
  rw [if_neg (by simp [path0])]
  refine bind_of a1 ?_
  rw [if_pos rfl]
  refine bind_of (show keys_Climb L1 ((leaves seed).getD 0 default) 0 (path0 (leaves seed)) = _ from a2) ?_
  unfold keys_Verify.j2
  simp
end

section
set_option linter.unusedVariables false

end
end Go.Proofs.YtamnmljgcmbliaaDoor
