/- Plain laws: P35a, P35, P37, as one text. -/
import Derived.Test.YtamnmljgcmbliaaDoorP32
import Derived.Test.YtamnmljgcmbliaaDoorP10
import Derived.Test.YtamnmljgcmbliaaDoorP23
import Derived.Test.YtamnmljgcmbliaaDoorP13b
import Derived.Test.YtamnmljgcmbliaaDoorP13b
namespace Go.Proofs.YtamnmljgcmbliaaDoor
open Go Go.RowKit Go.Proofs
section
set_option linter.unusedVariables false

/-- The levels above leaves. -/
noncomputable def lvs (l : List (List UInt8)) : Nat → List (List UInt8)
  | 0 => l
  | k + 1 => upL (lvs l k)
theorem lvs_len {l : List (List UInt8)} (hl : l.length = 16) (h : ∀ p ∈ l, p.length = 32) : ∀ k, k ≤ 4 → (lvs l k).length = 2 ^ (4 - k) ∧ ∀ p ∈ lvs l k, p.length = 32
  | 0, _ => ⟨hl, h⟩
  | k + 1, hk => by
    obtain ⟨h1, h2⟩ := lvs_len hl h k (by omega)
    obtain ⟨h3, h4⟩ := upL_len h2
    refine ⟨?_, h4⟩
    show (upL (lvs l k)).length = _
    rw [h3, h1, show 4 - k = (4 - (k + 1)) + 1 by omega, Nat.pow_succ]
    omega
theorem lvs_at (l : List (List UInt8)) (hl : l.length = 16) (h : ∀ p ∈ l, p.length = 32) (k at_ : Nat) (hk : k < 4) (hat : at_ < 2 ^ (4 - (k + 1))) : (lvs l (k + 1)).getD at_ default = nd ((lvs l k).getD (2 * at_) default) ((lvs l k).getD (2 * at_ + 1) default) := by
  have h1 := (lvs_len hl h k (by omega)).1
  refine upL_at (lvs l k) at_ ?_
  rw [h1, show 4 - k = (4 - (k + 1)) + 1 by omega, Nat.pow_succ]
  omega
theorem node_0 (j : Nat) (L : Option O_RLog) {l : List (List UInt8)} (at_ : Nat) (hat : at_ < l.length) : ref06_node_f (j + 1) L l 0 (at_ : Int) = some (l.getD at_ default, L) := by
  show ref06_node_s (ref06_node_f j) L l 0 (at_ : Int) = _
  unfold ref06_node_s
  rw [if_pos (by simp), if_pos (by omega)]
  rfl
theorem node_s (j : Nat) {L L1 L2 L3 : Option O_RLog} {l : List (List UInt8)} {k at_ : Nat} (hk : k < 4) (hat : at_ < 1000) {a b c : List UInt8} (h1 : ref06_node_f j L l (k : Int) ((2 * at_ : Nat) : Int) = some (a, L1)) (h2 : ref06_node_f j L1 l (k : Int) ((2 * at_ + 1 : Nat) : Int) = some (b, L2)) (h3 : ref04_Log_Two L2 4 a b = some (c, L3)) :
    ref06_node_f (j + 1) L l ((k + 1 : Nat) : Int) (at_ : Int) = some (c, L3) := by
  show ref06_node_s (ref06_node_f j) L l ((k + 1 : Nat) : Int) (at_ : Int) = _
  unfold ref06_node_s
  have e1 : IntKind.wrap .i64 (((k + 1 : Nat) : Int) - 1) = (k : Int) := by rw [w64 (by omega)]; omega
  have e2 : IntKind.wrap .i64 (2 * (at_ : Int)) = ((2 * at_ : Nat) : Int) := by rw [w64 (by omega)]; omega
  have e3 : IntKind.wrap .i64 (((2 * at_ : Nat) : Int) + 1) = ((2 * at_ + 1 : Nat) : Int) := by rw [w64 (by omega)]; omega
  rw [if_neg (by simp; omega), e1, e2, e3]
  exact bind_of h1 (bind_of h2 (bind_of h3 rfl))
theorem pow_le (k : Nat) (hk : k < 4) : 2 ^ (4 - k) = 2 * 2 ^ (4 - (k + 1)) := by rw [show 4 - k = (4 - (k + 1)) + 1 by omega, Nat.pow_succ]; omega
theorem pow4 (k : Nat) : 2 ^ (4 - k) ≤ 16 := Nat.le_trans (Nat.pow_le_pow_right (by decide) (by omega : 4 - k ≤ 4)) (by decide)
end

section
set_option linter.unusedVariables false

theorem rtwoQ {Q : O_RLog} {n : Nat} (A : RefOk Q n) (hn : n < 60000) {a b : List UInt8} (ha : a.length = 32) (hb : b.length = 32) : ∃ Q', ref04_Log_Two (some Q) 4 a b = some (nd a b, some Q') ∧ Grow Q n Q' (n + 1) ∧ Noted Q' (inp 4 [a, b]) := by
  obtain ⟨Q', h1, h2, h3, h4⟩ := rOf A hn 4 (ndSmall ha hb)
  refine ⟨Q', ?_, ⟨h2, h4⟩, h3⟩
  unfold ref04_Log_Two
  exact bind_of (rdig_eq ha) (bind_of (rdig_eq hb) (bind_of h1 rfl))
/-- The nodes of a subtree are noted. -/
def NotedT (Q : O_RLog) (l : List (List UInt8)) (level at_ : Nat) : Prop := ∀ k j, k < level → at_ * 2 ^ (level - 1 - k) ≤ j → j < (at_ + 1) * 2 ^ (level - 1 - k) → Noted Q (inp 4 [(lvs l k).getD (2 * j) default, (lvs l k).getD (2 * j + 1) default])
theorem NotedT.mono {Q Q' : O_RLog} {l : List (List UInt8)} {level at_ : Nat} (h : NotedT Q l level at_) (hg : ∀ y, Noted Q y → Noted Q' y) : NotedT Q' l level at_ := fun k j h1 h2 h3 => hg _ (h k j h1 h2 h3)
theorem rnodeQ {l : List (List UInt8)} (hl : l.length = 16) (h : ∀ p ∈ l, p.length = 32) : ∀ (level at_ j : Nat) {Q : O_RLog} {n : Nat}, level ≤ 4 → at_ < 2 ^ (4 - level) → level < j → RefOk Q n → n + 2 * 2 ^ level < 59000 →
    ∃ Q', ref06_node_f j (some Q) l (level : Int) (at_ : Int) = some ((lvs l level).getD at_ default, some Q') ∧ Grow Q n Q' (n + (2 * 2 ^ level - 1)) ∧ NotedT Q' l level at_
  | 0, at_, j, Q, n, h1, h2, h3, A, hn => by
    obtain ⟨j, rfl⟩ : ∃ i, j = i + 1 := ⟨j - 1, by omega⟩
    have : at_ < l.length := by rw [hl]; exact Nat.lt_of_lt_of_le h2 (pow4 0)
    obtain ⟨L, A'⟩ := A
    refine ⟨Q, node_0 j _ at_ this, ⟨⟨L, ⟨A'.j1, A'.j2, A'.j3, A'.j4, A'.j5, by have := A'.j6.1; omega, fun k l h => by have := A'.j6.2 k l h; omega⟩⟩, fun y hy => hy⟩, fun k j hk => by omega⟩
  | k + 1, at_, j, Q, n, h1, h2, h3, A, hn => by
    obtain ⟨j, rfl⟩ : ∃ i, j = i + 1 := ⟨j - 1, by omega⟩
    have hp := pow_le k (by omega)
    have hp4 := pow4 (k + 1)
    have h2k : 2 ^ (k + 1) = 2 * 2 ^ k := by rw [Nat.pow_succ]; omega
    have hk1 : 1 ≤ 2 ^ k := Nat.one_le_two_pow
    obtain ⟨Q1, a1, a2, a3⟩ := rnodeQ hl h k (2 * at_) j (by omega) (by omega) (by omega) A (by omega)
    obtain ⟨Q2, b1, b2, b3⟩ := rnodeQ hl h k (2 * at_ + 1) j (by omega) (by omega) (by omega) a2.ok (by omega)
    obtain ⟨g1, g2⟩ := lvs_len hl h k (by omega)
    obtain ⟨Q3, c1, c2, c3⟩ := rtwoQ b2.ok (by omega) (get32 g2 (i := 2 * at_) (by omega)) (get32 g2 (i := 2 * at_ + 1) (by omega))
    rw [← lvs_at l hl h k at_ (by omega) h2] at c1
    refine ⟨Q3, node_s j (by omega) (by omega) a1 b1 c1, ⟨?_, fun y hy => c2.old y (b2.old y (a2.old y hy))⟩, fun k' j' q1 q2 q3 => ?_⟩
    · obtain ⟨L, A'⟩ := c2.ok
      refine ⟨L, ⟨A'.j1, A'.j2, A'.j3, A'.j4, A'.j5, ?_, fun k l h => ?_⟩⟩
      · have := A'.j6.1; omega
      · have := A'.j6.2 k l h; omega
    · by_cases hk' : k' = k
      · subst hk'
        simp only [Nat.add_sub_cancel, Nat.sub_self, Nat.pow_zero, Nat.mul_one] at q2 q3
        have : j' = at_ := by omega
        subst this
        exact c3
      · have hlt : k' < k := by omega
        have e : k + 1 - 1 - k' = (k - 1 - k') + 1 := by omega
        rw [e, Nat.pow_succ] at q2 q3
        have m1 : at_ * (2 ^ (k - 1 - k') * 2) = 2 * at_ * 2 ^ (k - 1 - k') := by rw [Nat.mul_comm (2 ^ (k - 1 - k')) 2, ← Nat.mul_assoc, Nat.mul_comm at_ 2]
        have m2 : (at_ + 1) * (2 ^ (k - 1 - k') * 2) = (2 * at_ + 1 + 1) * 2 ^ (k - 1 - k') := by rw [Nat.mul_comm (2 ^ (k - 1 - k')) 2, ← Nat.mul_assoc, show (at_ + 1) * 2 = 2 * at_ + 1 + 1 by omega]
        rw [m1] at q2
        rw [m2] at q3
        by_cases hc : j' < (2 * at_ + 1) * 2 ^ (k - 1 - k')
        · exact c2.old _ (b2.old _ (a3 k' j' hlt q2 hc))
        · exact c2.old _ (b3 k' j' hlt (by omega) q3)
theorem rrootQ {s : S_ref06_Signer} (hl : s.f_Leaves.length = 16) (h : ∀ p ∈ s.f_Leaves, p.length = 32) {Q : O_RLog} {n : Nat} (A : RefOk Q n) (hn : n < 58000) :
    ∃ Q', ref06_Signer_Root s (some Q) = some (rootL s.f_Leaves, some Q') ∧ Grow Q n Q' (n + 31) ∧ NotedT Q' s.f_Leaves 4 0 := by
  obtain ⟨Q1, a1, a2, a3⟩ := rnodeQ hl h 4 0 100000 (by decide) (by decide) (by decide) A (by omega)
  refine ⟨Q1, ?_, a2, a3⟩
  unfold ref06_Signer_Root ref06_node
  rw [if_neg (by simp [hl])]
  exact bind_of a1 rfl
/-- All words of a seed are noted. -/
def NotedS (Q : O_RLog) (seed : List UInt8) (k : Nat) : Prop := ∀ i : Nat, i < k → NotedW Q seed (i : Int) 64 ∧ Noted Q (inp 3 [(pubs seed (i : Int)).flatten])
theorem rnewQ {seed : List UInt8} (h : seed.length = 32) {Q : O_RLog} {n : Nat} (A : RefOk Q n) (hn : n < 50000) :
    ∃ Q', ref06_New (some Q) seed = some (⟨seed, 0, leaves seed⟩, some Q') ∧ Grow Q n Q' (n + 2064) ∧ NotedS Q' seed 16 := by
  obtain ⟨c, h1, h2⟩ := loop_ok (body := fun s : Int × (Option O_RLog) × (Option S_ref06_Signer) => ref06_New.b1 seed s.1 s.2.1 s.2.2)
    (fun s => ∃ (i : Nat) (Q' : O_RLog), i ≤ 16 ∧ s = ((i : Int), some Q', some ⟨seed, 0, (List.range i).map fun (i : Nat) => wordOf (pubs seed (i : Int))⟩) ∧ Grow Q n Q' (n + 129 * i) ∧ NotedS Q' seed i)
    (fun c => match c with | .next s => ∃ Q', s.2 = (some Q', some ⟨seed, 0, leaves seed⟩) ∧ Grow Q n Q' (n + 2064) ∧ NotedS Q' seed 16 | .ret _ => False) (fun s => (16 - s.1).toNat)
    (fun s ⟨i, Q', hi, hs, hg, hN⟩ => by
      subst hs
      by_cases hlt : i < 16
      · obtain ⟨Q1, a1, a2, a3, a4⟩ := rword_law h (i : Int) hg.ok (by omega)
        refine .inl ⟨(((i + 1 : Nat) : Int), some Q1, _), ?_, ⟨i + 1, Q1, by omega, rfl, hg.trans a2, fun j hj => ?_⟩, by simp; omega⟩
        · show ref06_New.b1 seed (i : Int) (some Q') _ = _
          unfold ref06_New.b1
          rw [if_pos (by simp; omega)]
          refine bind_of rfl (bind_of a1 ?_)
          rw [if_pos (by simp [mxl]; omega), w64 (by omega), List.range_succ, List.map_append]
          rfl
        · by_cases hji : j < i
          · exact ⟨(hN j hji).1.mono a2.old, a2.old _ (hN j hji).2⟩
          · have : j = i := by omega
            subst this
            exact ⟨a3, a4⟩
      · have : i = 16 := by omega
        subst this
        refine .inr (.inl ⟨((16 : Nat), some Q', _), ?_, Q', rfl, hg, hN⟩)
        show ref06_New.b1 seed 16 (some Q') _ = _
        unfold ref06_New.b1
        rw [if_neg (by simp)]
        rfl) ((16 - 0 : Int).toNat + 2) (0, some Q, some ⟨seed, 0, []⟩) ⟨0, Q, by omega, rfl, Grow.refl A, fun j hj => by omega⟩ (by simp)
  unfold ref06_New
  cases c with
  | ret r => exact h2.elim
  | next s =>
    obtain ⟨i, s2⟩ := s
    obtain ⟨Q', rfl, h3, h4⟩ : ∃ Q', s2 = (some Q', some ⟨seed, 0, leaves seed⟩) ∧ Grow Q n Q' (n + 2064) ∧ NotedS Q' seed 16 := h2
    exact ⟨Q', bind_next h1 rfl, h3, h4⟩
end

section
set_option linter.unusedVariables false

/-- The nodes of a climb are noted. -/
def NotedC (Q : O_RLog) : List (List UInt8) → Nat → List UInt8 → Prop
  | [], _, _ => True
  | p :: ps, n, w => Noted Q (inp 4 (if n % 2 = 1 then [p, w] else [w, p])) ∧ NotedC Q ps (n / 2) (if n % 2 = 1 then nd p w else nd w p)
theorem NotedC.mono {Q Q' : O_RLog} (hg : ∀ y, Noted Q y → Noted Q' y) : ∀ {ps : List (List UInt8)} {n : Nat} {w : List UInt8}, NotedC Q ps n w → NotedC Q' ps n w
  | [], _, _, _ => trivial
  | _ :: _, _, _, h => ⟨hg _ h.1, NotedC.mono hg h.2⟩
theorem NotedC.split {Q : O_RLog} : ∀ {ps qs : List (List UInt8)} {n : Nat} {w : List UInt8}, NotedC Q ps n w → NotedC Q qs (n / 2 ^ ps.length) (climbV ps n w) → NotedC Q (ps ++ qs) n w
  | [], qs, n, w, _, h => by simpa [climbV] using h
  | p :: ps, qs, n, w, h, k => by
    refine ⟨h.1, NotedC.split h.2 ?_⟩
    rw [climbV] at k
    rw [List.length_cons, Nat.pow_succ, Nat.mul_comm, ← Nat.div_div_eq_div_mul] at k
    exact k
theorem climbV_app : ∀ (ps qs : List (List UInt8)) (n : Nat) (w : List UInt8), climbV (ps ++ qs) n w = climbV qs (n / 2 ^ ps.length) (climbV ps n w)
  | [], qs, n, w => by simp [climbV]
  | p :: ps, qs, n, w => by
    rw [List.cons_append, climbV, climbV_app ps qs, climbV, List.length_cons, Nat.pow_succ, Nat.mul_comm (2 ^ ps.length) 2, ← Nat.div_div_eq_div_mul]
theorem climbV_len : ∀ {ps : List (List UInt8)} {n : Nat} {w : List UInt8}, (∀ p ∈ ps, p.length = 32) → w.length = 32 → (climbV ps n w).length = 32
  | [], _, _, _, h => h
  | p :: ps, n, w, hp, h => by
    rw [climbV]
    refine climbV_len (fun q hq => hp q (by simp [hq])) ?_
    split
    · exact nd_len (hp p (by simp)) h
    · exact nd_len h (hp p (by simp))
theorem rclimbQ {w : List UInt8} (hw : w.length = 32) (m0 : Nat) (hm0 : m0 < 1000000) {path : List (List UInt8)} (hp : ∀ p ∈ path, p.length = 32) (hl : path.length ≤ 1000) {Q : O_RLog} {n : Nat} (A : RefOk Q n) (hn : n < 50000) :
    ∃ Q', ref06_Climb (some Q) w (m0 : Int) path = some (climbV path m0 w, some Q') ∧ Grow Q n Q' (n + path.length) ∧ NotedC Q' path m0 w := by
  obtain ⟨c, h1, h2⟩ := loop_ok (body := fun s : Int × Int × (Option O_RLog) × (List UInt8) => ref06_Climb.b1 (m0 : Int) path s.1 s.2.1 s.2.2.1 s.2.2.2)
    (fun s => ∃ (i : Nat) (Q' : O_RLog), i ≤ path.length ∧ s = (((m0 / 2 ^ i : Nat) : Int), (i : Int), some Q', climbV (path.take i) m0 w) ∧ Grow Q n Q' (n + i) ∧ NotedC Q' (path.take i) m0 w)
    (fun c => match c with | .next s => ∃ Q', s.2.2 = (some Q', climbV path m0 w) ∧ Grow Q n Q' (n + path.length) ∧ NotedC Q' path m0 w | .ret _ => False) (fun s => (path.length - s.2.1).toNat)
    (fun s ⟨i, Q', hi, hs, hg, hN⟩ => by
      subst hs
      have hm : m0 / 2 ^ i ≤ m0 := Nat.div_le_self _ _
      generalize hmi : m0 / 2 ^ i = m at hm
      have hd : (m : Int).tdiv 2 = ((m / 2 : Nat) : Int) := by rw [Int.tdiv_eq_ediv_of_nonneg (by omega)]; simp
      have hr : (m : Int).tmod 2 = ((m % 2 : Nat) : Int) := by rw [Int.tmod_eq_emod_of_nonneg (by omega)]; simp
      have h32 : (climbV (path.take i) m0 w).length = 32 := climbV_len (fun q hq => hp q (List.mem_of_mem_take hq)) hw
      by_cases hlt : i < path.length
      · have hq := get32 hp hlt
        have hnext : m0 / 2 ^ (i + 1) = m / 2 := by rw [Nat.pow_succ, ← Nat.div_div_eq_div_mul, hmi]
        have htk : path.take (i + 1) = path.take i ++ [path.getD i default] := by
          rw [List.take_succ_eq_append_getElem hlt]; simp [List.getD, hlt]
        have hlen : (path.take i).length = i := by simp; omega
        have hcl : climbV (path.take (i + 1)) m0 w = if m % 2 = 1 then nd (path.getD i default) (climbV (path.take i) m0 w) else nd (climbV (path.take i) m0 w) (path.getD i default) := by
          rw [htk, climbV_app, hlen, hmi, climbV, climbV]
        have hNn : ∀ Q1, (∀ y, Noted Q' y → Noted Q1 y) → Noted Q1 (inp 4 (if m % 2 = 1 then [path.getD i default, climbV (path.take i) m0 w] else [climbV (path.take i) m0 w, path.getD i default])) → NotedC Q1 (path.take (i + 1)) m0 w := by
          intro Q1 hgr hx
          rw [htk]
          refine NotedC.split (hN.mono hgr) ?_
          rw [hlen, hmi]
          exact ⟨hx, trivial⟩
        by_cases hb : m % 2 = 1
        · obtain ⟨Q1, a1, a2, a3⟩ := rtwoQ hg.ok (by omega) hq h32
          rw [if_pos hb] at hcl
          refine .inl ⟨(((m0 / 2 ^ (i + 1) : Nat) : Int), ((i + 1 : Nat) : Int), some Q1, climbV (path.take (i + 1)) m0 w), ?_, ⟨i + 1, Q1, by omega, rfl, hg.trans a2, hNn Q1 a2.old (by rw [if_pos hb]; exact a3)⟩, by simp; omega⟩
          show ref06_Climb.b1 (m0 : Int) path (m : Int) (i : Int) (some Q') _ = _
          unfold ref06_Climb.b1
          rw [hr, if_pos (by simp; omega), if_pos (by simp; omega), if_pos (by omega)]
          refine bind_of a1 ?_
          unfold ref06_Climb.j1
          rw [if_neg (by simp)]
          unfold ref06_Climb.j2
          rw [hd, u64of (by omega), w64 (by omega), hnext, hcl]
          rfl
        · obtain ⟨Q1, a1, a2, a3⟩ := rtwoQ hg.ok (by omega) h32 hq
          rw [if_neg hb] at hcl
          refine .inl ⟨(((m0 / 2 ^ (i + 1) : Nat) : Int), ((i + 1 : Nat) : Int), some Q1, climbV (path.take (i + 1)) m0 w), ?_, ⟨i + 1, Q1, by omega, rfl, hg.trans a2, hNn Q1 a2.old (by rw [if_neg hb]; exact a3)⟩, by simp; omega⟩
          show ref06_Climb.b1 (m0 : Int) path (m : Int) (i : Int) (some Q') _ = _
          unfold ref06_Climb.b1
          rw [hr, if_pos (by simp; omega), if_neg (by simp; omega), if_pos (by omega)]
          refine bind_of a1 ?_
          unfold ref06_Climb.j1
          rw [if_neg (by simp)]
          unfold ref06_Climb.j2
          rw [hd, u64of (by omega), w64 (by omega), hnext, hcl]
          rfl
      · have : i = path.length := by omega
        subst this
        rw [List.take_length] at hN h32
        refine .inr (.inl ⟨((m : Int), ((path.length : Nat) : Int), some Q', climbV path m0 w), ?_, Q', rfl, hg, hN⟩)
        show ref06_Climb.b1 (m0 : Int) path (m : Int) (path.length : Int) (some Q') _ = _
        unfold ref06_Climb.b1
        rw [if_neg (by simp), List.take_length]) (((path.length : Int) - 0 : Int).toNat + 2) ((m0 : Int), 0, some Q, w) ⟨0, Q, by omega, by simp [climbV], Grow.refl A, trivial⟩ (by simp)
  unfold ref06_Climb
  rw [u64of hm0]
  cases c with
  | ret r => exact h2.elim
  | next s =>
    obtain ⟨x, y, s2⟩ := s
    obtain ⟨Q', rfl, h3, h4⟩ : ∃ Q', s2 = (some Q', climbV path m0 w) ∧ Grow Q n Q' (n + path.length) ∧ NotedC Q' path m0 w := h2
    exact ⟨Q', bind_next h1 rfl, h3, h4⟩
/-- The nodes of one level are noted. -/
def NotedL (Q : O_RLog) (l : List (List UInt8)) : Prop := ∀ j, j < l.length / 2 → Noted Q (inp 4 [l.getD (2 * j) default, l.getD (2 * j + 1) default])
theorem climb_one {Q : O_RLog} {n : Nat} (A : RefOk Q n) (hn : n < 60000) (hc : ref04_Log_Clash (some Q) = some false) {l : List (List UInt8)} {m i : Nat} (hl : l.length = 2 * m) (h : ∀ p ∈ l, p.length = 32) (hi : i < 2 * m) (hN : NotedL Q l) {p w : List UInt8} (hp : p.length = 32) (hw : w.length = 32)
    (hx : Noted Q (inp 4 (if i % 2 = 1 then [p, w] else [w, p]))) (he : (if i % 2 = 1 then nd p w else nd w p) = (upL l).getD (i / 2) default) : w = l.getD i default ∧ p = l.getD (sib i) default := by
  rw [upL_at l (i / 2) (by omega)] at he
  have h1 := hN (i / 2) (by omega)
  have s1 := ndSmall (get32 h (i := 2 * (i / 2)) (by omega)) (get32 h (i := 2 * (i / 2) + 1) (by omega))
  unfold sib
  by_cases hb : i % 2 = 1
  · rw [if_pos hb] at hx he
    have := noted_inj A hn hc (ndSmall hp hw) s1 hx h1 he
    simp only [List.cons.injEq, and_true] at this
    rw [if_pos hb, this.1, this.2, show 2 * (i / 2) + 1 = i by omega, show i - 1 = 2 * (i / 2) by omega]
    exact ⟨rfl, rfl⟩
  · rw [if_neg hb] at hx he
    have := noted_inj A hn hc (ndSmall hw hp) s1 hx h1 he
    simp only [List.cons.injEq, and_true] at this
    rw [if_neg hb, this.1, this.2, show 2 * (i / 2) = i by omega]
    exact ⟨rfl, rfl⟩
theorem NotedT.level {Q : O_RLog} {l : List (List UInt8)} (hl : l.length = 16) (h : ∀ p ∈ l, p.length = 32) (hN : NotedT Q l 4 0) (k : Nat) (hk : k < 4) : NotedL Q (lvs l k) := fun j hj => by
  have h1 := (lvs_len hl h k (by omega)).1
  have := pow_le k hk
  exact hN k j hk (by omega) (by rw [show 4 - 1 - k = 4 - (k + 1) by omega]; omega)
/-- What comes to the root began at the leaf, and went its path. -/
theorem climb_bind {Q : O_RLog} {n : Nat} (A : RefOk Q n) (hn : n < 60000) (hc : ref04_Log_Clash (some Q) = some false) {l : List (List UInt8)} (hl : l.length = 16) (h : ∀ p ∈ l, p.length = 32) (hN : NotedT Q l 4 0) {i : Nat} (hi : i < 16) {path : List (List UInt8)} (hp4 : path.length = 4) (hp : ∀ p ∈ path, p.length = 32) {w : List UInt8} (hw : w.length = 32)
    (hC : NotedC Q path i w) (he : climbV path i w = rootL l) : w = l.getD i default ∧ path = pathL l i := by
  obtain ⟨p0, p1, p2, p3, rfl⟩ : ∃ a b c d, path = [a, b, c, d] := by
    match path, hp4 with
    | [a, b, c, d], _ => exact ⟨a, b, c, d, rfl⟩
  have q0 := hp p0 (by simp)
  have q1 := hp p1 (by simp)
  have q2 := hp p2 (by simp)
  have q3 := hp p3 (by simp)
  obtain ⟨c0, c1, c2, c3, _⟩ := hC
  simp only [climbV] at he
  generalize h1 : (if i % 2 = 1 then nd p0 w else nd w p0) = w1 at *
  have l1 : w1.length = 32 := by rw [← h1]; split <;> first | exact nd_len q0 hw | exact nd_len hw q0
  generalize h2 : (if i / 2 % 2 = 1 then nd p1 w1 else nd w1 p1) = w2 at *
  have l2 : w2.length = 32 := by rw [← h2]; split <;> first | exact nd_len q1 l1 | exact nd_len l1 q1
  generalize h3 : (if i / 2 / 2 % 2 = 1 then nd p2 w2 else nd w2 p2) = w3 at *
  have l3 : w3.length = 32 := by rw [← h3]; split <;> first | exact nd_len q2 l2 | exact nd_len l2 q2
  have v0 := lvs_len hl h 0 (by omega)
  have v1 := lvs_len hl h 1 (by omega)
  have v2 := lvs_len hl h 2 (by omega)
  have v3 := lvs_len hl h 3 (by omega)
  have e3 : (if i / 2 / 2 / 2 % 2 = 1 then nd p3 w3 else nd w3 p3) = (upL (lvs l 3)).getD (i / 2 / 2 / 2 / 2) default := by
    rw [show i / 2 / 2 / 2 / 2 = 0 by omega]; exact he
  obtain ⟨a3, b3⟩ := climb_one A hn hc (m := 1) v3.1 v3.2 (i := i / 2 / 2 / 2) (by omega) (hN.level hl h 3 (by omega)) q3 l3 c3 e3
  obtain ⟨a2, b2⟩ := climb_one A hn hc (m := 2) v2.1 v2.2 (i := i / 2 / 2) (by omega) (hN.level hl h 2 (by omega)) q2 l2 c2 (h3.trans a3)
  obtain ⟨a1, b1⟩ := climb_one A hn hc (m := 4) v1.1 v1.2 (i := i / 2) (by omega) (hN.level hl h 1 (by omega)) q1 l1 c1 (h2.trans a2)
  obtain ⟨a0, b0⟩ := climb_one A hn hc (m := 8) v0.1 v0.2 (i := i) (by omega) (hN.level hl h 0 (by omega)) q0 hw c0 (h1.trans a1)
  refine ⟨a0, ?_⟩
  rw [b0, b1, b2, b3]
  rfl
/-- The document's verification, noted. -/
theorem rverifyQ (root d : List UInt8) {s : S_api_Sig} (hs : Sig32 s) {Q : O_RLog} {n : Nat} (A : RefOk Q n) (hn : n < 40000) :
    ∃ Q', ref06_Verify (some Q) root d s = some (verV root d s, some Q') ∧ Grow Q n Q' (n + 37) ∧
      (verV root d s = true → (∀ j, j < 32 → Noted Q' (inp 2 [s.f_Parts.getD j default])) ∧ Noted Q' (inp 3 [(opn d s.f_Parts s.f_Others).flatten]) ∧ NotedC Q' s.f_Path s.f_Index.toNat (wordOf (opn d s.f_Parts s.f_Others))) := by
  have hup : ∀ {k : Nat}, RefOk Q k → k ≤ n + 37 → RefOk Q (n + 37) := fun {k} ⟨L, A'⟩ hk => ⟨L, ⟨A'.j1, A'.j2, A'.j3, A'.j4, A'.j5, by have := A'.j6.1; omega, fun k l h => by have := A'.j6.2 k l h; omega⟩⟩
  have hno : ∀ x : Option (Bool × Option O_RLog), verV root d s = false → x = some (false, some Q) → ∃ Q', x = some (verV root d s, some Q') ∧ Grow Q n Q' (n + 37) ∧
      (verV root d s = true → (∀ j, j < 32 → Noted Q' (inp 2 [s.f_Parts.getD j default])) ∧ Noted Q' (inp 3 [(opn d s.f_Parts s.f_Others).flatten]) ∧ NotedC Q' s.f_Path s.f_Index.toNat (wordOf (opn d s.f_Parts s.f_Others))) :=
    fun x hv hx => ⟨Q, by rw [hx, hv], ⟨hup A (by omega), fun y hy => hy⟩, fun h => by rw [hv] at h; cases h⟩
  unfold ref06_Verify
  by_cases h1 : 0 ≤ s.f_Index
  · rw [if_neg (by simp; omega)]
    by_cases h2 : s.f_Index < 16
    · rw [if_neg (by simp; omega)]
      unfold ref06_Verify.j1
      by_cases h3 : s.f_Path.length = 4
      · rw [if_neg (by simp [h3])]
        by_cases h4 : s.f_Parts.length = 32 ∧ s.f_Others.length = 32
        · obtain ⟨m, hm⟩ : ∃ m : Nat, s.f_Index = (m : Int) := ⟨s.f_Index.toNat, by omega⟩
          have hol := opn_len (d := d) ⟨h4.1, hs.1⟩ ⟨h4.2, hs.2.1⟩
          obtain ⟨Q1, a1, a2, a3, a4⟩ := ropened_eq d ⟨h4.1, hs.1⟩ ⟨h4.2, hs.2.1⟩ A (by omega)
          obtain ⟨Q2, b1, b2, b3⟩ := rclimbQ (word_len hol.1 hol.2) m (by omega) hs.2.2 (by omega) a2.ok (by omega)
          rw [h3] at b2
          refine ⟨Q2, ?_, a2.trans b2, fun _ => ⟨fun j hj => b2.old _ (a3 j hj), b2.old _ a4, ?_⟩⟩
          · refine bind_of a1 ?_
            rw [if_neg (by simp), hm]
            refine bind_of b1 ?_
            unfold verV
            simp [hm, h3, h4.1, h4.2, show (m : Int) < 16 by omega]
          · rw [hm, Int.toNat_natCast]
            exact b3
        · refine hno _ (verV_no2 h4) ?_
          refine bind_of (ropened_no (some Q) d h4) ?_
          rw [if_pos (by simp)]
      · exact hno _ (verV_no (fun h => h3 h.2.2)) (by rw [if_pos (by simp; omega)])
    · exact hno _ (verV_no (fun h => h2 h.2.1)) (by rw [if_pos (by simp; omega)]; rfl)
  · exact hno _ (verV_no (fun h => h1 h.1)) (by rw [if_pos (by simp; omega)]; rfl)
/-- What a verified signature tells, where nothing clashes. -/
theorem verV_parts {root d : List UInt8} {s : S_api_Sig} (h : verV root d s = true) : 0 ≤ s.f_Index ∧ s.f_Index < 16 ∧ s.f_Path.length = 4 ∧ s.f_Parts.length = 32 ∧ s.f_Others.length = 32 ∧ climbV s.f_Path s.f_Index.toNat (wordOf (opn d s.f_Parts s.f_Others)) = root := by
  unfold verV at h
  simp only [Bool.and_eq_true, decide_eq_true_eq] at h
  exact ⟨h.1.1.1.1.1, h.1.1.1.1.2, h.1.1.1.2, h.1.1.2, h.1.2, h.2⟩
theorem opn_bind {Q : O_RLog} {n : Nat} (A : RefOk Q n) (hn : n < 60000) (hc : ref04_Log_Clash (some Q) = some false) {seed : List UInt8} (hs : seed.length = 32) (hS : NotedS Q seed 16) (hT : NotedT Q (leaves seed) 4 0) {d : List UInt8} {s : S_api_Sig} (h32 : Sig32 s) (hv : verV (rootL (leaves seed)) d s = true)
    (hN3 : Noted Q (inp 3 [(opn d s.f_Parts s.f_Others).flatten])) (hNC : NotedC Q s.f_Path s.f_Index.toNat (wordOf (opn d s.f_Parts s.f_Others))) :
    opn d s.f_Parts s.f_Others = pubs seed ((s.f_Index.toNat : Nat) : Int) ∧ s.f_Path = pathL (leaves seed) s.f_Index.toNat := by
  obtain ⟨h1, h2, h3, h4, h5, h6⟩ := verV_parts hv
  obtain ⟨hl, hl32⟩ := leaves_len hs
  have hol := opn_len (d := d) ⟨h4, h32.1⟩ ⟨h5, h32.2.1⟩
  have hi : s.f_Index.toNat < 16 := by omega
  obtain ⟨e1, e2⟩ := climb_bind A hn hc hl hl32 hT hi h3 h32.2.2 (word_len hol.1 hol.2) hNC h6
  rw [leaf_at seed hi] at e1
  have hpl := pubs_len hs ((s.f_Index.toNat : Nat) : Int)
  have e3 := noted_inj A hn hc (flatSmall hol.1 hol.2) (flatSmall hpl.1 hpl.2) hN3 (hS _ hi).2 e1
  simp only [List.cons.injEq, and_true] at e3
  exact ⟨flat_inj _ _ hol.2 hpl.2 e3, e2⟩
end
end Go.Proofs.YtamnmljgcmbliaaDoor
