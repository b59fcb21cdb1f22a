/- Plain laws: P90, P91, P92, P93, as one text. -/
import Derived.Test.YteboiefnflipjaaGreatDoorP55
import Derived.Test.YteboiefnflipjaaGreatDoorP77
import Derived.Test.YteboiefnflipjaaGreatDoorG4
import Derived.Test.YteboiefnflipjaaGreatDoorP47
namespace Go.Proofs.YteboiefnflipjaaGreatDoor
open Go Go.RowKit Go.Proofs
section
set_option linter.unusedVariables false
set_option linter.unusedSimpArgs false

noncomputable def No : List (List UInt8) := (List.range 33).map zs
theorem Nn (k : Nat) (hk : k < 33) : No.getD k default = zs k := by simp [No, List.getD, hk]
/- The level k of a tree. -/
structure Nl (ls m : List (List UInt8)) (k : Nat) : Prop where
  len : ∀ a, a < m.length ↔ a * 2 ^ k < ls.length
  val : ∀ a, a < m.length → m.getD a default = nv ls k a
theorem Nl.start (ls : List (List UInt8)) : Nl ls ls 0 := by
  refine ⟨fun a => by simp, fun a h => ?_⟩
  unfold nv
  rw [if_neg (by omega)]
theorem Nl.all {ls m : List (List UInt8)} {k : Nat} (L : Nl ls m k) (h : ∀ p ∈ ls, p.length = 32) : LG m := fun p hp => by
  obtain ⟨j, hj, rfl⟩ := List.mem_iff_getElem.1 hp
  have := L.val j hj
  rw [show m.getD j default = m[j] by simp [List.getD, hj]] at this
  rw [this]
  exact GZ h k j
theorem Nl.out {ls m : List (List UInt8)} {k : Nat} (L : Nl ls m k) {a : Nat} (h : ¬ a < m.length) : nv ls k a = zs k := by
  refine Jq ls k a ?_
  have := L.len a
  omega
theorem QJ (a k : Nat) : a * 2 ^ (k + 1) = 2 * a * 2 ^ k := by rw [Nat.pow_succ, Nat.mul_comm (2 ^ k) 2, ← Nat.mul_assoc, Nat.mul_comm a 2]
theorem RI {ls m : List (List UInt8)} {k : Nat} (L : Nl ls m k) (h : ∀ p ∈ ls, p.length = 32) (hl : m.length ≤ 5000) : ∃ m', BV none m (zs k) = some (m', none) ∧ m'.length ≤ m.length ∧ Nl ls m' (k + 1) := by
  obtain ⟨c, h1, h2⟩ := CC (body := fun s : Int × (Option AP) × (List (List UInt8)) => BV.b1 m (zs k) s.1 s.2.1 s.2.2) (fun s => ∃ i : Nat, s.1 = ((2 * i : Nat) : Int) ∧ (2 * i ≤ m.length + 1) ∧ s.2.1 = none ∧ s.2.2 = (List.range i).map (nv ls (k + 1)))
      (fun c => match c with | .next s => s.2.1 = none ∧ ∃ i : Nat, m.length ≤ 2 * i ∧ 2 * i ≤ m.length + 1 ∧ s.2.2 = (List.range i).map (nv ls (k + 1)) | .ret _ => False) (fun s => (m.length + 1 - s.1).toNat)
    (fun s ⟨i, hi, hle, hn, hm⟩ => by
      obtain ⟨x, L', m'⟩ := s
      simp only at hi hn hm
      subst hn
      subst hi
      subst hm
      by_cases q : 2 * i < m.length
      · have hg : (m.getD (2 * i) default).length = 32 := by rw [L.val _ q]; exact GZ h k _
        have e2i : ((2 * i : Nat) : Int).toNat = 2 * i := by omega
        have key : ∀ e : List UInt8, e = nv ls k (2 * i + 1) → BV.j1 m ((2 * i : Nat) : Int) none ((List.range i).map (nv ls (k + 1))) e = some (.cont (((2 * (i + 1) : Nat) : Int), none, (List.range (i + 1)).map (nv ls (k + 1)))) := fun e he => by
          have he32 : e.length = 32 := by rw [he]; exact GZ h k _
          unfold BV.j1
          rw [if_pos (by omega), e2i]
          refine Ax (Ky hg he32) ?_
          rw [if_pos (by simp [CG]; omega), Fc (by omega)]
          have : ((2 * i : Nat) : Int) + 2 = ((2 * (i + 1) : Nat) : Int) := by omega
          rw [this, List.range_succ, List.map_append, L.val _ q, he, ← Kw]
          rfl
        have fin : ∀ e : List UInt8, e = nv ls k (2 * i + 1) → BV.b1 m (zs k) ((2 * i : Nat) : Int) none ((List.range i).map (nv ls (k + 1))) = BV.j1 m ((2 * i : Nat) : Int) none ((List.range i).map (nv ls (k + 1))) e → ∃ s', BV.b1 m (zs k) ((2 * i : Nat) : Int) none ((List.range i).map (nv ls (k + 1))) = some (.cont s') ∧ (∃ i' : Nat, s'.1 = ((2 * i' : Nat) : Int) ∧ (2 * i' ≤ m.length + 1) ∧ s'.2.1 = none ∧ s'.2.2 = (List.range i').map (nv ls (k + 1))) ∧ ((m.length : Int) + 1 - s'.1).toNat < ((m.length : Int) + 1 - ((2 * i : Nat) : Int)).toNat := fun e he hb =>
          ⟨_, hb.trans (key e he), ⟨i + 1, rfl, by omega, rfl, rfl⟩, by show ((m.length : Int) + 1 - ((2 * (i + 1) : Nat) : Int)).toNat < _; omega⟩
        refine .inl ?_
        by_cases w : 2 * i + 1 < m.length
        · refine fin (m.getD (2 * i + 1) default) (L.val _ w) ?_
          unfold BV.b1
          have e3 : ((2 * i : Nat) : Int) + 1 = ((2 * i + 1 : Nat) : Int) := by omega
          have e4 : ((2 * i + 1 : Nat) : Int).toNat = 2 * i + 1 := by omega
          rw [Fc (x := ((2 * i : Nat) : Int) + 1) (by omega), e3, if_pos (decide_eq_true (by omega)), if_pos (decide_eq_true (by omega)), if_pos (by omega), e4]
        · refine fin (zs k) (L.out w).symm ?_
          unfold BV.b1
          rw [Fc (x := ((2 * i : Nat) : Int) + 1) (by omega), if_pos (decide_eq_true (by omega)), if_neg (by rw [decide_eq_false (by omega)]; decide)]
      · refine .inr (.inl ⟨(((2 * i : Nat) : Int), none, (List.range i).map (nv ls (k + 1))), ?_, rfl, i, by omega, hle, rfl⟩)
        show BV.b1 m (zs k) ((2 * i : Nat) : Int) none _ = _
        unfold BV.b1
        rw [if_neg (by rw [decide_eq_false (by omega)]; decide)]) (((m.length : Int) - 0 : Int).toNat + 2) (0, none, []) ⟨0, rfl, by omega, rfl, rfl⟩ (by show ((m.length : Int) + 1 - 0).toNat < ((m.length : Int) - 0).toNat + 2; omega)
  cases c with
  | ret _ => exact h2.elim
  | next s =>
    obtain ⟨x, L', m'⟩ := s
    obtain ⟨e1, i, e2, e3, e4⟩ : L' = none ∧ ∃ i : Nat, m.length ≤ 2 * i ∧ 2 * i ≤ m.length + 1 ∧ m' = (List.range i).map (nv ls (k + 1)) := h2
    subst e1
    refine ⟨m', by unfold BV; exact BB h1 rfl, by rw [e4]; simp; omega, fun a => ?_, fun a ha => ?_⟩
    · have := L.len (2 * a)
      rw [QJ, ← this, e4, List.length_map, List.length_range]
      omega
    · rw [e4, List.length_map, List.length_range] at ha
      rw [e4]
      simp [List.getD, ha]
theorem PT (l : List (List UInt8)) (i j : Nat) (x : List UInt8) (hi : i < l.length) : (l.set i x).getD j default = if j = i then x else l.getD j default := by
  by_cases e : j = i
  · subst e
    rw [if_pos rfl]
    simp [List.getD, hi]
  · rw [if_neg e]
    simp only [List.getD]
    rw [List.getElem?_set_ne (by omega)]
theorem Lb : ∃ z, BO none = some (z, none) ∧ ∀ k, k ≤ 32 → z.getD k default = zs k := by
  obtain ⟨c, h1, h2⟩ := CC (body := fun s : Int × (Option AP) × (List (List UInt8)) => BO.b1 s.1 s.2.1 s.2.2) (fun s => ∃ i : Nat, i ≤ 32 ∧ s.1 = (i : Int) ∧ s.2.1 = none ∧ s.2.2.length = 33 ∧ ∀ k, k ≤ i → s.2.2.getD k default = zs k) (fun c => match c with | .next s => s.2.1 = none ∧ ∀ k, k ≤ 32 → s.2.2.getD k default = zs k | .ret _ => False) (fun s => (32 - s.1).toNat)
    (fun s ⟨i, hi, e1, e2, e3, e4⟩ => by
      obtain ⟨x, L, l⟩ := s
      simp only at e1 e2 e3 e4
      subst e1 e2
      have ei : ((i : Nat) : Int).toNat = i := by omega
      by_cases q : i < 32
      · have hg : (l.getD i default).length = 32 := by rw [e4 i (by omega)]; exact H6 i
        refine .inl ⟨(((i + 1 : Nat) : Int), none, l.set (i + 1) (zs (i + 1))), ?_, ⟨i + 1, by omega, rfl, rfl, by simpa using e3, fun k hk => ?_⟩, by show (32 - ((i + 1 : Nat) : Int)).toNat < (32 - (i : Int)).toNat; omega⟩
        · show BO.b1 (i : Int) none l = _
          unfold BO.b1
          rw [Fc (x := (i : Int) + 1) (by omega), if_pos (decide_eq_true (by omega)), if_pos (by omega), ei]
          refine Ax (Ky hg hg) ?_
          rw [if_pos (by omega), e4 i (by omega), show ((i : Int) + 1).toNat = i + 1 by omega]
          rfl
        · rw [PT l (i + 1) k _ (by omega)]
          split
          · rename_i e; rw [e]
          · exact e4 k (by omega)
      · refine .inr (.inl ⟨((i : Int), none, l), ?_, rfl, fun k hk => e4 k (by omega)⟩)
        show BO.b1 (i : Int) none l = _
        unfold BO.b1
        rw [if_neg (by rw [decide_eq_false (by omega)]; decide)]) ((32 - 0 : Int).toNat + 2) (0, none, List.replicate 33 (List.replicate 32 0)) ⟨0, by omega, rfl, rfl, by simp, fun k hk => by
          have : k = 0 := by omega
          subst this; rfl⟩ (by decide)
  cases c with
  | ret _ => exact h2.elim
  | next s =>
    obtain ⟨i, L, l⟩ := s
    obtain ⟨e1, e2⟩ : L = none ∧ ∀ k, k ≤ 32 → l.getD k default = zs k := h2
    subst e1
    exact ⟨l, by unfold BO; exact BB h1 rfl, e2⟩
/- The root, in the program. -/
theorem RN {ls : List (List UInt8)} (hl : ls.length ≤ 4096) (h : ∀ p ∈ ls, p.length = 32) : Dj none ls = some (nv ls 32 0, none) := by
  obtain ⟨z, z1, z2⟩ := Lb
  have hm : (if (4096 : Int) < (ls.length : Int) then (4096 : Int) else (ls.length : Int)) = (ls.length : Int) := by rw [if_neg (by omega)]
  have ht : ((ls.take ((ls.length : Nat) : Int).toNat).drop (0 : Int).toNat) = ls := by
    rw [show ((ls.length : Nat) : Int).toNat = ls.length by omega, List.take_length]
    rfl
  obtain ⟨c, h1, h2⟩ := CC (body := fun s : (List (List UInt8)) × Int × (Option AP) => Dj.b1 (z, none) s.1 s.2.1 s.2.2) (fun s => ∃ i : Nat, i ≤ 32 ∧ s.2.1 = (i : Int) ∧ s.2.2 = none ∧ s.1.length ≤ 4096 ∧ Nl ls s.1 i) (fun c => match c with | .next s => s.2.2 = none ∧ Nl ls s.1 32 | .ret _ => False) (fun s => (32 - s.2.1).toNat)
    (fun s ⟨i, hi, e1, e2, e3, e4⟩ => by
      obtain ⟨m, x, L⟩ := s
      simp only at e1 e2 e3 e4
      subst e1 e2
      have ei : ((i : Nat) : Int).toNat = i := by omega
      by_cases q : i < 32
      · obtain ⟨m', u1, u2, u3⟩ := RI e4 h (by omega)
        refine .inl ⟨(m', ((i + 1 : Nat) : Int), none), ?_, ⟨i + 1, by omega, rfl, rfl, by show m'.length ≤ 4096; omega, u3⟩, by show (32 - ((i + 1 : Nat) : Int)).toNat < (32 - (i : Int)).toNat; omega⟩
        show Dj.b1 (z, none) m (i : Int) none = _
        unfold Dj.b1
        rw [if_pos (decide_eq_true (by omega)), if_pos (by omega), ei, z2 i (by omega)]
        refine Ax u1 ?_
        rw [Fc (by omega)]
        rfl
      · have : i = 32 := by omega
        subst this
        refine .inr (.inl ⟨(m, ((32 : Nat) : Int), none), ?_, rfl, e4⟩)
        show Dj.b1 (z, none) m ((32 : Nat) : Int) none = _
        unfold Dj.b1
        rw [if_neg (by rw [decide_eq_false (by omega)]; decide)]) ((32 - 0 : Int).toNat + 2) (ls, 0, none) ⟨0, by omega, rfl, rfl, hl, .start ls⟩ (by show ((32 : Int) - 0).toNat < ((32 : Int) - 0).toNat + 2; decide)
  unfold Dj
  rw [hm, ht, if_pos (by omega)]
  cases c with
  | ret _ => exact h2.elim
  | next s =>
    obtain ⟨m, i, L⟩ := s
    obtain ⟨e1, e2⟩ : L = none ∧ Nl ls m 32 := h2
    subst e1
    refine Ax z1 (BB h1 ?_)
    show (if _ then _ else _) = _
    by_cases q : m.length = 0
    · rw [if_pos (decide_eq_true (by omega)), e2.out (a := 0) (by omega)]
      show some (z.getD 32 default, none) = _
      rw [z2 32 (by omega)]
    · rw [if_neg (by rw [decide_eq_false (by omega)]; decide), if_pos (by omega)]
      show some (m.getD 0 default, none) = _
      rw [e2.val 0 (by omega)]
/- The other one of two. -/
def MK (a : Nat) : Nat := if a % 2 = 1 then a - 1 else a + 1
theorem Ro {a : Nat} (h : a < 8) : bits .xor .i64 (a : Int) 1 = ((MK a : Nat) : Int) := by
  have : a = 0 ∨ a = 1 ∨ a = 2 ∨ a = 3 ∨ a = 4 ∨ a = 5 ∨ a = 6 ∨ a = 7 := by omega
  rcases this with rfl | rfl | rfl | rfl | rfl | rfl | rfl | rfl <;> decide
noncomputable def IF (ls : List (List UInt8)) : Nat → Nat → Nat → List (List UInt8)
  | 0, _, _ => []
  | c + 1, k, a => nv ls k (MK a) :: IF ls c (k + 1) (a / 2)
theorem Ls (ls : List (List UInt8)) : ∀ (c k a : Nat), IF ls (c + 1) k a = IF ls c k a ++ [nv ls (k + c) (MK (a / 2 ^ c))]
  | 0, k, a => by simp [IF]
  | c + 1, k, a => by
    rw [IF, Ls ls c (k + 1) (a / 2), IF, List.cons_append, Nat.div_div_eq_div_mul, show 2 * 2 ^ c = 2 ^ (c + 1) by rw [Nat.pow_succ, Nat.mul_comm], show k + 1 + c = k + (c + 1) by omega]
theorem KO (ls : List (List UInt8)) : ∀ (c k a : Nat), (IF ls c k a).length = c
  | 0, _, _ => rfl
  | c + 1, k, a => by rw [IF, List.length_cons, KO ls c]
theorem My {ls : List (List UInt8)} (h : ∀ p ∈ ls, p.length = 32) : ∀ (c k a : Nat), LG (IF ls c k a)
  | 0, _, _ => fun p hp => by cases hp
  | c + 1, k, a => fun p hp => by
    rw [IF] at hp
    rcases List.mem_cons.1 hp with q | q
    · rw [q]; exact GZ h k _
    · exact My h c _ _ p q
theorem Lr (ls : List (List UInt8)) : ∀ (c k a : Nat), Ho (IF ls c k a) a (nv ls k a) = nv ls (k + c) (a / 2 ^ c)
  | 0, k, a => by simp [IF, Ho]
  | c + 1, k, a => by
    rw [IF, Ho]
    have e : (if a % 2 = 1 then n6 (nv ls k (MK a)) (nv ls k a) else n6 (nv ls k a) (nv ls k (MK a))) = nv ls (k + 1) (a / 2) := by
      rw [Kw]
      unfold MK
      by_cases q : a % 2 = 1
      · rw [if_pos q, if_pos q, show 2 * (a / 2) = a - 1 by omega, show a - 1 + 1 = a by omega]
      · rw [if_neg q, if_neg q, show 2 * (a / 2) = a by omega]
    rw [e, Lr ls c (k + 1) (a / 2), Nat.div_div_eq_div_mul, show 2 * 2 ^ c = 2 ^ (c + 1) by rw [Nat.pow_succ, Nat.mul_comm], show k + 1 + c = k + (c + 1) by omega]
theorem L4 {ls : List (List UInt8)} {a : Nat} (ha : a < ls.length) (hl : ls.length ≤ 4096) : Ho (IF ls 32 0 a) a (ls.getD a default) = nv ls 32 0 := by
  have h0 : ls.getD a default = nv ls 0 a := by unfold nv; rw [if_neg (by omega)]
  rw [h0, Lr ls 32 0 a, Nat.zero_add, Nat.div_eq_of_lt (Nat.lt_of_lt_of_le ha (Nat.le_trans hl (by decide)))]
/- A branch, in the program. -/
theorem O5 {ls : List (List UInt8)} (hl : ls.length ≤ 4096) (h : ∀ p ∈ ls, p.length = 32) {a : Nat} (ha : a < ls.length) (ha8 : a < 8) : A7 none ls (a : Int) = some (IF ls 32 0 a, 0, none) := by
  obtain ⟨z, z1, z2⟩ := Lb
  obtain ⟨c, h1, h2⟩ := CC (body := fun s : Int × (List (List UInt8)) × Int × (Option AP) × (List (List UInt8)) => A7.b1 (z, none) s.1 s.2.1 s.2.2.1 s.2.2.2.1 s.2.2.2.2)
    (fun s => ∃ i : Nat, i ≤ 32 ∧ s.1 = ((a / 2 ^ i : Nat) : Int) ∧ s.2.2.1 = (i : Int) ∧ s.2.2.2.1 = none ∧ s.2.1.length ≤ 4096 ∧ Nl ls s.2.1 i ∧ s.2.2.2.2 = IF ls i 0 a)
    (fun c => match c with | .next s => s.2.2.2.1 = none ∧ s.2.2.2.2 = IF ls 32 0 a | .ret _ => False) (fun s => (32 - s.2.2.1).toNat)
    (fun s ⟨i, hi, e1, e2, e3, e4, e5, e6⟩ => by
      obtain ⟨s1, m, s3, s4, o⟩ := s
      simp only at e1 e2 e3 e4 e5 e6
      subst e1 e2 e3
      have ei : ((i : Nat) : Int).toNat = i := by omega
      have ha' : a / 2 ^ i < 8 := Nat.lt_of_le_of_lt (Nat.div_le_self _ _) ha8
      by_cases q : i < 32
      · obtain ⟨m', u1, u2, u3⟩ := RI e5 h (by omega)
        have hx := Ro ha'
        have hdv : a / 2 ^ i / 2 = a / 2 ^ (i + 1) := by rw [Nat.div_div_eq_div_mul, Nat.pow_succ]
        have hd : IntKind.wrap .i64 (((a / 2 ^ i : Nat) : Int).tdiv 2) = ((a / 2 ^ (i + 1) : Nat) : Int) := by
          rw [← hdv]
          generalize a / 2 ^ i = y at ha'
          have : (y : Int).tdiv 2 = ((y / 2 : Nat) : Int) := by
            rw [Int.tdiv_eq_ediv_of_nonneg (by omega)]; omega
          rw [this, Fc (by omega)]
        have hol : o.length = i := by rw [e6, KO]
        have hsn : IF ls (i + 1) 0 a = o ++ [nv ls i (MK (a / 2 ^ i))] := by rw [Ls, e6, Nat.zero_add]
        have fin : ∀ d : List UInt8, d = nv ls i (MK (a / 2 ^ i)) → A7.j2 (z, none) ((a / 2 ^ i : Nat) : Int) m (i : Int) none o d = some (.cont (((a / 2 ^ (i + 1) : Nat) : Int), m', ((i + 1 : Nat) : Int), none, IF ls (i + 1) 0 a)) := by
          intro d hd'
          unfold A7.j2
          rw [if_pos (by simp [CG]; omega), if_pos (by omega), ei, z2 i (by omega)]
          refine Ax u1 ?_
          rw [hd, Fc (by omega), hsn, hd']
          rfl
        have go : ∀ d : List UInt8, d = nv ls i (MK (a / 2 ^ i)) → A7.b1 (z, none) ((a / 2 ^ i : Nat) : Int) m (i : Int) none o = A7.j2 (z, none) ((a / 2 ^ i : Nat) : Int) m (i : Int) none o d → ∃ s', A7.b1 (z, none) ((a / 2 ^ i : Nat) : Int) m (i : Int) none o = some (.cont s') ∧ (∃ i : Nat, i ≤ 32 ∧ s'.1 = ((a / 2 ^ i : Nat) : Int) ∧ s'.2.2.1 = (i : Int) ∧ s'.2.2.2.1 = none ∧ s'.2.1.length ≤ 4096 ∧ Nl ls s'.2.1 i ∧ s'.2.2.2.2 = IF ls i 0 a) ∧ (32 - s'.2.2.1).toNat < (32 - (i : Int)).toNat := fun d hd' hb =>
          ⟨_, hb.trans (fin d hd'), ⟨i + 1, by omega, rfl, rfl, rfl, by show m'.length ≤ 4096; omega, u3, rfl⟩, by show (32 - ((i + 1 : Nat) : Int)).toNat < _; omega⟩
        refine .inl ?_
        have es : ((MK (a / 2 ^ i) : Nat) : Int).toNat = MK (a / 2 ^ i) := by omega
        by_cases w : MK (a / 2 ^ i) < m.length
        · refine go (m.getD (MK (a / 2 ^ i)) default) (e5.val _ w) ?_
          unfold A7.b1
          rw [if_pos (decide_eq_true (by omega)), if_pos (by omega), hx, if_pos (decide_eq_true (by omega)), if_pos (by omega), es]
        · refine go (zs i) (e5.out w).symm ?_
          unfold A7.b1
          rw [if_pos (decide_eq_true (by omega)), if_pos (by omega), hx, if_neg (by rw [decide_eq_false (by omega)]; decide), ei, z2 i (by omega)]
      · have : i = 32 := by omega
        subst this
        refine .inr (.inl ⟨(((a / 2 ^ 32 : Nat) : Int), m, ((32 : Nat) : Int), none, o), ?_, rfl, e6⟩)
        show A7.b1 (z, none) ((a / 2 ^ 32 : Nat) : Int) m ((32 : Nat) : Int) none o = _
        unfold A7.b1
        rw [if_neg (by rw [decide_eq_false (by omega)]; decide)]) ((32 - 0 : Int).toNat + 2) ((a : Int), ls, 0, none, []) ⟨0, by omega, by simp, rfl, rfl, hl, .start ls, rfl⟩ (by show ((32 : Int) - 0).toNat < ((32 : Int) - 0).toNat + 2; decide)
  unfold A7
  rw [if_neg (by rw [decide_eq_false (by omega)]; decide), decide_eq_false (show ¬ (ls.length : Int) ≤ (a : Int) by omega)]
  unfold A7.j1
  rw [if_neg (by decide), if_neg (by rw [decide_eq_false (by omega)]; decide)]
  cases c with
  | ret _ => exact h2.elim
  | next s =>
    obtain ⟨s1, m, s3, s4, o⟩ := s
    obtain ⟨e1, e2⟩ : s4 = none ∧ o = IF ls 32 0 a := h2
    subst e1 e2
    exact Ax (Qm ls (by omega)) (Ax z1 (BB h1 rfl))
/- The root, in the document. -/
theorem MP : Cb none = some (No, none) := by
  obtain ⟨c, h1, h2⟩ := CC (body := fun s : Int × (Option Bn) × (List UInt8) × (List (List UInt8)) => Cb.b1 s.1 s.2.1 s.2.2.1 s.2.2.2)
      (fun s => ∃ i : Nat, i ≤ 33 ∧ s = ((i : Int), none, zs i, (List.range i).map zs))
      (fun c => match c with | .next s => s.2.1 = none ∧ s.2.2.2 = No | .ret _ => False) (fun s => (33 - s.1).toNat)
      (fun s ⟨i, hi, hs⟩ => by
        subst hs
        by_cases q : i < 33
        · refine .inl ⟨(((i + 1 : Nat) : Int), none, zs (i + 1), (List.range (i + 1)).map zs), ?_, ⟨i + 1, by omega, rfl⟩, by simp; omega⟩
          show Cb.b1 (i : Int) none (zs i) ((List.range i).map zs) = _
          unfold Cb.b1
          rw [if_pos (by simp; omega), if_pos (by simp [CG]; omega)]
          refine Ax (Nx (H6 i) (H6 i)) ?_
          rw [Fc (by omega), List.range_succ, List.map_append]
          rfl
        · have : i = 33 := by omega
          subst this
          refine .inr (.inl ⟨(((33 : Nat) : Int), none, zs 33, No), ?_, rfl, rfl⟩)
          show Cb.b1 ((33 : Nat) : Int) none (zs 33) _ = _
          unfold Cb.b1
          rw [if_neg (by simp)]
          rfl) ((33 - 0 : Int).toNat + 2) (0, none, List.replicate 32 0, []) ⟨0, by omega, rfl⟩ (by simp)
  cases c with
  | ret _ => exact h2.elim
  | next s =>
    obtain ⟨s1, s2, s3, s4⟩ := s
    obtain ⟨e1, e2⟩ : s2 = none ∧ s4 = No := h2
    subst e1 e2
    unfold Cb
    exact BB h1 rfl
theorem P3 {ls : List (List UInt8)} (h : ∀ p ∈ ls, p.length = 32) (hlen : ls.length ≤ 100) : ∀ (level at_ j : Nat), level ≤ 32 → at_ < 2 ^ (32 - level) → level < j → EH j none No ls (level : Int) (at_ : Int) = some (nv ls level at_, none) := by
  intro level
  induction level with
  | zero =>
    intro at_ j h1 h2 h3
    obtain ⟨j, rfl⟩ : ∃ i, j = i + 1 := ⟨j - 1, by omega⟩
    have h2' : at_ < 4294967296 := by simpa using h2
    show Ef (EH j) none No ls ((0 : Nat) : Int) (at_ : Int) = _
    unfold Ef
    refine Ax (size_eq 0 (by omega)) ?_
    have e : IntKind.wrap .i64 ((at_ : Int) * ((2 ^ 0 : Nat) : Int)) = (at_ : Int) := by rw [show ((2 ^ 0 : Nat) : Int) = 1 from rfl, Int.mul_one, Fc (by omega)]
    rw [e]
    unfold nv
    by_cases q : ls.length ≤ at_
    · rw [if_pos (by simp; omega), if_pos (by simp [No]), if_pos q]
      exact congrArg (fun z => some (z, none)) (Nn 0 (by omega))
    · rw [if_neg (by simp; omega), if_pos (by decide), if_pos (by omega), if_neg q]
      rfl
  | succ k ih =>
    intro at_ j h1 h2 h3
    obtain ⟨j, rfl⟩ : ∃ i, j = i + 1 := ⟨j - 1, by omega⟩
    have hk2 : (2 : Nat) ^ (32 - k) = 2 * 2 ^ (32 - (k + 1)) := by rw [show 32 - k = (32 - (k + 1)) + 1 by omega, Nat.pow_succ, Nat.mul_comm]
    have hb : at_ * 2 ^ (k + 1) ≤ 4294967296 := by
      have : at_ * 2 ^ (k + 1) ≤ 2 ^ (32 - (k + 1)) * 2 ^ (k + 1) := Nat.mul_le_mul_right _ (by omega)
      rw [← Nat.pow_add, show 32 - (k + 1) + (k + 1) = 32 by omega] at this
      simpa using this
    have ha : at_ ≤ 4294967296 := by
      have : 1 ≤ 2 ^ (k + 1) := Nat.one_le_two_pow
      exact Nat.le_trans (Nat.le_mul_of_pos_right _ this) hb
    have hg : IntKind.wrap .i64 ((at_ : Int) * ((2 ^ (k + 1) : Nat) : Int)) = ((at_ * 2 ^ (k + 1) : Nat) : Int) := by
      rw [← Int.natCast_mul]
      generalize at_ * 2 ^ (k + 1) = z at hb
      exact Fc (by omega)
    show Ef (EH j) none No ls ((k + 1 : Nat) : Int) (at_ : Int) = _
    unfold Ef
    refine Ax (size_eq (k + 1) h1) ?_
    by_cases q : ls.length ≤ at_ * 2 ^ (k + 1)
    · rw [hg, Jq ls (k + 1) at_ q]
      generalize at_ * 2 ^ (k + 1) = z at q hb
      rw [if_pos (by simp; omega), if_pos (by simp [No]; omega)]
      exact congrArg (fun z => some (z, none)) (Nn (k + 1) (by omega))
    · rw [hg, Kw]
      have e1 : IntKind.wrap .i64 (((k + 1 : Nat) : Int) - 1) = (k : Int) := by rw [Fc (by omega)]; omega
      have e2 : IntKind.wrap .i64 (2 * (at_ : Int)) = ((2 * at_ : Nat) : Int) := by rw [Fc (by omega)]; omega
      have e3 : IntKind.wrap .i64 (((2 * at_ : Nat) : Int) + 1) = ((2 * at_ + 1 : Nat) : Int) := by rw [Fc (by omega)]; omega
      rw [e1, e2, e3]
      generalize at_ * 2 ^ (k + 1) = z at q hb
      rw [if_neg (by simp; omega), if_neg (by simp; omega)]
      exact Ax (ih (2 * at_) j (by omega) (by omega) (by omega)) (Ax (ih (2 * at_ + 1) j (by omega) (by omega) (by omega)) (Ax (Nx (GZ h k _) (GZ h k _)) rfl))
theorem QS {ls : List (List UInt8)} (h : ∀ p ∈ ls, p.length = 32) (hlen : ls.length ≤ 100) : Gm none ls = some (nv ls 32 0, none) := by
  unfold Gm
  refine Ax MP (Ax (x := ls) ?_ (Ax (P3 h hlen 32 0 100000 (by omega) (by decide) (by omega)) rfl))
  unfold F8
  rw [if_neg (by simp; omega)]
end

section
set_option linter.unusedVariables false
set_option linter.unusedSimpArgs false

/- A letter's status. -/
noncomputable def Fp (st : List Ag) (d : List UInt8) : Int := if 0 ≤ DK st d then (st.getD (DK st d).toNat default).BX else 0
theorem JA {P Q : Nat → Bool} : ∀ n, (∀ i, i < n → P i = Q i) → fi P n = fi Q n
  | 0, _ => rfl
  | n + 1, h => by rw [E8, E8, JA n (fun i hi => h i (by omega)), h n (by omega)]
theorem OH (st : List Ag) (s : Ag) (e : List UInt8) : DK (st ++ [s]) e = if 0 ≤ DK st e then DK st e else if s.BP = e then (st.length : Int) else -1 := by
  have h1 : ∀ i, i < st.length → (st ++ [s]).getD i default = st.getD i default := fun i hi => by simp [List.getD, List.getElem?_append_left hi]
  have h2 : (st ++ [s]).getD st.length default = s := by simp [List.getD]
  unfold DK
  rw [List.length_append, List.length_singleton, E8, JA (Q := fun i => JY e (st.getD i default)) st.length (fun i hi => by show JY e _ = JY e _; rw [h1 i hi])]
  have h3 : (JY e ((st ++ [s]).getD st.length default) = true) ↔ s.BP = e := by rw [h2]; unfold JY; exact ⟨of_decide_eq_true, fun q => decide_eq_true q⟩
  by_cases a : 0 ≤ fi (fun i => JY e (st.getD i default)) st.length
  · rw [if_pos a, if_pos a]
  · rw [if_neg a, if_neg a]
    by_cases b : s.BP = e
    · rw [if_pos (h3.2 b), if_pos b]
    · rw [if_neg (fun q => b (h3.1 q)), if_neg b]
theorem Md (st : List Ag) (j i : Nat) (s : Ag) (hj : j < st.length) : (st.set j s).getD i default = if i = j then s else st.getD i default := by
  by_cases e : i = j
  · subst e
    rw [if_pos rfl]
    simp [List.getD, hj]
  · rw [if_neg e]
    simp only [List.getD]
    rw [List.getElem?_set_ne (by omega)]
theorem OG (st : List Ag) (s : Ag) (e : List UInt8) (h : 0 ≤ DK st s.BP) : DK (st.set (DK st s.BP).toNat s) e = DK st e := by
  have hl := Iy st s.BP
  have ha := Mc st s.BP h
  have hj : (DK st s.BP).toNat < st.length := by omega
  generalize (DK st s.BP).toNat = j at ha hj
  unfold DK
  rw [List.length_set]
  refine JA _ fun i hi => ?_
  show JY e _ = JY e _
  rw [Md st j i s hj]
  by_cases q : i = j
  · subst q
    rw [if_pos rfl]
    unfold JY
    rw [ha]
  · rw [if_neg q]
theorem IY (st : List Ag) (s : Ag) (e : List UInt8) : Fp (GA st s) e = if e = s.BP then s.BX else Fp st e := by
  have hl := Iy st s.BP
  have hle := Iy st e
  unfold GA
  by_cases h : 0 ≤ DK st s.BP
  · rw [if_pos h]
    unfold Fp
    rw [OG st s e h, Md st _ _ s (by omega)]
    by_cases q : e = s.BP
    · subst q
      rw [if_pos h, if_pos rfl, if_pos rfl]
    · rw [if_neg q]
      by_cases w : 0 ≤ DK st e
      · rw [if_pos w, if_pos w, if_neg (fun z => ?_)]
        have z : (DK st e).toNat = (DK st s.BP).toNat := z
        have e1 := Mc st e w
        have e2 := Mc st s.BP h
        rw [z, e2] at e1
        exact q e1.symm
      · rw [if_neg w, if_neg w]
  · rw [if_neg h]
    unfold Fp
    rw [OH]
    by_cases w : 0 ≤ DK st e
    · have q : ¬ e = s.BP := fun q => h (by rw [← q]; exact w)
      rw [if_pos w, if_pos w, if_pos w, if_neg q]
      congr 1
      simp [List.getD, List.getElem?_append_left (show (DK st e).toNat < st.length by omega)]
    · rw [if_neg w, if_neg w]
      by_cases q : s.BP = e
      · rw [if_pos q, if_pos q.symm, if_pos (by omega)]
        simp [List.getD]
      · rw [if_neg q, if_neg (show ¬ (0 : Int) ≤ -1 by decide), if_neg (fun z => q z.symm)]
/- What a replica holds when all is shown under one root. -/
def F3 (R : List UInt8) (st : List Ag) : Prop := ∀ s ∈ st, (s.BX = 1 ∨ s.BX = 2) ∧ s.Cw = R
theorem F3.at {R : List UInt8} {st : List Ag} (S : F3 R st) {d : List UInt8} (h : 0 ≤ DK st d) : ((st.getD (DK st d).toNat default).BX = 1 ∨ (st.getD (DK st d).toNat default).BX = 2) ∧ (st.getD (DK st d).toNat default).Cw = R := by
  have := Iy st d
  exact S _ (Js _ _ _ (by omega))
theorem F3.Fp {R : List UInt8} {st : List Ag} (S : F3 R st) (d : List UInt8) : (DK st d < 0 ∧ Fp st d = 0) ∨ (0 ≤ DK st d ∧ Fp st d = (st.getD (DK st d).toNat default).BX ∧ (Fp st d = 1 ∨ Fp st d = 2)) := by
  by_cases h : 0 ≤ DK st d
  · have := S.at h
    refine .inr ⟨h, ?_, ?_⟩
    · unfold Proofs.YteboiefnflipjaaGreatDoor.Fp; rw [if_pos h]
    · unfold Proofs.YteboiefnflipjaaGreatDoor.Fp; rw [if_pos h]; exact this.1
  · refine .inl ⟨by omega, ?_⟩
    unfold Proofs.YteboiefnflipjaaGreatDoor.Fp; rw [if_neg h]
theorem F3.put {R : List UInt8} {st : List Ag} (S : F3 R st) {s : Ag} (h1 : s.BX = 1 ∨ s.BX = 2) (h2 : s.Cw = R) : F3 R (GA st s) := by
  intro t ht
  unfold GA at ht
  split at ht
  · rcases List.mem_or_eq_of_mem_set ht with q | q
    · exact S t q
    · subst q; exact ⟨h1, h2⟩
  · rcases List.mem_append.1 ht with q | q
    · exact S t q
    · rw [List.mem_singleton] at q
      subst q; exact ⟨h1, h2⟩
def D9 (R : List UInt8) (now : Int) (st : List Ag) : Ae := ⟨1, 2, List.replicate 32 0, [], (0 : Int), List.replicate 32 0, [⟨R, now⟩], st, false, false⟩
theorem HY (R : List UInt8) (now : Int) (st : List Ag) (d : List UInt8) : Is (D9 R now st) d now = if d = R then 0 else 31 := by
  unfold Is
  have e : Ny (D9 R now st) d = if R = d then 0 else -1 := by
    unfold Ny
    show fi (fun i => LH d (([⟨R, now⟩] : List Av).getD i default)) 1 = _
    rw [E8]
    show (if 0 ≤ (-1 : Int) then (-1 : Int) else if LH d ⟨R, now⟩ = true then ((0 : Nat) : Int) else -1) = _
    rw [if_neg (by decide)]
    by_cases q : R = d
    · rw [if_pos (show LH d ⟨R, now⟩ = true by unfold LH; exact decide_eq_true q), if_pos q]
      rfl
    · rw [if_neg (show ¬ LH d ⟨R, now⟩ = true by unfold LH; exact fun w => q (of_decide_eq_true w)), if_neg q]
  by_cases q : d = R
  · rw [if_pos q.symm] at e
    rw [e, if_pos q, if_neg (show ¬ (0 : Int) < 0 by decide)]
    show (if now < now then (36 : Int) else 0) = 0
    rw [if_neg (by omega)]
  · rw [if_neg (fun w => q w.symm)] at e
    rw [e, if_neg q, if_pos (show (-1 : Int) < 0 by decide)]
theorem I8 (R : List UInt8) (now : Int) (st : List Ag) (d : List UInt8) (hl : st.length < 1000000) : ∃ r, Dg (D9 R now st) d = some (Fp st d, r) ∧ (0 ≤ DK st d → r = (st.getD (DK st d).toNat default).Cw) := by
  have h := Iy st d
  unfold Dg
  by_cases q : DK st d < 0
  · refine ⟨List.replicate 32 0, Ax (G8 (D9 R now st) d hl) ?_, fun w => by omega⟩
    show (if decide (DK st d < 0) = true then _ else _) = _
    rw [if_pos (decide_eq_true q)]
    unfold Fp
    rw [if_neg (by omega)]
  · refine ⟨(st.getD (DK st d).toNat default).Cw, Ax (G8 (D9 R now st) d hl) ?_, fun _ => rfl⟩
    show (if decide (DK st d < 0) = true then _ else if 0 ≤ DK st d ∧ DK st d < st.length then some ((st.getD (DK st d).toNat default).BX, (st.getD (DK st d).toNat default).Cw) else none) = _
    rw [if_neg (by rw [decide_eq_false q]; decide), if_pos ⟨by omega, h.2⟩]
    unfold Fp
    rw [if_pos (by omega)]
/- Letters and their leaves. -/
structure Fit (xs : List Ai) (ls : List (List UInt8)) : Prop where
  n7 : ls.length ≤ 7
  len : xs.length = ls.length
  ok : ∀ i, i < ls.length → JV (xs.getD i default) ∧ (xs.getD i default).CK = 1 ∧ (xs.getD i default).Fk = 2 ∧ FW (xs.getD i default) = ls.getD i default
theorem Fit.all {xs : List Ai} {ls : List (List UInt8)} (F : Fit xs ls) : ∀ p ∈ ls, p.length = 32 := fun p hp => by
  obtain ⟨j, hj, rfl⟩ := List.mem_iff_getElem.1 hp
  obtain ⟨h1, _, _, h2⟩ := F.ok j hj
  rw [show ls.getD j default = ls[j] by simp [List.getD, hj]] at h2
  rw [← h2]
  exact OW h1
/- What comes of a call that is brought. -/
structure Kg (R : List UInt8) (now : Int) (st : List Ag) (d : List UInt8) (c : EJ) : Prop where
  go : ∃ st', FZ (D9 R now st) now c = some (D9 R now st', 0) ∧ F3 R st' ∧ st'.length ≤ st.length + 1 ∧ Fp st' d = Fp st d + 1 ∧ ∀ e, e ≠ d → Fp st' e = Fp st e
theorem N6 {R : List UInt8} {now : Int} {st : List Ag} (S : F3 R st) (hl : st.length < 4000) {ls : List (List UInt8)} (h : ∀ p ∈ ls, p.length = 32) (hls : ls.length ≤ 7) {i : Nat} (hi : i < ls.length) (hR : nv ls 32 0 = R) (h0 : Fp st (ls.getD i default) = 0) :
    Kg R now st (ls.getD i default) (EJ.c182 ⟨ls.getD i default, (i : Int), IF ls 32 0 i⟩) := by
  have hd : (ls.getD i default).length = 32 := Ms h hi
  have hc := L4 hi (by omega)
  rw [hR] at hc
  have hst : DK st (ls.getD i default) < 0 := by
    rcases S.Fp (ls.getD i default) with q | q
    · exact q.1
    · omega
  generalize ls.getD i default = d at hd hc h0 hst
  refine ⟨GA st ⟨d, 1, R⟩, ?_, S.put (.inl rfl) rfl, Mg _ _, ?_, fun e he => ?_⟩
  · unfold FZ
    refine Ax (x := A9.mk 11 [] [] [] (0 : Int) (0 : Int) (0 : Int) (AR.mk (0 : Int) [] [] []) (AS.mk (0 : Int) (List.replicate 32 0) (List.replicate 32 0) (AR.mk (0 : Int) [] [] [])) (AS.mk (0 : Int) (List.replicate 32 0) (List.replicate 32 0) (AR.mk (0 : Int) [] [] [])) (Cm.mk (0 : Int) (List.replicate 32 0) (0 : Int) (AR.mk (0 : Int) [] [] [])) d (i : Int) (IF ls 32 0 i) (Ai.mk (0 : Int) (0 : Int) (0 : Int) [] [] [])) (by unfold G2; exact (if_pos (show I1 (EJ.c182 _) = true from rfl)).trans rfl) ?_
    show (if (decide ((11 : Int) = (11 : Int))) = true then ((Bb none (D9 R now st) now d (i : Int) (IF ls 32 0 i)).bind fun r6 => some (r6.1, r6.2.1)) else _) = _
    rw [if_pos (by decide)]
    refine Ax (LV (D9 R now st) now hd (by omega) (My h 32 0 i) (by show 1 < 1000000; omega) (by show st.length < 100000; omega)) ?_
    have e : NJ (D9 R now st) now d i (IF ls 32 0 i) = (D9 R now (GA st ⟨d, 1, R⟩), 0) := by
      unfold NJ
      rw [if_neg (show ¬ (D9 R now st).BU = true from fun h => by cases h), if_neg (show ¬ (D9 R now st).Ds = true from fun h => by cases h), KO, if_neg (by omega), hc, HY, if_pos rfl, if_neg (by omega), if_neg (fun q => by have : 0 ≤ DK st d := q.1; omega), if_neg (fun q => by have : 4096 ≤ st.length := q.2; omega)]
      rfl
    rw [e]
  · rw [IY, if_pos rfl, h0]; rfl
  · rw [IY, if_neg he]
theorem O1 {R : List UInt8} {now : Int} {st : List Ag} (S : F3 R st) (hl : st.length < 4000) {x : Ai} (hx : JV x) (hf : x.CK = 1) (ht : x.Fk = 2) (h1 : Fp st (FW x) = 1) : Kg R now st (FW x) (EJ.c148 ⟨x⟩) := by
  have hst : 0 ≤ DK st (FW x) ∧ (st.getD (DK st (FW x)).toNat default).BX = 1 ∧ (st.getD (DK st (FW x)).toNat default).Cw = R := by
    rcases S.Fp (FW x) with q | q
    · omega
    · exact ⟨q.1, by rw [← q.2.1]; exact h1, (S.at q.1).2⟩
  refine ⟨GA st ⟨FW x, 2, R⟩, ?_, S.put (.inr rfl) rfl, Mg _ _, ?_, fun e he => ?_⟩
  · unfold FZ
    refine Ax (x := A9.mk 12 [] [] [] (0 : Int) (0 : Int) (0 : Int) (AR.mk (0 : Int) [] [] []) (AS.mk (0 : Int) (List.replicate 32 0) (List.replicate 32 0) (AR.mk (0 : Int) [] [] [])) (AS.mk (0 : Int) (List.replicate 32 0) (List.replicate 32 0) (AR.mk (0 : Int) [] [] [])) (Cm.mk (0 : Int) (List.replicate 32 0) (0 : Int) (AR.mk (0 : Int) [] [] [])) (List.replicate 32 0) (0 : Int) [] x) (by unfold G2; exact (if_neg (show ¬ I1 (EJ.c148 _) = true from fun h => by cases h)).trans ((if_pos (show KH (EJ.c148 _) = true from rfl)).trans rfl)) ?_
    show (if (decide ((12 : Int) = (11 : Int))) = true then _ else ((Bv none (D9 R now st) now x).bind fun r7 => some (r7.1, r7.2.1))) = _
    rw [if_neg (by decide)]
    refine Ax (MH (D9 R now st) now hx (by show 1 < 1000000; omega) (by show st.length < 100000; omega)) ?_
    have e : QL (D9 R now st) now x = (D9 R now (GA st ⟨FW x, 2, R⟩), 0) := by
      unfold QL
      rw [if_neg (show ¬ (D9 R now st).BU = true from fun h => by cases h), if_neg (show ¬ (D9 R now st).Ds = true from fun h => by cases h), if_neg (fun q => q ⟨ht, hf⟩)]
      show (if DK st (FW x) < 0 ∨ (st.getD (DK st (FW x)).toNat default).BX ≠ 1 then _ else if Is (D9 R now st) (st.getD (DK st (FW x)).toNat default).Cw now ≠ 0 then _ else ((⟨1, 2, List.replicate 32 0, [], (0 : Int), List.replicate 32 0, [⟨R, now⟩], GA st ⟨FW x, 2, (st.getD (DK st (FW x)).toNat default).Cw⟩, false, false⟩ : Ae), (0 : Int))) = _
      rw [if_neg (by omega), hst.2.2, HY, if_pos rfl, if_neg (by omega)]
      rfl
    rw [e]
  · rw [IY, if_pos rfl, h1]; rfl
  · rw [IY, if_neg he]
/- What a letter does. -/
theorem LU {R : List UInt8} {now : Int} {st : List Ag} (S : F3 R st) (hl : st.length < 4000) {ls : List (List UInt8)} (h : ∀ p ∈ ls, p.length = 32) (hls : ls.length ≤ 7) {i : Nat} (hi : i < ls.length) (hR : nv ls 32 0 = R) (h0 : Fp st (ls.getD i default) = 0) :
    ∃ c, BC none ls (D9 R now st) now (i : Int) = some (c, true, none) ∧ Kg R now st (ls.getD i default) c := by
  obtain ⟨c, h1, h2⟩ := CC (body := fun s : Int × (Option AP) => BC.b1 ls (D9 R now st) now (i : Int) s.1 s.2) (fun s => ∃ m : Nat, i + 1 ≤ m ∧ m ≤ ls.length ∧ s = ((m : Int), none))
      (fun c => match c with | .next _ => False | .ret r => ∃ c, r = (c, true, none) ∧ Kg R now st (ls.getD i default) c) (fun s => (ls.length + 1 - s.1).toNat)
      (fun s ⟨m, m1, m2, hs⟩ => by
        subst hs
        have em : ((m : Nat) : Int).toNat = m := by omega
        have ei : ((i : Nat) : Int).toNat = i := by omega
        have htl : (ls.take m).length = m := by simp; omega
        have hta : ∀ p ∈ ls.take m, p.length = 32 := fun p hp => h p (List.mem_of_mem_take hp)
        have hdr : (ls.take m).drop (0 : Int).toNat = ls.take m := rfl
        have hg : (ls.take m).getD i default = ls.getD i default := by simp [List.getD, List.getElem?_take, show i < m by omega]
        by_cases q : nv (ls.take m) 32 0 = R
        · refine .inr (.inr ⟨(EJ.c182 ⟨ls.getD i default, (i : Int), IF (ls.take m) 32 0 i⟩, true, none), ?_, _, rfl, ?_⟩)
          · show BC.b1 ls (D9 R now st) now (i : Int) (m : Int) none = _
            unfold BC.b1
            rw [if_pos (decide_eq_true (by omega)), if_pos (by omega), em, hdr]
            refine Ax (RN (by omega) hta) ?_
            refine Ax (Gq (D9 R now st) _ now (by show 1 < 1000000; omega)) ?_
            rw [HY, if_pos q, if_neg (by decide), if_pos (by omega)]
            refine Ax (O5 (by omega) hta (a := i) (by omega) (by omega)) ?_
            rw [if_pos (by omega), ei, KX (by omega)]
            rfl
          · rw [← hg]
            exact N6 S hl hta (by omega) (by omega) q (by rw [hg]; exact h0)
        · have hm : m < ls.length := by
            apply Classical.byContradiction
            intro w
            have : m = ls.length := by omega
            subst this
            rw [List.take_length] at q
            exact q hR
          refine .inl ⟨(((m + 1 : Nat) : Int), none), ?_, ⟨m + 1, by omega, by omega, rfl⟩, by show ((ls.length : Int) + 1 - ((m + 1 : Nat) : Int)).toNat < ((ls.length : Int) + 1 - (m : Int)).toNat; omega⟩
          show BC.b1 ls (D9 R now st) now (i : Int) (m : Int) none = _
          unfold BC.b1
          rw [if_pos (decide_eq_true (by omega)), if_pos (by omega), em, hdr]
          refine Ax (RN (by omega) hta) ?_
          refine Ax (Gq (D9 R now st) _ now (by show 1 < 1000000; omega)) ?_
          rw [HY, if_neg q, if_pos (by decide), Fc (by omega)]
          rfl) (((ls.length : Int) - (IntKind.wrap .i64 ((i : Int) + 1)) : Int).toNat + 2) (IntKind.wrap .i64 ((i : Int) + 1), none) ⟨i + 1, by omega, by omega, by rw [Fc (by omega)]; rfl⟩ (by rw [Fc (by omega)]; show ((ls.length : Int) + 1 - ((i : Int) + 1)).toNat < _; omega)
  cases c with
  | next s => exact h2.elim
  | ret r =>
    obtain ⟨c, e1, e2⟩ := h2
    subst e1
    exact ⟨c, by unfold BC; exact Ax h1 rfl, e2⟩
theorem OU {R : List UInt8} {now : Int} {st : List Ag} (S : F3 R st) (hl : st.length < 4000) {xs : List Ai} {ls : List (List UInt8)} (F : Fit xs ls) {i : Nat} (hi : i < ls.length) (hR : nv ls 32 0 = R) :
    ∃ c, AU none xs ls (D9 R now st) now (i : Int) = some (c, decide (Fp st (ls.getD i default) ≠ 2), none) ∧ (Fp st (ls.getD i default) ≠ 2 → Kg R now st (ls.getD i default) c) := by
  obtain ⟨x1, x2, x3, x4⟩ := F.ok i hi
  have hn := F.n7
  have hx := F.len
  have ei : ((i : Nat) : Int).toNat = i := by omega
  have hmin : (if (64 : Int) < (ls.length : Int) then (64 : Int) else (ls.length : Int)) = (ls.length : Int) := if_neg (by omega)
  have hdr : (ls.take ((ls.length : Nat) : Int).toNat).drop (0 : Int).toNat = ls := by
    rw [show ((ls.length : Nat) : Int).toNat = ls.length by omega, List.take_length]; rfl
  have hlen : ∀ l : List (List UInt8), (l.length : Int) = ((l.length : Nat) : Int) := fun _ => rfl
  unfold AU
  rw [hmin, if_pos (by omega), if_neg (by rw [decide_eq_false (by omega)]; decide), if_neg (by rw [decide_eq_false (by omega)]; decide), hdr, if_neg (by rw [decide_eq_false (by omega)]; decide), if_pos (by omega), ei, x3]
  show ∃ c, (if (!decide ((2 : Int) = 2)) = true then _ else if false = true then _ else AU.j1 none xs ls (D9 R now st) now (i : Int) false) = _ ∧ _
  rw [if_neg (by decide), if_neg (by decide)]
  unfold AU.j1
  rw [hmin, hdr, if_neg (by decide), if_pos (by omega), ei]
  obtain ⟨r, s1, s2⟩ := I8 R now st (ls.getD i default) (by omega)
  have key : ∀ {α : Type} {f : Int × List UInt8 → Option α} {P : Option α → Prop}, P (f (Fp st (ls.getD i default), r)) → P ((Dg (D9 R now st) (ls.getD i default)).bind f) := fun h => by rw [s1]; exact h
  have j2f : AU.j2 none xs ls (D9 R now st) now (i : Int) false = (BC none ls (D9 R now st) now (i : Int)).bind fun r20 => some (r20.1, r20.2.1, r20.2.2) := by
    unfold AU.j2
    rw [hmin, hdr, if_neg (by decide)]
  rcases S.Fp (ls.getD i default) with ⟨a1, a2⟩ | ⟨a1, a2, a3⟩
  · obtain ⟨c, p1, p2⟩ := LU S hl F.all hn hi hR a2 (now := now)
    refine ⟨c, Ax s1 ?_, fun _ => p2⟩
    rw [a2]
    show (if (decide ((0 : Int) = 2)) = true then _ else if (decide ((0 : Int) = 1)) = true then _ else AU.j2 none xs ls (D9 R now st) now (i : Int) false) = _
    rw [if_neg (by decide), if_neg (by decide), j2f]
    exact Ax p1 rfl
  · rcases a3 with a3 | a3
    · have hr : r = R := by rw [s2 a1]; exact (S.at a1).2
      subst hr
      refine ⟨EJ.c148 ⟨xs.getD i default⟩, Ax s1 ?_, fun _ => ?_⟩
      · rw [a3]
        show (if (decide ((1 : Int) = 2)) = true then _ else if (decide ((1 : Int) = 1)) = true then ((CX (D9 r now st) r now).bind fun r10 => AU.j2 none xs ls (D9 r now st) now (i : Int) (decide (r10 = (0 : Int)))) else _) = _
        rw [if_neg (by decide), if_pos (by decide)]
        refine Ax (Gq (D9 r now st) _ now (by show 1 < 1000000; omega)) ?_
        rw [HY, if_pos rfl]
        unfold AU.j2
        rw [hmin, hdr, if_pos (by decide), if_pos (by omega), ei]
        refine Ax (Pn x1) ?_
        rw [if_pos (by omega), if_neg (by rw [x4]; simp)]
        unfold AU.j3
        rw [x2]
        show (if (!decide ((1 : Int) = 1)) = true then _ else _) = _
        rw [if_neg (by decide), if_pos (by omega), ei]
        rfl
      · rw [← x4]
        exact O1 S hl x1 x2 x3 (by rw [x4]; exact a3)
    · refine ⟨EJ.nil, Ax s1 ?_, fun q => absurd a3 q⟩
      rw [a3]
      show (if (decide ((2 : Int) = 2)) = true then _ else _) = _
      rw [if_pos (by decide)]
      rfl
end

section
set_option linter.unusedVariables false
set_option linter.unusedSimpArgs false

theorem OK (q k n : Nat) (hq : q < n) (hk : k < n) : ∀ j, j < n → ∃ k', k' < n ∧ (q + k') % n = j := by
  intro j hj
  by_cases h : q ≤ j
  · exact ⟨j - q, by omega, by rw [show q + (j - q) = j by omega, Nat.mod_eq_of_lt hj]⟩
  · exact ⟨j + n - q, by omega, by rw [show q + (j + n - q) = j + n by omega, Nat.add_mod_right, Nat.mod_eq_of_lt hj]⟩
theorem L1 {R S : Type} {body : S → Option (CR R S)} {k : Nat} {s s' : S} (h : body s = some (.cont s')) : Bf body (k + 1) s = Bf body k s' := by
  rw [Bf, h]
theorem J7 {R S : Type} {body : S → Option (CR R S)} {k : Nat} {s s' : S} (h : body s = some (.brk s')) : Bf body (k + 1) s = some (.next s') := by
  rw [Bf, h]
/- A step's answer. -/
structure KR (R : List UInt8) (now : Int) (st : List Ag) (ls : List (List UInt8)) (cut : Int) (p' : Ah) (l : List EJ) : Prop where
  home : p'.BE = 1
  RE : (l = [] ∧ (cut = -1 → ∀ i, i < ls.length → Fp st (ls.getD i default) = 2)) ∨
    (∃ i c, i < ls.length ∧ Fp st (ls.getD i default) ≠ 2 ∧ l = [c] ∧ Kg R now st (ls.getD i default) c ∧ ∃ nt, JU nt ∧ nt.DF = 4 ∧ nt.BE = 1 ∧ nt.Cl = (i : Int) + 1 ∧ p'.Iq = FF nt)
theorem LL {R : List UInt8} {now : Int} {st : List Ag} (S : F3 R st) (hl : st.length < 4000) {xs : List Ai} {ls : List (List UInt8)} (F : Fit xs ls) (hR : nv ls 32 0 = R) (disk : List UInt8) (cut : Int) :
    ∃ p' l, A3 none ⟨1, disk⟩ xs ls (D9 R now st) now cut = some (p', l, none) ∧ KR R now st ls cut p' l := by
  have hn := F.n7
  have hx := F.len
  have hN := Lc disk (k := 4) (home := 1) (by omega) (by omega)
  have hkh := Le disk (k := 4) (home := 1)
  generalize BN disk 4 1 = nt0 at hN hkh
  have hnote : Dh ⟨1, disk⟩ = some (BN disk 4 1) := by
    unfold Dh
    exact Ax (KT disk 4 1) rfl
  have hN := Lc disk (k := 4) (home := 1) (by omega) (by omega)
  have hkh := Le disk (k := 4) (home := 1)
  unfold A3
  obtain ⟨c, h1, h2⟩ := CC (body := fun s : Int × (Option AP) => A3.b1 ⟨1, disk⟩ xs ls (D9 R now st) now cut (BN disk 4 1) s.1 s.2)
    (fun s => ∃ k : Nat, k ≤ ls.length ∧ s = ((k : Int), none) ∧ ∀ k', k' < k → Fp st (ls.getD (((BN disk 4 1).Cl.toNat % ls.length + k') % ls.length) default) = 2)
    (fun c => match c with | .next s => s.2 = none ∧ ∀ i, i < ls.length → Fp st (ls.getD i default) = 2 | .ret r => ∃ p' l, r = (p', l, none) ∧ KR R now st ls cut p' l) (fun s => (ls.length - s.1).toNat)
    (fun s ⟨k, hk, hs, hd⟩ => by
      subst hs
      by_cases q : k < ls.length
      · have hpos : 0 < ls.length := by omega
        have hq : (BN disk 4 1).Cl.toNat % ls.length < ls.length := Nat.mod_lt _ hpos
        have e1 : (BN disk 4 1).Cl.tmod (IntKind.wrap .u64 (xs.length : Int)) = (((BN disk 4 1).Cl.toNat % ls.length : Nat) : Int) := by
          rw [hx, GL (by omega), Int.tmod_eq_emod_of_nonneg hN.2.2.1.1]
          rw [Int.natCast_emod, show (((BN disk 4 1).Cl.toNat : Nat) : Int) = (BN disk 4 1).Cl by have := hN.2.2.1.1; omega]
        have hat : ((BN disk 4 1).Cl.toNat % ls.length + k) % ls.length < ls.length := Nat.mod_lt _ hpos
        have e2 : (IntKind.wrap .i64 ((IntKind.wrap .i64 ((BN disk 4 1).Cl.tmod (IntKind.wrap .u64 (xs.length : Int)))) + (k : Int))).tmod (xs.length : Int) = ((((BN disk 4 1).Cl.toNat % ls.length + k) % ls.length : Nat) : Int) := by
          rw [e1, Fc (x := (((BN disk 4 1).Cl.toNat % ls.length : Nat) : Int)) (by omega), Fc (by omega), hx, Int.tmod_eq_emod_of_nonneg (by omega), ← Int.natCast_add, Int.natCast_emod]
        obtain ⟨c, n1, n2⟩ := OU S hl F hat hR (now := now)
        generalize hi : ((BN disk 4 1).Cl.toNat % ls.length + k) % ls.length = i at e2 hat n1 n2
        have ei : ((i : Nat) : Int).toNat = i := by omega
        have hb : A3.b1 ⟨1, disk⟩ xs ls (D9 R now st) now cut (BN disk 4 1) (k : Int) none = ((AU none xs ls (D9 R now st) now (i : Int)).bind fun r31 => (if (!r31.2.1) = true then some (.cont (IntKind.wrap .i64 ((k : Int) + 1), r31.2.2)) else (if (decide (cut = (0 : Int))) = true then some (.ret (⟨1, disk⟩, [], r31.2.2)) else (if (0 : Int) ≤ (i : Int) ∧ (i : Int) < ls.length then ((Ec (AD.mk (BN disk 4 1).DF (BN disk 4 1).BE (IntKind.wrap .u64 ((IntKind.wrap .u64 (i : Int)) + 1)) (ls.getD ((i : Nat) : Int).toNat default) (BN disk 4 1).Dq (IntKind.wrap .u64 ((if (999999 : Int) < (BN disk 4 1).CJ then (999999 : Int) else (BN disk 4 1).CJ) + 1)))).bind fun r35 => (if (decide (cut = (1 : Int))) = true then some (.ret ((Ah.mk 1 r35), [], r31.2.2)) else some (.ret ((Ah.mk 1 r35), [r31.1], r31.2.2)))) else none)))) := by
          unfold A3.b1
          rw [e2, if_pos (decide_eq_true (by omega)), if_pos (by rw [hx, GL (by omega)]; omega), if_pos (by omega)]
        by_cases w : Fp st (ls.getD i default) = 2
        · refine .inl ⟨(((k + 1 : Nat) : Int), none), ?_, ⟨k + 1, by omega, rfl, fun k' hk' => ?_⟩, by show ((ls.length : Int) - ((k + 1 : Nat) : Int)).toNat < ((ls.length : Int) - (k : Int)).toNat; omega⟩
          · show A3.b1 ⟨1, disk⟩ xs ls (D9 R now st) now cut (BN disk 4 1) (k : Int) none = _
            rw [hb]
            refine Ax n1 ?_
            rw [decide_eq_false (fun z => z w)]
            show (if (!false) = true then some (CR.cont (IntKind.wrap .i64 ((k : Int) + 1), none)) else _) = _
            rw [if_pos (by decide), Fc (by omega)]
            rfl
          · by_cases z : k' = k
            · subst z; rw [hi]; exact w
            · exact hd k' (by omega)
        · have hstart : A3.b1 ⟨1, disk⟩ xs ls (D9 R now st) now cut (BN disk 4 1) (k : Int) none = _ := hb.trans (Ax n1 (by rw [decide_eq_true w]))
          by_cases z : cut = 0
          · refine .inr (.inr ⟨(⟨1, disk⟩, [], none), ?_, ⟨1, disk⟩, [], rfl, ⟨rfl, .inl ⟨rfl, fun y => by omega⟩⟩⟩)
            show A3.b1 ⟨1, disk⟩ xs ls (D9 R now st) now cut (BN disk 4 1) (k : Int) none = _
            rw [hb]
            refine Ax n1 ?_
            rw [decide_eq_true w]
            show (if (!true) = true then _ else if (decide (cut = (0 : Int))) = true then some (CR.ret ((⟨1, disk⟩ : Ah), ([] : List EJ), (none : Option AP))) else _) = _
            rw [if_neg (by decide), if_pos (decide_eq_true z)]
          · have hsent := hN.2.2.2.2.2
            have hleaf : (ls.getD i default).length = 32 := Ms F.all hat
            have hnt : JU (AD.mk 4 1 ((i : Int) + 1) (ls.getD i default) (BN disk 4 1).Dq (min (BN disk 4 1).CJ 999999 + 1)) := ⟨by simp only; omega, by simp only; omega, by simp only; omega, hleaf, hN.2.2.2.2.1, by simp only; omega⟩
            have e3 : (AD.mk (BN disk 4 1).DF (BN disk 4 1).BE (IntKind.wrap .u64 ((IntKind.wrap .u64 (i : Int)) + 1)) (ls.getD ((i : Nat) : Int).toNat default) (BN disk 4 1).Dq (IntKind.wrap .u64 ((if (999999 : Int) < (BN disk 4 1).CJ then (999999 : Int) else (BN disk 4 1).CJ) + 1))) = AD.mk 4 1 ((i : Int) + 1) (ls.getD i default) (BN disk 4 1).Dq (min (BN disk 4 1).CJ 999999 + 1) := by
              have e4 : IntKind.wrap .u64 ((if (999999 : Int) < (BN disk 4 1).CJ then (999999 : Int) else (BN disk 4 1).CJ) + 1) = min (BN disk 4 1).CJ 999999 + 1 := by
                rw [GL (by split <;> omega)]
                split <;> omega
              rw [e4, hkh.1, hkh.2, ei, GL (x := (i : Int)) (by omega), GL (by omega)]
            have tail : ∀ l : List EJ, KR R now st ls cut (Ah.mk 1 (FF (AD.mk 4 1 ((i : Int) + 1) (ls.getD i default) (BN disk 4 1).Dq (min (BN disk 4 1).CJ 999999 + 1)))) l → A3.b1 ⟨1, disk⟩ xs ls (D9 R now st) now cut (BN disk 4 1) (k : Int) none = some (.ret (Ah.mk 1 (FF (AD.mk 4 1 ((i : Int) + 1) (ls.getD i default) (BN disk 4 1).Dq (min (BN disk 4 1).CJ 999999 + 1))), l, none)) → (∃ s', A3.b1 ⟨1, disk⟩ xs ls (D9 R now st) now cut (BN disk 4 1) (k : Int) none = some (.cont s') ∧ (∃ k : Nat, k ≤ ls.length ∧ s' = ((k : Int), none) ∧ ∀ k', k' < k → Fp st (ls.getD (((BN disk 4 1).Cl.toNat % ls.length + k') % ls.length) default) = 2) ∧ ((ls.length : Int) - s'.1).toNat < ((ls.length : Int) - (k : Int)).toNat) ∨ (∃ s', A3.b1 ⟨1, disk⟩ xs ls (D9 R now st) now cut (BN disk 4 1) (k : Int) none = some (.brk s') ∧ (s'.2 = none ∧ ∀ i, i < ls.length → Fp st (ls.getD i default) = 2)) ∨ ∃ r, A3.b1 ⟨1, disk⟩ xs ls (D9 R now st) now cut (BN disk 4 1) (k : Int) none = some (.ret r) ∧ ∃ p' l, r = (p', l, none) ∧ KR R now st ls cut p' l := fun l hl he =>
              .inr (.inr ⟨_, he, _, l, rfl, hl⟩)
            have hgo : ∀ l : List EJ, (if (decide (cut = (1 : Int))) = true then ([] : List EJ) else [c]) = l → A3.b1 ⟨1, disk⟩ xs ls (D9 R now st) now cut (BN disk 4 1) (k : Int) none = some (.ret (Ah.mk 1 (FF (AD.mk 4 1 ((i : Int) + 1) (ls.getD i default) (BN disk 4 1).Dq (min (BN disk 4 1).CJ 999999 + 1))), l, none)) := by
              intro l hl
              rw [hb]
              refine Ax n1 ?_
              rw [decide_eq_true w, e3]
              show (if (!true) = true then _ else if (decide (cut = (0 : Int))) = true then _ else if (0 : Int) ≤ (i : Int) ∧ (i : Int) < ls.length then ((Ec (AD.mk 4 1 ((i : Int) + 1) (ls.getD i default) (BN disk 4 1).Dq (min (BN disk 4 1).CJ 999999 + 1))).bind fun r35 => (if (decide (cut = (1 : Int))) = true then some (CR.ret ((Ah.mk 1 r35), ([] : List EJ), (none : Option AP))) else some (.ret ((Ah.mk 1 r35), [c], none)))) else none) = _
              rw [if_neg (by decide), if_neg (by rw [decide_eq_false z]; decide), if_pos (by omega)]
              refine Ax (Lf hnt) ?_
              rw [← hl]
              split <;> rfl
            by_cases y : cut = 1
            · exact tail [] ⟨rfl, .inl ⟨rfl, fun v => by omega⟩⟩ (hgo [] (by rw [if_pos (decide_eq_true y)]))
            · exact tail [c] ⟨rfl, .inr ⟨i, c, hat, w, rfl, n2 w, _, hnt, rfl, rfl, rfl, rfl⟩⟩ (hgo [c] (by rw [if_neg (by rw [decide_eq_false y]; decide)]))
      · have : k = ls.length := by omega
        subst this
        refine .inr (.inl ⟨((ls.length : Int), none), ?_, rfl, fun i hi => ?_⟩)
        · show A3.b1 ⟨1, disk⟩ xs ls (D9 R now st) now cut (BN disk 4 1) (ls.length : Int) none = _
          unfold A3.b1
          rw [if_neg (by rw [decide_eq_false (by omega)]; decide)]
        · obtain ⟨k', a1, a2⟩ := OK ((BN disk 4 1).Cl.toNat % ls.length) 0 ls.length (Nat.mod_lt _ (by omega)) (by omega) i hi
          have := hd k' a1
          rw [a2] at this
          exact this) (((xs.length : Int) - 0 : Int).toNat + 2) (0, none) ⟨0, by omega, rfl, fun k' hk' => by omega⟩ (by show ((ls.length : Int) - 0).toNat < _; omega)
  cases c with
  | next s =>
    obtain ⟨s1, s2⟩ := s
    obtain ⟨rfl, e2⟩ : s2 = none ∧ ∀ i, i < ls.length → Fp st (ls.getD i default) = 2 := h2
    exact ⟨⟨1, disk⟩, [], Ax hnote (BB h1 rfl), rfl, .inl ⟨rfl, fun _ => e2⟩⟩
  | ret r =>
    obtain ⟨p', l, e1, e2⟩ := h2
    subst e1
    exact ⟨p', l, Ax hnote (Ax h1 rfl), e2⟩
/- How much is to be done yet. -/
def mu (f : List UInt8 → Int) : List (List UInt8) → Nat
  | [] => 0
  | d :: ds => (2 - f d).toNat + mu f ds
theorem NU {f g : List UInt8 → Int} : ∀ (ls : List (List UInt8)), (∀ d, f d ≤ g d) → mu g ls ≤ mu f ls
  | [], _ => Nat.le_refl 0
  | d :: ds, h => by
    have := NU ds h
    have := h d
    simp only [mu]; omega
theorem Pm {f g : List UInt8 → Int} : ∀ (ls : List (List UInt8)), (∀ d, f d ≤ g d) → ∀ d, d ∈ ls → f d < 2 → f d < g d → mu g ls < mu f ls
  | [], _, d, hd, _, _ => by cases hd
  | e :: ds, h, d, hd, h1, h2 => by
    have a1 := NU ds h
    have a2 := h e
    simp only [mu]
    rcases List.mem_cons.1 hd with q | q
    · subst q; omega
    · have := Pm ds h d q h1 h2
      omega
theorem Mn {f : List UInt8 → Int} : ∀ (ls : List (List UInt8)), mu f ls = 0 → ∀ d, d ∈ ls → 2 ≤ f d
  | [], _, d, hd => by cases hd
  | e :: ds, h, d, hd => by
    simp only [mu] at h
    rcases List.mem_cons.1 hd with q | q
    · subst q; omega
    · exact Mn ds (by omega) d q
theorem NT {f : List UInt8 → Int} : ∀ (ls : List (List UInt8)), (∀ d, 0 ≤ f d) → mu f ls ≤ 2 * ls.length
  | [], _ => Nat.le_refl 0
  | e :: ds, h => by
    have := NT ds h
    have := h e
    simp only [mu, List.length_cons]; omega
theorem LM {R : List UInt8} {st : List Ag} (S : F3 R st) (d : List UInt8) : 0 ≤ Fp st d ∧ Fp st d ≤ 2 := by
  rcases S.Fp d with q | q <;> omega
/- A step that is brought. -/
theorem Pq {R : List UInt8} {now : Int} {st : List Ag} (S : F3 R st) (hl : st.length < 4000) {xs : List Ai} {ls : List (List UInt8)} (F : Fit xs ls) (hR : nv ls 32 0 = R) (disk : List UInt8) (cut : Int) :
    ∃ disk' st', Bd cut ⟨1, disk⟩ ⟨xs⟩ ⟨ls⟩ (D9 R now st) ⟨now⟩ = some (true, ⟨1, disk'⟩, ⟨xs⟩, ⟨ls⟩, D9 R now st', ⟨now⟩) ∧ F3 R st' ∧ st'.length ≤ st.length + 1 ∧ mu (Fp st') ls ≤ mu (Fp st) ls ∧ (cut = -1 → mu (Fp st) ls = 0 ∨ mu (Fp st') ls < mu (Fp st) ls) := by
  obtain ⟨p', l, s1, s2⟩ := LL S hl F hR disk cut (now := now)
  obtain ⟨hm, disk'⟩ := p'
  obtain rfl : hm = 1 := s2.home
  unfold Bd
  rcases s2.RE with ⟨a1, a2⟩ | ⟨i, c, b1, b2, b3, b4, _⟩
  · subst a1
    refine ⟨disk', st, Ax s1 (BB (s := ((0 : Int), D9 R now st)) rfl rfl), S, by omega, Nat.le_refl _, fun h => .inl ?_⟩
    have h2 := a2 h
    have : ∀ d ∈ ls, Fp st d = 2 := fun d hd => by
      obtain ⟨j, hj, rfl⟩ := List.mem_iff_getElem.1 hd
      have := h2 j hj
      rwa [show ls.getD j default = ls[j] by simp [List.getD, hj]] at this
    clear s1 s2 a2 h2 F hR
    induction ls with
    | nil => rfl
    | cons e ds ih =>
      simp only [mu]
      rw [this e (by simp), ih (fun d hd => this d (by simp [hd]))]
      rfl
  · subst b3
    obtain ⟨st', g1, g2, g3, g4, g5⟩ := b4.go
    have hup : ∀ d, Fp st d ≤ Fp st' d := fun d => by
      by_cases q : d = ls.getD i default
      · subst q; omega
      · rw [g5 d q]; exact Int.le_refl _
    have hmem := Js ls default i b1
    have hge := LM S (ls.getD i default)
    refine ⟨disk', st', Ax s1 (BB (s := ((1 : Int), D9 R now st')) ?_ rfl), g2, g3, NU ls hup, fun _ => .inr (Pm ls hup _ hmem (by omega) (by omega))⟩
    have hb1 : Bd.b1 ⟨xs⟩ ⟨ls⟩ ⟨now⟩ (⟨1, disk'⟩, [c], none) 0 (D9 R now st) = some (.cont (1, D9 R now st')) := by
      unfold Bd.b1
      show (if (decide ((0 : Int) < 1)) = true then (if (0 : Int) ≤ 0 ∧ (0 : Int) < 1 then ((FZ (D9 R now st) now c).bind fun r18 => (if (!decide (r18.2 = (0 : Int))) = true then some (CR.ret (false, (⟨1, disk'⟩ : Ah), (⟨xs⟩ : DS), (⟨ls⟩ : DR), r18.1, (⟨now⟩ : EF))) else some (CR.cont (IntKind.wrap .i64 (0 + 1), r18.1)))) else none) else _) = _
      rw [if_pos (by decide), if_pos (by decide)]
      refine Ax g1 ?_
      show (if (!decide ((0 : Int) = 0)) = true then _ else _) = _
      rw [if_neg (by decide)]
      rfl
    have hb2 : Bd.b1 ⟨xs⟩ ⟨ls⟩ ⟨now⟩ (⟨1, disk'⟩, [c], none) 1 (D9 R now st') = some (.brk (1, D9 R now st')) := by
      unfold Bd.b1
      show (if (decide ((1 : Int) < 1)) = true then _ else _) = _
      rw [if_neg (by decide)]
    show Bf (fun s : Int × Ae => Bd.b1 ⟨xs⟩ ⟨ls⟩ ⟨now⟩ (⟨1, disk'⟩, [c], none) s.1 s.2) 3 (0, D9 R now st) = some (.next (1, D9 R now st'))
    exact (L1 hb1).trans (J7 hb2)
end

section
set_option linter.unusedVariables false
set_option linter.unusedSimpArgs false

theorem K2 (r : Ae) (now cut : Int) (disk : List UInt8) : A3 none ⟨1, disk⟩ [] [] r now cut = some (⟨1, disk⟩, [], none) := by
  unfold A3
  refine Ax (x := BN disk 4 1) (by unfold Dh; exact Ax (KT disk 4 1) rfl) ?_
  have hb : A3.b1 ⟨1, disk⟩ [] [] r now cut (BN disk 4 1) 0 none = some (.brk (0, none)) := by
    unfold A3.b1
    rw [if_neg (by decide)]
  refine BB (s := ((0 : Int), (none : Option AP))) ?_ rfl
  show Bf (fun s : Int × (Option AP) => A3.b1 ⟨1, disk⟩ [] [] r now cut (BN disk 4 1) s.1 s.2) 2 (0, none) = _
  exact J7 hb
theorem OF (d : List UInt8) : Fp [] d = 0 := by
  unfold Fp
  rw [if_neg (show ¬ (0 : Int) ≤ DK [] d from fun h => by have := Iy [] d; simp only [List.length_nil] at this; omega)]
theorem NS : El 1 = some ⟨1, []⟩ := rfl
theorem O8 : C8 = some true := by
  have hx : JV ⟨1, (0 : Int), 2, [97], [98], []⟩ := ⟨by simp only; omega, by simp only; omega, by simp only; omega, by simp, by simp, by simp⟩
  unfold C8
  refine Ax NS (Ax (K2 _ 0 (-1) []) (Ax (K3 hx) ?_))
  have F : Fit [⟨1, (0 : Int), 2, [97], [98], []⟩] [FW ⟨1, (0 : Int), 2, [97], [98], []⟩] := ⟨by simp, by simp, fun i hi => by
    have : i = 0 := by simp at hi; omega
    subst this
    exact ⟨hx, rfl, rfl, rfl⟩⟩
  generalize (⟨1, (0 : Int), 2, [97], [98], []⟩ : Ai) = x at hx F
  refine Ax (QS (F.all) (by simp)) (Ax NS ?_)
  have S : F3 (nv [FW x] 32 0) [] := fun s h => by cases h
  obtain ⟨p', l, s1, s2⟩ := LL S (by simp) F rfl [] (-1) (now := 0)
  refine Ax s1 ?_
  rcases s2.RE with ⟨a1, a2⟩ | ⟨i, c, b1, b2, b3, b4, nt, n1, n2, n3, n4, n5⟩
  · have := a2 rfl 0 (by simp)
    rw [OF] at this
    exact absurd this (by decide)
  · subst b3
    obtain ⟨h, d⟩ := p'
    obtain rfl : h = 1 := s2.home
    have n5 : d = FF nt := n5
    subst n5
    have hi : i = 0 := by simp at b1; omega
    show (if (decide ((([] : List EJ).length : Int) = (0 : Int))) = true then (if (decide ((([c] : List EJ).length : Int) = (1 : Int))) = true then _ else _) else _) = _
    rw [if_pos (by decide), if_pos (by simp)]
    refine Ax (x := nt) ?_ ?_
    · unfold Dh
      refine Ax (KT (FF nt) 4 1) ?_
      have := Ld n1
      rw [n2, n3] at this
      rw [this]
    · unfold C8.j1
      rw [n4, hi]
      rfl
theorem Hx (bodies : List (List UInt8)) (cuts : List Int) (now : Int) : At bodies cuts now = some true := by
  unfold At
  refine Ax O8 ?_
  rw [if_neg (by decide)]
  by_cases h7 : 7 < bodies.length
  · rw [if_pos (decide_eq_true (by omega))]
    unfold At.j1
    rw [if_pos rfl]
  rw [if_neg (by rw [decide_eq_false (by omega)]; decide)]
  by_cases h6 : 6 < cuts.length
  · rw [decide_eq_true (show (6 : Int) < (cuts.length : Int) by omega)]
    unfold At.j1
    rw [if_pos rfl]
  rw [decide_eq_false (show ¬ (6 : Int) < (cuts.length : Int) by omega)]
  unfold At.j1
  rw [if_neg (by decide)]
  obtain ⟨c, h1, h2⟩ := CC (body := fun s : Int × DS × DR × (List ((List UInt8) × Bool)) => At.b1 bodies s.1 s.2.1 s.2.2.1 s.2.2.2)
    (fun s => ∃ (i : Nat) (xs : List Ai) (ls : List (List UInt8)) (m : List ((List UInt8) × Bool)), i ≤ bodies.length ∧ s = ((i : Int), ⟨xs⟩, ⟨ls⟩, m) ∧ ls.length = i ∧ Fit xs ls)
    (fun c => match c with | .next s => ∃ (xs : List Ai) (ls : List (List UInt8)), s.2.1 = ⟨xs⟩ ∧ s.2.2.1 = ⟨ls⟩ ∧ Fit xs ls | .ret r => r = true) (fun s => (bodies.length - s.1).toNat)
    (fun s ⟨i, xs, ls, m, hi, hs, hli, F⟩ => by
      subst hs
      have ei : ((i : Nat) : Int).toNat = i := by omega
      by_cases q : i < bodies.length
      · by_cases w : 300 < (bodies.getD i default).length
        · refine .inr (.inr ⟨true, ?_, rfl⟩)
          show At.b1 bodies (i : Int) ⟨xs⟩ ⟨ls⟩ m = _
          unfold At.b1
          rw [if_pos (decide_eq_true (by omega)), if_pos (by omega), ei, if_pos (decide_eq_true (by omega))]
        · have hx : JV ⟨1, (i : Int), 2, [97], [98], bodies.getD i default⟩ := ⟨by simp only; omega, by simp only; omega, by simp only; omega, by simp, by simp, by simp only; omega⟩
          have hb : At.b1 bodies (i : Int) ⟨xs⟩ ⟨ls⟩ m = (if ((GM (FW ⟨1, (i : Int), 2, [97], [98], bodies.getD i default⟩) m).getD false) = true then some (.ret true) else some (.cont (((i + 1 : Nat) : Int), ⟨xs ++ [⟨1, (i : Int), 2, [97], [98], bodies.getD i default⟩]⟩, ⟨ls ++ [FW ⟨1, (i : Int), 2, [97], [98], bodies.getD i default⟩]⟩, Gw (FW ⟨1, (i : Int), 2, [97], [98], bodies.getD i default⟩) true m))) := by
            have hxl := F.len
            unfold At.b1
            rw [if_pos (decide_eq_true (by omega)), if_pos (by omega), ei, if_neg (by rw [decide_eq_false (by omega)]; decide), KX (x := (i : Int)) (by omega)]
            refine Ax (K3 hx) ?_
            rw [if_pos (show xs.length + [(⟨1, (i : Int), 2, [97], [98], bodies.getD i default⟩ : Ai)].length ≤ CG ∧ (xs.length + [(⟨1, (i : Int), 2, [97], [98], bodies.getD i default⟩ : Ai)].length) * 64 ≤ 140737488355328 by simp [CG]; omega), if_pos (show ls.length + [FW ⟨1, (i : Int), 2, [97], [98], bodies.getD i default⟩].length ≤ CG ∧ (ls.length + [FW ⟨1, (i : Int), 2, [97], [98], bodies.getD i default⟩].length) * 32 ≤ 140737488355328 by simp [CG]; omega), Fc (by omega)]
            rfl
          by_cases z : ((GM (FW ⟨1, (i : Int), 2, [97], [98], bodies.getD i default⟩) m).getD false) = true
          · exact .inr (.inr ⟨true, hb.trans (by rw [if_pos z]), rfl⟩)
          · refine .inl ⟨_, hb.trans (by rw [if_neg z]), ⟨i + 1, _, _, _, by omega, rfl, by simp [hli], ⟨by simp; omega, by simp [F.len], fun j hj => ?_⟩⟩, by show ((bodies.length : Int) - ((i + 1 : Nat) : Int)).toNat < ((bodies.length : Int) - (i : Int)).toNat; omega⟩
            have hxl := F.len
            by_cases e : j < ls.length
            · have e1 : (xs ++ [(⟨1, (i : Int), 2, [97], [98], bodies.getD i default⟩ : Ai)]).getD j default = xs.getD j default := by simp [List.getD, List.getElem?_append_left (show j < xs.length by omega)]
              have e2 : (ls ++ [FW ⟨1, (i : Int), 2, [97], [98], bodies.getD i default⟩]).getD j default = ls.getD j default := by simp [List.getD, List.getElem?_append_left e]
              rw [e1, e2]
              exact F.ok j e
            · have ej : j = ls.length := by simp at hj; omega
              have e1 : (xs ++ [(⟨1, (i : Int), 2, [97], [98], bodies.getD i default⟩ : Ai)]).getD j default = ⟨1, (i : Int), 2, [97], [98], bodies.getD i default⟩ := by rw [ej, ← hxl]; simp [List.getD]
              have e2 : (ls ++ [FW ⟨1, (i : Int), 2, [97], [98], bodies.getD i default⟩]).getD j default = FW ⟨1, (i : Int), 2, [97], [98], bodies.getD i default⟩ := by rw [ej]; simp [List.getD]
              rw [e1, e2]
              exact ⟨hx, rfl, rfl, rfl⟩
      · refine .inr (.inl ⟨((i : Int), ⟨xs⟩, ⟨ls⟩, m), ?_, xs, ls, rfl, rfl, F⟩)
        show At.b1 bodies (i : Int) ⟨xs⟩ ⟨ls⟩ m = _
        unfold At.b1
        rw [if_neg (by rw [decide_eq_false (by omega)]; decide)]) (((bodies.length : Int) - 0 : Int).toNat + 2) (0, ⟨[]⟩, ⟨[]⟩, []) ⟨0, [], [], [], by omega, rfl, rfl, ⟨by simp, rfl, fun i hi => by simp at hi⟩⟩ (by show ((bodies.length : Int) - 0).toNat < _; omega)
  cases c with
  | ret r =>
    have h2 : r = true := h2
    subst h2
    exact Ax h1 rfl
  | next s =>
    obtain ⟨s1, s2, s3, s4⟩ := s
    obtain ⟨xs, ls, e1, e2, F⟩ : ∃ (xs : List Ai) (ls : List (List UInt8)), s2 = ⟨xs⟩ ∧ s3 = ⟨ls⟩ ∧ Fit xs ls := h2
    subst e1 e2
    have hn := F.n7
    refine BB h1 ?_
    refine Ax (QS F.all (by show ls.length ≤ 100; omega)) (Ax NS ?_)
    obtain ⟨c, g1, g2⟩ := CC (body := fun s : Int × DS × DR × EF × Ae × Ah => At.b2 cuts s.1 s.2.1 s.2.2.1 s.2.2.2.1 s.2.2.2.2.1 s.2.2.2.2.2)
      (fun s => ∃ (i : Nat) (disk : List UInt8) (st : List Ag), i ≤ cuts.length ∧ s = ((i : Int), ⟨xs⟩, ⟨ls⟩, ⟨now⟩, D9 (nv ls 32 0) now st, ⟨1, disk⟩) ∧ F3 (nv ls 32 0) st ∧ st.length ≤ i)
      (fun c => match c with | .next s => ∃ (disk : List UInt8) (st : List Ag), s.2 = (⟨xs⟩, ⟨ls⟩, ⟨now⟩, D9 (nv ls 32 0) now st, ⟨1, disk⟩) ∧ F3 (nv ls 32 0) st ∧ st.length ≤ 6 | .ret r => False) (fun s => (cuts.length - s.1).toNat)
      (fun s ⟨i, disk, st, hi, hs, S, hst⟩ => by
        subst hs
        have ei : ((i : Nat) : Int).toNat = i := by omega
        by_cases q : i < cuts.length
        · obtain ⟨disk', st', c1, c2, c3, _, _⟩ := Pq S (by omega) F rfl disk (if (cuts.getD i default) < (0 : Int) then (0 : Int) else (cuts.getD i default)) (now := now)
          refine .inl ⟨(((i + 1 : Nat) : Int), ⟨xs⟩, ⟨ls⟩, ⟨now⟩, D9 (nv ls 32 0) now st', ⟨1, disk'⟩), ?_, ⟨i + 1, disk', st', by omega, rfl, c2, by omega⟩, by show ((cuts.length : Int) - ((i + 1 : Nat) : Int)).toNat < ((cuts.length : Int) - (i : Int)).toNat; omega⟩
          show At.b2 cuts (i : Int) ⟨xs⟩ ⟨ls⟩ ⟨now⟩ (D9 (nv ls 32 0) now st) ⟨1, disk⟩ = _
          unfold At.b2
          rw [if_pos (decide_eq_true (by omega)), if_pos (by omega), ei]
          refine Ax c1 ?_
          show (if (!true) = true then _ else _) = _
          rw [if_neg (by decide), Fc (by omega)]
          rfl
        · refine .inr (.inl ⟨((i : Int), ⟨xs⟩, ⟨ls⟩, ⟨now⟩, D9 (nv ls 32 0) now st, ⟨1, disk⟩), ?_, disk, st, rfl, S, by omega⟩)
          show At.b2 cuts (i : Int) ⟨xs⟩ ⟨ls⟩ ⟨now⟩ (D9 (nv ls 32 0) now st) ⟨1, disk⟩ = _
          unfold At.b2
          rw [if_neg (by rw [decide_eq_false (by omega)]; decide)]) (((cuts.length : Int) - 0 : Int).toNat + 2) (0, ⟨xs⟩, ⟨ls⟩, ⟨now⟩, D9 (nv ls 32 0) now [], ⟨1, []⟩) ⟨0, [], [], by omega, rfl, (fun s h => by cases h), by simp⟩ (by show ((cuts.length : Int) - 0).toNat < _; omega)
    cases c with
    | ret r => exact g2.elim
    | next s =>
      obtain ⟨s1, s2⟩ := s
      obtain ⟨disk, st, e1, S, hst⟩ : ∃ (disk : List UInt8) (st : List Ag), s2 = (⟨xs⟩, ⟨ls⟩, ⟨now⟩, D9 (nv ls 32 0) now st, ⟨1, disk⟩) ∧ F3 (nv ls 32 0) st ∧ st.length ≤ 6 := g2
      subst e1
      refine BB g1 ?_
      have hxl := F.len
      have hw : IntKind.wrap .i64 (2 * (xs.length : Int)) = 2 * (ls.length : Int) := by rw [hxl, Fc (by omega)]
      have h0 : ∀ d, 0 ≤ Fp st d := fun d => (LM S d).1
      have htop := NT ls h0
      obtain ⟨c, k1, k2⟩ := CC (body := fun s : Int × DR × EF × Ae × Ah × DS => At.b3 ⟨xs⟩ s.1 s.2.1 s.2.2.1 s.2.2.2.1 s.2.2.2.2.1 s.2.2.2.2.2)
        (fun s => ∃ (j : Nat) (disk : List UInt8) (st : List Ag), j ≤ 2 * ls.length ∧ s = ((j : Int), ⟨ls⟩, ⟨now⟩, D9 (nv ls 32 0) now st, ⟨1, disk⟩, ⟨xs⟩) ∧ F3 (nv ls 32 0) st ∧ st.length ≤ 6 + j ∧ mu (Fp st) ls + j ≤ 2 * ls.length)
        (fun c => match c with | .next s => ∃ (disk : List UInt8) (st : List Ag), s.2 = (⟨ls⟩, ⟨now⟩, D9 (nv ls 32 0) now st, ⟨1, disk⟩, ⟨xs⟩) ∧ F3 (nv ls 32 0) st ∧ st.length ≤ 20 ∧ mu (Fp st) ls = 0 | .ret r => False) (fun s => (2 * ls.length - s.1).toNat)
        (fun s ⟨j, disk, st, hj, hs, S, hst, hmu⟩ => by
          subst hs
          by_cases q : j < 2 * ls.length
          · obtain ⟨disk', st', c1, c2, c3, c4, c5⟩ := Pq S (by omega) F rfl disk (-1) (now := now)
            have c5 := c5 rfl
            refine .inl ⟨(((j + 1 : Nat) : Int), ⟨ls⟩, ⟨now⟩, D9 (nv ls 32 0) now st', ⟨1, disk'⟩, ⟨xs⟩), ?_, ⟨j + 1, disk', st', by omega, rfl, c2, by omega, by omega⟩, by show (2 * (ls.length : Int) - ((j + 1 : Nat) : Int)).toNat < (2 * (ls.length : Int) - (j : Int)).toNat; omega⟩
            show At.b3 ⟨xs⟩ (j : Int) ⟨ls⟩ ⟨now⟩ (D9 (nv ls 32 0) now st) ⟨1, disk⟩ ⟨xs⟩ = _
            unfold At.b3
            rw [hw, if_pos (decide_eq_true (by omega))]
            refine Ax c1 ?_
            show (if (!true) = true then _ else _) = _
            rw [if_neg (by decide), Fc (by omega)]
            rfl
          · refine .inr (.inl ⟨((j : Int), ⟨ls⟩, ⟨now⟩, D9 (nv ls 32 0) now st, ⟨1, disk⟩, ⟨xs⟩), ?_, disk, st, rfl, S, by omega, by omega⟩)
            show At.b3 ⟨xs⟩ (j : Int) ⟨ls⟩ ⟨now⟩ (D9 (nv ls 32 0) now st) ⟨1, disk⟩ ⟨xs⟩ = _
            unfold At.b3
            rw [hw, if_neg (by rw [decide_eq_false (by omega)]; decide)]) ((IntKind.wrap .i64 (2 * (xs.length : Int)) - 0 : Int).toNat + 2) (0, ⟨ls⟩, ⟨now⟩, D9 (nv ls 32 0) now st, ⟨1, disk⟩, ⟨xs⟩) ⟨0, disk, st, by omega, rfl, S, by omega, by omega⟩ (by rw [hw]; show (2 * (ls.length : Int) - 0).toNat < _; omega)
      cases c with
      | ret r => exact k2.elim
      | next s =>
        obtain ⟨s1, s2⟩ := s
        obtain ⟨disk, st, e1, S, hst, hmu⟩ : ∃ (disk : List UInt8) (st : List Ag), s2 = (⟨ls⟩, ⟨now⟩, D9 (nv ls 32 0) now st, ⟨1, disk⟩, ⟨xs⟩) ∧ F3 (nv ls 32 0) st ∧ st.length ≤ 20 ∧ mu (Fp st) ls = 0 := k2
        subst e1
        refine BB k1 ?_
        have hall : ∀ i, i < ls.length → Fp st (ls.getD i default) = 2 := fun i hi => by
          have h1 := Mn ls hmu _ (Js ls default i hi)
          have h2 := LM S (ls.getD i default)
          omega
        obtain ⟨c, f1, f2⟩ := CC (body := fun s : Int => At.b4 ⟨ls⟩ (D9 (nv ls 32 0) now st) s) (fun s => ∃ i : Nat, i ≤ ls.length ∧ s = (i : Int)) (fun c => match c with | .next _ => True | .ret _ => False) (fun s => (ls.length - s).toNat)
          (fun s ⟨i, hi, hs⟩ => by
            subst hs
            have ei : ((i : Nat) : Int).toNat = i := by omega
            have hb : At.b4 ⟨ls⟩ (D9 (nv ls 32 0) now st) (i : Int) = (if (decide ((i : Int) < (ls.length : Int))) = true then (if (0 : Int) ≤ (i : Int) ∧ (i : Int) < ls.length then ((Dg (D9 (nv ls 32 0) now st) (ls.getD ((i : Nat) : Int).toNat default)).bind fun r163 => (if (!decide (r163.1 = (2 : Int))) = true then some (CR.ret false) else some (CR.cont (IntKind.wrap .i64 ((i : Int) + 1))))) else none) else some (CR.brk (i : Int))) := rfl
            by_cases q : i < ls.length
            · obtain ⟨r, t1, t2⟩ := I8 (nv ls 32 0) now st (ls.getD i default) (by omega)
              refine .inl ⟨((i + 1 : Nat) : Int), ?_, ⟨i + 1, by omega, rfl⟩, by omega⟩
              show At.b4 ⟨ls⟩ (D9 (nv ls 32 0) now st) (i : Int) = _
              rw [hb, if_pos (decide_eq_true (show (i : Int) < (ls.length : Int) by omega)), if_pos (show (0 : Int) ≤ (i : Int) ∧ (i : Int) < ls.length by omega), ei]
              refine Ax t1 ?_
              rw [hall i q]
              show (if (!decide ((2 : Int) = 2)) = true then _ else _) = _
              rw [if_neg (by decide), Fc (by omega)]
              rfl
            · refine .inr (.inl ⟨(i : Int), ?_, trivial⟩)
              show At.b4 ⟨ls⟩ (D9 (nv ls 32 0) now st) (i : Int) = _
              rw [hb, if_neg (by rw [decide_eq_false (show ¬ (i : Int) < (ls.length : Int) by omega)]; decide)]) (((ls.length : Int) - 0 : Int).toNat + 2) 0 ⟨0, by omega, rfl⟩ (by omega)
        cases c with
        | ret r => exact f2.elim
        | next s =>
          refine BB f1 ?_
          obtain ⟨p', l, s1, s2⟩ := LL S (by omega) F rfl disk (-1) (now := now)
          refine Ax s1 ?_
          rcases s2.RE with ⟨a1, a2⟩ | ⟨i, c, b1, b2, _⟩
          · subst a1
            rfl
          · exact absurd (hall i b1) b2
end
end Go.Proofs.YteboiefnflipjaaGreatDoor
