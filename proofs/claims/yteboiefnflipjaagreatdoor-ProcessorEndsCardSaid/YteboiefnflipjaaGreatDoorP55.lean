/- Plain laws: P50, P51, P52, P53, P55, as one text. -/
import Derived.Test.YteboiefnflipjaaGreatDoorP24
import Derived.Test.YteboiefnflipjaaGreatDoorP33t
import Derived.Test.YteboiefnflipjaaGreatDoorP32
namespace Go.Proofs.YteboiefnflipjaaGreatDoor
open Go Go.RowKit Go.Proofs
section
set_option linter.unusedVariables false

/- The first place of a kind. -/
def fi (P : Nat → Bool) : Nat → Int
  | 0 => -1
  | i + 1 => if 0 ≤ fi P i then fi P i else if P i = true then (i : Int) else -1
theorem E8 (P : Nat → Bool) (i : Nat) : fi P (i + 1) = if 0 ≤ fi P i then fi P i else if P i = true then (i : Int) else -1 := rfl
theorem Jz (P : Nat → Bool) : ∀ n, -1 ≤ fi P n ∧ fi P n < n
  | 0 => by simp [fi]
  | n + 1 => by
    have := Jz P n
    rw [E8]
    split
    · omega
    · split <;> omega
theorem KJ (P : Nat → Bool) (i : Nat) (h : 0 ≤ fi P i) : ∀ k, fi P (i + k) = fi P i
  | 0 => rfl
  | k + 1 => by
    show fi P (i + k + 1) = _
    rw [E8, KJ P i h k, if_pos h]
theorem Po (P : Nat → Bool) : ∀ n, 0 ≤ fi P n → P (fi P n).toNat = true
  | 0, h => by simp [fi] at h
  | n + 1, h => by
    rw [E8] at h ⊢
    by_cases a : 0 ≤ fi P n
    · rw [if_pos a]; exact Po P n a
    · rw [if_neg a] at h ⊢
      by_cases b : P n = true
      · rw [if_pos b]; simpa using b
      · rw [if_neg b] at h; exact absurd h (by decide)
def LH (d : List UInt8) (t : Av) : Bool := decide (t.Cw = d)
noncomputable def Ny (r : Ae) (d : List UInt8) : Int := fi (fun i => LH d (r.BY.getD i default)) r.BY.length
theorem NA (r : Ae) (d : List UInt8) (hl : r.BY.length < 1000000) : E3 r d = some (Ny r d) := by
  have hg : ∀ t, D3 t d = some (LH d t) := fun t => rfl
  unfold E3
  refine Ax (x := Ny r d) ?_ rfl
  unfold Ny
  generalize r.BY = l at hl
  unfold A0
  obtain ⟨c, h1, h2⟩ := CC (body := fun s : Int => A0.b1 l (fun x => D3 x d) s) (fun s => ∃ i : Nat, i ≤ l.length ∧ s = (i : Int) ∧ fi (fun i => LH d (l.getD i default)) i = -1)
      (fun c => match c with | .next s => fi (fun i => LH d (l.getD i default)) l.length = -1 | .ret r => fi (fun i => LH d (l.getD i default)) l.length = r) (fun s => (l.length - s).toNat)
      (fun s ⟨i, hi, hs, hf⟩ => by
        subst hs
        have e1 : ((i : Nat) : Int).toNat = i := by omega
        by_cases q : i < l.length
        · by_cases w : LH d (l.getD i default) = true
          · refine .inr (.inr ⟨(i : Int), ?_, ?_⟩)
            · show A0.b1 l _ (i : Int) = _
              unfold A0.b1
              rw [if_pos (by simp; omega), if_pos (by omega), e1]
              refine Ax (hg _) ?_
              rw [if_pos w]
            · have e2 : fi (fun i => LH d (l.getD i default)) (i + 1) = (i : Int) := by
                rw [E8, hf, if_neg (by decide), if_pos w]
              have := KJ (fun i => LH d (l.getD i default)) (i + 1) (by rw [e2]; omega) (l.length - (i + 1))
              rw [show i + 1 + (l.length - (i + 1)) = l.length by omega, e2] at this
              exact this
          · refine .inl ⟨((i + 1 : Nat) : Int), ?_, ⟨i + 1, by omega, rfl, ?_⟩, by simp; omega⟩
            · show A0.b1 l _ (i : Int) = _
              unfold A0.b1
              rw [if_pos (by simp; omega), if_pos (by omega), e1]
              refine Ax (hg _) ?_
              rw [if_neg w, Fc (by omega)]
              rfl
            · rw [E8, hf, if_neg (by decide), if_neg w]
        · have : i = l.length := by omega
          subst this
          refine .inr (.inl ⟨(l.length : Int), ?_, hf⟩)
          show A0.b1 l _ (l.length : Int) = _
          unfold A0.b1
          rw [if_neg (by simp)]) (((l.length : Int) - 0 : Int).toNat + 2) 0 ⟨0, by omega, rfl, rfl⟩ (by simp)
  cases c with
  | ret r =>
    have h2 : fi (fun i => LH d (l.getD i default)) l.length = r := h2
    rw [h2]
    exact Ax h1 rfl
  | next s =>
    have h2 : fi (fun i => LH d (l.getD i default)) l.length = -1 := h2
    rw [h2]
    exact BB h1 rfl
theorem QO (r : Ae) (d : List UInt8) : -1 ≤ Ny r d ∧ Ny r d < r.BY.length := Jz _ _
end

section
set_option linter.unusedVariables false

theorem Qm (l : List (List UInt8)) (h : l.length ≤ 1000000) : Ca l = some l := by
  unfold Ca
  rw [if_pos (by omega)]
end

section
set_option linter.unusedVariables false

def JY (d : List UInt8) (t : Ag) : Bool := decide (t.BP = d)
noncomputable def DK (l : List Ag) (d : List UInt8) : Int := fi (fun i => JY d (l.getD i default)) l.length
theorem G8 (r : Ae) (d : List UInt8) (hl : r.AH.length < 1000000) : DT r d = some (DK r.AH d) := by
  have hg : ∀ t, DN t d = some (JY d t) := fun t => rfl
  unfold DT
  refine Ax (x := DK r.AH d) ?_ rfl
  unfold DK
  generalize r.AH = l at hl
  unfold A1
  obtain ⟨c, h1, h2⟩ := CC (body := fun s : Int => A1.b1 l (fun x => DN x d) s) (fun s => ∃ i : Nat, i ≤ l.length ∧ s = (i : Int) ∧ fi (fun i => JY d (l.getD i default)) i = -1)
      (fun c => match c with | .next s => fi (fun i => JY d (l.getD i default)) l.length = -1 | .ret r => fi (fun i => JY d (l.getD i default)) l.length = r) (fun s => (l.length - s).toNat)
      (fun s ⟨i, hi, hs, hf⟩ => by
        subst hs
        have e1 : ((i : Nat) : Int).toNat = i := by omega
        by_cases q : i < l.length
        · by_cases w : JY d (l.getD i default) = true
          · refine .inr (.inr ⟨(i : Int), ?_, ?_⟩)
            · show A1.b1 l _ (i : Int) = _
              unfold A1.b1
              rw [if_pos (by simp; omega), if_pos (by omega), e1]
              refine Ax (hg _) ?_
              rw [if_pos w]
            · have e2 : fi (fun i => JY d (l.getD i default)) (i + 1) = (i : Int) := by
                rw [E8, hf, if_neg (by decide), if_pos w]
              have := KJ (fun i => JY d (l.getD i default)) (i + 1) (by rw [e2]; omega) (l.length - (i + 1))
              rw [show i + 1 + (l.length - (i + 1)) = l.length by omega, e2] at this
              exact this
          · refine .inl ⟨((i + 1 : Nat) : Int), ?_, ⟨i + 1, by omega, rfl, ?_⟩, by simp; omega⟩
            · show A1.b1 l _ (i : Int) = _
              unfold A1.b1
              rw [if_pos (by simp; omega), if_pos (by omega), e1]
              refine Ax (hg _) ?_
              rw [if_neg w, Fc (by omega)]
              rfl
            · rw [E8, hf, if_neg (by decide), if_neg w]
        · have : i = l.length := by omega
          subst this
          refine .inr (.inl ⟨(l.length : Int), ?_, hf⟩)
          show A1.b1 l _ (l.length : Int) = _
          unfold A1.b1
          rw [if_neg (by simp)]) (((l.length : Int) - 0 : Int).toNat + 2) 0 ⟨0, by omega, rfl, rfl⟩ (by simp)
  cases c with
  | ret r =>
    have h2 : fi (fun i => JY d (l.getD i default)) l.length = r := h2
    rw [h2]
    exact Ax h1 rfl
  | next s =>
    have h2 : fi (fun i => JY d (l.getD i default)) l.length = -1 := h2
    rw [h2]
    exact BB h1 rfl
def QA (x : Ai) : List UInt8 := JW x.CK ++ JW x.Dl ++ JW x.Fk ++ (JS (x.Fy.length : Int) ++ x.Fy) ++ (JS (x.EC.length : Int) ++ x.EC) ++ (JS (x.Gg.length : Int) ++ x.Gg)
def JV (x : Ai) : Prop := (0 ≤ x.CK ∧ x.CK < 4294967296) ∧ (0 ≤ x.Dl ∧ x.Dl < 4294967296) ∧ (0 ≤ x.Fk ∧ x.Fk < 4294967296) ∧ x.Fy.length ≤ 1000 ∧ x.EC.length ≤ 1000 ∧ x.Gg.length ≤ 1000
theorem Nr (i : Int) : (JW i).length = 4 := by simp [JW, JS]
theorem Qe (i : Int) : (JS i).length = 4 := by simp [JS]
theorem OV {x : Ai} (h : JV x) : (QA x).length ≤ 3024 := by
  obtain ⟨_, _, _, a, b, c⟩ := h
  simp only [QA, List.length_append, Nr, Qe]
  omega
theorem KD {x : Ai} (h : JV x) : Small [QA x] := ⟨fun p hp => by rw [List.mem_singleton.1 hp]; have := OV h; omega, by simp⟩
noncomputable def FW (x : Ai) : List UInt8 := H (IV 5 [QA x])
theorem OW {x : Ai} (h : JV x) : (FW x).length = 32 := ((KD h).H 5).2
theorem K3 {x : Ai} (h : JV x) : Fg none x = some (FW x, none) := by
  have hS := KD h
  obtain ⟨f, n, t, a, b, c⟩ := h
  unfold Fg
  refine Ax (x := QA x) ?_ (Ax (Pl 5 hS) rfl)
  unfold F7
  refine Ax (Jc _) (Ax (Jc _) ?_)
  rw [if_pos (by simp only [Nr, CG]; omega)]
  refine Ax (Jc _) ?_
  rw [if_pos (by simp only [List.length_append, Nr, CG]; omega)]
  refine Ax (HK _ (by omega)) ?_
  rw [if_pos (by simp only [List.length_append, Nr, Qe, CG]; omega)]
  refine Ax (HK _ (by omega)) ?_
  rw [if_pos (by simp only [List.length_append, Nr, Qe, CG]; omega)]
  refine Ax (HK _ (by omega)) ?_
  rw [if_pos (by simp only [List.length_append, Nr, Qe, CG]; omega)]
  rfl
end

section
set_option linter.unusedVariables false

noncomputable def n6 (a b : List UInt8) : List UInt8 := H (IV 6 [a, b])
theorem KA {a b : List UInt8} (ha : a.length = 32) (hb : b.length = 32) : (n6 a b).length = 32 := ((Kz ha hb).H 6).2
noncomputable def zs : Nat → List UInt8
  | 0 => List.replicate 32 0
  | k + 1 => n6 (zs k) (zs k)
theorem H6 : ∀ k, (zs k).length = 32
  | 0 => by simp [zs]
  | k + 1 => KA (H6 k) (H6 k)
/-- A node of the tree of these leaves. -/
noncomputable def nv (ls : List (List UInt8)) : Nat → Nat → List UInt8
  | 0, a => if ls.length ≤ a then zs 0 else ls.getD a default
  | k + 1, a => if ls.length ≤ a * 2 ^ (k + 1) then zs (k + 1) else n6 (nv ls k (2 * a)) (nv ls k (2 * a + 1))
theorem Jq (ls : List (List UInt8)) : ∀ (k a : Nat), ls.length ≤ a * 2 ^ k → nv ls k a = zs k
  | 0, a, h => by unfold nv; rw [if_pos (by simpa using h)]
  | k + 1, a, h => by unfold nv; rw [if_pos h]
theorem Kw (ls : List (List UInt8)) (k a : Nat) : nv ls (k + 1) a = n6 (nv ls k (2 * a)) (nv ls k (2 * a + 1)) := by
  by_cases h : ls.length ≤ a * 2 ^ (k + 1)
  · have e : a * 2 ^ (k + 1) = 2 * a * 2 ^ k := by rw [Nat.pow_succ, Nat.mul_comm (2 ^ k) 2, ← Nat.mul_assoc, Nat.mul_comm a 2]
    have h2 : 2 * a * 2 ^ k ≤ (2 * a + 1) * 2 ^ k := Nat.mul_le_mul_right _ (by omega)
    rw [Jq ls (k + 1) a h, Jq ls k (2 * a) (by omega), Jq ls k (2 * a + 1) (by omega)]
    rfl
  · conv => lhs; unfold nv
    rw [if_neg h]
theorem GZ {ls : List (List UInt8)} (h : ∀ p ∈ ls, p.length = 32) : ∀ (k a : Nat), (nv ls k a).length = 32
  | 0, a => by
    unfold nv
    split
    · exact H6 0
    · exact Ms h (by omega)
  | k + 1, a => by rw [Kw]; exact KA (GZ h k _) (GZ h k _)
/-- A climb, and its nodes noted. -/
noncomputable def Ho : List (List UInt8) → Nat → List UInt8 → List UInt8
  | [], _, w => w
  | p :: ps, n, w => Ho ps (n / 2) (if n % 2 = 1 then n6 p w else n6 w p)
theorem size_eq (k : Nat) (hk : k ≤ 32) : CZ (k : Int) = some (((2 ^ k : Nat) : Int)) := by
  have hp : ∀ i, i ≤ 32 → 2 ^ i ≤ 4294967296 := fun i hi => by
    have : (2 : Nat) ^ i ≤ 2 ^ 32 := Nat.pow_le_pow_right (by decide) hi
    simpa using this
  unfold CZ
  obtain ⟨c, h1, h2⟩ := CC (body := fun s : Int × Int => CZ.b1 (k : Int) s.1 s.2) (fun s => ∃ i : Nat, i ≤ k ∧ s = (((2 ^ i : Nat) : Int), (i : Int))) (fun c => match c with | .next s => s.1 = ((2 ^ k : Nat) : Int) | .ret _ => False) (fun s => (k - s.2).toNat)
      (fun s ⟨i, hi, hs⟩ => by
        subst hs
        have h1 := hp i (by omega)
        by_cases q : i < k
        · have h2 := hp (i + 1) (by omega)
          refine .inl ⟨(((2 ^ (i + 1) : Nat) : Int), ((i + 1 : Nat) : Int)), ?_, ⟨i + 1, by omega, rfl⟩, by simp; omega⟩
          show CZ.b1 (k : Int) ((2 ^ i : Nat) : Int) (i : Int) = _
          unfold CZ.b1
          have e : (2 : Int) * ((2 ^ i : Nat) : Int) = ((2 ^ (i + 1) : Nat) : Int) := by rw [Nat.pow_succ]; omega
          generalize (2 : Nat) ^ (i + 1) = z at h2 e ⊢
          rw [if_pos (by simp; omega), e, Fc (by omega), Fc (by omega)]
          rfl
        · have : i = k := by omega
          subst this
          refine .inr (.inl ⟨(((2 ^ i : Nat) : Int), (i : Int)), ?_, rfl⟩)
          show CZ.b1 (i : Int) _ (i : Int) = _
          unfold CZ.b1
          rw [if_neg (by simp)]) (((k : Int) - 0 : Int).toNat + 2) (1, 0) ⟨0, by omega, rfl⟩ (by simp)
  cases c with
  | ret _ => exact h2.elim
  | next s =>
    have h2 : s.1 = ((2 ^ k : Nat) : Int) := h2
    refine BB h1 ?_
    rw [← h2]
end

section
set_option linter.unusedVariables false

theorem QN (a i : Nat) (hi : i < 32) : shr .u32 (a : Int) (i : Int) = ((a / 2 ^ i : Nat) : Int) := by
  unfold shr
  have e : min ((i : Nat) : Int).toNat IntKind.u32.bits = i := by
    have : IntKind.u32.bits = 32 := rfl
    rw [this]; omega
  have e2 : ((2 : Int) ^ i) = ((2 ^ i : Nat) : Int) := by simp
  rw [e, e2, Int.fdiv_eq_ediv_of_nonneg _ (Int.natCast_nonneg _)]
  exact (Int.natCast_ediv a (2 ^ i)).symm
theorem RF (x : Nat) (hx : x < 4294967296) : bits .and .u32 (x : Int) 1 = ((x % 2 : Nat) : Int) := by
  have := bits_mask .u32 32 (by decide) (fun n h0 h1 => KX ⟨h0, by omega⟩) 1 (by omega) (x : Int) (by omega) (by omega)
  simpa using this
theorem Ps (a i : Nat) (ha : a < 4294967296) (hi : i < 32) : (bits .and .u32 (shr .u32 (a : Int) (i : Int)) 1 = (1 : Int)) ↔ a / 2 ^ i % 2 = 1 := by
  rw [QN a i hi, RF _ (Nat.lt_of_le_of_lt (Nat.div_le_self _ _) ha)]
  omega
theorem Mw : ∀ (ps : List (List UInt8)) (p : List UInt8) (n : Nat) (w : List UInt8), Ho (ps ++ [p]) n w = if n / 2 ^ ps.length % 2 = 1 then n6 p (Ho ps n w) else n6 (Ho ps n w) p
  | [], p, n, w => by simp [Ho]
  | q :: ps, p, n, w => by
    rw [List.cons_append, Ho, Mw ps p, Ho, List.length_cons, Nat.pow_succ, Nat.mul_comm (2 ^ ps.length) 2, ← Nat.div_div_eq_div_mul]
theorem Mv : ∀ {ps : List (List UInt8)} {n : Nat} {w : List UInt8}, (∀ p ∈ ps, p.length = 32) → w.length = 32 → (Ho ps n w).length = 32
  | [], _, _, _, h => h
  | p :: ps, n, w, hp, h => by
    rw [Ho]
    refine Mv (fun q hq => hp q (by simp [hq])) ?_
    split
    · exact KA (hp p (by simp)) h
    · exact KA h (hp p (by simp))
theorem QM (l : List (List UInt8)) (k : Nat) (hk : k < l.length) : l.take (k + 1) = l.take k ++ [l.getD k default] := by
  rw [List.take_succ_eq_append_getElem hk]; simp [List.getD, hk]
end
end Go.Proofs.YteboiefnflipjaaGreatDoor
