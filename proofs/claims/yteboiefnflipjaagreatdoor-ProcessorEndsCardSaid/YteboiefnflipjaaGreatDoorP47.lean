/- Plain laws: P41a, P46, P47, as one text. -/
import Derived.Test.YteboiefnflipjaaGreatDoorP5a
import Derived.Test.YteboiefnflipjaaGreatDoorP7
import Derived.Laws.BitsLemmas
namespace Go.Proofs.YteboiefnflipjaaGreatDoor
open Go Go.RowKit Go.Proofs
section
set_option linter.unusedVariables false

def tk (n : Nat) (s : List UInt8) (e : Int) : List UInt8 × List UInt8 × Int := if e = 0 then (if s.length < n then ([], s, 3) else (s.take n, s.drop n, 0)) else ([], s, e)
theorem RK (n : Nat) (s : List UInt8) (e : Int) : Dy ⟨s, e⟩ (n : Int) = some ((tk n s e).1, ⟨(tk n s e).2.1, (tk n s e).2.2⟩) := by
  unfold Dy tk
  by_cases he : e = 0
  · subst he
    rw [if_neg (by simp)]
    by_cases h : s.length < n
    · rw [if_pos (by simp; omega)]; simp [h]
    · rw [if_neg (by simp; omega), if_pos (by simp; omega), if_pos (by simp; omega)]; simp [h]
  · rw [if_pos (by simp [he])]; simp [he]
theorem Kk (n : Nat) (s : List UInt8) (e : Int) : (tk n s e).1 = [] ∨ (tk n s e).1.length = n := by
  unfold tk
  split
  · split
    · exact .inl rfl
    · exact .inr (by simp; omega)
  · exact .inl rfl
def dg (l : List UInt8) : List UInt8 := if l = [] then List.replicate 32 0 else l
theorem N8 (s : List UInt8) (e : Int) : (dg (tk 32 s e).1).length = 32 := by
  unfold dg
  rcases Kk 32 s e with h | h
  · rw [if_pos h]; simp
  · rw [if_neg (by intro q; rw [q] at h; simp at h)]; exact h
theorem Rz (s : List UInt8) (e : Int) : Co ⟨s, e⟩ = some (dg (tk 32 s e).1, ⟨(tk 32 s e).2.1, (tk 32 s e).2.2⟩) := by
  unfold Co
  refine Ax (RK 32 s e) ?_
  unfold dg
  rcases Kk 32 s e with h | h
  · rw [h]; rfl
  · rw [if_neg (by intro q; rw [q] at h; simp at h)]
    show some ((List.replicate 32 0).take 0 ++ (tk 32 s e).1.take (min (tk 32 s e).1.length 32) ++ (List.replicate 32 0).drop (0 + (min (tk 32 s e).1.length 32)), _) = _
    rw [h]
    simp [h, List.take_of_length_le]
end

section
set_option linter.unusedVariables false

def vl (l : List UInt8) : Nat := l.foldl (fun a b => a * 256 + b.toNat) 0
theorem OB (l : List UInt8) (b : UInt8) : vl (l ++ [b]) = vl l * 256 + b.toNat := by simp [vl]
theorem L9 (l : List UInt8) (i : Nat) (hi : i < l.length) : vl (l.take (i + 1)) = vl (l.take i) * 256 + (l[i]).toNat := by
  rw [List.take_succ_eq_append_getElem hi, OB]
theorem Nt : ∀ (n : Nat) (l : List UInt8), l.length = n → vl l < 256 ^ n
  | 0, l, h => by
    have : l = [] := List.length_eq_zero_iff.1 h
    subst this; simp [vl]
  | n + 1, l, h => by
    have h1 := L9 l n (by omega)
    rw [List.take_of_length_le (by omega)] at h1
    have h2 := Nt n (l.take n) (by simp; omega)
    have h3 := (l[n]'(by omega)).toNat_lt
    rw [h1, Nat.pow_succ]
    omega
theorem Rv {i : Nat} (h : i < 8) : 256 ^ i ≤ 72057594037927936 := by
  have : (256 : Nat) ^ i ≤ 256 ^ 7 := Nat.pow_le_pow_right (by decide) (by omega)
  simpa using this
theorem PR (r1 : (List UInt8) × Cg) (x i : Nat) (hx : x < 72057594037927936) (hi : i < r1.1.length) (hl : r1.1.length ≤ 100) :
    Bj.b1 r1 (x : Int) (i : Int) = some (.cont (((x * 256 + (r1.1[i]).toNat : Nat) : Int), ((i + 1 : Nat) : Int))) := by
  have hb := (r1.1[i]).toNat_lt
  have e8 : shl .u64 (x : Int) 8 = IntKind.wrap .u64 ((x : Int) * 256) := rfl
  have e1 : ((i : Nat) : Int).toNat = i := by omega
  have e2 : r1.1.getD i default = r1.1[i] := by simp [List.getD, hi]
  unfold Bj.b1
  rw [if_pos (by simp; omega), if_pos (by omega), e8, e1, e2, Fc (by omega)]
  generalize (r1.1[i]).toNat = b at hb
  rw [GL (by omega), GL (by omega), bits_join .u64 64 (by decide) (fun n h0 h1 => GL ⟨h0, by omega⟩) 8 ((x : Int) * 256) (b : Int) (by omega) (by omega) (by omega) (by omega) (by omega) (by omega)]
  rw [show ((x * 256 + b : Nat) : Int) = (x : Int) * 256 + b by omega]
  rfl
theorem NQ (n : Nat) (hn : n ≤ 8) (s : List UInt8) (e : Int) : Bj ⟨s, e⟩ (n : Int) = some (((vl (tk n s e).1 : Nat) : Int), ⟨(tk n s e).2.1, (tk n s e).2.2⟩) := by
  unfold Bj
  refine Ax (RK n s e) ?_
  have hL : (tk n s e).1.length ≤ 8 := by
    rcases Kk n s e with h | h
    · rw [h]; simp
    · omega
  generalize hr : (((tk n s e).1, (⟨(tk n s e).2.1, (tk n s e).2.2⟩ : Cg)) : (List UInt8) × Cg) = r1
  have h1 : (tk n s e).1 = r1.1 := by rw [← hr]
  have h2 : (⟨(tk n s e).2.1, (tk n s e).2.2⟩ : Cg) = r1.2 := by rw [← hr]
  rw [h1] at hL
  rw [h1, h2]
  obtain ⟨c, h3, h4⟩ := CC (body := fun s : Int × Int => Bj.b1 r1 s.1 s.2) (fun s => ∃ i : Nat, i ≤ r1.1.length ∧ s = (((vl (r1.1.take i) : Nat) : Int), (i : Int)))
      (fun c => match c with | .next s => s.1 = ((vl r1.1 : Nat) : Int) | .ret r => False) (fun s => (r1.1.length - s.2).toNat)
      (fun s ⟨i, hi, hs⟩ => by
        subst hs
        by_cases q : i < r1.1.length
        · have hx : vl (r1.1.take i) < 72057594037927936 := Nat.lt_of_lt_of_le (Nt i _ (by simp; omega)) (Rv (by omega))
          refine .inl ⟨_, PR r1 _ i hx q (by omega), ⟨i + 1, by omega, by rw [L9 r1.1 i q]⟩, by simp; omega⟩
        · have : i = r1.1.length := by omega
          subst this
          refine .inr (.inl ⟨(((vl r1.1 : Nat) : Int), (r1.1.length : Int)), ?_, rfl⟩)
          show Bj.b1 r1 _ (r1.1.length : Int) = _
          unfold Bj.b1
          rw [if_neg (by simp), List.take_length]) (((r1.1.length : Int) - 0 : Int).toNat + 2) (0, 0) ⟨0, by omega, by simp [vl]⟩ (by simp)
  cases c with
  | ret r => exact h4.elim
  | next s =>
    have h4 : s.1 = ((vl r1.1 : Nat) : Int) := h4
    refine BB h3 ?_
    rw [← h4]
theorem Qz {n : Nat} (hn : n ≤ 8) (s : List UInt8) (e : Int) : vl (tk n s e).1 < 256 ^ n := by
  rcases Kk n s e with h | h
  · rw [h]; exact Nat.pow_pos (by decide)
  · exact Nt n _ h
end

section
set_option linter.unusedVariables false

def Lh (n : Int) : List UInt8 := [BA (IntKind.wrap .u8 (shr .u64 n 56)), BA (IntKind.wrap .u8 (shr .u64 n 48)), BA (IntKind.wrap .u8 (shr .u64 n 40)), BA (IntKind.wrap .u8 (shr .u64 n 32)), BA (IntKind.wrap .u8 (shr .u64 n 24)), BA (IntKind.wrap .u8 (shr .u64 n 16)), BA (IntKind.wrap .u8 (shr .u64 n 8)), BA (IntKind.wrap .u8 (shr .u64 n 0))]
theorem RC (n : Int) : Ei n 8 = some (Lh n) := rfl
theorem Mp (n : Int) : FK n = some (Lh n) := by
  unfold FK
  rw [RC]
  rfl
theorem Nu {x : Int} (h : 0 ≤ x ∧ x < 18446744073709551616) : ((vl (Lh x) : Nat) : Int) = x := by
  obtain ⟨n, rfl⟩ := Int.eq_ofNat_of_zero_le h.1
  have e7 := byteOf (n := n) (q := 72057594037927936) (k := 56) (by decide) (by decide)
  have e6 := byteOf (n := n) (q := 281474976710656) (k := 48) (by decide) (by decide)
  have e5 := byteOf (n := n) (q := 1099511627776) (k := 40) (by decide) (by decide)
  have e4 := byteOf (n := n) (q := 4294967296) (k := 32) (by decide) (by decide)
  have e3 := byteOf (n := n) (q := 16777216) (k := 24) (by decide) (by decide)
  have e2 := byteOf (n := n) (q := 65536) (k := 16) (by decide) (by decide)
  have e1 := byteOf (n := n) (q := 256) (k := 8) (by decide) (by decide)
  have e0 := byteOf (n := n) (q := 1) (k := 0) (by decide) (by decide)
  simp only [vl, Lh, List.foldl_cons, List.foldl_nil]
  rw [e7, e6, e5, e4, e3, e2, e1, e0]
  omega
theorem PM {x : Int} (h : 0 ≤ x ∧ x < 4294967296) : ((vl (JW x) : Nat) : Int) = x := by
  obtain ⟨n, rfl⟩ := Int.eq_ofNat_of_zero_le h.1
  have e : JW (n : Int) = JS (n : Int) := by unfold JW; rw [KX h]
  have e3 := byteOf (n := n) (q := 16777216) (k := 24) (by decide) (by decide)
  have e2 := byteOf (n := n) (q := 65536) (k := 16) (by decide) (by decide)
  have e1 := byteOf (n := n) (q := 256) (k := 8) (by decide) (by decide)
  have e0 := byteOf (n := n) (q := 1) (k := 0) (by decide) (by decide)
  rw [e]
  simp only [vl, JS, List.foldl_cons, List.foldl_nil]
  rw [e3, e2, e1, e0]
  omega
theorem Rp {x : Int} (h : 0 ≤ x ∧ x < 256) : IntKind.wrap .u8 x = x := by
  simp only [IntKind.wrap, IntKind.bits, IntKind.signed]
  simp
  omega
theorem PN {x : Int} (h : 0 ≤ x ∧ x < 256) : ((vl [O4 x] : Nat) : Int) = x := by
  simp only [vl, List.foldl_cons, List.foldl_nil, O4]
  rw [Rp h]
  simp only [BA]
  simp
  omega
def JU (n : AD) : Prop := (0 ≤ n.DF ∧ n.DF < 256) ∧ (0 ≤ n.BE ∧ n.BE < 4294967296) ∧ (0 ≤ n.Cl ∧ n.Cl < 18446744073709551616) ∧ n.ED.length = 32 ∧ n.Dq.length = 32 ∧ (0 ≤ n.CJ ∧ n.CJ < 18446744073709551616)
def Ml (n : AD) : List UInt8 := [O4 n.DF] ++ JW n.BE ++ Lh n.Cl ++ n.ED ++ n.Dq ++ Lh n.CJ
theorem LI (i : Int) : (JW i).length = 4 := by simp [JW, JS]
theorem L2 (i : Int) : (Lh i).length = 8 := by simp [Lh]
theorem Mk {n : AD} (h : JU n) : (Ml n).length = 85 := by
  obtain ⟨_, _, _, h1, h2, _⟩ := h
  simp only [Ml, List.length_append, LI, L2, h1, h2, List.length_cons, List.length_nil]
noncomputable def FF (n : AD) : List UInt8 := Ml n ++ H (IV 200 [Ml n])
theorem Kx {n : AD} (h : JU n) : Small [Ml n] := ⟨fun p hp => by rw [List.mem_singleton.1 hp, Mk h]; omega, by simp⟩
theorem NK {n : AD} (h : JU n) : Fw n = some (Ml n) := by
  obtain ⟨k, hh, hn, h1, h2, hs⟩ := h
  unfold Fw
  refine Ax (x := [O4 n.DF]) (by have := O2 n.DF; rwa [Rp k] at this) ?_
  refine Ax (x := JW n.BE) (by have := ME n.BE; rwa [KX hh] at this) ?_
  rw [if_pos (by simp only [LI, List.length_cons, List.length_nil, CG]; omega)]
  refine Ax (Mp _) ?_
  rw [if_pos (by simp only [List.length_append, LI, L2, List.length_cons, List.length_nil, CG]; omega)]
  refine Ax (Ir h1) ?_
  rw [if_pos (by simp only [List.length_append, LI, L2, h1, List.length_cons, List.length_nil, CG]; omega)]
  refine Ax (Ir h2) ?_
  rw [if_pos (by simp only [List.length_append, LI, L2, h1, h2, List.length_cons, List.length_nil, CG]; omega)]
  refine Ax (Mp _) ?_
  rw [if_pos (by simp only [List.length_append, LI, L2, h1, h2, List.length_cons, List.length_nil, CG]; omega)]
  rfl
theorem Lf {n : AD} (h : JU n) : Ec n = some (FF n) := by
  have hl := ((Kx h).H 200).2
  obtain ⟨L, h1, h2⟩ := RA none 200 (Kx h)
  unfold Ec
  refine Ax (NK h) (Ax h1 (Ax (Ir hl) ?_))
  rw [if_pos (by simp only [Mk h, hl, CG]; omega)]
  rfl
def nx (n : Nat) (p : List UInt8 × Int) : List UInt8 × Int := (tk n p.1 p.2).2
def gt (n : Nat) (p : List UInt8 × Int) : List UInt8 := (tk n p.1 p.2).1
def Mf (s : List UInt8) : AD := ⟨(vl (gt 1 (s, 0)) : Nat), (vl (gt 4 (nx 1 (s, 0))) : Nat), (vl (gt 8 (nx 4 (nx 1 (s, 0)))) : Nat), dg (gt 32 (nx 8 (nx 4 (nx 1 (s, 0))))), dg (gt 32 (nx 32 (nx 8 (nx 4 (nx 1 (s, 0)))))), (vl (gt 8 (nx 32 (nx 32 (nx 8 (nx 4 (nx 1 (s, 0))))))) : Nat)⟩
def Oq (s : List UInt8) : List UInt8 × Int := nx 32 (nx 8 (nx 32 (nx 32 (nx 8 (nx 4 (nx 1 (s, 0)))))))
def N4 (p : List UInt8 × Int) : Int := if p.2 = 0 then (if p.1 = [] then 0 else 4) else p.2
theorem Ry (s : List UInt8) (e : Int) : Ce ⟨s, e⟩ = some (N4 (s, e), ⟨s, e⟩) := by
  unfold Ce Ce.j1 N4
  by_cases he : e = 0
  · rw [if_pos (by simp [he]), if_pos he]
    by_cases h : s = []
    · rw [if_neg (by simp [h]), if_pos h, he]
    · rw [if_pos (by simp [h]), if_neg h]
  · rw [if_neg (by simp [he]), if_neg he, if_neg (by simp)]
theorem ND (s : List UInt8) : JU (Mf s) := by
  have h1 := Qz (n := 1) (by omega) s 0
  have h2 := Qz (n := 4) (by omega) (nx 1 (s, 0)).1 (nx 1 (s, 0)).2
  have h3 := Qz (n := 8) (by omega) (nx 4 (nx 1 (s, 0))).1 (nx 4 (nx 1 (s, 0))).2
  have h4 := Qz (n := 8) (by omega) (nx 32 (nx 32 (nx 8 (nx 4 (nx 1 (s, 0)))))).1 (nx 32 (nx 32 (nx 8 (nx 4 (nx 1 (s, 0)))))).2
  refine ⟨⟨?_, ?_⟩, ⟨?_, ?_⟩, ⟨?_, ?_⟩, N8 _ _, N8 _ _, ⟨?_, ?_⟩⟩
  · exact Int.natCast_nonneg _
  · show ((vl (tk 1 s 0).1 : Nat) : Int) < 256
    omega
  · exact Int.natCast_nonneg _
  · show ((vl (tk 4 (nx 1 (s, 0)).1 (nx 1 (s, 0)).2).1 : Nat) : Int) < 4294967296
    omega
  · exact Int.natCast_nonneg _
  · show ((vl (tk 8 (nx 4 (nx 1 (s, 0))).1 (nx 4 (nx 1 (s, 0))).2).1 : Nat) : Int) < 18446744073709551616
    omega
  · exact Int.natCast_nonneg _
  · show ((vl (tk 8 (nx 32 (nx 32 (nx 8 (nx 4 (nx 1 (s, 0)))))).1 (nx 32 (nx 32 (nx 8 (nx 4 (nx 1 (s, 0)))))).2).1 : Nat) : Int) < 18446744073709551616
    omega
theorem Qp (p : List UInt8 × Int) : D1 ⟨p.1, p.2⟩ = some (((vl (gt 1 p) : Nat) : Int), ⟨(nx 1 p).1, (nx 1 p).2⟩) := by
  have h := Qz (n := 1) (by omega) p.1 p.2
  unfold D1
  refine Ax (NQ 1 (by omega) p.1 p.2) ?_
  rw [Rp (by omega)]
  rfl
theorem OA (p : List UInt8 × Int) : D0 ⟨p.1, p.2⟩ = some (((vl (gt 4 p) : Nat) : Int), ⟨(nx 4 p).1, (nx 4 p).2⟩) := by
  have h := Qz (n := 4) (by omega) p.1 p.2
  unfold D0
  refine Ax (NQ 4 (by omega) p.1 p.2) ?_
  rw [KX (by omega)]
  rfl
theorem NW (p : List UInt8 × Int) : Dz ⟨p.1, p.2⟩ = some (((vl (gt 8 p) : Nat) : Int), ⟨(nx 8 p).1, (nx 8 p).2⟩) := by
  unfold Dz
  exact Ax (NQ 8 (by omega) p.1 p.2) rfl
theorem N7 (p : List UInt8 × Int) : Co ⟨p.1, p.2⟩ = some (dg (gt 32 p), ⟨(nx 32 p).1, (nx 32 p).2⟩) := Rz p.1 p.2
theorem OL (s : List UInt8) : DC s = some (Mf s, decide (N4 (Oq s) = 0) && decide (FF (Mf s) = s)) := by
  unfold DC
  refine Ax (x := (⟨s, 0⟩ : Cg)) rfl (Ax (Qp (s, 0)) (Ax (OA _) (Ax (NW _) (Ax (N7 _) (Ax (N7 _) (Ax (NW _) (Ax (N7 _) (Ax (Ry _ _) ?_))))))))
  by_cases h : N4 (Oq s) = 0
  · rw [if_pos (by show decide (N4 (Oq s) = 0) = true; simp [h])]
    refine Ax (Lf (n := Mf s) (ND s)) ?_
    rw [h]
    rfl
  · rw [if_neg (by show ¬ decide (N4 (Oq s) = 0) = true; simp [h])]
    unfold DC.j1
    rw [decide_eq_false h, Bool.false_and]
    rfl
noncomputable def BN (disk : List UInt8) (k home : Int) : AD :=
  if (N4 (Oq disk) = 0 ∧ FF (Mf disk) = disk) ∧ (Mf disk).DF = k ∧ (Mf disk).BE = home then Mf disk else ⟨k, home, 0, List.replicate 32 0, List.replicate 32 0, 0⟩
theorem Lc {k home : Int} (disk : List UInt8) (hk : 0 ≤ k ∧ k < 256) (hh : 0 ≤ home ∧ home < 4294967296) : JU (BN disk k home) := by
  unfold BN
  split
  · exact ND disk
  · exact ⟨hk, hh, ⟨by simp only; omega, by simp only; omega⟩, by simp, by simp, ⟨by simp only; omega, by simp only; omega⟩⟩
theorem Le {k home : Int} (disk : List UInt8) : (BN disk k home).DF = k ∧ (BN disk k home).BE = home := by
  unfold BN
  split
  · rename_i h; exact h.2
  · exact ⟨rfl, rfl⟩
theorem KT (disk : List UInt8) (k home : Int) : Dp disk k home = some (BN disk k home) := by
  unfold Dp
  refine Ax (OL disk) ?_
  unfold Dp.j1 BN
  by_cases h : N4 (Oq disk) = 0 ∧ FF (Mf disk) = disk
  · rw [if_neg (by simp [h.1, h.2])]
    by_cases h1 : (Mf disk).DF = k
    · rw [if_neg (by simp [h1])]
      by_cases h2 : (Mf disk).BE = home
      · rw [if_neg (by simp [h2]), if_pos ⟨h, h1, h2⟩]
      · rw [if_pos (by simp [h2]), if_neg (fun q => h2 q.2.2)]
    · rw [if_pos (by simp [h1]), if_pos rfl, if_neg (fun q => h1 q.2.1)]
  · have hb : (decide (N4 (Oq disk) = 0) && decide (FF (Mf disk) = disk)) = false := by
      by_cases q : N4 (Oq disk) = 0
      · rw [decide_eq_false (fun w => h ⟨q, w⟩), Bool.and_false]
      · rw [decide_eq_false q, Bool.false_and]
    rw [if_pos (by rw [hb]; rfl), if_pos rfl, if_neg (fun q => h q.1)]
theorem I6 {l : List UInt8} {n : Nat} (h : l.length = n) (r : List UInt8) : gt n (l ++ r, 0) = l ∧ nx n (l ++ r, 0) = (r, 0) := by
  have : tk n (l ++ r) 0 = (l, r, 0) := by
    unfold tk
    rw [if_pos rfl, if_neg (by simp; omega)]
    subst h
    simp
  exact ⟨congrArg (fun q => q.1) this, congrArg (fun q => q.2) this⟩
theorem Q0 {l : List UInt8} (h : l.length = 32) : dg l = l := by
  unfold dg
  rw [if_neg]
  intro q
  rw [q] at h
  simp at h
/-- What is noted is read again. -/
theorem MS {n : AD} (h : JU n) : Mf (FF n) = n ∧ N4 (Oq (FF n)) = 0 := by
  have hl := ((Kx h).H 200).2
  obtain ⟨k, hh, hn, h1, h2, hs⟩ := h
  have e : FF n = [O4 n.DF] ++ (JW n.BE ++ (Lh n.Cl ++ (n.ED ++ (n.Dq ++ (Lh n.CJ ++ (H (IV 200 [Ml n]) ++ [])))))) := by simp [FF, Ml]
  have a1 := I6 (l := [O4 n.DF]) (n := 1) rfl (JW n.BE ++ (Lh n.Cl ++ (n.ED ++ (n.Dq ++ (Lh n.CJ ++ (H (IV 200 [Ml n]) ++ []))))))
  have a2 := I6 (LI n.BE) (Lh n.Cl ++ (n.ED ++ (n.Dq ++ (Lh n.CJ ++ (H (IV 200 [Ml n]) ++ [])))))
  have a3 := I6 (L2 n.Cl) (n.ED ++ (n.Dq ++ (Lh n.CJ ++ (H (IV 200 [Ml n]) ++ []))))
  have a4 := I6 h1 (n.Dq ++ (Lh n.CJ ++ (H (IV 200 [Ml n]) ++ [])))
  have a5 := I6 h2 (Lh n.CJ ++ (H (IV 200 [Ml n]) ++ []))
  have a6 := I6 (L2 n.CJ) (H (IV 200 [Ml n]) ++ [])
  have a7 := I6 hl []
  constructor
  · unfold Mf
    rw [e, a1.1, a1.2, a2.1, a2.2, a3.1, a3.2, a4.1, a4.2, a5.1, a5.2, a6.1, PN k, PM hh, Nu hn, Nu hs, Q0 h1, Q0 h2]
  · unfold Oq
    rw [e, a1.2, a2.2, a3.2, a4.2, a5.2, a6.2, a7.2]
    rfl
theorem Ld {n : AD} (h : JU n) : BN (FF n) n.DF n.BE = n := by
  obtain ⟨h1, h2⟩ := MS h
  unfold BN
  rw [h1, if_pos ⟨⟨h2, rfl⟩, rfl, rfl⟩]
/- The first place of a kind. -/
end
end Go.Proofs.YteboiefnflipjaaGreatDoor
