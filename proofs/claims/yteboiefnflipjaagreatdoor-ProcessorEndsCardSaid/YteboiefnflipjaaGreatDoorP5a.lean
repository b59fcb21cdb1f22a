/- Plain laws: P4b, P4c, P5a, as one text. -/
import Derived.Test.YteboiefnflipjaaGreatDoorP7
namespace Go.Proofs.YteboiefnflipjaaGreatDoor
open Go Go.RowKit Go.Proofs
section
set_option linter.unusedVariables false

theorem QP (x : Int) : A2 x (-7) = Bg x 7 := congrArg some ((Em _ _).trans rfl)
theorem PZ (x : Int) : A2 x (-18) = Bg x 18 := congrArg some ((Em _ _).trans rfl)
theorem P0 (x : Int) : A2 x (-17) = Bg x 17 := congrArg some ((Em _ _).trans rfl)
theorem PY (x : Int) : A2 x (-19) = Bg x 19 := congrArg some ((Em _ _).trans rfl)
theorem QQ (x : Int) : A2 x (-6) = Bg x 6 := congrArg some ((Em _ _).trans rfl)
theorem P2 (x : Int) : A2 x (-11) = Bg x 11 := congrArg some ((Em _ _).trans rfl)
theorem PW (x : Int) : A2 x (-25) = Bg x 25 := congrArg some ((Em _ _).trans rfl)
theorem QR (x : Int) : A2 x (-2) = Bg x 2 := congrArg some ((Em _ _).trans rfl)
theorem P1 (x : Int) : A2 x (-13) = Bg x 13 := congrArg some ((Em _ _).trans rfl)
theorem PX (x : Int) : A2 x (-22) = Bg x 22 := congrArg some ((Em _ _).trans rfl)
theorem OY (x : Int) : NZ .u32 x = bits .xor .u32 4294967295 x := by
  rfl
/-- Two counting loops that go together. -/
theorem Ju {R1 S1 R2 S2 : Type} {b1 : S1 → Option (CR R1 S1)} {b2 : S2 → Option (CR R2 S2)} (R : S1 → S2 → Prop) (Q : S1 → S2 → Prop) (m : S1 → Nat)
    (h : ∀ s t, R s t → (∃ s' t', b1 s = some (.cont s') ∧ b2 t = some (.cont t') ∧ R s' t' ∧ m s' < m s) ∨ (∃ s' t', b1 s = some (.brk s') ∧ b2 t = some (.brk t') ∧ Q s' t')) :
    ∀ (k1 k2 : Nat) (s : S1) (t : S2), R s t → m s < k1 → m s < k2 → ∃ s' t', Bf b1 k1 s = some (.next s') ∧ Bf b2 k2 t = some (.next t') ∧ Q s' t'
  | 0, _, s, t, hR, h1, _ => by omega
  | _, 0, s, t, hR, _, h2 => by omega
  | k1 + 1, k2 + 1, s, t, hR, h1, h2 => by
    unfold Bf
    rcases h s t hR with ⟨s', t', e1, e2, e3, e4⟩ | ⟨s', t', e1, e2, e3⟩
    · rw [e1, e2]
      exact Ju R Q m h k1 k2 s' t' e3 (by omega) (by omega)
    · rw [e1, e2]
      exact ⟨s', t', rfl, rfl, e3⟩
def word (b : List UInt8) (i : Nat) : Int := IntKind.wrap .u32 ((IntKind.wrap .u32 ((IntKind.wrap .u32 ((IntKind.wrap .u32 ((IntKind.wrap .u32 ((b.getD (4 * i) default).toNat)) * 16777216)) + (IntKind.wrap .u32 ((IntKind.wrap .u32 ((b.getD (4 * i + 1) default).toNat)) * 65536)))) + (IntKind.wrap .u32 ((IntKind.wrap .u32 ((b.getD (4 * i + 2) default).toNat)) * 256)))) + (IntKind.wrap .u32 ((b.getD (4 * i + 3) default).toNat)))
def Rr (x : Int) : Int := bits .xor .u32 (bits .xor .u32 ((Bg x 7).getD 0) ((Bg x 18).getD 0)) (shr .u32 x 3)
def Rq (x : Int) : Int := bits .xor .u32 (bits .xor .u32 ((Bg x 17).getD 0) ((Bg x 19).getD 0)) (shr .u32 x 10)
def more (w : List Int) (i : Nat) : Int := IntKind.wrap .u32 ((IntKind.wrap .u32 ((IntKind.wrap .u32 ((w.getD (i - 16) 0) + Rr (w.getD (i - 15) 0))) + (w.getD (i - 7) 0))) + Rq (w.getD (i - 2) 0))
theorem PV (b : List UInt8) (hb : b.length = 64) (i : Nat) (w : List Int) (hi : i < 16) : Bp.b1 b i w = some (.cont (((i + 1 : Nat) : Int), w.set i (word b i))) := by
  unfold Bp.b1
  rw [if_pos (by simp; omega), if_pos (by simp; omega)]
  simp (disch := omega) only [Fc]
  have hlen : ((b.take (4 * (i : Int) + 4).toNat).drop (4 * (i : Int)).toNat).length = 4 := by simp; omega
  have hg : ∀ k : Nat, k < 4 → ((b.take (4 * (i : Int) + 4).toNat).drop (4 * (i : Int)).toNat).getD k 0 = b.getD (4 * i + k) default := by
    intro k hk
    have e1 : (4 * (i : Int)).toNat = 4 * i := by omega
    have e2 : (4 * (i : Int) + 4).toNat = 4 * i + 4 := by omega
    rw [e1, e2]
    have h1 : 4 * i + k < b.length := by omega
    simp [List.getD, List.getElem?_take, h1]
    rw [if_pos (by omega)]
    rfl
  rw [if_pos (by omega), if_pos (by rw [hlen]; omega), if_pos (by rw [hlen]; omega), if_pos (by rw [hlen]; omega), if_pos (by rw [hlen]; omega), if_pos (by omega)]
  have g0 := hg 0 (by decide)
  have g1 := hg 1 (by decide)
  have g2 := hg 2 (by decide)
  have g3 := hg 3 (by decide)
  have e0 : (0 : Int).toNat = 0 := rfl
  have e1 : (1 : Int).toNat = 1 := rfl
  have e2 : (2 : Int).toNat = 2 := rfl
  have e3 : (3 : Int).toNat = 3 := rfl
  rw [e0, e1, e2, e3, g0, g1, g2, g3]
  rw [Oz _ _ _ _ (UInt8.toNat_lt _) (UInt8.toNat_lt _) (UInt8.toNat_lt _) (UInt8.toNat_lt _)]
  rfl
theorem OJ (b : List UInt8) (hb : b.length = 64) (i : Nat) (w : List Int) (hi : i < 16) : A8.b1 b i w = some (.cont (((i + 1 : Nat) : Int), w.set i (word b i))) := by
  unfold A8.b1
  rw [if_pos (by simp; omega)]
  simp (disch := omega) only [Fc]
  rw [if_pos (by omega), if_pos (by omega), if_pos (by omega), if_pos (by omega), if_pos (by omega)]
  have e0 : (4 * (i : Int)).toNat = 4 * i := by omega
  have e1 : (4 * (i : Int) + 1).toNat = 4 * i + 1 := by omega
  have e2 : (4 * (i : Int) + 2).toNat = 4 * i + 2 := by omega
  have e3 : (4 * (i : Int) + 3).toNat = 4 * i + 3 := by omega
  rw [e0, e1, e2, e3]
  rfl
theorem PU (b : List UInt8) (i : Nat) (w : List Int) (hi : 16 ≤ i ∧ i < 64) : Bp.b1 b i w = some (.cont (((i + 1 : Nat) : Int), w.set i (more w i))) := by
  unfold Bp.b1
  rw [if_pos (by simp; omega), if_neg (by simp; omega)]
  simp (disch := omega) only [Fc]
  rw [if_pos (by omega), if_pos (by omega)]
  rw [QP, PZ, P0, PY]
  simp only [Bg, Option.bind_some]
  rw [if_pos (by omega), if_pos (by omega), if_pos (by omega)]
  have e0 : ((i : Int) - 16).toNat = i - 16 := by omega
  have e1 : ((i : Int) - 15).toNat = i - 15 := by omega
  have e2 : ((i : Int) - 7).toNat = i - 7 := by omega
  have e3 : ((i : Int) - 2).toNat = i - 2 := by omega
  rw [e0, e1, e2, e3]
  rfl
theorem OI (i : Nat) (w : List Int) (hi : 16 ≤ i ∧ i < 64) : A8.b2 i w = some (.cont (((i + 1 : Nat) : Int), w.set i (more w i))) := by
  unfold A8.b2
  rw [if_pos (by simp; omega)]
  simp (disch := omega) only [Fc]
  rw [if_pos (by omega)]
  simp only [Bg, Option.bind_some]
  rw [if_pos (by omega), if_pos (by omega), if_pos (by omega), if_pos (by omega)]
  have e0 : ((i : Int) - 16).toNat = i - 16 := by omega
  have e1 : ((i : Int) - 15).toNat = i - 15 := by omega
  have e2 : ((i : Int) - 7).toNat = i - 7 := by omega
  have e3 : ((i : Int) - 2).toNat = i - 2 := by omega
  rw [e0, e1, e2, e3]
  rfl
def FR (b : List UInt8) (i : Nat) (w : List Int) : List Int := w.set i (if i < 16 then word b i else more w i)
def H9 (b : List UInt8) : List Int := iter (FR b) 0 64 (List.replicate 64 0)
theorem Nw (b : List UInt8) (hb : b.length = 64) : Bp b = some (H9 b) := by
  have h := (Fx (body := fun s : Int × List Int => Bp.b1 b s.1 s.2) (fun _ => True) (FR b) 64
    (fun i w hi _ => ⟨by
      show Bp.b1 b i w = _
      unfold FR
      by_cases h : i < 16
      · rw [if_pos h]; exact PV b hb i w h
      · rw [if_neg h]; exact PU b i w ⟨by omega, hi⟩, trivial⟩)
    (fun w => by unfold Bp.b1; rw [if_neg (by simp)]) 64 0 (List.replicate 64 0) 66 rfl trivial (by decide)).1
  unfold Bp
  have h' : Bf (fun s : Int × (List Int) => Bp.b1 b s.1 s.2) ((64 - 0 : Int).toNat + 2) (0, (List.replicate 64 0)) = _ := h
  rw [h']
  rfl
theorem J5 {R σ : Type} {body : Int × σ → Option (CR R (Int × σ))} (I : σ → Prop) (f : Nat → σ → σ) (lo n : Nat)
    (hs : ∀ (i : Nat) (s : σ), lo ≤ i → i < n → I s → body ((i : Int), s) = some (.cont (((i + 1 : Nat) : Int), f i s)) ∧ I (f i s)) (he : ∀ s, body ((n : Int), s) = some (.brk ((n : Int), s))) :
    ∀ (m i : Nat) (s : σ) (k : Nat), lo ≤ i → i + m = n → I s → m < k → Bf body k ((i : Int), s) = some (.next ((n : Int), iter f i m s)) ∧ I (iter f i m s)
  | 0, i, s, k + 1, hl, h, hI, _ => by
    have : i = n := by omega
    subst this
    unfold Bf
    rw [he]
    exact ⟨rfl, hI⟩
  | m + 1, i, s, k + 1, hl, h, hI, hk => by
    obtain ⟨h1, h2⟩ := hs i s hl (by omega) hI
    unfold Bf
    rw [h1]
    exact J5 I f lo n hs he m (i + 1) (f i s) k (by omega) (by omega) h2 (by omega)
theorem MJ (b : List UInt8) (hb : b.length = 64) : ∃ y, Bf (fun s : Int × (List Int) => A8.b1 b s.1 s.2) ((16 - 0 : Int).toNat + 2) (0, (List.replicate 64 0)) = some (.next (16, y)) ∧
    Bf (fun s : Int × (List Int) => A8.b2 s.1 s.2) ((64 - 16 : Int).toNat + 2) (16, y) = some (.next (64, H9 b)) := by
  have h1 := (Fx (body := fun s : Int × List Int => A8.b1 b s.1 s.2) (fun _ => True) (FR b) 16
    (fun i w hi _ => ⟨by unfold FR; rw [if_pos hi]; exact OJ b hb i w hi, trivial⟩) (fun w => by unfold A8.b1; rw [if_neg (by simp)]) 16 0 (List.replicate 64 0) 18 rfl trivial (by decide)).1
  have h2 := (J5 (body := fun s : Int × List Int => A8.b2 s.1 s.2) (fun _ => True) (FR b) 16 64
    (fun i w hl hi _ => ⟨by unfold FR; rw [if_neg (by omega)]; exact OI i w ⟨hl, hi⟩, trivial⟩) (fun w => by unfold A8.b2; rw [if_neg (by simp)]) 48 16 (iter (FR b) 0 16 (List.replicate 64 0)) 50 (by decide) rfl trivial (by decide)).1
  refine ⟨_, h1, ?_⟩
  have h3 : iter (FR b) 16 48 (iter (FR b) 0 16 (List.replicate 64 0)) = H9 b := (Ln (FR b) 16 48 0 (List.replicate 64 0)).symm
  rw [h3] at h2
  exact h2
def OD (W : List Int) (e f g h : Int) (i : Nat) : Int := IntKind.wrap .u32 ((IntKind.wrap .u32 ((IntKind.wrap .u32 ((IntKind.wrap .u32 (h + (bits .xor .u32 (bits .xor .u32 ((Bg e 6).getD 0) ((Bg e 11).getD 0)) ((Bg e 25).getD 0)))) + (bits .xor .u32 (bits .and .u32 e f) (bits .and .u32 (bits .xor .u32 4294967295 e) g)))) + (F2.getD i 0))) + (W.getD i 0))
def QK (a b c : Int) : Int := bits .xor .u32 (bits .xor .u32 ((Bg a 2).getD 0) ((Bg a 13).getD 0)) ((Bg a 22).getD 0)
def RO (a b c : Int) : Int := bits .xor .u32 (bits .xor .u32 (bits .and .u32 a b) (bits .and .u32 a c)) (bits .and .u32 b c)
theorem MO (W : List Int) (a b c d e f g h : Int) (i : Nat) (hi : i < 64) :
    A8.b3 F2 W a b c d e f g h i = some (.cont (IntKind.wrap .u32 (OD W e f g h i + IntKind.wrap .u32 (QK a b c + RO a b c)), a, b, c, IntKind.wrap .u32 (d + OD W e f g h i), e, f, g, ((i + 1 : Nat) : Int))) := by
  unfold A8.b3
  rw [if_pos (by simp; omega)]
  simp only [Bg, Option.bind_some]
  rw [if_pos (by omega)]
  simp (disch := omega) only [Fc]
  rfl
theorem MD (x y z : Int) : IntKind.wrap .u32 (IntKind.wrap .u32 (x + y) + z) = IntKind.wrap .u32 (x + IntKind.wrap .u32 (y + z)) := by
  simp only [IntKind.wrap, IntKind.bits, IntKind.signed]
  simp
  omega
theorem MN (W : List Int) (a b c d e f g h : Int) (i : Nat) (hi : i < 64) :
    Bi.b1 W i [a, b, c, d, e, f, g, h] = some (.cont (((i + 1 : Nat) : Int), [IntKind.wrap .u32 (OD W e f g h i + IntKind.wrap .u32 (QK a b c + RO a b c)), a, b, c, IntKind.wrap .u32 (d + OD W e f g h i), e, f, g])) := by
  rw [← MD]
  unfold Bi.b1
  rw [if_pos (by simp; omega)]
  simp only [QR, P1, PX, QQ, P2, PW, Bg, Option.bind_some]
  rw [if_pos (by omega)]
  simp (disch := omega) only [Fc]
  simp only [OY]
  rfl
theorem QV {x : List Int} (h : x.length = 8) : ∃ a b c d e f g i, x = [a, b, c, d, e, f, g, i] := by
  match x, h with
  | [a, b, c, d, e, f, g, i], _ => exact ⟨a, b, c, d, e, f, g, i, rfl⟩
theorem Ob : EP = some F2 := rfl
theorem N0 : F9 = some E7 := rfl
theorem MM (W : List Int) (a0 a1 a2 a3 a4 a5 a6 a7 : Int) : ∃ c0 c1 c2 c3 c4 c5 c6 c7 : Int, Bf (fun s : Int × (List Int) => Bi.b1 W s.1 s.2) 66 (0, [a0, a1, a2, a3, a4, a5, a6, a7]) = some (.next (64, [c0, c1, c2, c3, c4, c5, c6, c7])) ∧
    Bf (fun s : Int × Int × Int × Int × Int × Int × Int × Int × Int => A8.b3 F2 W s.1 s.2.1 s.2.2.1 s.2.2.2.1 s.2.2.2.2.1 s.2.2.2.2.2.1 s.2.2.2.2.2.2.1 s.2.2.2.2.2.2.2.1 s.2.2.2.2.2.2.2.2) 66 (a0, a1, a2, a3, a4, a5, a6, a7, 0) = some (.next (c0, c1, c2, c3, c4, c5, c6, c7, 64)) := by
  obtain ⟨s, t, f1, f2, c0, c1, c2, c3, c4, c5, c6, c7, rfl, rfl⟩ := Ju (b1 := fun s : Int × (List Int) => Bi.b1 W s.1 s.2) (b2 := fun s : Int × Int × Int × Int × Int × Int × Int × Int × Int => A8.b3 F2 W s.1 s.2.1 s.2.2.1 s.2.2.2.1 s.2.2.2.2.1 s.2.2.2.2.2.1 s.2.2.2.2.2.2.1 s.2.2.2.2.2.2.2.1 s.2.2.2.2.2.2.2.2)
    (fun s t => ∃ (i : Nat) (c0 c1 c2 c3 c4 c5 c6 c7 : Int), i ≤ 64 ∧ s = ((i : Int), [c0, c1, c2, c3, c4, c5, c6, c7]) ∧ t = (c0, c1, c2, c3, c4, c5, c6, c7, (i : Int)))
    (fun s t => ∃ (c0 c1 c2 c3 c4 c5 c6 c7 : Int), s = (64, [c0, c1, c2, c3, c4, c5, c6, c7]) ∧ t = (c0, c1, c2, c3, c4, c5, c6, c7, 64)) (fun s => (64 - s.1).toNat)
    (fun s t ⟨i, c0, c1, c2, c3, c4, c5, c6, c7, hi, hs, ht⟩ => by
      subst hs ht
      by_cases h : i < 64
      · exact .inl ⟨_, _, MN W c0 c1 c2 c3 c4 c5 c6 c7 i h, MO W c0 c1 c2 c3 c4 c5 c6 c7 i h, ⟨i + 1, _, _, _, _, _, _, _, _, by omega, rfl, rfl⟩, by simp; omega⟩
      · have : i = 64 := by omega
        subst this
        refine .inr ⟨(64, [c0, c1, c2, c3, c4, c5, c6, c7]), (c0, c1, c2, c3, c4, c5, c6, c7, 64), ?_, ?_, ⟨_, _, _, _, _, _, _, _, rfl, rfl⟩⟩
        · show Bi.b1 W 64 [c0, c1, c2, c3, c4, c5, c6, c7] = _
          unfold Bi.b1; rw [if_neg (by simp)]
        · show A8.b3 F2 W c0 c1 c2 c3 c4 c5 c6 c7 64 = _
          unfold A8.b3; rw [if_neg (by simp)]) 66 66 (0, [a0, a1, a2, a3, a4, a5, a6, a7]) (a0, a1, a2, a3, a4, a5, a6, a7, 0) ⟨0, a0, a1, a2, a3, a4, a5, a6, a7, by decide, rfl, rfl⟩ (by simp) (by simp)
  exact ⟨c0, c1, c2, c3, c4, c5, c6, c7, f1, f2⟩
theorem O9 (a0 a1 a2 a3 a4 a5 a6 a7 c0 c1 c2 c3 c4 c5 c6 c7 : Int) : Bf (fun s : Int × List Int => Bi.b2 [a0, a1, a2, a3, a4, a5, a6, a7] s.1 s.2) 10 (0, [c0, c1, c2, c3, c4, c5, c6, c7]) =
    some (.next (8, [IntKind.wrap .u32 (a0 + c0), IntKind.wrap .u32 (a1 + c1), IntKind.wrap .u32 (a2 + c2), IntKind.wrap .u32 (a3 + c3), IntKind.wrap .u32 (a4 + c4), IntKind.wrap .u32 (a5 + c5), IntKind.wrap .u32 (a6 + c6), IntKind.wrap .u32 (a7 + c7)])) := by
  have f3 := (Fx (body := fun s : Int × List Int => Bi.b2 [a0, a1, a2, a3, a4, a5, a6, a7] s.1 s.2) (fun _ => True) (fun i w => w.set i (IntKind.wrap .u32 (([a0, a1, a2, a3, a4, a5, a6, a7].getD i 0) + (w.getD i 0)))) 8
    (fun i w hi _ => ⟨by
      show Bi.b2 _ i w = _
      unfold Bi.b2
      rw [if_pos (by simp; omega), if_pos (by omega), Int.add_comm (w.getD _ _)]
      simp (disch := omega) only [Fc]
      rfl, trivial⟩) (fun w => by unfold Bi.b2; rw [if_neg (by simp)]) 8 0 [c0, c1, c2, c3, c4, c5, c6, c7] 10 rfl trivial (by decide)).1
  exact f3.trans rfl
theorem Ng (h : List Int) (b : List UInt8) (hb : b.length = 64) {y z : List Int} {i j : Int} (h1 : Bf (fun s : Int × (List Int) => Bi.b1 (H9 b) s.1 s.2) 66 (0, h) = some (.next (i, y))) (h2 : Bf (fun s : Int × List Int => Bi.b2 h s.1 s.2) 10 (0, y) = some (.next (j, z))) : Bi h b = some z := by
  unfold Bi
  rw [if_neg (by simp [hb])]
  exact Ax (Nw b hb) (Ax h1 (Ax h2 rfl))
theorem Nh (h : List Int) (b : List UInt8) (hb : b.length = 64) {c0 c1 c2 c3 c4 c5 c6 c7 j : Int} (h1 : Bf (fun s : Int × Int × Int × Int × Int × Int × Int × Int × Int => A8.b3 F2 (H9 b) s.1 s.2.1 s.2.2.1 s.2.2.2.1 s.2.2.2.2.1 s.2.2.2.2.2.1 s.2.2.2.2.2.2.1 s.2.2.2.2.2.2.2.1 s.2.2.2.2.2.2.2.2) 66 (h.getD (0 : Int).toNat 0, h.getD (1 : Int).toNat 0, h.getD (2 : Int).toNat 0, h.getD (3 : Int).toNat 0, h.getD (4 : Int).toNat 0, h.getD (5 : Int).toNat 0, h.getD (6 : Int).toNat 0, h.getD (7 : Int).toNat 0, 0) = some (.next (c0, c1, c2, c3, c4, c5, c6, c7, j))) :
    A8 h b = some ([IntKind.wrap .u32 ((h.getD (0 : Int).toNat 0) + c0), IntKind.wrap .u32 ((h.getD (1 : Int).toNat 0) + c1), IntKind.wrap .u32 ((h.getD (2 : Int).toNat 0) + c2), IntKind.wrap .u32 ((h.getD (3 : Int).toNat 0) + c3), IntKind.wrap .u32 ((h.getD (4 : Int).toNat 0) + c4), IntKind.wrap .u32 ((h.getD (5 : Int).toNat 0) + c5), IntKind.wrap .u32 ((h.getD (6 : Int).toNat 0) + c6), IntKind.wrap .u32 ((h.getD (7 : Int).toNat 0) + c7)] ++ List.replicate (8 - 8) 0) := by
  obtain ⟨y, e1, e2⟩ := MJ b hb
  unfold A8
  rw [if_neg (by simp [hb])]
  exact Ax Ob (Ax e1 (Ax e2 (Ax h1 rfl)))
theorem Oe (h : List Int) (b : List UInt8) (hh : h.length = 8) : ∃ y, Bi h b = some y ∧ A8 h b = some y ∧ y.length = 8 := by
  by_cases hb : b.length = 64
  · obtain ⟨a0, a1, a2, a3, a4, a5, a6, a7, rfl⟩ := QV hh
    obtain ⟨c0, c1, c2, c3, c4, c5, c6, c7, f1, f2⟩ := MM (H9 b) a0 a1 a2 a3 a4 a5 a6 a7
    have f3 := O9 a0 a1 a2 a3 a4 a5 a6 a7 c0 c1 c2 c3 c4 c5 c6 c7
    exact ⟨_, Ng _ b hb f1 f3, Nh [a0, a1, a2, a3, a4, a5, a6, a7] b hb f2, rfl⟩
  · unfold Bi A8
    rw [if_pos (by simp; omega), if_pos (by simp; omega)]
    exact ⟨h, rfl, rfl, hh⟩
end

section
set_option linter.unusedVariables false

theorem add_eq (st : AF) (l : List UInt8) (hw : st.BD.length = 8) (hl : st.Bx.length + l.length ≤ CG) : ∃ w r, Bo st l = some ⟨w, r, IntKind.wrap .u64 (st.Cc + (IntKind.wrap .u64 (l.length : Int)))⟩ ∧ Ci st.BD (st.Bx ++ l) = some (w, r) ∧ w.length = 8 ∧ r.length < 64 ∧ ∃ q, r.length + 64 * q = st.Bx.length + l.length := by
  have hmx : CG < 9223372036854775808 := by decide
  obtain ⟨s, t, f1, f2, c, w, r, rfl, rfl, hq⟩ := Ju (b1 := fun s : (List UInt8) × AF => Bo.b1 s.1 s.2) (b2 := fun s : (List (UInt8)) × (List Int) => Ci.b1 s.1 s.2)
    (fun s t => s.2.BD.length = 8 ∧ t = (s.1, s.2.BD) ∧ s.2.Cc = IntKind.wrap .u64 (st.Cc + (IntKind.wrap .u64 (l.length : Int))) ∧ ∃ q, s.1.length + 64 * q = st.Bx.length + l.length)
    (fun s t => ∃ (c : List UInt8) (w : List Int) (r : List UInt8), s = (r, ⟨w, c, IntKind.wrap .u64 (st.Cc + (IntKind.wrap .u64 (l.length : Int)))⟩) ∧ t = (r, w) ∧ w.length = 8 ∧ r.length < 64 ∧ ∃ q, r.length + 64 * q = st.Bx.length + l.length) (fun s => s.1.length / 64)
    (fun s t ⟨h1, h2, h3, q, h4⟩ => by
      subst h2
      obtain ⟨r, w, c, n⟩ := s
      have h1 : w.length = 8 := h1
      have h3 : n = _ := h3
      have h4 : r.length + 64 * q = st.Bx.length + l.length := h4
      subst h3
      by_cases h : 64 ≤ r.length
      · obtain ⟨y, e1, e2, e3⟩ := Oe w ((r.take 64).drop (0 : Int).toNat) h1
        have g1 : Bo.b1 r ⟨w, c, IntKind.wrap .u64 (st.Cc + (IntKind.wrap .u64 (l.length : Int)))⟩ = some (.cont ((r.take (r.length : Int).toNat).drop 64, ⟨y, c, IntKind.wrap .u64 (st.Cc + (IntKind.wrap .u64 (l.length : Int)))⟩)) := by
          unfold Bo.b1
          rw [if_pos (by simp; omega), if_pos (by omega), e1, Option.bind_some, if_pos (by omega)]
        have g2 : Ci.b1 r w = some (.cont ((r.take (r.length : Int).toNat).drop 64, y)) := by
          unfold Ci.b1
          rw [if_pos (by simp; omega), if_pos (by omega), e2, Option.bind_some, if_pos (by omega)]
        refine .inl ⟨_, _, g1, g2, ⟨e3, rfl, rfl, q + 1, by simp; omega⟩, by simp; omega⟩
      · refine .inr ⟨(r, ⟨w, c, IntKind.wrap .u64 (st.Cc + (IntKind.wrap .u64 (l.length : Int)))⟩), (r, w), ?_, ?_, ⟨c, w, r, rfl, rfl, h1, by omega, q, h4⟩⟩
        · show Bo.b1 r _ = _
          unfold Bo.b1; rw [if_neg (by simp; omega)]
        · show Ci.b1 r w = _
          unfold Ci.b1; rw [if_neg (by simp; omega)])
    ((((st.Bx ++ l).length : Int) - 64 : Int).toNat + 2) ((((st.Bx ++ l).length : Int) - 64 : Int).toNat + 2) (st.Bx ++ l, AF.mk st.BD st.Bx (IntKind.wrap .u64 (st.Cc + (IntKind.wrap .u64 (l.length : Int))))) (st.Bx ++ l, st.BD)
    ⟨hw, rfl, rfl, 0, by simp⟩ (by simp; omega) (by simp; omega)
  refine ⟨w, r, ?_, ?_, hq⟩
  · unfold Bo
    rw [if_pos hl]
    exact BB f1 rfl
  · unfold Ci
    exact BB f2 rfl
theorem K6 : ∀ (z k : Nat) (x : List UInt8), (x.length + z) % 64 = 56 → z < 64 → z < k → x.length + z < 140737488355328 → Bf (fun s : List UInt8 => Bt.b1 s) k x = some (.next (x ++ Lib.repeatL [0] z))
  | z, 0, x, _, _, h, _ => by omega
  | 0, k + 1, x, h1, h2, h3, h4 => by
    have e : Bt.b1 x = some (.brk x) := by
      unfold Bt.b1
      rw [if_neg (by rw [Int.tmod_eq_emod_of_nonneg (by omega)]; simp; omega)]
    unfold Bf
    rw [e]
    simp [Lib.repeatL]
  | z + 1, k + 1, x, h1, h2, h3, h4 => by
    have e : Bt.b1 x = some (.cont (x ++ [BA 0])) := by
      unfold Bt.b1
      rw [if_pos (by rw [Int.tmod_eq_emod_of_nonneg (by omega)]; simp; omega), if_pos (by simp [CG]; omega)]
    unfold Bf
    rw [e]
    have h := K6 z k (x ++ [BA 0]) (by simp; omega) (by omega) (by omega) (by simp; omega)
    refine Eq.trans h ?_
    have h0 : BA 0 = 0 := rfl
    simp [Lib.repeatL, h0]
def JT (n : Int) (i : Nat) : UInt8 := BA (IntKind.wrap .u8 (shr .u64 (IntKind.wrap .u64 (8 * n)) (56 - 8 * (i : Int))))
def Hp (n : Int) : List UInt8 := [JT n 0, JT n 1, JT n 2, JT n 3, JT n 4, JT n 5, JT n 6, JT n 7]
theorem Of (st : AF) : Bf (fun s : Int × (List UInt8) => AN.b1 st s.1 s.2) ((8 - 0 : Int).toNat + 2) (0, (List.replicate 8 0)) = some (.next (8, Hp st.Cc)) := by
  have f := (Fx (body := fun s : Int × List UInt8 => AN.b1 st s.1 s.2) (fun _ => True) (fun i w => w.set i (JT st.Cc i)) 8
    (fun i w hi _ => ⟨by
      show AN.b1 st i w = _
      unfold AN.b1
      simp (disch := omega) only [Fc]
      rw [if_pos (by simp; omega), if_pos (by omega), if_pos (by omega)]
      rfl, trivial⟩) (fun w => by unfold AN.b1; rw [if_neg (by simp)]) 8 0 (List.replicate 8 0) 10 rfl trivial (by decide)).1
  exact f.trans rfl
theorem J6 {R σ : Type} {body : Int × σ → Option (CR R (Int × σ))} (I : Nat → σ → Prop) (f : Nat → σ → σ) (n : Nat)
    (hs : ∀ (i : Nat) (s : σ), i < n → I i s → body ((i : Int), s) = some (.cont (((i + 1 : Nat) : Int), f i s)) ∧ I (i + 1) (f i s)) (he : ∀ s, body ((n : Int), s) = some (.brk ((n : Int), s))) :
    ∀ (m i : Nat) (s : σ) (k : Nat), i + m = n → I i s → m < k → Bf body k ((i : Int), s) = some (.next ((n : Int), iter f i m s)) ∧ I n (iter f i m s)
  | 0, i, s, k + 1, h, hI, _ => by
    have : i = n := by omega
    subst this
    unfold Bf
    rw [he]
    exact ⟨rfl, hI⟩
  | m + 1, i, s, k + 1, h, hI, hk => by
    obtain ⟨h1, h2⟩ := hs i s (by omega) hI
    unfold Bf
    rw [h1]
    exact J6 I f n hs he m (i + 1) (f i s) k (by omega) h2 (by omega)
theorem Og (n : Int) (x : List UInt8) (hx : x.length < 140737488355000) : Bf (fun s : Int × (List UInt8) => Bt.b2 n s.1 s.2) ((8 - 0 : Int).toNat + 2) (0, x) = some (.next (8, x ++ Hp n)) := by
  have f := (J6 (body := fun s : Int × List UInt8 => Bt.b2 n s.1 s.2) (fun i w => w.length = x.length + i) (fun i w => w ++ [JT n i]) 8
    (fun i w hi hw => ⟨by
      show Bt.b2 n i w = _
      unfold Bt.b2
      simp (disch := omega) only [Fc, GL]
      rw [if_pos (by simp; omega), if_pos (by simp [CG]; omega)]
      rfl, by simp; omega⟩) (fun w => by unfold Bt.b2; rw [if_neg (by simp)]) 8 0 x 10 rfl rfl (by decide)).1
  refine Eq.trans f ?_
  simp [iter, Hp]
def O3 (h : List Int) (i j : Nat) : UInt8 := BA (IntKind.wrap .u8 (shr .u32 (h.getD i 0) (24 - 8 * (j : Int))))
theorem OP (h : List Int) (r : List UInt8) : Bf (fun s : Int × (List UInt8) => Bt.b3 (h, r) s.1 s.2) ((32 - 0 : Int).toNat + 2) (0, (List.replicate 32 0)) = some (.next (32, iter (fun i w => w.set i (O3 h (i / 4) (i % 4))) 0 32 (List.replicate 32 0))) := by
  have f := (Fx (body := fun s : Int × List UInt8 => Bt.b3 (h, r) s.1 s.2) (fun _ => True) (fun i w => w.set i (O3 h (i / 4) (i % 4))) 32
    (fun i w hi _ => ⟨by
      show Bt.b3 (h, r) i w = _
      unfold Bt.b3
      have e1 : ((i : Int).tdiv 4) = ((i / 4 : Nat) : Int) := by rw [Int.tdiv_eq_ediv_of_nonneg (by omega)]; simp
      have e2 : ((i : Int).tmod 4) = ((i % 4 : Nat) : Int) := by rw [Int.tmod_eq_emod_of_nonneg (by omega)]; simp
      rw [e1, e2]
      simp (disch := omega) only [Fc, GL]
      rw [if_pos (by simp; omega), if_pos (by omega), if_pos (by omega)]
      rfl, trivial⟩) (fun w => by unfold Bt.b3; rw [if_neg (by simp)]) 32 0 (List.replicate 32 0) 34 rfl trivial (by decide)).1
  exact f
theorem NL (st : AF) (i : Nat) (hi : i < 8) (w : List UInt8) : Bf (fun s : Int × (List UInt8) => AN.b3 st (i : Int) s.1 s.2) ((4 - 0 : Int).toNat + 2) (0, w) = some (.next (4, iter (fun j w => w.set (4 * i + j) (O3 st.BD i j)) 0 4 w)) := by
  have f := (Fx (body := fun s : Int × List UInt8 => AN.b3 st (i : Int) s.1 s.2) (fun _ => True) (fun j w => w.set (4 * i + j) (O3 st.BD i j)) 4
    (fun j w hj _ => ⟨by
      show AN.b3 st i j w = _
      unfold AN.b3
      simp (disch := omega) only [Fc]
      rw [if_pos (by simp; omega), if_pos (by omega), if_pos (by omega)]
      have e : (4 * (i : Int) + (j : Int)).toNat = 4 * i + j := by omega
      rw [e]
      rfl, trivial⟩) (fun w => by unfold AN.b3; rw [if_neg (by simp)]) 4 0 w 6 rfl trivial (by decide)).1
  exact f
theorem OO (st : AF) : Bf (fun s : Int × (List UInt8) => AN.b2 st s.1 s.2) ((8 - 0 : Int).toNat + 2) (0, (List.replicate 32 0)) = some (.next (8, iter (fun i w => iter (fun j w => w.set (4 * i + j) (O3 st.BD i j)) 0 4 w) 0 8 (List.replicate 32 0))) := by
  have f := (Fx (body := fun s : Int × List UInt8 => AN.b2 st s.1 s.2) (fun _ => True) (fun i w => iter (fun j w => w.set (4 * i + j) (O3 st.BD i j)) 0 4 w) 8
    (fun i w hi _ => ⟨by
      show AN.b2 st i w = _
      unfold AN.b2
      rw [if_pos (by simp; omega), if_pos (by omega)]
      simp (disch := omega) only [Fc]
      exact BB (NL st i hi w) rfl, trivial⟩) (fun w => by unfold AN.b2; rw [if_neg (by simp)]) 8 0 (List.replicate 32 0) 10 rfl trivial (by decide)).1
  exact f
theorem NM (h : List Int) : iter (fun i w => iter (fun j w => w.set (4 * i + j) (O3 h i j)) 0 4 w) 0 8 (List.replicate 32 0) = iter (fun i w => w.set i (O3 h (i / 4) (i % 4))) 0 32 (List.replicate 32 0) := by
  simp only [iter]
theorem OQ (h : List Int) : (iter (fun i w => w.set i (O3 h (i / 4) (i % 4))) 0 32 (List.replicate 32 0)).length = 32 := by simp [iter]
theorem Qk (st : AF) (hw : st.BD.length = 8) (hr : st.Bx.length < 64) : ∃ d, AN st = some d ∧ Bt st.BD st.Bx st.Cc = some d ∧ d.length = 32 := by
  have ht : (st.Bx.length : Int).tmod 64 = st.Bx.length := by rw [Int.tmod_eq_emod_of_nonneg (by omega)]; omega
  have hwr : IntKind.wrap .i64 (119 - ((st.Bx.length : Int).tmod 64)) = 119 - st.Bx.length := by rw [ht]; exact Fc (by omega)
  have ht2 : (119 - (st.Bx.length : Int)).tmod 64 = (119 - (st.Bx.length : Int)) % 64 := Int.tmod_eq_emod_of_nonneg (by omega)
  have hrep : ∀ n : Nat, (Lib.repeatL [0] n).length = n := fun n => by rw [Lib.repeatL_length]; simp
  generalize hz : ((119 - (st.Bx.length : Int)) % 64).toNat = z
  have hz2 : z < 64 := by omega
  have hz3 : (st.Bx.length + 1 + z) % 64 = 56 := by omega
  obtain ⟨w, r, e1, e2, e3, e4, _⟩ := add_eq st (([128] ++ Lib.repeatL [0] z) ++ Hp st.Cc) hw (by simp only [List.length_append, hrep]; simp [CG, Hp]; omega)
  refine ⟨_, ?_, ?_, OQ w⟩
  · unfold AN
    refine BB (Of st) ?_
    show (if _ then _ else _) = _
    rw [hwr, ht2, hz, if_pos (by simp; omega), if_pos (by rw [hrep]; simp [CG]; omega), if_pos (by rw [List.length_append, hrep]; simp [CG]; omega)]
    have e8 : (Hp st.Cc).take ((8 : Int).toNat - (0 : Int).toNat) = Hp st.Cc := rfl
    rw [e8]
    refine Ax e1 (BB (OO _) ?_)
    exact congrArg some (NM w)
  · unfold Bt
    rw [if_pos (by simp [CG]; omega), if_pos (by simp [CG]; omega)]
    refine BB (K6 z 100000 _ (by simp; omega) hz2 (by omega) (by simp; omega)) (BB (Og st.Cc _ (by simp only [List.length_append, hrep]; simp; omega)) ?_)
    have hl : (([] : List UInt8) ++ st.Bx ++ [BA 128] ++ Lib.repeatL [0] z) ++ Hp st.Cc = st.Bx ++ (([128] ++ Lib.repeatL [0] z) ++ Hp st.Cc) := by
      have : BA 128 = 128 := rfl
      simp [this]
    show Option.bind (Ci st.BD ((([] : List UInt8) ++ st.Bx ++ [BA 128] ++ Lib.repeatL [0] z) ++ Hp st.Cc)) _ = _
    rw [hl]
    exact Ax e2 (BB (OP w r) rfl)
theorem PQ (l : List UInt8) (hl : l.length ≤ CG) : ∃ d, CB [l] = some d ∧ FL l = some d ∧ d.length = 32 := by
  obtain ⟨w, r, e1, e2, e3, e4, _⟩ := add_eq (AF.mk E7 [] 0) l (by simp [E7]) (by simpa using hl)
  have hmx : CG = 9223372036854775807 := by decide
  obtain ⟨d, f1, f2, f3⟩ := Qk ⟨w, r, IntKind.wrap .u64 (0 + (IntKind.wrap .u64 (l.length : Int)))⟩ e3 e4
  refine ⟨d, ?_, ?_, f3⟩
  · have hloop : Bf (fun s : Int × AF => CB.b1 [l] s.1 s.2) (((([l] : List (List UInt8)).length : Int) - 0 : Int).toNat + 2) (0, AF.mk E7 [] 0) = some (.next (1, ⟨w, r, IntKind.wrap .u64 (0 + (IntKind.wrap .u64 (l.length : Int)))⟩)) := by
      show Bf _ 3 _ = _
      unfold Bf
      have hb0 : CB.b1 [l] 0 (AF.mk E7 [] 0) = some (.cont (1, ⟨w, r, IntKind.wrap .u64 (0 + (IntKind.wrap .u64 (l.length : Int)))⟩)) := by
        unfold CB.b1
        rw [if_pos (by simp), if_pos (by simp)]
        exact Ax e1 rfl
      have hb1 : ∀ st, CB.b1 [l] 1 st = some (.brk (1, st)) := by
        intro st
        unfold CB.b1
        rw [if_neg (by simp)]
      simp only [hb0]
      unfold Bf
      simp only [hb1]
    unfold CB Gl
    exact Ax rfl (BB hloop (Ax f1 rfl))
  · have hc : (IntKind.wrap .u64 (0 + (IntKind.wrap .u64 (l.length : Int)))) = IntKind.wrap .u64 (l.length : Int) := by
      rw [Int.zero_add, GL (x := (l.length : Int)) (by omega), GL (by omega)]
    unfold FL
    refine Ax N0 (Ax e2 (Ax ?_ rfl))
    rw [← hc]
    exact f2
end

section
set_option linter.unusedVariables false

theorem Mb (x : Nat) : (BA (IntKind.wrap .u8 ((x % 256 : Nat) : Int))).toNat = x % 256 := by
  simp only [IntKind.wrap, IntKind.bits, IntKind.signed, BA]
  simp
  omega
theorem G9 (x : Nat) (i : Nat) (w : List UInt8) (hx : x < 18446744073709551616) (hi : i < 4) : CD.b1 (x : Int) (i : Int) w = some (.cont (((x / 256 : Nat) : Int), (i : Int) - 1, w.set i (BA (IntKind.wrap .u8 ((x % 256 : Nat) : Int))))) := by
  unfold CD.b1
  rw [if_pos (by simp), if_pos (by omega)]
  have e1 : (x : Int).tdiv 256 = ((x / 256 : Nat) : Int) := by rw [Int.tdiv_eq_ediv_of_nonneg (by omega)]; simp
  have e2 : (x : Int).tmod 256 = ((x % 256 : Nat) : Int) := by rw [Int.tmod_eq_emod_of_nonneg (by omega)]; simp
  rw [e1, e2]
  simp (disch := omega) only [Fc, GL]
  rfl
theorem NF (x : Int) (w : List UInt8) : CD.b1 x (-1) w = some (.brk (x, -1, w)) := by
  unfold CD.b1
  rw [if_neg (by simp)]
theorem Hb {R S : Type} {body : S → Option (CR R S)} (k : Nat) {s s' : S} {r : Option (Qw R S)} (h1 : body s = some (.cont s')) (h2 : Bf body k s' = r) : Bf body (k + 1) s = r := by
  unfold Bf
  rw [h1]
  exact h2
theorem NV {R S : Type} {body : S → Option (CR R S)} (k : Nat) {s s' : S} (h1 : body s = some (.brk s')) : Bf body (k + 1) s = some (.next s') := by
  unfold Bf
  rw [h1]
theorem K5 (n : Nat) (hn : n < 18446744073709551616) : CD (n : Int) 4 = some (JS n) := by
  have hloop : Bf (fun s : Int × Int × (List UInt8) => CD.b1 s.1 s.2.1 s.2.2) (((IntKind.wrap .i64 (4 - 1)) - 0 : Int).toNat + 2) ((n : Int), IntKind.wrap .i64 (4 - 1), (List.replicate 8 0)) =
      some (.next (((n / 256 / 256 / 256 / 256 : Nat) : Int), -1, [BA (IntKind.wrap .u8 ((n / 256 / 256 / 256 % 256 : Nat) : Int)), BA (IntKind.wrap .u8 ((n / 256 / 256 % 256 : Nat) : Int)), BA (IntKind.wrap .u8 ((n / 256 % 256 : Nat) : Int)), BA (IntKind.wrap .u8 ((n % 256 : Nat) : Int)), 0, 0, 0, 0])) := by
    have k3 : IntKind.wrap .i64 (4 - 1) = ((3 : Nat) : Int) := by decide
    rw [k3]
    show Bf _ 5 _ = _
    have s0 := G9 n 3 (List.replicate 8 0) hn (by decide)
    have s1 := G9 (n / 256) 2 [0, 0, 0, BA (IntKind.wrap .u8 ((n % 256 : Nat) : Int)), 0, 0, 0, 0] (by omega) (by decide)
    have s2 := G9 (n / 256 / 256) 1 [0, 0, BA (IntKind.wrap .u8 ((n / 256 % 256 : Nat) : Int)), BA (IntKind.wrap .u8 ((n % 256 : Nat) : Int)), 0, 0, 0, 0] (by omega) (by decide)
    have s3 := G9 (n / 256 / 256 / 256) 0 [0, BA (IntKind.wrap .u8 ((n / 256 / 256 % 256 : Nat) : Int)), BA (IntKind.wrap .u8 ((n / 256 % 256 : Nat) : Int)), BA (IntKind.wrap .u8 ((n % 256 : Nat) : Int)), 0, 0, 0, 0] (by omega) (by decide)
    exact Hb 4 s0 (Hb 3 s1 (Hb 2 s2 (Hb 1 s3 (NV 0 (NF _ _)))))
  unfold CD
  refine BB hloop ?_
  show (if _ then _ else _) = _
  rw [if_pos (by decide), if_pos (by decide)]
  have e0 : BA (IntKind.wrap .u8 (shr .u64 (n : Int) 24)) = BA (IntKind.wrap .u8 ((n / 256 / 256 / 256 % 256 : Nat) : Int)) := UInt8.toNat_inj.1 (by rw [byteOf (q := 16777216) (by decide) (by decide), Mb]; omega)
  have e1 : BA (IntKind.wrap .u8 (shr .u64 (n : Int) 16)) = BA (IntKind.wrap .u8 ((n / 256 / 256 % 256 : Nat) : Int)) := UInt8.toNat_inj.1 (by rw [byteOf (q := 65536) (by decide) (by decide), Mb]; omega)
  have e2 : BA (IntKind.wrap .u8 (shr .u64 (n : Int) 8)) = BA (IntKind.wrap .u8 ((n / 256 % 256 : Nat) : Int)) := UInt8.toNat_inj.1 (by rw [byteOf (q := 256) (by decide) (by decide), Mb])
  have e3 : BA (IntKind.wrap .u8 (shr .u64 (n : Int) 0)) = BA (IntKind.wrap .u8 ((n % 256 : Nat) : Int)) := UInt8.toNat_inj.1 (by rw [byteOf (q := 1) (by decide) (by decide), Mb]; omega)
  unfold JS
  rw [e0, e1, e2, e3]
  rfl
theorem HK (p : List UInt8) (h : p.length < 4294967296) : EB p = some (JS p.length ++ p) := by
  unfold EB
  rw [GL (by omega), K5 _ (by omega)]
  refine Ax rfl ?_
  rw [if_pos (by simp only [JS, List.length_cons, List.length_nil, CG]; omega)]
theorem MR (d : Int) (ps : List (List UInt8)) (hp : ∀ p ∈ ps, p.length < 4294967296) (hl : (enc ps).length + 1 ≤ 140737488355328) (hn : ps.length < 4294967296) : CM d ps = some (BA d :: enc ps) := by
  obtain ⟨c, h1, h2⟩ := CC (body := fun s : (List UInt8) × Int => CM.b1 ps s.1 s.2) (fun s => ∃ i : Nat, i ≤ ps.length ∧ s = (BA d :: enc (ps.take i), (i : Int)))
    (fun c => match c with | .next s => s.1 = BA d :: enc ps | .ret _ => False) (fun s => (ps.length - s.2).toNat)
    (fun s ⟨i, hi, hs⟩ => by
      subst hs
      show (∃ s', CM.b1 ps (BA d :: enc (ps.take i)) (i : Int) = some (.cont s') ∧ _) ∨ (∃ s', CM.b1 ps (BA d :: enc (ps.take i)) (i : Int) = some (.brk s') ∧ _) ∨ _
      unfold CM.b1
      by_cases h : i < ps.length
      · have g : ps.getD (i : Int).toNat default = ps[i] := by simp [List.getD, h]
        have htk : ps.take (i + 1) = ps.take i ++ [ps[i]] := List.take_succ_eq_append_getElem h
        have hbound : (enc (ps.take (i + 1))).length ≤ (enc ps).length := by
          have : ps = ps.take (i + 1) ++ ps.drop (i + 1) := (List.take_append_drop _ _).symm
          conv => rhs; rw [this, Fl]
          simp
        rw [htk, Fl] at hbound
        rw [if_pos (by simpa using h), if_pos (by omega), g, HK _ (hp _ (List.getElem_mem h)), Option.bind_some, if_pos (by simp only [enc, CG, List.length_append, List.length_cons, List.append_nil] at hbound ⊢; omega), Fc (by omega)]
        refine .inl ⟨_, rfl, ⟨i + 1, by omega, ?_⟩, by simp; omega⟩
        rw [htk, Fl]
        simp [enc]
      · rw [if_neg (by simpa using h)]
        have : i = ps.length := by omega
        subst this
        exact .inr (.inl ⟨_, rfl, by simp⟩)) (((ps.length : Int) - 0 : Int).toNat + 2) ([BA d], 0) ⟨0, by omega, rfl⟩ (by simp)
  unfold CM
  cases c with
  | ret r => exact h2.elim
  | next s =>
    refine BB h1 ?_
    obtain ⟨x, y⟩ := s
    have h2 : x = _ := h2
    rw [h2]
end
end Go.Proofs.YteboiefnflipjaaGreatDoor
