/- Plain laws: P4b, P4c, P5a, as one text. -/
import Derived.Test.YtklikgigjdgjaaaGreatDoorRRRP7
import Derived.Test.YtklikgigjdgjaaaGreatDoorRRRP7
namespace Go.Proofs.YtklikgigjdgjaaaGreatDoorRRR
open Go Go.RowKit Go.Proofs
section
set_option linter.unusedVariables false

theorem rot_7 (x : Int) : bits_RotateLeft32 x (-7) = ref01_turn x 7 := congrArg some ((or_comm32 _ _).trans rfl)
theorem rot_18 (x : Int) : bits_RotateLeft32 x (-18) = ref01_turn x 18 := congrArg some ((or_comm32 _ _).trans rfl)
theorem rot_17 (x : Int) : bits_RotateLeft32 x (-17) = ref01_turn x 17 := congrArg some ((or_comm32 _ _).trans rfl)
theorem rot_19 (x : Int) : bits_RotateLeft32 x (-19) = ref01_turn x 19 := congrArg some ((or_comm32 _ _).trans rfl)
theorem rot_6 (x : Int) : bits_RotateLeft32 x (-6) = ref01_turn x 6 := congrArg some ((or_comm32 _ _).trans rfl)
theorem rot_11 (x : Int) : bits_RotateLeft32 x (-11) = ref01_turn x 11 := congrArg some ((or_comm32 _ _).trans rfl)
theorem rot_25 (x : Int) : bits_RotateLeft32 x (-25) = ref01_turn x 25 := congrArg some ((or_comm32 _ _).trans rfl)
theorem rot_2 (x : Int) : bits_RotateLeft32 x (-2) = ref01_turn x 2 := congrArg some ((or_comm32 _ _).trans rfl)
theorem rot_13 (x : Int) : bits_RotateLeft32 x (-13) = ref01_turn x 13 := congrArg some ((or_comm32 _ _).trans rfl)
theorem rot_22 (x : Int) : bits_RotateLeft32 x (-22) = ref01_turn x 22 := congrArg some ((or_comm32 _ _).trans rfl)
theorem inot_eq (x : Int) : inot .u32 x = bits .xor .u32 4294967295 x := by
  rfl
/-- Two counting loops that go together. -/
theorem loop_sim {R1 S1 R2 S2 : Type} {b1 : S1 → Option (Flow R1 S1)} {b2 : S2 → Option (Flow R2 S2)} (R : S1 → S2 → Prop) (Q : S1 → S2 → Prop) (m : S1 → Nat)
    (h : ∀ s t, R s t → (∃ s' t', b1 s = some (.cont s') ∧ b2 t = some (.cont t') ∧ R s' t' ∧ m s' < m s) ∨ (∃ s' t', b1 s = some (.brk s') ∧ b2 t = some (.brk t') ∧ Q s' t')) :
    ∀ (k1 k2 : Nat) (s : S1) (t : S2), R s t → m s < k1 → m s < k2 → ∃ s' t', loopN b1 k1 s = some (.next s') ∧ loopN b2 k2 t = some (.next t') ∧ Q s' t'
  | 0, _, s, t, hR, h1, _ => by omega
  | _, 0, s, t, hR, _, h2 => by omega
  | k1 + 1, k2 + 1, s, t, hR, h1, h2 => by
    unfold loopN
    rcases h s t hR with ⟨s', t', e1, e2, e3, e4⟩ | ⟨s', t', e1, e2, e3⟩
    · rw [e1, e2]
      exact loop_sim R Q m h k1 k2 s' t' e3 (by omega) (by omega)
    · rw [e1, e2]
      exact ⟨s', t', rfl, rfl, e3⟩
def word (b : List UInt8) (i : Nat) : Int := IntKind.wrap .u32 ((IntKind.wrap .u32 ((IntKind.wrap .u32 ((IntKind.wrap .u32 ((IntKind.wrap .u32 ((b.getD (4 * i) default).toNat)) * 16777216)) + (IntKind.wrap .u32 ((IntKind.wrap .u32 ((b.getD (4 * i + 1) default).toNat)) * 65536)))) + (IntKind.wrap .u32 ((IntKind.wrap .u32 ((b.getD (4 * i + 2) default).toNat)) * 256)))) + (IntKind.wrap .u32 ((b.getD (4 * i + 3) default).toNat)))
def sig0 (x : Int) : Int := bits .xor .u32 (bits .xor .u32 ((ref01_turn x 7).getD 0) ((ref01_turn x 18).getD 0)) (shr .u32 x 3)
def sig1 (x : Int) : Int := bits .xor .u32 (bits .xor .u32 ((ref01_turn x 17).getD 0) ((ref01_turn x 19).getD 0)) (shr .u32 x 10)
def more (w : List Int) (i : Nat) : Int := IntKind.wrap .u32 ((IntKind.wrap .u32 ((IntKind.wrap .u32 ((w.getD (i - 16) 0) + sig0 (w.getD (i - 15) 0))) + (w.getD (i - 7) 0))) + sig1 (w.getD (i - 2) 0))
theorem sched1 (b : List UInt8) (hb : b.length = 64) (i : Nat) (w : List Int) (hi : i < 16) : sha_schedule.b1 b i w = some (.cont (((i + 1 : Nat) : Int), w.set i (word b i))) := by
  unfold sha_schedule.b1
  rw [if_pos (by simp; omega), if_pos (by simp; omega)]
  simp (disch := omega) only [w64]
  have hlen : ((b.take (4 * (i : Int) + 4).toNat).drop (4 * (i : Int)).toNat).length = 4 := by simp; omega
  have hg : ∀ k : Nat, k < 4 → ((b.take (4 * (i : Int) + 4).toNat).drop (4 * (i : Int)).toNat).getD k 0 = b.getD (4 * i + k) default := by
    intro k hk
    have e1 : (4 * (i : Int)).toNat = 4 * i := by omega
    have e2 : (4 * (i : Int) + 4).toNat = 4 * i + 4 := by omega
    rw [e1, e2]
    have h1 : 4 * i + k < b.length := by omega
    simp [List.getD, List.getElem?_take, h1]
    rw [if_pos (by omega)]
    rfl
  rw [if_pos (by omega), if_pos (by rw [hlen]; omega), if_pos (by rw [hlen]; omega), if_pos (by rw [hlen]; omega), if_pos (by rw [hlen]; omega), if_pos (by omega)]
  have g0 := hg 0 (by decide)
  have g1 := hg 1 (by decide)
  have g2 := hg 2 (by decide)
  have g3 := hg 3 (by decide)
  have e0 : (0 : Int).toNat = 0 := rfl
  have e1 : (1 : Int).toNat = 1 := rfl
  have e2 : (2 : Int).toNat = 2 := rfl
  have e3 : (3 : Int).toNat = 3 := rfl
  rw [e0, e1, e2, e3, g0, g1, g2, g3]
  rw [word_eq _ _ _ _ (UInt8.toNat_lt _) (UInt8.toNat_lt _) (UInt8.toNat_lt _) (UInt8.toNat_lt _)]
  rfl
theorem sched1' (b : List UInt8) (hb : b.length = 64) (i : Nat) (w : List Int) (hi : i < 16) : ref01_Block.b1 b i w = some (.cont (((i + 1 : Nat) : Int), w.set i (word b i))) := by
  unfold ref01_Block.b1
  rw [if_pos (by simp; omega)]
  simp (disch := omega) only [w64]
  rw [if_pos (by omega), if_pos (by omega), if_pos (by omega), if_pos (by omega), if_pos (by omega)]
  have e0 : (4 * (i : Int)).toNat = 4 * i := by omega
  have e1 : (4 * (i : Int) + 1).toNat = 4 * i + 1 := by omega
  have e2 : (4 * (i : Int) + 2).toNat = 4 * i + 2 := by omega
  have e3 : (4 * (i : Int) + 3).toNat = 4 * i + 3 := by omega
  rw [e0, e1, e2, e3]
  rfl
theorem sched2 (b : List UInt8) (i : Nat) (w : List Int) (hi : 16 ≤ i ∧ i < 64) : sha_schedule.b1 b i w = some (.cont (((i + 1 : Nat) : Int), w.set i (more w i))) := by
  unfold sha_schedule.b1
  rw [if_pos (by simp; omega), if_neg (by simp; omega)]
  simp (disch := omega) only [w64]
  rw [if_pos (by omega), if_pos (by omega)]
  rw [rot_7, rot_18, rot_17, rot_19]
  simp only [ref01_turn, Option.bind_some]
  rw [if_pos (by omega), if_pos (by omega), if_pos (by omega)]
  have e0 : ((i : Int) - 16).toNat = i - 16 := by omega
  have e1 : ((i : Int) - 15).toNat = i - 15 := by omega
  have e2 : ((i : Int) - 7).toNat = i - 7 := by omega
  have e3 : ((i : Int) - 2).toNat = i - 2 := by omega
  rw [e0, e1, e2, e3]
  rfl
theorem sched2' (i : Nat) (w : List Int) (hi : 16 ≤ i ∧ i < 64) : ref01_Block.b2 i w = some (.cont (((i + 1 : Nat) : Int), w.set i (more w i))) := by
  unfold ref01_Block.b2
  rw [if_pos (by simp; omega)]
  simp (disch := omega) only [w64]
  rw [if_pos (by omega)]
  simp only [ref01_turn, Option.bind_some]
  rw [if_pos (by omega), if_pos (by omega), if_pos (by omega), if_pos (by omega)]
  have e0 : ((i : Int) - 16).toNat = i - 16 := by omega
  have e1 : ((i : Int) - 15).toNat = i - 15 := by omega
  have e2 : ((i : Int) - 7).toNat = i - 7 := by omega
  have e3 : ((i : Int) - 2).toNat = i - 2 := by omega
  rw [e0, e1, e2, e3]
  rfl
def schedF (b : List UInt8) (i : Nat) (w : List Int) : List Int := w.set i (if i < 16 then word b i else more w i)
def schedW (b : List UInt8) : List Int := iter (schedF b) 0 64 (List.replicate 64 0)
theorem sched_eq (b : List UInt8) (hb : b.length = 64) : sha_schedule b = some (schedW b) := by
  have h := (loop_for (body := fun s : Int × List Int => sha_schedule.b1 b s.1 s.2) (fun _ => True) (schedF b) 64
    (fun i w hi _ => ⟨by
      show sha_schedule.b1 b i w = _
      unfold schedF
      by_cases h : i < 16
      · rw [if_pos h]; exact sched1 b hb i w h
      · rw [if_neg h]; exact sched2 b i w ⟨by omega, hi⟩, trivial⟩)
    (fun w => by unfold sha_schedule.b1; rw [if_neg (by simp)]) 64 0 (List.replicate 64 0) 66 rfl trivial (by decide)).1
  unfold sha_schedule
  have h' : loopN (fun s : Int × (List Int) => sha_schedule.b1 b s.1 s.2) ((64 - 0 : Int).toNat + 2) (0, (List.replicate 64 0)) = _ := h
  rw [h']
  rfl
theorem loop_from {R σ : Type} {body : Int × σ → Option (Flow R (Int × σ))} (I : σ → Prop) (f : Nat → σ → σ) (lo n : Nat)
    (hs : ∀ (i : Nat) (s : σ), lo ≤ i → i < n → I s → body ((i : Int), s) = some (.cont (((i + 1 : Nat) : Int), f i s)) ∧ I (f i s)) (he : ∀ s, body ((n : Int), s) = some (.brk ((n : Int), s))) :
    ∀ (m i : Nat) (s : σ) (k : Nat), lo ≤ i → i + m = n → I s → m < k → loopN body k ((i : Int), s) = some (.next ((n : Int), iter f i m s)) ∧ I (iter f i m s)
  | 0, i, s, k + 1, hl, h, hI, _ => by
    have : i = n := by omega
    subst this
    unfold loopN
    rw [he]
    exact ⟨rfl, hI⟩
  | m + 1, i, s, k + 1, hl, h, hI, hk => by
    obtain ⟨h1, h2⟩ := hs i s hl (by omega) hI
    unfold loopN
    rw [h1]
    exact loop_from I f lo n hs he m (i + 1) (f i s) k (by omega) (by omega) h2 (by omega)
theorem sched_ref (b : List UInt8) (hb : b.length = 64) : ∃ y, loopN (fun s : Int × (List Int) => ref01_Block.b1 b s.1 s.2) ((16 - 0 : Int).toNat + 2) (0, (List.replicate 64 0)) = some (.next (16, y)) ∧
    loopN (fun s : Int × (List Int) => ref01_Block.b2 s.1 s.2) ((64 - 16 : Int).toNat + 2) (16, y) = some (.next (64, schedW b)) := by
  have h1 := (loop_for (body := fun s : Int × List Int => ref01_Block.b1 b s.1 s.2) (fun _ => True) (schedF b) 16
    (fun i w hi _ => ⟨by unfold schedF; rw [if_pos hi]; exact sched1' b hb i w hi, trivial⟩) (fun w => by unfold ref01_Block.b1; rw [if_neg (by simp)]) 16 0 (List.replicate 64 0) 18 rfl trivial (by decide)).1
  have h2 := (loop_from (body := fun s : Int × List Int => ref01_Block.b2 s.1 s.2) (fun _ => True) (schedF b) 16 64
    (fun i w hl hi _ => ⟨by unfold schedF; rw [if_neg (by omega)]; exact sched2' i w ⟨hl, hi⟩, trivial⟩) (fun w => by unfold ref01_Block.b2; rw [if_neg (by simp)]) 48 16 (iter (schedF b) 0 16 (List.replicate 64 0)) 50 (by decide) rfl trivial (by decide)).1
  refine ⟨_, h1, ?_⟩
  have h3 : iter (schedF b) 16 48 (iter (schedF b) 0 16 (List.replicate 64 0)) = schedW b := (iter_add (schedF b) 16 48 0 (List.replicate 64 0)).symm
  rw [h3] at h2
  exact h2
def tmp1 (W : List Int) (e f g h : Int) (i : Nat) : Int := IntKind.wrap .u32 ((IntKind.wrap .u32 ((IntKind.wrap .u32 ((IntKind.wrap .u32 (h + (bits .xor .u32 (bits .xor .u32 ((ref01_turn e 6).getD 0) ((ref01_turn e 11).getD 0)) ((ref01_turn e 25).getD 0)))) + (bits .xor .u32 (bits .and .u32 e f) (bits .and .u32 (bits .xor .u32 4294967295 e) g)))) + (gConst.getD i 0))) + (W.getD i 0))
def tmp2 (a b c : Int) : Int := bits .xor .u32 (bits .xor .u32 ((ref01_turn a 2).getD 0) ((ref01_turn a 13).getD 0)) ((ref01_turn a 22).getD 0)
def maj (a b c : Int) : Int := bits .xor .u32 (bits .xor .u32 (bits .and .u32 a b) (bits .and .u32 a c)) (bits .and .u32 b c)
theorem round_ref (W : List Int) (a b c d e f g h : Int) (i : Nat) (hi : i < 64) :
    ref01_Block.b3 gConst W a b c d e f g h i = some (.cont (IntKind.wrap .u32 (tmp1 W e f g h i + IntKind.wrap .u32 (tmp2 a b c + maj a b c)), a, b, c, IntKind.wrap .u32 (d + tmp1 W e f g h i), e, f, g, ((i + 1 : Nat) : Int))) := by
  unfold ref01_Block.b3
  rw [if_pos (by simp; omega)]
  simp only [ref01_turn, Option.bind_some]
  rw [if_pos (by omega)]
  simp (disch := omega) only [w64]
  rfl
theorem wrap_add3 (x y z : Int) : IntKind.wrap .u32 (IntKind.wrap .u32 (x + y) + z) = IntKind.wrap .u32 (x + IntKind.wrap .u32 (y + z)) := by
  simp only [IntKind.wrap, IntKind.bits, IntKind.signed]
  simp
  omega
theorem round_sha (W : List Int) (a b c d e f g h : Int) (i : Nat) (hi : i < 64) :
    sha_Block.b1 W i [a, b, c, d, e, f, g, h] = some (.cont (((i + 1 : Nat) : Int), [IntKind.wrap .u32 (tmp1 W e f g h i + IntKind.wrap .u32 (tmp2 a b c + maj a b c)), a, b, c, IntKind.wrap .u32 (d + tmp1 W e f g h i), e, f, g])) := by
  rw [← wrap_add3]
  unfold sha_Block.b1
  rw [if_pos (by simp; omega)]
  simp only [rot_2, rot_13, rot_22, rot_6, rot_11, rot_25, ref01_turn, Option.bind_some]
  rw [if_pos (by omega)]
  simp (disch := omega) only [w64]
  simp only [inot_eq]
  rfl
theorem list8 {x : List Int} (h : x.length = 8) : ∃ a b c d e f g i, x = [a, b, c, d, e, f, g, i] := by
  match x, h with
  | [a, b, c, d, e, f, g, i], _ => exact ⟨a, b, c, d, e, f, g, i, rfl⟩
theorem const_eq : ref01_constants = some gConst := rfl
theorem first_eq : ref01_First = some gFirst := rfl
theorem rounds_eq (W : List Int) (a0 a1 a2 a3 a4 a5 a6 a7 : Int) : ∃ c0 c1 c2 c3 c4 c5 c6 c7 : Int, loopN (fun s : Int × (List Int) => sha_Block.b1 W s.1 s.2) 66 (0, [a0, a1, a2, a3, a4, a5, a6, a7]) = some (.next (64, [c0, c1, c2, c3, c4, c5, c6, c7])) ∧
    loopN (fun s : Int × Int × Int × Int × Int × Int × Int × Int × Int => ref01_Block.b3 gConst W s.1 s.2.1 s.2.2.1 s.2.2.2.1 s.2.2.2.2.1 s.2.2.2.2.2.1 s.2.2.2.2.2.2.1 s.2.2.2.2.2.2.2.1 s.2.2.2.2.2.2.2.2) 66 (a0, a1, a2, a3, a4, a5, a6, a7, 0) = some (.next (c0, c1, c2, c3, c4, c5, c6, c7, 64)) := by
  obtain ⟨s, t, f1, f2, c0, c1, c2, c3, c4, c5, c6, c7, rfl, rfl⟩ := loop_sim (b1 := fun s : Int × (List Int) => sha_Block.b1 W s.1 s.2) (b2 := fun s : Int × Int × Int × Int × Int × Int × Int × Int × Int => ref01_Block.b3 gConst W s.1 s.2.1 s.2.2.1 s.2.2.2.1 s.2.2.2.2.1 s.2.2.2.2.2.1 s.2.2.2.2.2.2.1 s.2.2.2.2.2.2.2.1 s.2.2.2.2.2.2.2.2)
    (fun s t => ∃ (i : Nat) (c0 c1 c2 c3 c4 c5 c6 c7 : Int), i ≤ 64 ∧ s = ((i : Int), [c0, c1, c2, c3, c4, c5, c6, c7]) ∧ t = (c0, c1, c2, c3, c4, c5, c6, c7, (i : Int)))
    (fun s t => ∃ (c0 c1 c2 c3 c4 c5 c6 c7 : Int), s = (64, [c0, c1, c2, c3, c4, c5, c6, c7]) ∧ t = (c0, c1, c2, c3, c4, c5, c6, c7, 64)) (fun s => (64 - s.1).toNat)
    (fun s t ⟨i, c0, c1, c2, c3, c4, c5, c6, c7, hi, hs, ht⟩ => by
      subst hs ht
      by_cases h : i < 64
      · exact .inl ⟨_, _, round_sha W c0 c1 c2 c3 c4 c5 c6 c7 i h, round_ref W c0 c1 c2 c3 c4 c5 c6 c7 i h, ⟨i + 1, _, _, _, _, _, _, _, _, by omega, rfl, rfl⟩, by simp; omega⟩
      · have : i = 64 := by omega
        subst this
        refine .inr ⟨(64, [c0, c1, c2, c3, c4, c5, c6, c7]), (c0, c1, c2, c3, c4, c5, c6, c7, 64), ?_, ?_, ⟨_, _, _, _, _, _, _, _, rfl, rfl⟩⟩
        · show sha_Block.b1 W 64 [c0, c1, c2, c3, c4, c5, c6, c7] = _
          unfold sha_Block.b1; rw [if_neg (by simp)]
        · show ref01_Block.b3 gConst W c0 c1 c2 c3 c4 c5 c6 c7 64 = _
          unfold ref01_Block.b3; rw [if_neg (by simp)]) 66 66 (0, [a0, a1, a2, a3, a4, a5, a6, a7]) (a0, a1, a2, a3, a4, a5, a6, a7, 0) ⟨0, a0, a1, a2, a3, a4, a5, a6, a7, by decide, rfl, rfl⟩ (by simp) (by simp)
  exact ⟨c0, c1, c2, c3, c4, c5, c6, c7, f1, f2⟩
theorem adds_eq (a0 a1 a2 a3 a4 a5 a6 a7 c0 c1 c2 c3 c4 c5 c6 c7 : Int) : loopN (fun s : Int × List Int => sha_Block.b2 [a0, a1, a2, a3, a4, a5, a6, a7] s.1 s.2) 10 (0, [c0, c1, c2, c3, c4, c5, c6, c7]) =
    some (.next (8, [IntKind.wrap .u32 (a0 + c0), IntKind.wrap .u32 (a1 + c1), IntKind.wrap .u32 (a2 + c2), IntKind.wrap .u32 (a3 + c3), IntKind.wrap .u32 (a4 + c4), IntKind.wrap .u32 (a5 + c5), IntKind.wrap .u32 (a6 + c6), IntKind.wrap .u32 (a7 + c7)])) := by
  have f3 := (loop_for (body := fun s : Int × List Int => sha_Block.b2 [a0, a1, a2, a3, a4, a5, a6, a7] s.1 s.2) (fun _ => True) (fun i w => w.set i (IntKind.wrap .u32 (([a0, a1, a2, a3, a4, a5, a6, a7].getD i 0) + (w.getD i 0)))) 8
    (fun i w hi _ => ⟨by
      show sha_Block.b2 _ i w = _
      unfold sha_Block.b2
      rw [if_pos (by simp; omega), if_pos (by omega), Int.add_comm (w.getD _ _)]
      simp (disch := omega) only [w64]
      rfl, trivial⟩) (fun w => by unfold sha_Block.b2; rw [if_neg (by simp)]) 8 0 [c0, c1, c2, c3, c4, c5, c6, c7] 10 rfl trivial (by decide)).1
  exact f3.trans rfl
theorem block_sha (h : List Int) (b : List UInt8) (hb : b.length = 64) {y z : List Int} {i j : Int} (h1 : loopN (fun s : Int × (List Int) => sha_Block.b1 (schedW b) s.1 s.2) 66 (0, h) = some (.next (i, y))) (h2 : loopN (fun s : Int × List Int => sha_Block.b2 h s.1 s.2) 10 (0, y) = some (.next (j, z))) : sha_Block h b = some z := by
  unfold sha_Block
  rw [if_neg (by simp [hb])]
  exact bind_of (sched_eq b hb) (bind_of h1 (bind_of h2 rfl))
theorem block_ref (h : List Int) (b : List UInt8) (hb : b.length = 64) {c0 c1 c2 c3 c4 c5 c6 c7 j : Int} (h1 : loopN (fun s : Int × Int × Int × Int × Int × Int × Int × Int × Int => ref01_Block.b3 gConst (schedW b) s.1 s.2.1 s.2.2.1 s.2.2.2.1 s.2.2.2.2.1 s.2.2.2.2.2.1 s.2.2.2.2.2.2.1 s.2.2.2.2.2.2.2.1 s.2.2.2.2.2.2.2.2) 66 (h.getD (0 : Int).toNat 0, h.getD (1 : Int).toNat 0, h.getD (2 : Int).toNat 0, h.getD (3 : Int).toNat 0, h.getD (4 : Int).toNat 0, h.getD (5 : Int).toNat 0, h.getD (6 : Int).toNat 0, h.getD (7 : Int).toNat 0, 0) = some (.next (c0, c1, c2, c3, c4, c5, c6, c7, j))) :
    ref01_Block h b = some ([IntKind.wrap .u32 ((h.getD (0 : Int).toNat 0) + c0), IntKind.wrap .u32 ((h.getD (1 : Int).toNat 0) + c1), IntKind.wrap .u32 ((h.getD (2 : Int).toNat 0) + c2), IntKind.wrap .u32 ((h.getD (3 : Int).toNat 0) + c3), IntKind.wrap .u32 ((h.getD (4 : Int).toNat 0) + c4), IntKind.wrap .u32 ((h.getD (5 : Int).toNat 0) + c5), IntKind.wrap .u32 ((h.getD (6 : Int).toNat 0) + c6), IntKind.wrap .u32 ((h.getD (7 : Int).toNat 0) + c7)] ++ List.replicate (8 - 8) 0) := by
  obtain ⟨y, e1, e2⟩ := sched_ref b hb
  unfold ref01_Block
  rw [if_neg (by simp [hb])]
  exact bind_of const_eq (bind_of e1 (bind_of e2 (bind_of h1 rfl)))
theorem block_eq (h : List Int) (b : List UInt8) (hh : h.length = 8) : ∃ y, sha_Block h b = some y ∧ ref01_Block h b = some y ∧ y.length = 8 := by
  by_cases hb : b.length = 64
  · obtain ⟨a0, a1, a2, a3, a4, a5, a6, a7, rfl⟩ := list8 hh
    obtain ⟨c0, c1, c2, c3, c4, c5, c6, c7, f1, f2⟩ := rounds_eq (schedW b) a0 a1 a2 a3 a4 a5 a6 a7
    have f3 := adds_eq a0 a1 a2 a3 a4 a5 a6 a7 c0 c1 c2 c3 c4 c5 c6 c7
    exact ⟨_, block_sha _ b hb f1 f3, block_ref [a0, a1, a2, a3, a4, a5, a6, a7] b hb f2, rfl⟩
  · unfold sha_Block ref01_Block
    rw [if_pos (by simp; omega), if_pos (by simp; omega)]
    exact ⟨h, rfl, rfl, hh⟩
end

section
set_option linter.unusedVariables false

theorem add_eq (st : S_sha_State) (l : List UInt8) (hw : st.f_Words.length = 8) (hl : st.f_Rest.length + l.length ≤ mxl) : ∃ w r, sha_State_Add st l = some ⟨w, r, IntKind.wrap .u64 (st.f_Count + (IntKind.wrap .u64 (l.length : Int)))⟩ ∧ ref01_After st.f_Words (st.f_Rest ++ l) = some (w, r) ∧ w.length = 8 ∧ r.length < 64 ∧ ∃ q, r.length + 64 * q = st.f_Rest.length + l.length := by
  have hmx : mxl < 9223372036854775808 := by decide
  obtain ⟨s, t, f1, f2, c, w, r, rfl, rfl, hq⟩ := loop_sim (b1 := fun s : (List UInt8) × S_sha_State => sha_State_Add.b1 s.1 s.2) (b2 := fun s : (List (UInt8)) × (List Int) => ref01_After.b1 s.1 s.2)
    (fun s t => s.2.f_Words.length = 8 ∧ t = (s.1, s.2.f_Words) ∧ s.2.f_Count = IntKind.wrap .u64 (st.f_Count + (IntKind.wrap .u64 (l.length : Int))) ∧ ∃ q, s.1.length + 64 * q = st.f_Rest.length + l.length)
    (fun s t => ∃ (c : List UInt8) (w : List Int) (r : List UInt8), s = (r, ⟨w, c, IntKind.wrap .u64 (st.f_Count + (IntKind.wrap .u64 (l.length : Int)))⟩) ∧ t = (r, w) ∧ w.length = 8 ∧ r.length < 64 ∧ ∃ q, r.length + 64 * q = st.f_Rest.length + l.length) (fun s => s.1.length / 64)
    (fun s t ⟨h1, h2, h3, q, h4⟩ => by
      subst h2
      obtain ⟨r, w, c, n⟩ := s
      have h1 : w.length = 8 := h1
      have h3 : n = _ := h3
      have h4 : r.length + 64 * q = st.f_Rest.length + l.length := h4
      subst h3
      by_cases h : 64 ≤ r.length
      · obtain ⟨y, e1, e2, e3⟩ := block_eq w ((r.take 64).drop (0 : Int).toNat) h1
        have g1 : sha_State_Add.b1 r ⟨w, c, IntKind.wrap .u64 (st.f_Count + (IntKind.wrap .u64 (l.length : Int)))⟩ = some (.cont ((r.take (r.length : Int).toNat).drop 64, ⟨y, c, IntKind.wrap .u64 (st.f_Count + (IntKind.wrap .u64 (l.length : Int)))⟩)) := by
          unfold sha_State_Add.b1
          rw [if_pos (by simp; omega), if_pos (by omega), e1, Option.bind_some, if_pos (by omega)]
        have g2 : ref01_After.b1 r w = some (.cont ((r.take (r.length : Int).toNat).drop 64, y)) := by
          unfold ref01_After.b1
          rw [if_pos (by simp; omega), if_pos (by omega), e2, Option.bind_some, if_pos (by omega)]
        refine .inl ⟨_, _, g1, g2, ⟨e3, rfl, rfl, q + 1, by simp; omega⟩, by simp; omega⟩
      · refine .inr ⟨(r, ⟨w, c, IntKind.wrap .u64 (st.f_Count + (IntKind.wrap .u64 (l.length : Int)))⟩), (r, w), ?_, ?_, ⟨c, w, r, rfl, rfl, h1, by omega, q, h4⟩⟩
        · show sha_State_Add.b1 r _ = _
          unfold sha_State_Add.b1; rw [if_neg (by simp; omega)]
        · show ref01_After.b1 r w = _
          unfold ref01_After.b1; rw [if_neg (by simp; omega)])
    ((((st.f_Rest ++ l).length : Int) - 64 : Int).toNat + 2) ((((st.f_Rest ++ l).length : Int) - 64 : Int).toNat + 2) (st.f_Rest ++ l, S_sha_State.mk st.f_Words st.f_Rest (IntKind.wrap .u64 (st.f_Count + (IntKind.wrap .u64 (l.length : Int))))) (st.f_Rest ++ l, st.f_Words)
    ⟨hw, rfl, rfl, 0, by simp⟩ (by simp; omega) (by simp; omega)
  refine ⟨w, r, ?_, ?_, hq⟩
  · unfold sha_State_Add
    rw [if_pos hl]
    exact bind_next f1 rfl
  · unfold ref01_After
    exact bind_next f2 rfl
theorem pad_loop : ∀ (z k : Nat) (x : List UInt8), (x.length + z) % 64 = 56 → z < 64 → z < k → x.length + z < 140737488355328 → loopN (fun s : List UInt8 => ref01_End.b1 s) k x = some (.next (x ++ Lib.repeatL [0] z))
  | z, 0, x, _, _, h, _ => by omega
  | 0, k + 1, x, h1, h2, h3, h4 => by
    have e : ref01_End.b1 x = some (.brk x) := by
      unfold ref01_End.b1
      rw [if_neg (by rw [Int.tmod_eq_emod_of_nonneg (by omega)]; simp; omega)]
    unfold loopN
    rw [e]
    simp [Lib.repeatL]
  | z + 1, k + 1, x, h1, h2, h3, h4 => by
    have e : ref01_End.b1 x = some (.cont (x ++ [u8of 0])) := by
      unfold ref01_End.b1
      rw [if_pos (by rw [Int.tmod_eq_emod_of_nonneg (by omega)]; simp; omega), if_pos (by simp [mxl]; omega)]
    unfold loopN
    rw [e]
    have h := pad_loop z k (x ++ [u8of 0]) (by simp; omega) (by omega) (by omega) (by simp; omega)
    refine Eq.trans h ?_
    have h0 : u8of 0 = 0 := rfl
    simp [Lib.repeatL, h0]
def cnt8 (n : Int) (i : Nat) : UInt8 := u8of (IntKind.wrap .u8 (shr .u64 (IntKind.wrap .u64 (8 * n)) (56 - 8 * (i : Int))))
def bits8 (n : Int) : List UInt8 := [cnt8 n 0, cnt8 n 1, cnt8 n 2, cnt8 n 3, cnt8 n 4, cnt8 n 5, cnt8 n 6, cnt8 n 7]
theorem bits_sha (st : S_sha_State) : loopN (fun s : Int × (List UInt8) => sha_State_End.b1 st s.1 s.2) ((8 - 0 : Int).toNat + 2) (0, (List.replicate 8 0)) = some (.next (8, bits8 st.f_Count)) := by
  have f := (loop_for (body := fun s : Int × List UInt8 => sha_State_End.b1 st s.1 s.2) (fun _ => True) (fun i w => w.set i (cnt8 st.f_Count i)) 8
    (fun i w hi _ => ⟨by
      show sha_State_End.b1 st i w = _
      unfold sha_State_End.b1
      simp (disch := omega) only [w64]
      rw [if_pos (by simp; omega), if_pos (by omega), if_pos (by omega)]
      rfl, trivial⟩) (fun w => by unfold sha_State_End.b1; rw [if_neg (by simp)]) 8 0 (List.replicate 8 0) 10 rfl trivial (by decide)).1
  exact f.trans rfl
theorem loop_fori {R σ : Type} {body : Int × σ → Option (Flow R (Int × σ))} (I : Nat → σ → Prop) (f : Nat → σ → σ) (n : Nat)
    (hs : ∀ (i : Nat) (s : σ), i < n → I i s → body ((i : Int), s) = some (.cont (((i + 1 : Nat) : Int), f i s)) ∧ I (i + 1) (f i s)) (he : ∀ s, body ((n : Int), s) = some (.brk ((n : Int), s))) :
    ∀ (m i : Nat) (s : σ) (k : Nat), i + m = n → I i s → m < k → loopN body k ((i : Int), s) = some (.next ((n : Int), iter f i m s)) ∧ I n (iter f i m s)
  | 0, i, s, k + 1, h, hI, _ => by
    have : i = n := by omega
    subst this
    unfold loopN
    rw [he]
    exact ⟨rfl, hI⟩
  | m + 1, i, s, k + 1, h, hI, hk => by
    obtain ⟨h1, h2⟩ := hs i s (by omega) hI
    unfold loopN
    rw [h1]
    exact loop_fori I f n hs he m (i + 1) (f i s) k (by omega) h2 (by omega)
theorem bits_ref (n : Int) (x : List UInt8) (hx : x.length < 140737488355000) : loopN (fun s : Int × (List UInt8) => ref01_End.b2 n s.1 s.2) ((8 - 0 : Int).toNat + 2) (0, x) = some (.next (8, x ++ bits8 n)) := by
  have f := (loop_fori (body := fun s : Int × List UInt8 => ref01_End.b2 n s.1 s.2) (fun i w => w.length = x.length + i) (fun i w => w ++ [cnt8 n i]) 8
    (fun i w hi hw => ⟨by
      show ref01_End.b2 n i w = _
      unfold ref01_End.b2
      simp (disch := omega) only [w64, wu64]
      rw [if_pos (by simp; omega), if_pos (by simp [mxl]; omega)]
      rfl, by simp; omega⟩) (fun w => by unfold ref01_End.b2; rw [if_neg (by simp)]) 8 0 x 10 rfl rfl (by decide)).1
  refine Eq.trans f ?_
  simp [iter, bits8]
def byt (h : List Int) (i j : Nat) : UInt8 := u8of (IntKind.wrap .u8 (shr .u32 (h.getD i 0) (24 - 8 * (j : Int))))
theorem out_ref (h : List Int) (r : List UInt8) : loopN (fun s : Int × (List UInt8) => ref01_End.b3 (h, r) s.1 s.2) ((32 - 0 : Int).toNat + 2) (0, (List.replicate 32 0)) = some (.next (32, iter (fun i w => w.set i (byt h (i / 4) (i % 4))) 0 32 (List.replicate 32 0))) := by
  have f := (loop_for (body := fun s : Int × List UInt8 => ref01_End.b3 (h, r) s.1 s.2) (fun _ => True) (fun i w => w.set i (byt h (i / 4) (i % 4))) 32
    (fun i w hi _ => ⟨by
      show ref01_End.b3 (h, r) i w = _
      unfold ref01_End.b3
      have e1 : ((i : Int).tdiv 4) = ((i / 4 : Nat) : Int) := by rw [Int.tdiv_eq_ediv_of_nonneg (by omega)]; simp
      have e2 : ((i : Int).tmod 4) = ((i % 4 : Nat) : Int) := by rw [Int.tmod_eq_emod_of_nonneg (by omega)]; simp
      rw [e1, e2]
      simp (disch := omega) only [w64, wu64]
      rw [if_pos (by simp; omega), if_pos (by omega), if_pos (by omega)]
      rfl, trivial⟩) (fun w => by unfold ref01_End.b3; rw [if_neg (by simp)]) 32 0 (List.replicate 32 0) 34 rfl trivial (by decide)).1
  exact f
theorem out_sha4 (st : S_sha_State) (i : Nat) (hi : i < 8) (w : List UInt8) : loopN (fun s : Int × (List UInt8) => sha_State_End.b3 st (i : Int) s.1 s.2) ((4 - 0 : Int).toNat + 2) (0, w) = some (.next (4, iter (fun j w => w.set (4 * i + j) (byt st.f_Words i j)) 0 4 w)) := by
  have f := (loop_for (body := fun s : Int × List UInt8 => sha_State_End.b3 st (i : Int) s.1 s.2) (fun _ => True) (fun j w => w.set (4 * i + j) (byt st.f_Words i j)) 4
    (fun j w hj _ => ⟨by
      show sha_State_End.b3 st i j w = _
      unfold sha_State_End.b3
      simp (disch := omega) only [w64]
      rw [if_pos (by simp; omega), if_pos (by omega), if_pos (by omega)]
      have e : (4 * (i : Int) + (j : Int)).toNat = 4 * i + j := by omega
      rw [e]
      rfl, trivial⟩) (fun w => by unfold sha_State_End.b3; rw [if_neg (by simp)]) 4 0 w 6 rfl trivial (by decide)).1
  exact f
theorem out_sha (st : S_sha_State) : loopN (fun s : Int × (List UInt8) => sha_State_End.b2 st s.1 s.2) ((8 - 0 : Int).toNat + 2) (0, (List.replicate 32 0)) = some (.next (8, iter (fun i w => iter (fun j w => w.set (4 * i + j) (byt st.f_Words i j)) 0 4 w) 0 8 (List.replicate 32 0))) := by
  have f := (loop_for (body := fun s : Int × List UInt8 => sha_State_End.b2 st s.1 s.2) (fun _ => True) (fun i w => iter (fun j w => w.set (4 * i + j) (byt st.f_Words i j)) 0 4 w) 8
    (fun i w hi _ => ⟨by
      show sha_State_End.b2 st i w = _
      unfold sha_State_End.b2
      rw [if_pos (by simp; omega), if_pos (by omega)]
      simp (disch := omega) only [w64]
      exact bind_next (out_sha4 st i hi w) rfl, trivial⟩) (fun w => by unfold sha_State_End.b2; rw [if_neg (by simp)]) 8 0 (List.replicate 32 0) 10 rfl trivial (by decide)).1
  exact f
theorem out_same (h : List Int) : iter (fun i w => iter (fun j w => w.set (4 * i + j) (byt h i j)) 0 4 w) 0 8 (List.replicate 32 0) = iter (fun i w => w.set i (byt h (i / 4) (i % 4))) 0 32 (List.replicate 32 0) := by
  simp only [iter]
theorem out_len (h : List Int) : (iter (fun i w => w.set i (byt h (i / 4) (i % 4))) 0 32 (List.replicate 32 0)).length = 32 := by simp [iter]
theorem end_eq (st : S_sha_State) (hw : st.f_Words.length = 8) (hr : st.f_Rest.length < 64) : ∃ d, sha_State_End st = some d ∧ ref01_End st.f_Words st.f_Rest st.f_Count = some d ∧ d.length = 32 := by
  have ht : (st.f_Rest.length : Int).tmod 64 = st.f_Rest.length := by rw [Int.tmod_eq_emod_of_nonneg (by omega)]; omega
  have hwr : IntKind.wrap .i64 (119 - ((st.f_Rest.length : Int).tmod 64)) = 119 - st.f_Rest.length := by rw [ht]; exact w64 (by omega)
  have ht2 : (119 - (st.f_Rest.length : Int)).tmod 64 = (119 - (st.f_Rest.length : Int)) % 64 := Int.tmod_eq_emod_of_nonneg (by omega)
  have hrep : ∀ n : Nat, (Lib.repeatL [0] n).length = n := fun n => by rw [Lib.repeatL_length]; simp
  generalize hz : ((119 - (st.f_Rest.length : Int)) % 64).toNat = z
  have hz2 : z < 64 := by omega
  have hz3 : (st.f_Rest.length + 1 + z) % 64 = 56 := by omega
  obtain ⟨w, r, e1, e2, e3, e4, _⟩ := add_eq st (([128] ++ Lib.repeatL [0] z) ++ bits8 st.f_Count) hw (by simp only [List.length_append, hrep]; simp [mxl, bits8]; omega)
  refine ⟨_, ?_, ?_, out_len w⟩
  · unfold sha_State_End
    refine bind_next (bits_sha st) ?_
    show (if _ then _ else _) = _
    rw [hwr, ht2, hz, if_pos (by simp; omega), if_pos (by rw [hrep]; simp [mxl]; omega), if_pos (by rw [List.length_append, hrep]; simp [mxl]; omega)]
    have e8 : (bits8 st.f_Count).take ((8 : Int).toNat - (0 : Int).toNat) = bits8 st.f_Count := rfl
    rw [e8]
    refine bind_of e1 (bind_next (out_sha _) ?_)
    exact congrArg some (out_same w)
  · unfold ref01_End
    rw [if_pos (by simp [mxl]; omega), if_pos (by simp [mxl]; omega)]
    refine bind_next (pad_loop z 100000 _ (by simp; omega) hz2 (by omega) (by simp; omega)) (bind_next (bits_ref st.f_Count _ (by simp only [List.length_append, hrep]; simp; omega)) ?_)
    have hl : (([] : List UInt8) ++ st.f_Rest ++ [u8of 128] ++ Lib.repeatL [0] z) ++ bits8 st.f_Count = st.f_Rest ++ (([128] ++ Lib.repeatL [0] z) ++ bits8 st.f_Count) := by
      have : u8of 128 = 128 := rfl
      simp [this]
    show Option.bind (ref01_After st.f_Words ((([] : List UInt8) ++ st.f_Rest ++ [u8of 128] ++ Lib.repeatL [0] z) ++ bits8 st.f_Count)) _ = _
    rw [hl]
    exact bind_of e2 (bind_next (out_ref w r) rfl)
theorem sum_eq (l : List UInt8) (hl : l.length ≤ mxl) : ∃ d, sha_Sum [l] = some d ∧ ref01_Sum l = some d ∧ d.length = 32 := by
  obtain ⟨w, r, e1, e2, e3, e4, _⟩ := add_eq (S_sha_State.mk gFirst [] 0) l (by simp [gFirst]) (by simpa using hl)
  have hmx : mxl = 9223372036854775807 := by decide
  obtain ⟨d, f1, f2, f3⟩ := end_eq ⟨w, r, IntKind.wrap .u64 (0 + (IntKind.wrap .u64 (l.length : Int)))⟩ e3 e4
  refine ⟨d, ?_, ?_, f3⟩
  · have hloop : loopN (fun s : Int × S_sha_State => sha_Sum.b1 [l] s.1 s.2) (((([l] : List (List UInt8)).length : Int) - 0 : Int).toNat + 2) (0, S_sha_State.mk gFirst [] 0) = some (.next (1, ⟨w, r, IntKind.wrap .u64 (0 + (IntKind.wrap .u64 (l.length : Int)))⟩)) := by
      show loopN _ 3 _ = _
      unfold loopN
      have hb0 : sha_Sum.b1 [l] 0 (S_sha_State.mk gFirst [] 0) = some (.cont (1, ⟨w, r, IntKind.wrap .u64 (0 + (IntKind.wrap .u64 (l.length : Int)))⟩)) := by
        unfold sha_Sum.b1
        rw [if_pos (by simp), if_pos (by simp)]
        exact bind_of e1 rfl
      have hb1 : ∀ st, sha_Sum.b1 [l] 1 st = some (.brk (1, st)) := by
        intro st
        unfold sha_Sum.b1
        rw [if_neg (by simp)]
      simp only [hb0]
      unfold loopN
      simp only [hb1]
    unfold sha_Sum sha_Begin
    exact bind_of rfl (bind_next hloop (bind_of f1 rfl))
  · have hc : (IntKind.wrap .u64 (0 + (IntKind.wrap .u64 (l.length : Int)))) = IntKind.wrap .u64 (l.length : Int) := by
      rw [Int.zero_add, wu64 (x := (l.length : Int)) (by omega), wu64 (by omega)]
    unfold ref01_Sum
    refine bind_of first_eq (bind_of e2 (bind_of ?_ rfl))
    rw [← hc]
    exact f2
end

section
set_option linter.unusedVariables false

theorem u8mod (x : Nat) : (u8of (IntKind.wrap .u8 ((x % 256 : Nat) : Int))).toNat = x % 256 := by
  simp only [IntKind.wrap, IntKind.bits, IntKind.signed, u8of]
  simp
  omega
theorem rbig_step (x : Nat) (i : Nat) (w : List UInt8) (hx : x < 18446744073709551616) (hi : i < 4) : ref03_Big.b1 (x : Int) (i : Int) w = some (.cont (((x / 256 : Nat) : Int), (i : Int) - 1, w.set i (u8of (IntKind.wrap .u8 ((x % 256 : Nat) : Int))))) := by
  unfold ref03_Big.b1
  rw [if_pos (by simp), if_pos (by omega)]
  have e1 : (x : Int).tdiv 256 = ((x / 256 : Nat) : Int) := by rw [Int.tdiv_eq_ediv_of_nonneg (by omega)]; simp
  have e2 : (x : Int).tmod 256 = ((x % 256 : Nat) : Int) := by rw [Int.tmod_eq_emod_of_nonneg (by omega)]; simp
  rw [e1, e2]
  simp (disch := omega) only [w64, wu64]
  rfl
theorem rbig_end (x : Int) (w : List UInt8) : ref03_Big.b1 x (-1) w = some (.brk (x, -1, w)) := by
  unfold ref03_Big.b1
  rw [if_neg (by simp)]
theorem loop_cont {R S : Type} {body : S → Option (Flow R S)} (k : Nat) {s s' : S} {r : Option (Ctl R S)} (h1 : body s = some (.cont s')) (h2 : loopN body k s' = r) : loopN body (k + 1) s = r := by
  unfold loopN
  rw [h1]
  exact h2
theorem loop_brk {R S : Type} {body : S → Option (Flow R S)} (k : Nat) {s s' : S} (h1 : body s = some (.brk s')) : loopN body (k + 1) s = some (.next s') := by
  unfold loopN
  rw [h1]
theorem ref_big4 (n : Nat) (hn : n < 18446744073709551616) : ref03_Big (n : Int) 4 = some (hd4 n) := by
  have hloop : loopN (fun s : Int × Int × (List UInt8) => ref03_Big.b1 s.1 s.2.1 s.2.2) (((IntKind.wrap .i64 (4 - 1)) - 0 : Int).toNat + 2) ((n : Int), IntKind.wrap .i64 (4 - 1), (List.replicate 8 0)) =
      some (.next (((n / 256 / 256 / 256 / 256 : Nat) : Int), -1, [u8of (IntKind.wrap .u8 ((n / 256 / 256 / 256 % 256 : Nat) : Int)), u8of (IntKind.wrap .u8 ((n / 256 / 256 % 256 : Nat) : Int)), u8of (IntKind.wrap .u8 ((n / 256 % 256 : Nat) : Int)), u8of (IntKind.wrap .u8 ((n % 256 : Nat) : Int)), 0, 0, 0, 0])) := by
    have k3 : IntKind.wrap .i64 (4 - 1) = ((3 : Nat) : Int) := by decide
    rw [k3]
    show loopN _ 5 _ = _
    have s0 := rbig_step n 3 (List.replicate 8 0) hn (by decide)
    have s1 := rbig_step (n / 256) 2 [0, 0, 0, u8of (IntKind.wrap .u8 ((n % 256 : Nat) : Int)), 0, 0, 0, 0] (by omega) (by decide)
    have s2 := rbig_step (n / 256 / 256) 1 [0, 0, u8of (IntKind.wrap .u8 ((n / 256 % 256 : Nat) : Int)), u8of (IntKind.wrap .u8 ((n % 256 : Nat) : Int)), 0, 0, 0, 0] (by omega) (by decide)
    have s3 := rbig_step (n / 256 / 256 / 256) 0 [0, u8of (IntKind.wrap .u8 ((n / 256 / 256 % 256 : Nat) : Int)), u8of (IntKind.wrap .u8 ((n / 256 % 256 : Nat) : Int)), u8of (IntKind.wrap .u8 ((n % 256 : Nat) : Int)), 0, 0, 0, 0] (by omega) (by decide)
    exact loop_cont 4 s0 (loop_cont 3 s1 (loop_cont 2 s2 (loop_cont 1 s3 (loop_brk 0 (rbig_end _ _)))))
  unfold ref03_Big
  refine bind_next hloop ?_
  show (if _ then _ else _) = _
  rw [if_pos (by decide), if_pos (by decide)]
  have e0 : u8of (IntKind.wrap .u8 (shr .u64 (n : Int) 24)) = u8of (IntKind.wrap .u8 ((n / 256 / 256 / 256 % 256 : Nat) : Int)) := UInt8.toNat_inj.1 (by rw [byteOf (q := 16777216) (by decide) (by decide), u8mod]; omega)
  have e1 : u8of (IntKind.wrap .u8 (shr .u64 (n : Int) 16)) = u8of (IntKind.wrap .u8 ((n / 256 / 256 % 256 : Nat) : Int)) := UInt8.toNat_inj.1 (by rw [byteOf (q := 65536) (by decide) (by decide), u8mod]; omega)
  have e2 : u8of (IntKind.wrap .u8 (shr .u64 (n : Int) 8)) = u8of (IntKind.wrap .u8 ((n / 256 % 256 : Nat) : Int)) := UInt8.toNat_inj.1 (by rw [byteOf (q := 256) (by decide) (by decide), u8mod])
  have e3 : u8of (IntKind.wrap .u8 (shr .u64 (n : Int) 0)) = u8of (IntKind.wrap .u8 ((n % 256 : Nat) : Int)) := UInt8.toNat_inj.1 (by rw [byteOf (q := 1) (by decide) (by decide), u8mod]; omega)
  unfold hd4
  rw [e0, e1, e2, e3]
  rfl
theorem ref_text (p : List UInt8) (h : p.length < 4294967296) : ref03_Text p = some (hd4 p.length ++ p) := by
  unfold ref03_Text
  rw [wu64 (by omega), ref_big4 _ (by omega)]
  refine bind_of rfl ?_
  rw [if_pos (by simp only [hd4, List.length_cons, List.length_nil, mxl]; omega)]
theorem ref_input (d : Int) (ps : List (List UInt8)) (hp : ∀ p ∈ ps, p.length < 4294967296) (hl : (enc ps).length + 1 ≤ 140737488355328) (hn : ps.length < 4294967296) : ref04_Input d ps = some (u8of d :: enc ps) := by
  obtain ⟨c, h1, h2⟩ := loop_ok (body := fun s : (List UInt8) × Int => ref04_Input.b1 ps s.1 s.2) (fun s => ∃ i : Nat, i ≤ ps.length ∧ s = (u8of d :: enc (ps.take i), (i : Int)))
    (fun c => match c with | .next s => s.1 = u8of d :: enc ps | .ret _ => False) (fun s => (ps.length - s.2).toNat)
    (fun s ⟨i, hi, hs⟩ => by
      subst hs
      show (∃ s', ref04_Input.b1 ps (u8of d :: enc (ps.take i)) (i : Int) = some (.cont s') ∧ _) ∨ (∃ s', ref04_Input.b1 ps (u8of d :: enc (ps.take i)) (i : Int) = some (.brk s') ∧ _) ∨ _
      unfold ref04_Input.b1
      by_cases h : i < ps.length
      · have g : ps.getD (i : Int).toNat default = ps[i] := by simp [List.getD, h]
        have htk : ps.take (i + 1) = ps.take i ++ [ps[i]] := List.take_succ_eq_append_getElem h
        have hbound : (enc (ps.take (i + 1))).length ≤ (enc ps).length := by
          have : ps = ps.take (i + 1) ++ ps.drop (i + 1) := (List.take_append_drop _ _).symm
          conv => rhs; rw [this, enc_append]
          simp
        rw [htk, enc_append] at hbound
        rw [if_pos (by simpa using h), if_pos (by omega), g, ref_text _ (hp _ (List.getElem_mem h)), Option.bind_some, if_pos (by simp only [enc, mxl, List.length_append, List.length_cons, List.append_nil] at hbound ⊢; omega), w64 (by omega)]
        refine .inl ⟨_, rfl, ⟨i + 1, by omega, ?_⟩, by simp; omega⟩
        rw [htk, enc_append]
        simp [enc]
      · rw [if_neg (by simpa using h)]
        have : i = ps.length := by omega
        subst this
        exact .inr (.inl ⟨_, rfl, by simp⟩)) (((ps.length : Int) - 0 : Int).toNat + 2) ([u8of d], 0) ⟨0, by omega, rfl⟩ (by simp)
  unfold ref04_Input
  cases c with
  | ret r => exact h2.elim
  | next s =>
    refine bind_next h1 ?_
    obtain ⟨x, y⟩ := s
    have h2 : x = _ := h2
    rw [h2]
end
end Go.Proofs.YtklikgigjdgjaaaGreatDoorRRR
