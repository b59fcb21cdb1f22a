/- Plain law: SHA's schedule and blocks, the program's and the document's alike. -/
import Derived.Test.YtamnmljgcmbliaaDoorP4
namespace Go.Proofs.YtamnmljgcmbliaaDoor
open Go Go.RowKit Go.Proofs
set_option linter.unusedVariables false

theorem rot_7 (x : Int) : bits_RotateLeft32 x (-7) = ref01_turn x 7 := congrArg some ((or_comm32 _ _).trans rfl)
theorem rot_18 (x : Int) : bits_RotateLeft32 x (-18) = ref01_turn x 18 := congrArg some ((or_comm32 _ _).trans rfl)
theorem rot_17 (x : Int) : bits_RotateLeft32 x (-17) = ref01_turn x 17 := congrArg some ((or_comm32 _ _).trans rfl)
theorem rot_19 (x : Int) : bits_RotateLeft32 x (-19) = ref01_turn x 19 := congrArg some ((or_comm32 _ _).trans rfl)
theorem rot_6 (x : Int) : bits_RotateLeft32 x (-6) = ref01_turn x 6 := congrArg some ((or_comm32 _ _).trans rfl)
theorem rot_11 (x : Int) : bits_RotateLeft32 x (-11) = ref01_turn x 11 := congrArg some ((or_comm32 _ _).trans rfl)
theorem rot_25 (x : Int) : bits_RotateLeft32 x (-25) = ref01_turn x 25 := congrArg some ((or_comm32 _ _).trans rfl)
theorem rot_2 (x : Int) : bits_RotateLeft32 x (-2) = ref01_turn x 2 := congrArg some ((or_comm32 _ _).trans rfl)
theorem rot_13 (x : Int) : bits_RotateLeft32 x (-13) = ref01_turn x 13 := congrArg some ((or_comm32 _ _).trans rfl)
theorem rot_22 (x : Int) : bits_RotateLeft32 x (-22) = ref01_turn x 22 := congrArg some ((or_comm32 _ _).trans rfl)
theorem turn_some (x k : Int) : ∃ y, ref01_turn x k = some y := ⟨_, rfl⟩
theorem inot_eq (x : Int) : inot .u32 x = bits .xor .u32 4294967295 x := by
  rfl
/-- Two counting loops that go together. -/
theorem loop_sim {R1 S1 R2 S2 : Type} {b1 : S1 → Option (Flow R1 S1)} {b2 : S2 → Option (Flow R2 S2)} (R : S1 → S2 → Prop) (Q : S1 → S2 → Prop) (m : S1 → Nat)
    (h : ∀ s t, R s t → (∃ s' t', b1 s = some (.cont s') ∧ b2 t = some (.cont t') ∧ R s' t' ∧ m s' < m s) ∨ (∃ s' t', b1 s = some (.brk s') ∧ b2 t = some (.brk t') ∧ Q s' t')) :
    ∀ (k1 k2 : Nat) (s : S1) (t : S2), R s t → m s < k1 → m s < k2 → ∃ s' t', loopN b1 k1 s = some (.next s') ∧ loopN b2 k2 t = some (.next t') ∧ Q s' t'
  | 0, _, s, t, hR, h1, _ => by omega
  | _, 0, s, t, hR, _, h2 => by omega
  | k1 + 1, k2 + 1, s, t, hR, h1, h2 => by
    unfold loopN
    rcases h s t hR with ⟨s', t', e1, e2, e3, e4⟩ | ⟨s', t', e1, e2, e3⟩
    · rw [e1, e2]
      exact loop_sim R Q m h k1 k2 s' t' e3 (by omega) (by omega)
    · rw [e1, e2]
      exact ⟨s', t', rfl, rfl, e3⟩
def word (b : List UInt8) (i : Nat) : Int := IntKind.wrap .u32 ((IntKind.wrap .u32 ((IntKind.wrap .u32 ((IntKind.wrap .u32 ((IntKind.wrap .u32 ((b.getD (4 * i) default).toNat)) * 16777216)) + (IntKind.wrap .u32 ((IntKind.wrap .u32 ((b.getD (4 * i + 1) default).toNat)) * 65536)))) + (IntKind.wrap .u32 ((IntKind.wrap .u32 ((b.getD (4 * i + 2) default).toNat)) * 256)))) + (IntKind.wrap .u32 ((b.getD (4 * i + 3) default).toNat)))
def sig0 (x : Int) : Int := bits .xor .u32 (bits .xor .u32 ((ref01_turn x 7).getD 0) ((ref01_turn x 18).getD 0)) (shr .u32 x 3)
def sig1 (x : Int) : Int := bits .xor .u32 (bits .xor .u32 ((ref01_turn x 17).getD 0) ((ref01_turn x 19).getD 0)) (shr .u32 x 10)
def more (w : List Int) (i : Nat) : Int := IntKind.wrap .u32 ((IntKind.wrap .u32 ((IntKind.wrap .u32 ((w.getD (i - 16) 0) + sig0 (w.getD (i - 15) 0))) + (w.getD (i - 7) 0))) + sig1 (w.getD (i - 2) 0))
theorem sched1 (b : List UInt8) (hb : b.length = 64) (i : Nat) (w : List Int) (hi : i < 16) : sha_schedule.b1 b i w = some (.cont (((i + 1 : Nat) : Int), w.set i (word b i))) := by
  unfold sha_schedule.b1
  rw [if_pos (by simp; omega), if_pos (by simp; omega)]
  simp (disch := omega) only [w64]
  have hlen : ((b.take (4 * (i : Int) + 4).toNat).drop (4 * (i : Int)).toNat).length = 4 := by simp; omega
  have hg : ∀ k : Nat, k < 4 → ((b.take (4 * (i : Int) + 4).toNat).drop (4 * (i : Int)).toNat).getD k 0 = b.getD (4 * i + k) default := by
    intro k hk
    have e1 : (4 * (i : Int)).toNat = 4 * i := by omega
    have e2 : (4 * (i : Int) + 4).toNat = 4 * i + 4 := by omega
    rw [e1, e2]
    have h1 : 4 * i + k < b.length := by omega
    simp [List.getD, List.getElem?_take, h1]
    rw [if_pos (by omega)]
    rfl
  rw [if_pos (by omega), if_pos (by rw [hlen]; omega), if_pos (by rw [hlen]; omega), if_pos (by rw [hlen]; omega), if_pos (by rw [hlen]; omega), if_pos (by omega)]
  have g0 := hg 0 (by decide)
  have g1 := hg 1 (by decide)
  have g2 := hg 2 (by decide)
  have g3 := hg 3 (by decide)
  have e0 : (0 : Int).toNat = 0 := rfl
  have e1 : (1 : Int).toNat = 1 := rfl
  have e2 : (2 : Int).toNat = 2 := rfl
  have e3 : (3 : Int).toNat = 3 := rfl
  rw [e0, e1, e2, e3, g0, g1, g2, g3]
  rw [word_eq _ _ _ _ (UInt8.toNat_lt _) (UInt8.toNat_lt _) (UInt8.toNat_lt _) (UInt8.toNat_lt _)]
  rfl
theorem sched1' (b : List UInt8) (hb : b.length = 64) (i : Nat) (w : List Int) (hi : i < 16) : ref01_Block.b1 b i w = some (.cont (((i + 1 : Nat) : Int), w.set i (word b i))) := by
  unfold ref01_Block.b1
  rw [if_pos (by simp; omega)]
  simp (disch := omega) only [w64]
  rw [if_pos (by omega), if_pos (by omega), if_pos (by omega), if_pos (by omega), if_pos (by omega)]
  have e0 : (4 * (i : Int)).toNat = 4 * i := by omega
  have e1 : (4 * (i : Int) + 1).toNat = 4 * i + 1 := by omega
  have e2 : (4 * (i : Int) + 2).toNat = 4 * i + 2 := by omega
  have e3 : (4 * (i : Int) + 3).toNat = 4 * i + 3 := by omega
  rw [e0, e1, e2, e3]
  rfl
theorem sched2 (b : List UInt8) (i : Nat) (w : List Int) (hi : 16 ≤ i ∧ i < 64) : sha_schedule.b1 b i w = some (.cont (((i + 1 : Nat) : Int), w.set i (more w i))) := by
  unfold sha_schedule.b1
  rw [if_pos (by simp; omega), if_neg (by simp; omega)]
  simp (disch := omega) only [w64]
  rw [if_pos (by omega), if_pos (by omega)]
  rw [rot_7, rot_18, rot_17, rot_19]
  simp only [ref01_turn, Option.bind_some]
  rw [if_pos (by omega), if_pos (by omega), if_pos (by omega)]
  have e0 : ((i : Int) - 16).toNat = i - 16 := by omega
  have e1 : ((i : Int) - 15).toNat = i - 15 := by omega
  have e2 : ((i : Int) - 7).toNat = i - 7 := by omega
  have e3 : ((i : Int) - 2).toNat = i - 2 := by omega
  rw [e0, e1, e2, e3]
  rfl
theorem sched2' (i : Nat) (w : List Int) (hi : 16 ≤ i ∧ i < 64) : ref01_Block.b2 i w = some (.cont (((i + 1 : Nat) : Int), w.set i (more w i))) := by
  unfold ref01_Block.b2
  rw [if_pos (by simp; omega)]
  simp (disch := omega) only [w64]
  rw [if_pos (by omega)]
  simp only [ref01_turn, Option.bind_some]
  rw [if_pos (by omega), if_pos (by omega), if_pos (by omega), if_pos (by omega)]
  have e0 : ((i : Int) - 16).toNat = i - 16 := by omega
  have e1 : ((i : Int) - 15).toNat = i - 15 := by omega
  have e2 : ((i : Int) - 7).toNat = i - 7 := by omega
  have e3 : ((i : Int) - 2).toNat = i - 2 := by omega
  rw [e0, e1, e2, e3]
  rfl
def schedF (b : List UInt8) (i : Nat) (w : List Int) : List Int := w.set i (if i < 16 then word b i else more w i)
def schedW (b : List UInt8) : List Int := iter (schedF b) 0 64 (List.replicate 64 0)
theorem sched_eq (b : List UInt8) (hb : b.length = 64) : sha_schedule b = some (schedW b) := by
  have h := (loop_for (body := fun s : Int × List Int => sha_schedule.b1 b s.1 s.2) (fun _ => True) (schedF b) 64
    (fun i w hi _ => ⟨by
      show sha_schedule.b1 b i w = _
      unfold schedF
      by_cases h : i < 16
      · rw [if_pos h]; exact sched1 b hb i w h
      · rw [if_neg h]; exact sched2 b i w ⟨by omega, hi⟩, trivial⟩)
    (fun w => by unfold sha_schedule.b1; rw [if_neg (by simp)]) 64 0 (List.replicate 64 0) 66 rfl trivial (by decide)).1
  unfold sha_schedule
  have h' : loopN (fun s : Int × (List Int) => sha_schedule.b1 b s.1 s.2) ((64 - 0 : Int).toNat + 2) (0, (List.replicate 64 0)) = _ := h
  rw [h']
  rfl
theorem loop_from {R σ : Type} {body : Int × σ → Option (Flow R (Int × σ))} (I : σ → Prop) (f : Nat → σ → σ) (lo n : Nat)
    (hs : ∀ (i : Nat) (s : σ), lo ≤ i → i < n → I s → body ((i : Int), s) = some (.cont (((i + 1 : Nat) : Int), f i s)) ∧ I (f i s)) (he : ∀ s, body ((n : Int), s) = some (.brk ((n : Int), s))) :
    ∀ (m i : Nat) (s : σ) (k : Nat), lo ≤ i → i + m = n → I s → m < k → loopN body k ((i : Int), s) = some (.next ((n : Int), iter f i m s)) ∧ I (iter f i m s)
  | 0, i, s, k + 1, hl, h, hI, _ => by
    have : i = n := by omega
    subst this
    unfold loopN
    rw [he]
    exact ⟨rfl, hI⟩
  | m + 1, i, s, k + 1, hl, h, hI, hk => by
    obtain ⟨h1, h2⟩ := hs i s hl (by omega) hI
    unfold loopN
    rw [h1]
    exact loop_from I f lo n hs he m (i + 1) (f i s) k (by omega) (by omega) h2 (by omega)
theorem sched_ref (b : List UInt8) (hb : b.length = 64) : ∃ y, loopN (fun s : Int × (List Int) => ref01_Block.b1 b s.1 s.2) ((16 - 0 : Int).toNat + 2) (0, (List.replicate 64 0)) = some (.next (16, y)) ∧
    loopN (fun s : Int × (List Int) => ref01_Block.b2 s.1 s.2) ((64 - 16 : Int).toNat + 2) (16, y) = some (.next (64, schedW b)) := by
  have h1 := (loop_for (body := fun s : Int × List Int => ref01_Block.b1 b s.1 s.2) (fun _ => True) (schedF b) 16
    (fun i w hi _ => ⟨by unfold schedF; rw [if_pos hi]; exact sched1' b hb i w hi, trivial⟩) (fun w => by unfold ref01_Block.b1; rw [if_neg (by simp)]) 16 0 (List.replicate 64 0) 18 rfl trivial (by decide)).1
  have h2 := (loop_from (body := fun s : Int × List Int => ref01_Block.b2 s.1 s.2) (fun _ => True) (schedF b) 16 64
    (fun i w hl hi _ => ⟨by unfold schedF; rw [if_neg (by omega)]; exact sched2' i w ⟨hl, hi⟩, trivial⟩) (fun w => by unfold ref01_Block.b2; rw [if_neg (by simp)]) 48 16 (iter (schedF b) 0 16 (List.replicate 64 0)) 50 (by decide) rfl trivial (by decide)).1
  refine ⟨_, h1, ?_⟩
  have h3 : iter (schedF b) 16 48 (iter (schedF b) 0 16 (List.replicate 64 0)) = schedW b := (iter_add (schedF b) 16 48 0 (List.replicate 64 0)).symm
  rw [h3] at h2
  exact h2
def tmp1 (W : List Int) (e f g h : Int) (i : Nat) : Int := IntKind.wrap .u32 ((IntKind.wrap .u32 ((IntKind.wrap .u32 ((IntKind.wrap .u32 (h + (bits .xor .u32 (bits .xor .u32 ((ref01_turn e 6).getD 0) ((ref01_turn e 11).getD 0)) ((ref01_turn e 25).getD 0)))) + (bits .xor .u32 (bits .and .u32 e f) (bits .and .u32 (bits .xor .u32 4294967295 e) g)))) + (gConst.getD i 0))) + (W.getD i 0))
def tmp2 (a b c : Int) : Int := bits .xor .u32 (bits .xor .u32 ((ref01_turn a 2).getD 0) ((ref01_turn a 13).getD 0)) ((ref01_turn a 22).getD 0)
def maj (a b c : Int) : Int := bits .xor .u32 (bits .xor .u32 (bits .and .u32 a b) (bits .and .u32 a c)) (bits .and .u32 b c)
theorem round_ref (W : List Int) (a b c d e f g h : Int) (i : Nat) (hi : i < 64) :
    ref01_Block.b3 gConst W a b c d e f g h i = some (.cont (IntKind.wrap .u32 (tmp1 W e f g h i + IntKind.wrap .u32 (tmp2 a b c + maj a b c)), a, b, c, IntKind.wrap .u32 (d + tmp1 W e f g h i), e, f, g, ((i + 1 : Nat) : Int))) := by
  unfold ref01_Block.b3
  rw [if_pos (by simp; omega)]
  simp only [ref01_turn, Option.bind_some]
  rw [if_pos (by omega)]
  simp (disch := omega) only [w64]
  rfl
theorem wrap_add3 (x y z : Int) : IntKind.wrap .u32 (IntKind.wrap .u32 (x + y) + z) = IntKind.wrap .u32 (x + IntKind.wrap .u32 (y + z)) := by
  simp only [IntKind.wrap, IntKind.bits, IntKind.signed]
  simp
  omega
theorem round_sha (W : List Int) (a b c d e f g h : Int) (i : Nat) (hi : i < 64) :
    sha_Block.b1 W i [a, b, c, d, e, f, g, h] = some (.cont (((i + 1 : Nat) : Int), [IntKind.wrap .u32 (tmp1 W e f g h i + IntKind.wrap .u32 (tmp2 a b c + maj a b c)), a, b, c, IntKind.wrap .u32 (d + tmp1 W e f g h i), e, f, g])) := by
  rw [← wrap_add3]
  unfold sha_Block.b1
  rw [if_pos (by simp; omega)]
  simp only [rot_2, rot_13, rot_22, rot_6, rot_11, rot_25, ref01_turn, Option.bind_some]
  rw [if_pos (by omega)]
  simp (disch := omega) only [w64]
  simp only [inot_eq]
  rfl
theorem list8 {x : List Int} (h : x.length = 8) : ∃ a b c d e f g i, x = [a, b, c, d, e, f, g, i] := by
  match x, h with
  | [a, b, c, d, e, f, g, i], _ => exact ⟨a, b, c, d, e, f, g, i, rfl⟩
theorem const_eq : ref01_constants = some gConst := rfl
theorem first_eq : ref01_First = some gFirst := rfl
theorem rounds_eq (W : List Int) (a0 a1 a2 a3 a4 a5 a6 a7 : Int) : ∃ c0 c1 c2 c3 c4 c5 c6 c7 : Int, loopN (fun s : Int × (List Int) => sha_Block.b1 W s.1 s.2) 66 (0, [a0, a1, a2, a3, a4, a5, a6, a7]) = some (.next (64, [c0, c1, c2, c3, c4, c5, c6, c7])) ∧
    loopN (fun s : Int × Int × Int × Int × Int × Int × Int × Int × Int => ref01_Block.b3 gConst W s.1 s.2.1 s.2.2.1 s.2.2.2.1 s.2.2.2.2.1 s.2.2.2.2.2.1 s.2.2.2.2.2.2.1 s.2.2.2.2.2.2.2.1 s.2.2.2.2.2.2.2.2) 66 (a0, a1, a2, a3, a4, a5, a6, a7, 0) = some (.next (c0, c1, c2, c3, c4, c5, c6, c7, 64)) := by
  obtain ⟨s, t, f1, f2, c0, c1, c2, c3, c4, c5, c6, c7, rfl, rfl⟩ := loop_sim (b1 := fun s : Int × (List Int) => sha_Block.b1 W s.1 s.2) (b2 := fun s : Int × Int × Int × Int × Int × Int × Int × Int × Int => ref01_Block.b3 gConst W s.1 s.2.1 s.2.2.1 s.2.2.2.1 s.2.2.2.2.1 s.2.2.2.2.2.1 s.2.2.2.2.2.2.1 s.2.2.2.2.2.2.2.1 s.2.2.2.2.2.2.2.2)
    (fun s t => ∃ (i : Nat) (c0 c1 c2 c3 c4 c5 c6 c7 : Int), i ≤ 64 ∧ s = ((i : Int), [c0, c1, c2, c3, c4, c5, c6, c7]) ∧ t = (c0, c1, c2, c3, c4, c5, c6, c7, (i : Int)))
    (fun s t => ∃ (c0 c1 c2 c3 c4 c5 c6 c7 : Int), s = (64, [c0, c1, c2, c3, c4, c5, c6, c7]) ∧ t = (c0, c1, c2, c3, c4, c5, c6, c7, 64)) (fun s => (64 - s.1).toNat)
    (fun s t ⟨i, c0, c1, c2, c3, c4, c5, c6, c7, hi, hs, ht⟩ => by
      subst hs ht
      by_cases h : i < 64
      · exact .inl ⟨_, _, round_sha W c0 c1 c2 c3 c4 c5 c6 c7 i h, round_ref W c0 c1 c2 c3 c4 c5 c6 c7 i h, ⟨i + 1, _, _, _, _, _, _, _, _, by omega, rfl, rfl⟩, by simp; omega⟩
      · have : i = 64 := by omega
        subst this
        refine .inr ⟨(64, [c0, c1, c2, c3, c4, c5, c6, c7]), (c0, c1, c2, c3, c4, c5, c6, c7, 64), ?_, ?_, ⟨_, _, _, _, _, _, _, _, rfl, rfl⟩⟩
        · show sha_Block.b1 W 64 [c0, c1, c2, c3, c4, c5, c6, c7] = _
          unfold sha_Block.b1; rw [if_neg (by simp)]
        · show ref01_Block.b3 gConst W c0 c1 c2 c3 c4 c5 c6 c7 64 = _
          unfold ref01_Block.b3; rw [if_neg (by simp)]) 66 66 (0, [a0, a1, a2, a3, a4, a5, a6, a7]) (a0, a1, a2, a3, a4, a5, a6, a7, 0) ⟨0, a0, a1, a2, a3, a4, a5, a6, a7, by decide, rfl, rfl⟩ (by simp) (by simp)
  exact ⟨c0, c1, c2, c3, c4, c5, c6, c7, f1, f2⟩
theorem adds_eq (a0 a1 a2 a3 a4 a5 a6 a7 c0 c1 c2 c3 c4 c5 c6 c7 : Int) : loopN (fun s : Int × List Int => sha_Block.b2 [a0, a1, a2, a3, a4, a5, a6, a7] s.1 s.2) 10 (0, [c0, c1, c2, c3, c4, c5, c6, c7]) =
    some (.next (8, [IntKind.wrap .u32 (a0 + c0), IntKind.wrap .u32 (a1 + c1), IntKind.wrap .u32 (a2 + c2), IntKind.wrap .u32 (a3 + c3), IntKind.wrap .u32 (a4 + c4), IntKind.wrap .u32 (a5 + c5), IntKind.wrap .u32 (a6 + c6), IntKind.wrap .u32 (a7 + c7)])) := by
  have f3 := (loop_for (body := fun s : Int × List Int => sha_Block.b2 [a0, a1, a2, a3, a4, a5, a6, a7] s.1 s.2) (fun _ => True) (fun i w => w.set i (IntKind.wrap .u32 (([a0, a1, a2, a3, a4, a5, a6, a7].getD i 0) + (w.getD i 0)))) 8
    (fun i w hi _ => ⟨by
      show sha_Block.b2 _ i w = _
      unfold sha_Block.b2
      rw [if_pos (by simp; omega), if_pos (by omega), Int.add_comm (w.getD _ _)]
      simp (disch := omega) only [w64]
      rfl, trivial⟩) (fun w => by unfold sha_Block.b2; rw [if_neg (by simp)]) 8 0 [c0, c1, c2, c3, c4, c5, c6, c7] 10 rfl trivial (by decide)).1
  exact f3.trans rfl
theorem block_sha (h : List Int) (b : List UInt8) (hb : b.length = 64) {y z : List Int} {i j : Int} (h1 : loopN (fun s : Int × (List Int) => sha_Block.b1 (schedW b) s.1 s.2) 66 (0, h) = some (.next (i, y))) (h2 : loopN (fun s : Int × List Int => sha_Block.b2 h s.1 s.2) 10 (0, y) = some (.next (j, z))) : sha_Block h b = some z := by
  unfold sha_Block
  rw [if_neg (by simp [hb])]
  exact bind_of (sched_eq b hb) (bind_of h1 (bind_of h2 rfl))
theorem block_ref (h : List Int) (b : List UInt8) (hb : b.length = 64) {c0 c1 c2 c3 c4 c5 c6 c7 j : Int} (h1 : loopN (fun s : Int × Int × Int × Int × Int × Int × Int × Int × Int => ref01_Block.b3 gConst (schedW b) s.1 s.2.1 s.2.2.1 s.2.2.2.1 s.2.2.2.2.1 s.2.2.2.2.2.1 s.2.2.2.2.2.2.1 s.2.2.2.2.2.2.2.1 s.2.2.2.2.2.2.2.2) 66 (h.getD (0 : Int).toNat 0, h.getD (1 : Int).toNat 0, h.getD (2 : Int).toNat 0, h.getD (3 : Int).toNat 0, h.getD (4 : Int).toNat 0, h.getD (5 : Int).toNat 0, h.getD (6 : Int).toNat 0, h.getD (7 : Int).toNat 0, 0) = some (.next (c0, c1, c2, c3, c4, c5, c6, c7, j))) :
    ref01_Block h b = some ([IntKind.wrap .u32 ((h.getD (0 : Int).toNat 0) + c0), IntKind.wrap .u32 ((h.getD (1 : Int).toNat 0) + c1), IntKind.wrap .u32 ((h.getD (2 : Int).toNat 0) + c2), IntKind.wrap .u32 ((h.getD (3 : Int).toNat 0) + c3), IntKind.wrap .u32 ((h.getD (4 : Int).toNat 0) + c4), IntKind.wrap .u32 ((h.getD (5 : Int).toNat 0) + c5), IntKind.wrap .u32 ((h.getD (6 : Int).toNat 0) + c6), IntKind.wrap .u32 ((h.getD (7 : Int).toNat 0) + c7)] ++ List.replicate (8 - 8) 0) := by
  obtain ⟨y, e1, e2⟩ := sched_ref b hb
  unfold ref01_Block
  rw [if_neg (by simp [hb])]
  exact bind_of const_eq (bind_of e1 (bind_of e2 (bind_of h1 rfl)))
theorem block_eq (h : List Int) (b : List UInt8) (hh : h.length = 8) : ∃ y, sha_Block h b = some y ∧ ref01_Block h b = some y ∧ y.length = 8 := by
  by_cases hb : b.length = 64
  · obtain ⟨a0, a1, a2, a3, a4, a5, a6, a7, rfl⟩ := list8 hh
    obtain ⟨c0, c1, c2, c3, c4, c5, c6, c7, f1, f2⟩ := rounds_eq (schedW b) a0 a1 a2 a3 a4 a5 a6 a7
    have f3 := adds_eq a0 a1 a2 a3 a4 a5 a6 a7 c0 c1 c2 c3 c4 c5 c6 c7
    exact ⟨_, block_sha _ b hb f1 f3, block_ref [a0, a1, a2, a3, a4, a5, a6, a7] b hb f2, rfl⟩
  · unfold sha_Block ref01_Block
    rw [if_pos (by simp; omega), if_pos (by simp; omega)]
    exact ⟨h, rfl, rfl, hh⟩
end Go.Proofs.YtamnmljgcmbliaaDoor
