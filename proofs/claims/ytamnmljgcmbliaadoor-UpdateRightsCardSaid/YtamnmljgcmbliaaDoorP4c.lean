/- Plain law: SHA's sums, the program's and the document's alike. -/
import Derived.Test.YtamnmljgcmbliaaDoorP4b
import Derived.Test.YtamnmljgcmbliaaDoorP2
namespace Go.Proofs.YtamnmljgcmbliaaDoor
open Go Go.RowKit Go.Proofs
set_option linter.unusedVariables false

theorem add_eq (st : S_sha_State) (l : List UInt8) (hw : st.f_Words.length = 8) (hl : st.f_Rest.length + l.length ≤ mxl) : ∃ w r, sha_State_Add st l = some ⟨w, r, IntKind.wrap .u64 (st.f_Count + (IntKind.wrap .u64 (l.length : Int)))⟩ ∧ ref01_After st.f_Words (st.f_Rest ++ l) = some (w, r) ∧ w.length = 8 ∧ r.length < 64 ∧ ∃ q, r.length + 64 * q = st.f_Rest.length + l.length := by
  have hmx : mxl < 9223372036854775808 := by decide
  obtain ⟨s, t, f1, f2, c, w, r, rfl, rfl, hq⟩ := loop_sim (b1 := fun s : (List UInt8) × S_sha_State => sha_State_Add.b1 s.1 s.2) (b2 := fun s : (List (UInt8)) × (List Int) => ref01_After.b1 s.1 s.2)
    (fun s t => s.2.f_Words.length = 8 ∧ t = (s.1, s.2.f_Words) ∧ s.2.f_Count = IntKind.wrap .u64 (st.f_Count + (IntKind.wrap .u64 (l.length : Int))) ∧ ∃ q, s.1.length + 64 * q = st.f_Rest.length + l.length)
    (fun s t => ∃ (c : List UInt8) (w : List Int) (r : List UInt8), s = (r, ⟨w, c, IntKind.wrap .u64 (st.f_Count + (IntKind.wrap .u64 (l.length : Int)))⟩) ∧ t = (r, w) ∧ w.length = 8 ∧ r.length < 64 ∧ ∃ q, r.length + 64 * q = st.f_Rest.length + l.length) (fun s => s.1.length / 64)
    (fun s t ⟨h1, h2, h3, q, h4⟩ => by
      subst h2
      obtain ⟨r, w, c, n⟩ := s
      have h1 : w.length = 8 := h1
      have h3 : n = _ := h3
      have h4 : r.length + 64 * q = st.f_Rest.length + l.length := h4
      subst h3
      by_cases h : 64 ≤ r.length
      · obtain ⟨y, e1, e2, e3⟩ := block_eq w ((r.take 64).drop (0 : Int).toNat) h1
        have g1 : sha_State_Add.b1 r ⟨w, c, IntKind.wrap .u64 (st.f_Count + (IntKind.wrap .u64 (l.length : Int)))⟩ = some (.cont ((r.take (r.length : Int).toNat).drop 64, ⟨y, c, IntKind.wrap .u64 (st.f_Count + (IntKind.wrap .u64 (l.length : Int)))⟩)) := by
          unfold sha_State_Add.b1
          rw [if_pos (by simp; omega), if_pos (by omega), e1, Option.bind_some, if_pos (by omega)]
        have g2 : ref01_After.b1 r w = some (.cont ((r.take (r.length : Int).toNat).drop 64, y)) := by
          unfold ref01_After.b1
          rw [if_pos (by simp; omega), if_pos (by omega), e2, Option.bind_some, if_pos (by omega)]
        refine .inl ⟨_, _, g1, g2, ⟨e3, rfl, rfl, q + 1, by simp; omega⟩, by simp; omega⟩
      · refine .inr ⟨(r, ⟨w, c, IntKind.wrap .u64 (st.f_Count + (IntKind.wrap .u64 (l.length : Int)))⟩), (r, w), ?_, ?_, ⟨c, w, r, rfl, rfl, h1, by omega, q, h4⟩⟩
        · show sha_State_Add.b1 r _ = _
          unfold sha_State_Add.b1; rw [if_neg (by simp; omega)]
        · show ref01_After.b1 r w = _
          unfold ref01_After.b1; rw [if_neg (by simp; omega)])
    ((((st.f_Rest ++ l).length : Int) - 64 : Int).toNat + 2) ((((st.f_Rest ++ l).length : Int) - 64 : Int).toNat + 2) (st.f_Rest ++ l, S_sha_State.mk st.f_Words st.f_Rest (IntKind.wrap .u64 (st.f_Count + (IntKind.wrap .u64 (l.length : Int))))) (st.f_Rest ++ l, st.f_Words)
    ⟨hw, rfl, rfl, 0, by simp⟩ (by simp; omega) (by simp; omega)
  refine ⟨w, r, ?_, ?_, hq⟩
  · unfold sha_State_Add
    rw [if_pos hl]
    exact bind_next f1 rfl
  · unfold ref01_After
    exact bind_next f2 rfl
theorem pad_loop : ∀ (z k : Nat) (x : List UInt8), (x.length + z) % 64 = 56 → z < 64 → z < k → x.length + z < 140737488355328 → loopN (fun s : List UInt8 => ref01_End.b1 s) k x = some (.next (x ++ Lib.repeatL [0] z))
  | z, 0, x, _, _, h, _ => by omega
  | 0, k + 1, x, h1, h2, h3, h4 => by
    have e : ref01_End.b1 x = some (.brk x) := by
      unfold ref01_End.b1
      rw [if_neg (by rw [Int.tmod_eq_emod_of_nonneg (by omega)]; simp; omega)]
    unfold loopN
    rw [e]
    simp [Lib.repeatL]
  | z + 1, k + 1, x, h1, h2, h3, h4 => by
    have e : ref01_End.b1 x = some (.cont (x ++ [u8of 0])) := by
      unfold ref01_End.b1
      rw [if_pos (by rw [Int.tmod_eq_emod_of_nonneg (by omega)]; simp; omega), if_pos (by simp [mxl]; omega)]
    unfold loopN
    rw [e]
    have h := pad_loop z k (x ++ [u8of 0]) (by simp; omega) (by omega) (by omega) (by simp; omega)
    refine Eq.trans h ?_
    have h0 : u8of 0 = 0 := rfl
    simp [Lib.repeatL, h0]
def cnt8 (n : Int) (i : Nat) : UInt8 := u8of (IntKind.wrap .u8 (shr .u64 (IntKind.wrap .u64 (8 * n)) (56 - 8 * (i : Int))))
def bits8 (n : Int) : List UInt8 := [cnt8 n 0, cnt8 n 1, cnt8 n 2, cnt8 n 3, cnt8 n 4, cnt8 n 5, cnt8 n 6, cnt8 n 7]
theorem bits_sha (st : S_sha_State) : loopN (fun s : Int × (List UInt8) => sha_State_End.b1 st s.1 s.2) ((8 - 0 : Int).toNat + 2) (0, (List.replicate 8 0)) = some (.next (8, bits8 st.f_Count)) := by
  have f := (loop_for (body := fun s : Int × List UInt8 => sha_State_End.b1 st s.1 s.2) (fun _ => True) (fun i w => w.set i (cnt8 st.f_Count i)) 8
    (fun i w hi _ => ⟨by
      show sha_State_End.b1 st i w = _
      unfold sha_State_End.b1
      simp (disch := omega) only [w64]
      rw [if_pos (by simp; omega), if_pos (by omega), if_pos (by omega)]
      rfl, trivial⟩) (fun w => by unfold sha_State_End.b1; rw [if_neg (by simp)]) 8 0 (List.replicate 8 0) 10 rfl trivial (by decide)).1
  exact f.trans rfl
theorem loop_fori {R σ : Type} {body : Int × σ → Option (Flow R (Int × σ))} (I : Nat → σ → Prop) (f : Nat → σ → σ) (n : Nat)
    (hs : ∀ (i : Nat) (s : σ), i < n → I i s → body ((i : Int), s) = some (.cont (((i + 1 : Nat) : Int), f i s)) ∧ I (i + 1) (f i s)) (he : ∀ s, body ((n : Int), s) = some (.brk ((n : Int), s))) :
    ∀ (m i : Nat) (s : σ) (k : Nat), i + m = n → I i s → m < k → loopN body k ((i : Int), s) = some (.next ((n : Int), iter f i m s)) ∧ I n (iter f i m s)
  | 0, i, s, k + 1, h, hI, _ => by
    have : i = n := by omega
    subst this
    unfold loopN
    rw [he]
    exact ⟨rfl, hI⟩
  | m + 1, i, s, k + 1, h, hI, hk => by
    obtain ⟨h1, h2⟩ := hs i s (by omega) hI
    unfold loopN
    rw [h1]
    exact loop_fori I f n hs he m (i + 1) (f i s) k (by omega) h2 (by omega)
theorem bits_ref (n : Int) (x : List UInt8) (hx : x.length < 140737488355000) : loopN (fun s : Int × (List UInt8) => ref01_End.b2 n s.1 s.2) ((8 - 0 : Int).toNat + 2) (0, x) = some (.next (8, x ++ bits8 n)) := by
  have f := (loop_fori (body := fun s : Int × List UInt8 => ref01_End.b2 n s.1 s.2) (fun i w => w.length = x.length + i) (fun i w => w ++ [cnt8 n i]) 8
    (fun i w hi hw => ⟨by
      show ref01_End.b2 n i w = _
      unfold ref01_End.b2
      simp (disch := omega) only [w64, wu64]
      rw [if_pos (by simp; omega), if_pos (by simp [mxl]; omega)]
      rfl, by simp; omega⟩) (fun w => by unfold ref01_End.b2; rw [if_neg (by simp)]) 8 0 x 10 rfl rfl (by decide)).1
  refine Eq.trans f ?_
  simp [iter, bits8]
def byt (h : List Int) (i j : Nat) : UInt8 := u8of (IntKind.wrap .u8 (shr .u32 (h.getD i 0) (24 - 8 * (j : Int))))
theorem out_ref (h : List Int) (r : List UInt8) : loopN (fun s : Int × (List UInt8) => ref01_End.b3 (h, r) s.1 s.2) ((32 - 0 : Int).toNat + 2) (0, (List.replicate 32 0)) = some (.next (32, iter (fun i w => w.set i (byt h (i / 4) (i % 4))) 0 32 (List.replicate 32 0))) := by
  have f := (loop_for (body := fun s : Int × List UInt8 => ref01_End.b3 (h, r) s.1 s.2) (fun _ => True) (fun i w => w.set i (byt h (i / 4) (i % 4))) 32
    (fun i w hi _ => ⟨by
      show ref01_End.b3 (h, r) i w = _
      unfold ref01_End.b3
      have e1 : ((i : Int).tdiv 4) = ((i / 4 : Nat) : Int) := by rw [Int.tdiv_eq_ediv_of_nonneg (by omega)]; simp
      have e2 : ((i : Int).tmod 4) = ((i % 4 : Nat) : Int) := by rw [Int.tmod_eq_emod_of_nonneg (by omega)]; simp
      rw [e1, e2]
      simp (disch := omega) only [w64, wu64]
      rw [if_pos (by simp; omega), if_pos (by omega), if_pos (by omega)]
      rfl, trivial⟩) (fun w => by unfold ref01_End.b3; rw [if_neg (by simp)]) 32 0 (List.replicate 32 0) 34 rfl trivial (by decide)).1
  exact f
theorem out_sha4 (st : S_sha_State) (i : Nat) (hi : i < 8) (w : List UInt8) : loopN (fun s : Int × (List UInt8) => sha_State_End.b3 st (i : Int) s.1 s.2) ((4 - 0 : Int).toNat + 2) (0, w) = some (.next (4, iter (fun j w => w.set (4 * i + j) (byt st.f_Words i j)) 0 4 w)) := by
  have f := (loop_for (body := fun s : Int × List UInt8 => sha_State_End.b3 st (i : Int) s.1 s.2) (fun _ => True) (fun j w => w.set (4 * i + j) (byt st.f_Words i j)) 4
    (fun j w hj _ => ⟨by
      show sha_State_End.b3 st i j w = _
      unfold sha_State_End.b3
      simp (disch := omega) only [w64]
      rw [if_pos (by simp; omega), if_pos (by omega), if_pos (by omega)]
      have e : (4 * (i : Int) + (j : Int)).toNat = 4 * i + j := by omega
      rw [e]
      rfl, trivial⟩) (fun w => by unfold sha_State_End.b3; rw [if_neg (by simp)]) 4 0 w 6 rfl trivial (by decide)).1
  exact f
theorem out_sha (st : S_sha_State) : loopN (fun s : Int × (List UInt8) => sha_State_End.b2 st s.1 s.2) ((8 - 0 : Int).toNat + 2) (0, (List.replicate 32 0)) = some (.next (8, iter (fun i w => iter (fun j w => w.set (4 * i + j) (byt st.f_Words i j)) 0 4 w) 0 8 (List.replicate 32 0))) := by
  have f := (loop_for (body := fun s : Int × List UInt8 => sha_State_End.b2 st s.1 s.2) (fun _ => True) (fun i w => iter (fun j w => w.set (4 * i + j) (byt st.f_Words i j)) 0 4 w) 8
    (fun i w hi _ => ⟨by
      show sha_State_End.b2 st i w = _
      unfold sha_State_End.b2
      rw [if_pos (by simp; omega), if_pos (by omega)]
      simp (disch := omega) only [w64]
      exact bind_next (out_sha4 st i hi w) rfl, trivial⟩) (fun w => by unfold sha_State_End.b2; rw [if_neg (by simp)]) 8 0 (List.replicate 32 0) 10 rfl trivial (by decide)).1
  exact f
theorem out_same (h : List Int) : iter (fun i w => iter (fun j w => w.set (4 * i + j) (byt h i j)) 0 4 w) 0 8 (List.replicate 32 0) = iter (fun i w => w.set i (byt h (i / 4) (i % 4))) 0 32 (List.replicate 32 0) := by
  simp only [iter]
theorem out_len (h : List Int) : (iter (fun i w => w.set i (byt h (i / 4) (i % 4))) 0 32 (List.replicate 32 0)).length = 32 := by simp [iter]
theorem end_eq (st : S_sha_State) (hw : st.f_Words.length = 8) (hr : st.f_Rest.length < 64) : ∃ d, sha_State_End st = some d ∧ ref01_End st.f_Words st.f_Rest st.f_Count = some d ∧ d.length = 32 := by
  have ht : (st.f_Rest.length : Int).tmod 64 = st.f_Rest.length := by rw [Int.tmod_eq_emod_of_nonneg (by omega)]; omega
  have hwr : IntKind.wrap .i64 (119 - ((st.f_Rest.length : Int).tmod 64)) = 119 - st.f_Rest.length := by rw [ht]; exact w64 (by omega)
  have ht2 : (119 - (st.f_Rest.length : Int)).tmod 64 = (119 - (st.f_Rest.length : Int)) % 64 := Int.tmod_eq_emod_of_nonneg (by omega)
  have hrep : ∀ n : Nat, (Lib.repeatL [0] n).length = n := fun n => by rw [Lib.repeatL_length]; simp
  generalize hz : ((119 - (st.f_Rest.length : Int)) % 64).toNat = z
  have hz2 : z < 64 := by omega
  have hz3 : (st.f_Rest.length + 1 + z) % 64 = 56 := by omega
  obtain ⟨w, r, e1, e2, e3, e4, _⟩ := add_eq st (([128] ++ Lib.repeatL [0] z) ++ bits8 st.f_Count) hw (by simp only [List.length_append, hrep]; simp [mxl, bits8]; omega)
  refine ⟨_, ?_, ?_, out_len w⟩
  · unfold sha_State_End
    refine bind_next (bits_sha st) ?_
    show (if _ then _ else _) = _
    rw [hwr, ht2, hz, if_pos (by simp; omega), if_pos (by rw [hrep]; simp [mxl]; omega), if_pos (by rw [List.length_append, hrep]; simp [mxl]; omega)]
    have e8 : (bits8 st.f_Count).take ((8 : Int).toNat - (0 : Int).toNat) = bits8 st.f_Count := rfl
    rw [e8]
    refine bind_of e1 (bind_next (out_sha _) ?_)
    exact congrArg some (out_same w)
  · unfold ref01_End
    rw [if_pos (by simp [mxl]; omega), if_pos (by simp [mxl]; omega)]
    refine bind_next (pad_loop z 100000 _ (by simp; omega) hz2 (by omega) (by simp; omega)) (bind_next (bits_ref st.f_Count _ (by simp only [List.length_append, hrep]; simp; omega)) ?_)
    have hl : (([] : List UInt8) ++ st.f_Rest ++ [u8of 128] ++ Lib.repeatL [0] z) ++ bits8 st.f_Count = st.f_Rest ++ (([128] ++ Lib.repeatL [0] z) ++ bits8 st.f_Count) := by
      have : u8of 128 = 128 := rfl
      simp [this]
    show Option.bind (ref01_After st.f_Words ((([] : List UInt8) ++ st.f_Rest ++ [u8of 128] ++ Lib.repeatL [0] z) ++ bits8 st.f_Count)) _ = _
    rw [hl]
    exact bind_of e2 (bind_next (out_ref w r) rfl)
theorem sum_eq (l : List UInt8) (hl : l.length ≤ mxl) : ∃ d, sha_Sum [l] = some d ∧ ref01_Sum l = some d ∧ d.length = 32 := by
  obtain ⟨w, r, e1, e2, e3, e4, _⟩ := add_eq (S_sha_State.mk gFirst [] 0) l (by simp [gFirst]) (by simpa using hl)
  have hmx : mxl = 9223372036854775807 := by decide
  obtain ⟨d, f1, f2, f3⟩ := end_eq ⟨w, r, IntKind.wrap .u64 (0 + (IntKind.wrap .u64 (l.length : Int)))⟩ e3 e4
  refine ⟨d, ?_, ?_, f3⟩
  · have hloop : loopN (fun s : Int × S_sha_State => sha_Sum.b1 [l] s.1 s.2) (((([l] : List (List UInt8)).length : Int) - 0 : Int).toNat + 2) (0, S_sha_State.mk gFirst [] 0) = some (.next (1, ⟨w, r, IntKind.wrap .u64 (0 + (IntKind.wrap .u64 (l.length : Int)))⟩)) := by
      show loopN _ 3 _ = _
      unfold loopN
      have hb0 : sha_Sum.b1 [l] 0 (S_sha_State.mk gFirst [] 0) = some (.cont (1, ⟨w, r, IntKind.wrap .u64 (0 + (IntKind.wrap .u64 (l.length : Int)))⟩)) := by
        unfold sha_Sum.b1
        rw [if_pos (by simp), if_pos (by simp)]
        exact bind_of e1 rfl
      have hb1 : ∀ st, sha_Sum.b1 [l] 1 st = some (.brk (1, st)) := by
        intro st
        unfold sha_Sum.b1
        rw [if_neg (by simp)]
      simp only [hb0]
      unfold loopN
      simp only [hb1]
    unfold sha_Sum sha_Begin
    exact bind_of rfl (bind_next hloop (bind_of f1 rfl))
  · have hc : (IntKind.wrap .u64 (0 + (IntKind.wrap .u64 (l.length : Int)))) = IntKind.wrap .u64 (l.length : Int) := by
      rw [Int.zero_add, wu64 (x := (l.length : Int)) (by omega), wu64 (by omega)]
    unfold ref01_Sum
    refine bind_of first_eq (bind_of e2 (bind_of ?_ rfl))
    rw [← hc]
    exact f2
end Go.Proofs.YtamnmljgcmbliaaDoor
