/- Plain law of RelayerSteps: a step of any relayer, over any updates and replica, cut anywhere. -/
import Derived.Test.YtnjkofmmpfehcaaDoorRP48
import Derived.Test.YtnjkofmmpfehcaaDoorRP8x
import Derived.Test.YtnjkofmmpfehcaaDoorRP33t
namespace Go.Proofs.YtnjkofmmpfehcaaDoorR
open Go Go.RowKit Go.Proofs
set_option linter.unusedVariables false

theorem rbig_step8 (x : Nat) (i : Nat) (w : List UInt8) (hx : x < 18446744073709551616) (hi : i < 8) : ref03_Big.b1 (x : Int) (i : Int) w = some (.cont (((x / 256 : Nat) : Int), (i : Int) - 1, w.set i (u8of (IntKind.wrap .u8 ((x % 256 : Nat) : Int))))) := by
  unfold ref03_Big.b1
  rw [if_pos (by simp), if_pos (by omega)]
  have e1 : (x : Int).tdiv 256 = ((x / 256 : Nat) : Int) := by rw [Int.tdiv_eq_ediv_of_nonneg (by omega)]; simp
  have e2 : (x : Int).tmod 256 = ((x % 256 : Nat) : Int) := by rw [Int.tmod_eq_emod_of_nonneg (by omega)]; simp
  rw [e1, e2]
  simp (disch := omega) only [w64, wu64]
  rfl
theorem ref_big8 {x : Int} (h : 0 ≤ x ∧ x < 18446744073709551616) : ref03_Big x 8 = some (lng x) := by
  obtain ⟨n, rfl⟩ := Int.eq_ofNat_of_zero_le h.1
  have hn : n < 18446744073709551616 := by omega
  have n1 : n / 256 < 18446744073709551616 := by omega
  have n2 : n / 256 / 256 < 18446744073709551616 := by omega
  have n3 : n / 256 / 256 / 256 < 18446744073709551616 := by omega
  have n4 : n / 256 / 256 / 256 / 256 < 18446744073709551616 := by omega
  have n5 : n / 256 / 256 / 256 / 256 / 256 < 18446744073709551616 := by omega
  have n6 : n / 256 / 256 / 256 / 256 / 256 / 256 < 18446744073709551616 := by omega
  have n7 : n / 256 / 256 / 256 / 256 / 256 / 256 / 256 < 18446744073709551616 := by omega
  have k7 : IntKind.wrap .i64 (8 - 1) = ((7 : Nat) : Int) := by decide
  have b0 : u8of (IntKind.wrap .u8 ((n % 256 : Nat) : Int)) = u8of (IntKind.wrap .u8 (shr .u64 (n : Int) 0)) := UInt8.toNat_inj.1 (by rw [byteOf (q := 1) (by decide) (by decide), u8mod]; omega)
  have b1 : u8of (IntKind.wrap .u8 ((n / 256 % 256 : Nat) : Int)) = u8of (IntKind.wrap .u8 (shr .u64 (n : Int) 8)) := UInt8.toNat_inj.1 (by rw [byteOf (q := 256) (by decide) (by decide), u8mod])
  have b2 : u8of (IntKind.wrap .u8 ((n / 256 / 256 % 256 : Nat) : Int)) = u8of (IntKind.wrap .u8 (shr .u64 (n : Int) 16)) := UInt8.toNat_inj.1 (by rw [byteOf (q := 65536) (by decide) (by decide), u8mod]; omega)
  have b3 : u8of (IntKind.wrap .u8 ((n / 256 / 256 / 256 % 256 : Nat) : Int)) = u8of (IntKind.wrap .u8 (shr .u64 (n : Int) 24)) := UInt8.toNat_inj.1 (by rw [byteOf (q := 16777216) (by decide) (by decide), u8mod]; omega)
  have b4 : u8of (IntKind.wrap .u8 ((n / 256 / 256 / 256 / 256 % 256 : Nat) : Int)) = u8of (IntKind.wrap .u8 (shr .u64 (n : Int) 32)) := UInt8.toNat_inj.1 (by rw [byteOf (q := 4294967296) (by decide) (by decide), u8mod]; omega)
  have b5 : u8of (IntKind.wrap .u8 ((n / 256 / 256 / 256 / 256 / 256 % 256 : Nat) : Int)) = u8of (IntKind.wrap .u8 (shr .u64 (n : Int) 40)) := UInt8.toNat_inj.1 (by rw [byteOf (q := 1099511627776) (by decide) (by decide), u8mod]; omega)
  have b6 : u8of (IntKind.wrap .u8 ((n / 256 / 256 / 256 / 256 / 256 / 256 % 256 : Nat) : Int)) = u8of (IntKind.wrap .u8 (shr .u64 (n : Int) 48)) := UInt8.toNat_inj.1 (by rw [byteOf (q := 281474976710656) (by decide) (by decide), u8mod]; omega)
  have b7 : u8of (IntKind.wrap .u8 ((n / 256 / 256 / 256 / 256 / 256 / 256 / 256 % 256 : Nat) : Int)) = u8of (IntKind.wrap .u8 (shr .u64 (n : Int) 56)) := UInt8.toNat_inj.1 (by rw [byteOf (q := 72057594037927936) (by decide) (by decide), u8mod]; omega)
  have s0 := rbig_step8 n 7 (List.replicate 8 0) hn (by decide)
  rw [b0] at s0
  have s1 := rbig_step8 (n / 256) 6 ((List.replicate 8 0).set 7 (u8of (IntKind.wrap .u8 (shr .u64 (n : Int) 0)))) n1 (by decide)
  rw [b1] at s1
  have s2 := rbig_step8 (n / 256 / 256) 5 (((List.replicate 8 0).set 7 (u8of (IntKind.wrap .u8 (shr .u64 (n : Int) 0)))).set 6 (u8of (IntKind.wrap .u8 (shr .u64 (n : Int) 8)))) n2 (by decide)
  rw [b2] at s2
  have s3 := rbig_step8 (n / 256 / 256 / 256) 4 ((((List.replicate 8 0).set 7 (u8of (IntKind.wrap .u8 (shr .u64 (n : Int) 0)))).set 6 (u8of (IntKind.wrap .u8 (shr .u64 (n : Int) 8)))).set 5 (u8of (IntKind.wrap .u8 (shr .u64 (n : Int) 16)))) n3 (by decide)
  rw [b3] at s3
  have s4 := rbig_step8 (n / 256 / 256 / 256 / 256) 3 (((((List.replicate 8 0).set 7 (u8of (IntKind.wrap .u8 (shr .u64 (n : Int) 0)))).set 6 (u8of (IntKind.wrap .u8 (shr .u64 (n : Int) 8)))).set 5 (u8of (IntKind.wrap .u8 (shr .u64 (n : Int) 16)))).set 4 (u8of (IntKind.wrap .u8 (shr .u64 (n : Int) 24)))) n4 (by decide)
  rw [b4] at s4
  have s5 := rbig_step8 (n / 256 / 256 / 256 / 256 / 256) 2 ((((((List.replicate 8 0).set 7 (u8of (IntKind.wrap .u8 (shr .u64 (n : Int) 0)))).set 6 (u8of (IntKind.wrap .u8 (shr .u64 (n : Int) 8)))).set 5 (u8of (IntKind.wrap .u8 (shr .u64 (n : Int) 16)))).set 4 (u8of (IntKind.wrap .u8 (shr .u64 (n : Int) 24)))).set 3 (u8of (IntKind.wrap .u8 (shr .u64 (n : Int) 32)))) n5 (by decide)
  rw [b5] at s5
  have s6 := rbig_step8 (n / 256 / 256 / 256 / 256 / 256 / 256) 1 (((((((List.replicate 8 0).set 7 (u8of (IntKind.wrap .u8 (shr .u64 (n : Int) 0)))).set 6 (u8of (IntKind.wrap .u8 (shr .u64 (n : Int) 8)))).set 5 (u8of (IntKind.wrap .u8 (shr .u64 (n : Int) 16)))).set 4 (u8of (IntKind.wrap .u8 (shr .u64 (n : Int) 24)))).set 3 (u8of (IntKind.wrap .u8 (shr .u64 (n : Int) 32)))).set 2 (u8of (IntKind.wrap .u8 (shr .u64 (n : Int) 40)))) n6 (by decide)
  rw [b6] at s6
  have s7 := rbig_step8 (n / 256 / 256 / 256 / 256 / 256 / 256 / 256) 0 ((((((((List.replicate 8 0).set 7 (u8of (IntKind.wrap .u8 (shr .u64 (n : Int) 0)))).set 6 (u8of (IntKind.wrap .u8 (shr .u64 (n : Int) 8)))).set 5 (u8of (IntKind.wrap .u8 (shr .u64 (n : Int) 16)))).set 4 (u8of (IntKind.wrap .u8 (shr .u64 (n : Int) 24)))).set 3 (u8of (IntKind.wrap .u8 (shr .u64 (n : Int) 32)))).set 2 (u8of (IntKind.wrap .u8 (shr .u64 (n : Int) 40)))).set 1 (u8of (IntKind.wrap .u8 (shr .u64 (n : Int) 48)))) n7 (by decide)
  rw [b7] at s7
  unfold ref03_Big
  rw [k7]
  refine bind_next (loop_cont (body := fun s : Int × Int × (List UInt8) => ref03_Big.b1 s.1 s.2.1 s.2.2) 8 s0 (loop_cont 7 s1 (loop_cont 6 s2 (loop_cont 5 s3 (loop_cont 4 s4 (loop_cont 3 s5 (loop_cont 2 s6 (loop_cont 1 s7 (loop_brk 0 (rbig_end _ _)))))))))) ?_
  show (if _ then _ else _) = _
  rw [if_pos (by decide), if_pos (by decide)]
  rfl
def toR (n : S_notes_Note) : S_ref21_Note := ⟨n.f_Kind, n.f_Home, n.f_Next, n.f_Old, n.f_New, n.f_Sent⟩
theorem rby32 {x : List UInt8} (h : x.length = 32) : ref03_Bytes x = some x := dig_eq h
theorem rnoteB {n : S_notes_Note} (h : NtOk n) : ref21_Bytes (toR n) = some (noteB n) := by
  have hS := ntSmall h
  have hl := (hS.H 200).2
  have h85 := ntB_len h
  obtain ⟨k, hh, hn, h1, h2, hs⟩ := h
  unfold ref21_Bytes
  refine bind_of (rbyte_eq _) (bind_of (rword_eq _) ?_)
  rw [if_pos (by simp only [wrd4, List.length_cons, List.length_nil, mxl]; omega)]
  refine bind_of (ref_big8 hn) ?_
  rw [if_pos (by simp only [List.length_append, wrd4, lng8, List.length_cons, List.length_nil, mxl]; omega)]
  refine bind_of (rby32 h1) ?_
  rw [if_pos (by simp only [toR, List.length_append, wrd4, lng8, h1, List.length_cons, List.length_nil, mxl]; omega)]
  refine bind_of (rby32 h2) ?_
  rw [if_pos (by simp only [toR, List.length_append, wrd4, lng8, h1, h2, List.length_cons, List.length_nil, mxl]; omega)]
  refine bind_of (ref_big8 hs) ?_
  rw [if_pos (by simp only [toR, List.length_append, wrd4, lng8, h1, h2, List.length_cons, List.length_nil, mxl]; omega)]
  refine bind_of (rNone 200 (ps := [ntB n]) hS) (bind_of (rby32 hl) ?_)
  rw [if_pos]
  · rfl
  · show (ntB n).length + (H (inp 200 [ntB n])).length ≤ mxl
    rw [h85, hl]; decide
theorem rKnown (s : List UInt8) : ref21_Known s = some (if noteB (rdN s) = s then (toR (rdN s), true) else (⟨0, 0, 0, List.replicate 32 0, List.replicate 32 0, 0⟩, false)) := by
  have hok := rdN_ok s
  have hl := noteB_len hok
  unfold ref21_Known
  by_cases h : s.length = 117
  · rw [if_neg (by simp [h])]
    have v1 := vl8 (n := 1) (by omega) s 0
    have v2 := vl8 (n := 4) (by omega) (nx 1 (s, 0)).1 (nx 1 (s, 0)).2
    refine bind_of (numGR 1 (by omega) s 0) (bind_of (numGR 4 (by omega) _ _) (bind_of (numGR 8 (by omega) _ _) (bind_of (digR _ _) (bind_of (digR _ _) (bind_of (numGR 8 (by omega) _ _) ?_)))))
    have e1 : IntKind.wrap .u8 ((vl (tk 1 s 0).1 : Nat) : Int) = ((vl (tk 1 s 0).1 : Nat) : Int) := wu8 (by omega)
    have e2 : IntKind.wrap .u32 ((vl (tk 4 (nx 1 (s, 0)).1 (nx 1 (s, 0)).2).1 : Nat) : Int) = ((vl (tk 4 (nx 1 (s, 0)).1 (nx 1 (s, 0)).2).1 : Nat) : Int) := wu32 (by omega)
    have e3 : (⟨IntKind.wrap .u8 ((vl (tk 1 s 0).1 : Nat) : Int), IntKind.wrap .u32 ((vl (tk 4 (nx 1 (s, 0)).1 (nx 1 (s, 0)).2).1 : Nat) : Int), (rdN s).f_Next, (rdN s).f_Old, (rdN s).f_New, (rdN s).f_Sent⟩ : S_ref21_Note) = toR (rdN s) := by rw [e1, e2]; rfl
    refine bind_of (x := noteB (rdN s)) ((congrArg ref21_Bytes e3).trans (rnoteB hok)) ?_
    by_cases q : noteB (rdN s) = s
    · rw [if_neg (by simp [q]), if_pos q]
      exact congrArg (fun z => some (z, true)) e3
    · rw [if_pos (by simp [q]), if_neg q]
  · rw [if_pos (by simp; omega), if_neg (by intro q; rw [q] at hl; exact h hl)]
theorem noteV_iff (disk : List UInt8) : (enN (rdE disk) = 0 ∧ noteB (rdN disk) = disk) ↔ noteB (rdN disk) = disk := by
  constructor
  · exact fun h => h.2
  · intro h
    refine ⟨?_, h⟩
    have := (rdN_noteB (rdN_ok disk)).2
    rwa [h] at this
theorem rRead (disk : List UInt8) (k home : Int) : ref21_Read disk k home = some (toR (noteV disk k home)) := by
  unfold ref21_Read
  refine bind_of (rKnown disk) ?_
  unfold ref21_Read.j1 noteV
  by_cases h : noteB (rdN disk) = disk
  · rw [if_pos h]
    simp only
    by_cases h1 : (rdN disk).f_Kind = k
    · rw [if_pos trivial, if_pos (by simp [toR, h1])]
      by_cases h2 : (rdN disk).f_Home = home
      · rw [if_pos (by simp [toR, h2]), if_pos ⟨(noteV_iff disk).2 h, h1, h2⟩]
      · rw [if_neg (by simp [toR, h2]), if_neg (fun q => h2 q.2.2)]; rfl
    · rw [if_pos trivial, if_neg (by simp [toR, h1]), if_neg (by decide), if_neg (fun q => h1 q.2.1)]; rfl
  · rw [if_neg h]
    simp only
    rw [if_neg (by decide), if_neg (by decide), if_neg (fun q => h q.1.2)]; rfl
theorem ff_no {P : Nat → Bool} {i : Nat} (h : P i = false) : ff P (i + 1) = ff P i := by
  have := ff_range P i
  rw [ff_succ, h]
  split
  · rfl
  · rw [if_neg (by decide)]; omega
theorem rfits_eq (home : Int) (disk : List UInt8) (l : List S_api_Update) (c : S_api_Replica) (hl : l.length ≤ 1000) (hh : 0 ≤ home ∧ home < 4294967296) : ref23_Fits disk home l c = some (fitOf home disk l c) := by
  obtain ⟨_, _, hn, _⟩ := noteV_ok disk (k := 2) (by omega) hh
  unfold ref23_Fits fitOf
  refine bind_of (rRead disk 2 home) ?_
  generalize noteV disk 2 home = V at hn
  obtain ⟨n, hN⟩ := Int.eq_ofNat_of_zero_le hn.1
  have e0 : V.f_Next.toNat = n := by omega
  rw [e0]
  generalize hP : (fun i => fitP c (l.getD i default)) = P
  have hPi : ∀ i, P i = fitP c (l.getD i default) := fun i => by rw [← hP]
  obtain ⟨r, h1, h2⟩ := loop_ok (body := fun s : Int × Int × Int => ref23_Fits.b1 l c (toR V) s.1 s.2.1 s.2.2) (fun s => ∃ i : Nat, i ≤ l.length ∧ s = (ff P i, ff (fun i => P i && decide (n ≤ i)) i, (i : Int)))
      (fun r => match r with | .next s => s.1 = ff P l.length ∧ s.2.1 = ff (fun i => P i && decide (n ≤ i)) l.length | .ret _ => False) (fun s => (l.length - s.2.2).toNat)
      (fun s ⟨i, hi, hs⟩ => by
        subst hs
        have e1 : ((i : Nat) : Int).toNat = i := by omega
        by_cases q : i < l.length
        · refine .inl ⟨(ff P (i + 1), ff (fun i => P i && decide (n ≤ i)) (i + 1), ((i + 1 : Nat) : Int)), ?_, ⟨i + 1, by omega, rfl⟩, by simp; omega⟩
          show ref23_Fits.b1 l c (toR V) (ff P i) (ff (fun i => P i && decide (n ≤ i)) i) (i : Int) = _
          have e2 : IntKind.wrap .i64 ((i : Int) + 1) = ((i + 1 : Nat) : Int) := by rw [w64 (by omega)]; rfl
          have no : P i = false → some (Flow.cont (R := Int) (ff P i, ff (fun i => P i && decide (n ≤ i)) i, ((i + 1 : Nat) : Int))) = some (Flow.cont (ff P (i + 1), ff (fun i => P i && decide (n ≤ i)) (i + 1), ((i + 1 : Nat) : Int))) := by
            intro w
            rw [ff_no w, ff_no (P := fun i => P i && decide (n ≤ i)) (i := i) (by simp [w])]
          have hw := hPi i
          unfold fitP at hw
          unfold ref23_Fits.b1
          rw [if_pos (by simp; omega), if_pos (by omega), e1]
          generalize l.getD i default = u at hw ⊢
          by_cases a : u.f_Old = c.f_Committed
          · rw [if_neg (by simp [a])]
            unfold ref23_Fits.j1
            by_cases b : u.f_New = c.f_Committed
            · rw [if_pos (by simp [b]), e2]
              exact no (by rw [hw]; simp [b])
            · rw [if_neg (by simp [b])]
              have hT : P i = true := by rw [hw]; simp [a, b]
              have f1 : (if ff P i < 0 then (i : Int) else ff P i) = ff P (i + 1) := by
                rw [ff_succ, hT]
                by_cases z : ff P i < 0
                · rw [if_pos z, if_neg (by omega), if_pos rfl]
                · rw [if_neg z, if_pos (by omega)]
              have hu : IntKind.wrap .u64 (i : Int) = (i : Int) := wu64 (by omega)
              have key : ∀ y : Int, ref23_Fits.j2 (toR V) (ff (fun i => P i && decide (n ≤ i)) i) (i : Int) y = some (.cont (y, ff (fun i => P i && decide (n ≤ i)) (i + 1), ((i + 1 : Nat) : Int))) := by
                intro y
                unfold ref23_Fits.j2 ref23_Fits.j3 ref23_Fits.j4
                rw [e2, hu]
                rw [ff_succ (fun i => P i && decide (n ≤ i))]
                by_cases z : ff (fun i => P i && decide (n ≤ i)) i < 0
                · rw [if_pos (decide_eq_true z), if_neg (show ¬ 0 ≤ ff (fun i => P i && decide (n ≤ i)) i by omega)]
                  have hv : (toR V).f_Next = (n : Int) := hN
                  rw [hv]
                  by_cases y2 : n ≤ i
                  · rw [if_pos (by simp; omega), if_pos (by simp [hT, y2])]
                  · have := ff_range (fun i => P i && decide (n ≤ i)) i
                    rw [if_neg (by simp; omega), if_neg (by simp [y2])]
                    rw [show ff (fun i => P i && decide (n ≤ i)) i = -1 by omega]
                · rw [if_neg (by rw [decide_eq_false z]; decide), if_neg (by decide), if_pos (show 0 ≤ ff (fun i => P i && decide (n ≤ i)) i by omega)]
              by_cases z : ff P i < 0
              · rw [if_pos (decide_eq_true z), key, ← f1, if_pos z]
              · rw [if_neg (by rw [decide_eq_false z]; decide), key, ← f1, if_neg z]
          · rw [if_pos (by simp [a])]
            unfold ref23_Fits.j1
            rw [if_pos rfl, e2]
            exact no (by rw [hw]; simp [a])
        · have : i = l.length := by omega
          subst this
          refine .inr (.inl ⟨(ff P l.length, ff (fun i => P i && decide (n ≤ i)) l.length, (l.length : Int)), ?_, rfl, rfl⟩)
          show ref23_Fits.b1 l c (toR V) _ _ (l.length : Int) = _
          unfold ref23_Fits.b1
          rw [if_neg (by simp)]) (((l.length : Int) - 0 : Int).toNat + 2) (-1, -1, 0) ⟨0, by omega, rfl⟩ (by simp)
  cases r with
  | ret r => exact h2.elim
  | next s =>
    have h2 : s.1 = ff P l.length ∧ s.2.1 = ff (fun i => P i && decide (n ≤ i)) l.length := h2
    refine bind_next h1 ?_
    show (if (decide ((0 : Int) ≤ s.2.1)) = true then some s.2.1 else some s.1) = _
    rw [h2.1, h2.2]
    have e : fitsV n c l = if 0 ≤ ff (fun i => P i && decide (n ≤ i)) l.length then ff (fun i => P i && decide (n ≤ i)) l.length else ff P l.length := by rw [← hP]; rfl
    rw [e]
    by_cases z : 0 ≤ ff (fun i => P i && decide (n ≤ i)) l.length
    · rw [if_pos (decide_eq_true z), if_pos z]
    · rw [if_neg (by rw [decide_eq_false z]; decide), if_neg z]
theorem rstep_stop (home : Int) (disk : List UInt8) (l : List S_api_Update) (c : S_api_Replica) (cut : Int) (hl : l.length ≤ 1000) (hh : 0 ≤ home ∧ home < 4294967296) (h : stopped c (fitOf home disk l c) cut) : ref23_Step disk home l c cut = some (disk, []) := by
  have hj : ref23_Step.j1 disk home l cut (fitOf home disk l c) true = some (disk, []) := by
    unfold ref23_Step.j1
    rw [if_pos rfl]
  unfold ref23_Step
  refine bind_of (rfits_eq home disk l c hl hh) ?_
  by_cases h3 : fitOf home disk l c < 0
  · rw [if_pos (decide_eq_true h3)]; exact hj
  · rw [if_neg (by rw [decide_eq_false h3]; decide)]
    by_cases h1 : c.f_Failed = true
    · rw [if_pos h1]; exact hj
    · rw [if_neg h1]
      by_cases h2 : c.f_Cut = true
      · rw [h2]; exact hj
      · have : c.f_Cut = false := by simpa using h2
        rw [this]
        rcases h with h | h | h | h
        · exact absurd h h1
        · exact absurd h h2
        · exact absurd h h3
        · unfold ref23_Step.j1
          rw [if_neg (by decide), if_pos (decide_eq_true h)]
theorem rstep_go (home : Int) (disk : List UInt8) (l : List S_api_Update) (c : S_api_Replica) (cut : Int) (hl : l.length ≤ 1000) (hh : 0 ≤ home ∧ home < 4294967296) (h32 : ∀ u ∈ l, u.f_Old.length = 32 ∧ u.f_New.length = 32) (h : ¬ stopped c (fitOf home disk l c) cut) :
    ref23_Step disk home l c cut = some (noteB (noteN home disk l (fitOf home disk l c)), if cut = 1 then [] else [l.getD (fitOf home disk l c).toNat default]) := by
  have hr : -1 ≤ fitOf home disk l c ∧ fitOf home disk l c < l.length := fitsV_range _ _ _
  obtain ⟨_, _, _, _, _, hs⟩ := noteV_ok disk (k := 2) (by omega) hh
  have hkh := noteV_kh disk (k := 2) (home := home)
  unfold stopped at h
  have h1 : ¬ c.f_Failed = true := fun q => h (.inl q)
  have h2 : ¬ c.f_Cut = true := fun q => h (.inr (.inl q))
  have h2' : c.f_Cut = false := by simpa using h2
  have h3 : ¬ fitOf home disk l c < 0 := fun q => h (.inr (.inr (.inl q)))
  have h4 : ¬ cut = 0 := fun q => h (.inr (.inr (.inr q)))
  have hN := noteN_ok (disk := disk) hh ⟨by omega, hr.2⟩ hl h32
  unfold ref23_Step
  refine bind_of (rfits_eq home disk l c hl hh) ?_
  rw [if_neg (by rw [decide_eq_false h3]; decide), if_neg h1, h2']
  generalize fitOf home disk l c = i at hr h3 hN
  unfold ref23_Step.j1
  rw [if_neg (by decide), if_neg (by rw [decide_eq_false h4]; decide)]
  refine bind_of (rRead disk 2 home) ?_
  rw [if_pos (by omega)]
  have key : ∀ x : Int, min (if (noteV disk 2 home).f_New = (l.getD i.toNat default).f_New then (noteV disk 2 home).f_Sent else 0) 999999 = x → 0 ≤ x ∧ x ≤ 999999 →
      ref23_Step.j3 l cut i (toR (noteV disk 2 home)) x = some (noteB (noteN home disk l i), if cut = 1 then [] else [l.getD i.toNat default]) := by
    intro x hx hx2
    have e1 : IntKind.wrap .u64 i = i := wu64 (by omega)
    have e2 : IntKind.wrap .u64 (x + 1) = x + 1 := wu64 (by omega)
    have e3 : (⟨(toR (noteV disk 2 home)).f_Kind, (toR (noteV disk 2 home)).f_Home, IntKind.wrap .u64 i, (l.getD i.toNat default).f_Old, (l.getD i.toNat default).f_New, IntKind.wrap .u64 (x + 1)⟩ : S_ref21_Note) = toR (noteN home disk l i) := by
      rw [e1, e2, ← hx]
      show (⟨(noteV disk 2 home).f_Kind, (noteV disk 2 home).f_Home, _, _, _, _⟩ : S_ref21_Note) = _
      rw [hkh.1, hkh.2]; rfl
    unfold ref23_Step.j3
    rw [if_pos (by omega), if_pos (by omega), e3]
    by_cases hc : cut = 1
    · rw [if_pos (decide_eq_true hc), if_pos hc]
      exact bind_of (rnoteB hN) rfl
    · rw [if_neg (by rw [decide_eq_false hc]; decide), if_neg hc]
      refine bind_of (rnoteB hN) ?_
      rw [if_pos (by omega)]
  have k2 : ∀ y : Int, 0 ≤ y → min (if (noteV disk 2 home).f_New = (l.getD i.toNat default).f_New then (noteV disk 2 home).f_Sent else 0) 999999 = min y 999999 → ref23_Step.j2 l cut i (toR (noteV disk 2 home)) y = some (noteB (noteN home disk l i), if cut = 1 then [] else [l.getD i.toNat default]) := by
    intro y hy he
    unfold ref23_Step.j2
    by_cases z : 999999 < y
    · rw [if_pos (decide_eq_true z)]
      exact key _ (by rw [he]; omega) (by omega)
    · rw [if_neg (by rw [decide_eq_false z]; decide)]
      exact key _ (by rw [he]; omega) (by omega)
  by_cases q : (noteV disk 2 home).f_New = (l.getD i.toNat default).f_New
  · rw [if_neg (by show ¬ (!decide ((noteV disk 2 home).f_New = (l.getD i.toNat default).f_New)) = true; rw [decide_eq_true q]; decide)]
    exact k2 _ hs.1 (by rw [if_pos q]; rfl)
  · rw [if_pos (by show (!decide ((noteV disk 2 home).f_New = (l.getD i.toNat default).f_New)) = true; rw [decide_eq_false q]; rfl)]
    exact k2 _ (by omega) (by rw [if_neg q])
theorem same23 (a : S_api_Update) (h : a.f_Sig.f_Parts.length < 1000000 ∧ a.f_Sig.f_Others.length < 1000000 ∧ a.f_Sig.f_Path.length < 1000000) : ref10_Same a a = some true := by
  unfold ref10_Same ref10_Same.j1
  rw [if_pos (by simp), if_pos (by simp), if_pos (by simp)]
  exact bind_of ((sameS _ _ h).trans (by rw [sigEq_self])) rfl
def Shrt (s : S_api_Sig) : Prop := s.f_Parts.length ≤ 60 ∧ s.f_Others.length ≤ 60 ∧ s.f_Path.length ≤ 60
instance (s : S_api_Sig) : Decidable (Shrt s) := by unfold Shrt; infer_instance
theorem short23 (s : S_api_Sig) : law23_short s = some (decide (Shrt s)) := by
  unfold law23_short law23_short.j1 Shrt
  by_cases a : s.f_Parts.length ≤ 60
  · rw [if_pos (by simp; omega)]
    by_cases b : s.f_Others.length ≤ 60
    · rw [if_pos (by simp; omega)]
      by_cases c : s.f_Path.length ≤ 60
      · simp [a, b, c]; omega
      · simp [a, b, c]; omega
    · rw [if_neg (by simp; omega)]; simp [b]
  · rw [if_neg (by simp; omega)]; simp [a]
theorem loop_same (r : S_relayer_Relayer) (d : List UInt8) (x : List S_api_Update) (hx : x.length ≤ 1) (hs : ∀ u ∈ x, Shrt u.f_Sig) : loopN (fun s : Int => law23_RelayerSteps.b2 (r, x) (d, x) s) (((x.length : Int) - 0 : Int).toNat + 2) 0 = some (.next (x.length : Int)) := by
  match x, hx with
  | [], _ =>
    refine loop_brk 1 ?_
    show law23_RelayerSteps.b2 (r, []) (d, []) 0 = _
    unfold law23_RelayerSteps.b2
    rw [if_neg (by simp)]
    rfl
  | [u], _ =>
    obtain ⟨a, b, c⟩ := hs u (by simp)
    refine loop_cont (s' := 1) 2 ?_ (loop_brk 1 ?_)
    · show law23_RelayerSteps.b2 (r, [u]) (d, [u]) 0 = _
      unfold law23_RelayerSteps.b2
      rw [if_pos (by simp), if_pos (by simp), if_pos (by simp)]
      refine bind_of (x := true) (same23 u ⟨by omega, by omega, by omega⟩) ?_
      rw [if_neg (by decide)]
      rfl
    · show law23_RelayerSteps.b2 (r, [u]) (d, [u]) 1 = _
      unfold law23_RelayerSteps.b2
      rw [if_neg (by simp)]
      rfl
theorem few_total (c : S_api_Replica) : ∃ b, law17_Few c = some b := by
  unfold law17_Few law17_Few.j1
  split
  · split <;> exact ⟨_, rfl⟩
  · exact ⟨_, rfl⟩
theorem relayerSteps_true (home : Int) (disk : List UInt8) (l : List S_api_Update) (c : S_api_Replica) (cut : Int) (hh : 0 ≤ home ∧ home < 4294967296) (h32 : ∀ u ∈ l, u.f_Old.length = 32 ∧ u.f_New.length = 32) : law23_RelayerSteps home disk l c cut = some true := by
  have hj : law23_RelayerSteps.j1 home disk l c cut true = some true := by
    unfold law23_RelayerSteps.j1
    rw [if_pos rfl]
  unfold law23_RelayerSteps
  refine bind_of awake23 ?_
  rw [if_neg (by decide)]
  by_cases h : 30 < l.length
  · rw [if_pos (by simp; omega)]; exact hj
  rw [if_neg (by simp; omega)]
  obtain ⟨b, hb⟩ := few_total c
  refine bind_of hb ?_
  by_cases h0 : b = false
  · rw [if_pos (by simp [h0])]; exact hj
  rw [if_neg (by simpa using h0)]
  by_cases h2 : 2000 < disk.length
  · rw [show decide ((2000 : Int) < (disk.length : Int)) = true by simp; omega]; exact hj
  rw [show decide ((2000 : Int) < (disk.length : Int)) = false by simp; omega]
  unfold law23_RelayerSteps.j1
  rw [if_neg (by decide)]
  obtain ⟨r, h3, h4⟩ := loop_ok (body := fun s : Int => law23_RelayerSteps.b1 l s) (fun s => ∃ i : Nat, i ≤ l.length ∧ s = (i : Int) ∧ ∀ j, j < i → Shrt (l.getD j default).f_Sig)
      (fun r => match r with | .next _ => ∀ j, j < l.length → Shrt (l.getD j default).f_Sig | .ret r => r = true) (fun s => (l.length - s).toNat)
      (fun s ⟨i, hi, hs, hj⟩ => by
        subst hs
        have e1 : ((i : Nat) : Int).toNat = i := by omega
        by_cases q : i < l.length
        · by_cases w : Shrt (l.getD i default).f_Sig
          · refine .inl ⟨((i + 1 : Nat) : Int), ?_, ⟨i + 1, by omega, rfl, fun j hj' => ?_⟩, by simp; omega⟩
            · show law23_RelayerSteps.b1 l (i : Int) = _
              unfold law23_RelayerSteps.b1
              rw [if_pos (by simp; omega), if_pos (by omega), e1]
              refine bind_of (short23 _) ?_
              rw [if_neg (by rw [decide_eq_true w]; decide), w64 (by omega)]
              rfl
            · by_cases e : j = i
              · rw [e]; exact w
              · exact hj j (by omega)
          · refine .inr (.inr ⟨true, ?_, rfl⟩)
            show law23_RelayerSteps.b1 l (i : Int) = _
            unfold law23_RelayerSteps.b1
            rw [if_pos (by simp; omega), if_pos (by omega), e1]
            refine bind_of (short23 _) ?_
            rw [if_pos (by rw [decide_eq_false w]; rfl)]
        · have : i = l.length := by omega
          subst this
          refine .inr (.inl ⟨(l.length : Int), ?_, hj⟩)
          show law23_RelayerSteps.b1 l (l.length : Int) = _
          unfold law23_RelayerSteps.b1
          rw [if_neg (by simp)]) (((l.length : Int) - 0 : Int).toNat + 2) 0 ⟨0, by omega, rfl, fun j hj => by omega⟩ (by simp)
  cases r with
  | ret r =>
    have h4 : r = true := h4
    subst h4
    exact bind_of h3 rfl
  | next s =>
    have h4 : ∀ j, j < l.length → Shrt (l.getD j default).f_Sig := h4
    have hs : ∀ u ∈ l, Shrt u.f_Sig := by
      intro u hu
      obtain ⟨j, hj, rfl⟩ := List.mem_iff_getElem.1 hu
      have := h4 j hj
      rwa [show l.getD j default = l[j] by simp [List.getD, hj]] at this
    refine bind_of h3 ?_
    have fin : ∀ (d : List UInt8) (x : List S_api_Update), x.length ≤ 1 → (∀ u ∈ x, Shrt u.f_Sig) → relayer_Step ⟨home, disk⟩ l c cut = some (⟨home, d⟩, x) → ref23_Step disk home l c cut = some (d, x) →
        ((relayer_Step (S_relayer_Relayer.mk home disk) l c cut).bind fun r30 => ((ref23_Step disk home l c cut).bind fun r32 => (if (!decide (r30.1.f_Disk = r32.1)) = true then law23_RelayerSteps.j2 home r30 r32 true else (if (!decide (r30.1.f_Home = home)) = true then law23_RelayerSteps.j2 home r30 r32 true else (if (!decide ((r30.2.length : Int) = (r32.2.length : Int))) = true then law23_RelayerSteps.j2 home r30 r32 true else ((relayer_Fits (S_relayer_Relayer.mk home disk) l c).bind fun r33 => ((ref23_Fits disk home l c).bind fun r34 => (if (!decide (r33 = r34)) = true then law23_RelayerSteps.j2 home r30 r32 true else ((relayer_Note (S_relayer_Relayer.mk home disk)).bind fun r35 => ((notes_Read disk 2 home).bind fun r36 => law23_RelayerSteps.j2 home r30 r32 (!((decide (r35.f_Kind = r36.f_Kind)) && ((decide (r35.f_Home = r36.f_Home)) && ((decide (r35.f_Next = r36.f_Next)) && ((decide (r35.f_Old = r36.f_Old)) && ((decide (r35.f_New = r36.f_New)) && ((decide (r35.f_Sent = r36.f_Sent)) && true))))))))))))))))) = some true := by
      intro d x hx hsx g1 g2
      refine bind_of g1 (bind_of g2 ?_)
      rw [if_neg (by simp), if_neg (by simp), if_neg (by simp)]
      refine bind_of (fits_eq home disk l c (by omega) hh) (bind_of (rfits_eq home disk l c (by omega) hh) ?_)
      rw [if_neg (by show ¬ (!decide (fitOf home disk l c = fitOf home disk l c)) = true; simp)]
      refine bind_of (x := noteV disk 2 home) (by unfold relayer_Note; exact bind_of (Read_eq disk 2 home) rfl) (bind_of (Read_eq disk 2 home) ?_)
      simp only [decide_true, Bool.and_true, Bool.not_true]
      unfold law23_RelayerSteps.j2
      rw [if_neg (by decide)]
      refine bind_next (loop_same _ _ x hx hsx) ?_
      refine bind_of (x := (⟨home, []⟩ : S_relayer_Relayer)) rfl ?_
      rw [if_pos (by simp)]
      refine bind_of (x := (⟨home, []⟩ : S_relayer_Relayer)) rfl ?_
      unfold law23_RelayerSteps.j3
      simp
    by_cases hst : stopped c (fitOf home disk l c) cut
    · exact fin disk [] (by simp) (by simp) (step_stop home disk l c cut (by omega) hh hst) (rstep_stop home disk l c cut (by omega) hh hst)
    · have hr : -1 ≤ fitOf home disk l c ∧ fitOf home disk l c < l.length := fitsV_range _ _ _
      refine fin _ _ ?_ ?_ (step_go home disk l c cut (by omega) hh h32 (fun u hu => ?_) hst) (rstep_go home disk l c cut (by omega) hh h32 hst)
      · split <;> simp
      · intro u hu
        by_cases hc : cut = 1
        · rw [if_pos hc] at hu; simp at hu
        · rw [if_neg hc, List.mem_singleton] at hu
          rw [hu]
          exact h4 _ (by
            have : ¬ fitOf home disk l c < 0 := fun q => hst (.inr (.inr (.inl q)))
            omega)
      · obtain ⟨a, b, c⟩ := hs u hu
        exact ⟨by omega, by omega, by omega⟩
end Go.Proofs.YtnjkofmmpfehcaaDoorR
