/- Plain law of AuditChains: what is counted of any chains. -/
import Derived.Test.YtafeolgdggncnaaDoorP62
namespace Go.Proofs.YtafeolgdggncnaaDoor
open Go Go.RowKit Go.Proofs
set_option linter.unusedVariables false
set_option maxRecDepth 100000

theorem awake28c : law28_awake = some true := by decide +kernel
theorem natTo (i : Nat) : ((i : Nat) : Int).toNat = i := by omega
theorem mxlE : mxl = 9223372036854775807 := rfl
theorem incW {i n : Nat} (h : i < n) (hn : n ≤ mxl) : IntKind.wrap .i64 ((i : Int) + 1) = (i : Int) + 1 := by
  rw [mxlE] at hn
  exact w64 (by omega)
theorem fdEnd (p : Nat → Bool) (n : Nat) (h : ¬ 0 ≤ fd p n) : fd p n = -1 := by have := fd_range p n; omega
/-- A number of 64 bits. -/
abbrev U64 (x : Int) : Prop := 0 ≤ x ∧ x < 18446744073709551616
theorem u64_of {x : Int} (h : InR .u64 x) : U64 x := by
  simp [InR, IntKind.min, IntKind.max, IntKind.bits, IntKind.signed] at h
  omega
theorem wrapU (x : Int) : IntKind.wrap .u64 x = x % 18446744073709551616 := by
  simp [IntKind.wrap, IntKind.bits, IntKind.signed]
theorem wrapE {x : Int} (h : U64 x) : IntKind.wrap .u64 x = x := by rw [wrapU]; omega
/-- The digits of a number, of base 2 to the 32. -/
def dg (t : Int) : List Int := [t % 4294967296, t / 4294967296 % 4294967296, t / 18446744073709551616 % 4294967296, t / 79228162514264337593543950336 % 4294967296]
theorem of_dg {h l : Int} (hh : U64 h) (hl : U64 l) : ref08_Of h l = some (dg (h * 18446744073709551616 + l)) := by
  unfold ref08_Of
  rw [Int.tmod_eq_emod_of_nonneg hl.1, Int.tmod_eq_emod_of_nonneg hh.1, Int.tdiv_eq_ediv_of_nonneg hl.1, Int.tdiv_eq_ediv_of_nonneg hh.1, wrapE (by omega), wrapE (by omega)]
  unfold dg
  simp only [List.replicate, Nat.sub_self, List.append_nil, Option.some.injEq, List.cons.injEq, and_true]
  refine ⟨?_, ?_, ?_, ?_⟩ <;> omega
theorem dg_mk {a b c d e t : Int} (ha : 0 ≤ a ∧ a < 4294967296) (hb : 0 ≤ b ∧ b < 4294967296) (hc : 0 ≤ c ∧ c < 4294967296) (hd : 0 ≤ d ∧ d < 4294967296)
    (ht : t = a + 4294967296 * (b + 4294967296 * (c + 4294967296 * (d + 4294967296 * e)))) : dg t = [a, b, c, d] := by
  subst ht
  unfold dg
  simp only [List.cons.injEq, and_true]
  refine ⟨?_, ?_, ?_, ?_⟩ <;> omega
theorem plus_step {s0 t0 x : Int} (l m : List Int) (r : List Int) (i : Nat) (hi : i < 4) (h0 : l.getD i 0 = s0) (h1 : m.getD i 0 = t0) (hs : 0 ≤ s0 ∧ s0 < 4294967296) (ht : 0 ≤ t0 ∧ t0 < 4294967296) (hx : 0 ≤ x ∧ x ≤ 1) :
    ref08_Wide_Plus.b1 l m x (i : Int) r = some (.cont ((s0 + t0 + x) / 4294967296, (i : Int) + 1, r.set i ((s0 + t0 + x) % 4294967296))) := by
  unfold ref08_Wide_Plus.b1
  rw [if_pos (decide_eq_true (by omega)), if_pos (by omega), if_pos (by omega), natTo, h0, h1, wrapE (x := s0 + t0) (by omega), wrapE (x := s0 + t0 + x) (by omega), Int.tdiv_eq_ediv_of_nonneg (by omega), Int.tmod_eq_emod_of_nonneg (by omega), wrapE (by omega), w64 (by omega)]
theorem plus_dg (s t : Int) : ∃ c, ref08_Wide_Plus (dg s) (dg t) = some (dg (s + t), c) := by
  generalize hs0 : s % 4294967296 = s0
  generalize hs1 : s / 4294967296 % 4294967296 = s1
  generalize hs2 : s / 18446744073709551616 % 4294967296 = s2
  generalize hs3 : s / 79228162514264337593543950336 % 4294967296 = s3
  generalize ht0 : t % 4294967296 = t0
  generalize ht1 : t / 4294967296 % 4294967296 = t1
  generalize ht2 : t / 18446744073709551616 % 4294967296 = t2
  generalize ht3 : t / 79228162514264337593543950336 % 4294967296 = t3
  have es : dg s = [s0, s1, s2, s3] := by unfold dg; rw [hs0, hs1, hs2, hs3]
  have et : dg t = [t0, t1, t2, t3] := by unfold dg; rw [ht0, ht1, ht2, ht3]
  have ds : s = s0 + 4294967296 * (s1 + 4294967296 * (s2 + 4294967296 * (s3 + 4294967296 * (s / 340282366920938463463374607431768211456)))) := by omega
  have dt : t = t0 + 4294967296 * (t1 + 4294967296 * (t2 + 4294967296 * (t3 + 4294967296 * (t / 340282366920938463463374607431768211456)))) := by omega
  generalize s / 340282366920938463463374607431768211456 = s4 at ds
  generalize t / 340282366920938463463374607431768211456 = t4 at dt
  have b0 : 0 ≤ s0 ∧ s0 < 4294967296 := by omega
  have b1 : 0 ≤ s1 ∧ s1 < 4294967296 := by omega
  have b2 : 0 ≤ s2 ∧ s2 < 4294967296 := by omega
  have b3 : 0 ≤ s3 ∧ s3 < 4294967296 := by omega
  have a0 : 0 ≤ t0 ∧ t0 < 4294967296 := by omega
  have a1 : 0 ≤ t1 ∧ t1 < 4294967296 := by omega
  have a2 : 0 ≤ t2 ∧ t2 < 4294967296 := by omega
  have a3 : 0 ≤ t3 ∧ t3 < 4294967296 := by omega
  clear hs0 hs1 hs2 hs3 ht0 ht1 ht2 ht3
  rw [es, et]
  generalize hc1 : (s0 + t0 + 0) / 4294967296 = c1
  generalize hr0 : (s0 + t0 + 0) % 4294967296 = r0
  have k1 : 0 ≤ c1 ∧ c1 ≤ 1 := by omega
  generalize hc2 : (s1 + t1 + c1) / 4294967296 = c2
  generalize hr1 : (s1 + t1 + c1) % 4294967296 = r1
  have k2 : 0 ≤ c2 ∧ c2 ≤ 1 := by omega
  generalize hc3 : (s2 + t2 + c2) / 4294967296 = c3
  generalize hr2 : (s2 + t2 + c2) % 4294967296 = r2
  have k3 : 0 ≤ c3 ∧ c3 ≤ 1 := by omega
  generalize hc4 : (s3 + t3 + c3) / 4294967296 = c4
  generalize hr3 : (s3 + t3 + c3) % 4294967296 = r3
  have hfin : dg (s + t) = [r0, r1, r2, r3] := dg_mk (e := s4 + t4 + c4) (by omega) (by omega) (by omega) (by omega) (by omega)
  have e0 := plus_step (s0 := s0) (t0 := t0) (x := 0) [s0, s1, s2, s3] [t0, t1, t2, t3] (List.replicate 4 0) 0 (by decide) rfl rfl b0 a0 (by omega)
  have e1 := plus_step (s0 := s1) (t0 := t1) (x := c1) [s0, s1, s2, s3] [t0, t1, t2, t3] [r0, 0, 0, 0] 1 (by decide) rfl rfl b1 a1 k1
  have e2 := plus_step (s0 := s2) (t0 := t2) (x := c2) [s0, s1, s2, s3] [t0, t1, t2, t3] [r0, r1, 0, 0] 2 (by decide) rfl rfl b2 a2 k2
  have e3 := plus_step (s0 := s3) (t0 := t3) (x := c3) [s0, s1, s2, s3] [t0, t1, t2, t3] [r0, r1, r2, 0] 3 (by decide) rfl rfl b3 a3 k3
  rw [hc1, hr0] at e0
  rw [hc2, hr1] at e1
  rw [hc3, hr2] at e2
  rw [hc4, hr3] at e3
  have e4 : ref08_Wide_Plus.b1 [s0, s1, s2, s3] [t0, t1, t2, t3] c4 4 [r0, r1, r2, r3] = some (.brk (c4, 4, [r0, r1, r2, r3])) := by
    unfold ref08_Wide_Plus.b1
    rw [if_neg (by decide)]
  refine ⟨c4, ?_⟩
  rw [hfin]
  unfold ref08_Wide_Plus
  have hloop : loopN (fun s : Int × Int × (List Int) => ref08_Wide_Plus.b1 [s0, s1, s2, s3] [t0, t1, t2, t3] s.1 s.2.1 s.2.2) ((4 - 0 : Int).toNat + 2) (0, 0, (List.replicate 4 0)) = some (.next (c4, 4, [r0, r1, r2, r3])) := by
    show loopN _ 6 _ = _
    refine lcW (s' := (c1, 1, [r0, 0, 0, 0])) 5 e0 ?_
    refine lcW (s' := (c2, 2, [r0, r1, 0, 0])) 4 e1 ?_
    refine lcW (s' := (c3, 3, [r0, r1, r2, 0])) 3 e2 ?_
    refine lcW (s' := (c4, 4, [r0, r1, r2, r3])) 2 e3 ?_
    exact lbW 1 e4
  exact bind_next hloop rfl
/-- The sum of the first numbers. -/
def sumT (xs : List Int) : Nat → Int
  | 0 => 0
  | i + 1 => sumT xs i + xs.getD i default
theorem sumT_range {xs : List Int} (h : ∀ x ∈ xs, U64 x) : ∀ i, i ≤ xs.length → 0 ≤ sumT xs i ∧ sumT xs i ≤ i * 18446744073709551616
  | 0, _ => by simp [sumT]
  | i + 1, hi => by
    have ih := sumT_range h i (by omega)
    have hx : U64 (xs.getD i default) := by
      have : xs.getD i default = xs[i] := by simp [List.getD, show i < xs.length by omega]
      rw [this]; exact h _ (List.getElem_mem _)
    unfold sumT
    omega
def wideOf (t : Int) : S_amount_Wide := S_amount_Wide.mk (t / 18446744073709551616) (t % 18446744073709551616)
theorem getU {xs : List Int} (h : ∀ x ∈ xs, U64 x) {i : Nat} (hi : i < xs.length) : U64 (xs.getD i default) := by
  have : xs.getD i default = xs[i] := by simp [List.getD, hi]
  rw [this]; exact h _ (List.getElem_mem _)
theorem sum_eq28 {xs : List Int} (h : ∀ x ∈ xs, U64 x) (hl : xs.length ≤ 1000) : amount_Sum xs = some (wideOf (sumT xs xs.length)) := by
  obtain ⟨w, h1, h2⟩ := loop_inv (R := S_amount_Wide) (body := fun s : Int × S_amount_Wide => amount_Sum.b1 xs s.1 s.2) (fun i w => w = wideOf (sumT xs i)) (n := xs.length) (k := ((xs.length : Int) - 0 : Int).toNat + 2) (s0 := S_amount_Wide.mk (0 : Int) (0 : Int)) rfl (fun i w hi hw => by
    subst hw
    have r := sumT_range h i (by omega)
    have u := getU h hi
    refine ⟨_, ?_, rfl⟩
    show amount_Sum.b1 xs (i : Int) (wideOf (sumT xs i)) = _
    unfold amount_Sum.b1
    rw [if_pos (decide_eq_true (by omega)), if_pos (by omega), natTo, incW hi (by rw [mxlE]; omega)]
    have e : sumT xs (i + 1) = sumT xs i + xs.getD i default := rfl
    rw [e]
    unfold wideOf
    simp only
    generalize xs.getD i default = x at u
    generalize sumT xs i = t at r
    rw [wrapE (by omega)]
    congr 3
    congr 1
    · omega
    · omega) (fun w hw => by
    show amount_Sum.b1 xs (xs.length : Int) w = _
    unfold amount_Sum.b1
    rw [if_neg (by simp)]) (by omega)
  subst h2
  unfold amount_Sum
  exact bind_next h1 rfl
theorem rsum_eq {xs : List Int} (h : ∀ x ∈ xs, U64 x) (hl : xs.length ≤ 1000) : ref08_Sum xs = some (dg (sumT xs xs.length)) := by
  obtain ⟨w, h1, h2⟩ := loop_inv (R := List Int) (body := fun s : Int × (List Int) => ref08_Sum.b1 xs s.1 s.2) (fun i w => w = dg (sumT xs i)) (n := xs.length) (k := ((xs.length : Int) - 0 : Int).toNat + 2) (s0 := List.replicate 4 0) rfl (fun i w hi hw => by
    subst hw
    have u := getU h hi
    obtain ⟨c, hp⟩ := plus_dg (sumT xs i) (xs.getD i default)
    refine ⟨_, ?_, rfl⟩
    show ref08_Sum.b1 xs (i : Int) (dg (sumT xs i)) = _
    unfold ref08_Sum.b1
    rw [if_pos (decide_eq_true (by omega)), if_pos (by omega), natTo, incW hi (by rw [mxlE]; omega)]
    refine bind_of (of_dg (h := 0) (by decide) u) ?_
    rw [show (0 : Int) * 18446744073709551616 + xs.getD i default = xs.getD i default by omega]
    exact bind_of hp rfl) (fun w hw => by
    show ref08_Sum.b1 xs (xs.length : Int) w = _
    unfold ref08_Sum.b1
    rw [if_neg (by simp)]) (by omega)
  subst h2
  unfold ref08_Sum
  exact bind_next h1 rfl
/-- What is picked out of the first of a list. -/
def selL {α : Type} [Inhabited α] (p : α → Bool) (v : α → Int) (l : List α) : Nat → List Int
  | 0 => []
  | i + 1 => if p (l.getD i default) = true then selL p v l i ++ [v (l.getD i default)] else selL p v l i
theorem selL_len {α : Type} [Inhabited α] (p : α → Bool) (v : α → Int) (l : List α) : ∀ i, (selL p v l i).length ≤ i
  | 0 => by simp [selL]
  | i + 1 => by
    have := selL_len p v l i
    unfold selL
    split
    · simp; omega
    · omega
theorem selL_u {α : Type} [Inhabited α] {p : α → Bool} {v : α → Int} {l : List α} (h : ∀ y ∈ l, U64 (v y)) : ∀ i, i ≤ l.length → ∀ x ∈ selL p v l i, U64 x
  | 0, _, x, hx => by simp [selL] at hx
  | i + 1, hi, x, hx => by
    have ih := selL_u (p := p) h i (by omega)
    unfold selL at hx
    split at hx
    · rcases List.mem_append.1 hx with q | q
      · exact ih x q
      · rw [List.mem_singleton.1 q]
        have : l.getD i default = l[i] := by simp [List.getD, show i < l.length by omega]
        rw [this]; exact h _ (List.getElem_mem _)
    · exact ih x hx
def hP (o : Int) (n : List UInt8) (h : S_api_Holding) : Bool := (decide (h.f_Origin = o)) && ((decide (h.f_Token = n)) && true)
def supL (p : S_api_Purse) (o : Int) (n : List UInt8) : List Int := selL (hP o n) (fun h => h.f_Amount) p.f_Holdings p.f_Holdings.length
def supT (p : S_api_Purse) (o : Int) (n : List UInt8) : Int := sumT (supL p o n) (supL p o n).length
theorem sup_u {p : S_api_Purse} {o : Int} {n : List UInt8} (hh : ∀ y ∈ p.f_Holdings, U64 y.f_Amount) : ∀ x ∈ supL p o n, U64 x := selL_u (p := hP o n) (v := fun h : S_api_Holding => h.f_Amount) (l := p.f_Holdings) hh _ (Nat.le_refl _)
theorem supply_eq {p : S_api_Purse} (o : Int) (n : List UInt8) (hh : ∀ y ∈ p.f_Holdings, U64 y.f_Amount) (hl : p.f_Holdings.length ≤ 100) : purse_Supply p o n = some (wideOf (supT p o n)) := by
  obtain ⟨w, h1, h2⟩ := loop_inv (R := S_amount_Wide) (body := fun s : Int × (List (Int)) => purse_Supply.b1 p o n s.1 s.2) (fun i w => w = selL (hP o n) (fun h => h.f_Amount) p.f_Holdings i) (n := p.f_Holdings.length) (k := ((p.f_Holdings.length : Int) - 0 : Int).toNat + 2) (s0 := []) rfl (fun i w hi hw => by
    have hn := selL_len (hP o n) (fun h => h.f_Amount) p.f_Holdings i
    rw [← hw] at hn
    refine ⟨selL (hP o n) (fun h => h.f_Amount) p.f_Holdings (i + 1), ?_, rfl⟩
    show purse_Supply.b1 p o n (i : Int) w = _
    unfold purse_Supply.b1
    rw [if_pos (decide_eq_true (by omega)), if_pos (by omega), natTo]
    refine bind_of (x := S_purse_key.mk (p.f_Holdings.getD i default).f_Origin (p.f_Holdings.getD i default).f_Token) rfl ?_
    show (if hP o n (p.f_Holdings.getD i default) = true then _ else _) = _
    unfold selL purse_Supply.j1
    rw [incW hi (by rw [mxlE]; omega), ← hw]
    split
    · rw [if_pos (by rw [mxlE]; simp only [List.length_cons, List.length_nil]; omega)]
    · rfl) (fun w hw => by
    show purse_Supply.b1 p o n (p.f_Holdings.length : Int) w = _
    unfold purse_Supply.b1
    rw [if_neg (by simp)]) (by omega)
  subst h2
  unfold purse_Supply
  refine bind_next h1 (bind_of (sum_eq28 (sup_u (o := o) (n := n) hh) ?_) rfl)
  have := selL_len (hP o n) (fun h => h.f_Amount) p.f_Holdings p.f_Holdings.length
  show (supL p o n).length ≤ 1000
  unfold supL
  omega
theorem rsupply_eq {p : S_api_Purse} (o : Int) (n : List UInt8) (hh : ∀ y ∈ p.f_Holdings, U64 y.f_Amount) (hl : p.f_Holdings.length ≤ 100) : ref14_Supply p o n = some (dg (supT p o n)) := by
  obtain ⟨w, h1, h2⟩ := loop_inv (R := List Int) (body := fun s : Int × (List (Int)) => ref14_Supply.b1 p o n s.1 s.2) (fun i w => w = selL (hP o n) (fun h => h.f_Amount) p.f_Holdings i) (n := p.f_Holdings.length) (k := ((p.f_Holdings.length : Int) - 0 : Int).toNat + 2) (s0 := []) rfl (fun i w hi hw => by
    have hn := selL_len (hP o n) (fun h => h.f_Amount) p.f_Holdings i
    rw [← hw] at hn
    refine ⟨selL (hP o n) (fun h => h.f_Amount) p.f_Holdings (i + 1), ?_, rfl⟩
    show ref14_Supply.b1 p o n (i : Int) w = _
    unfold ref14_Supply.b1
    rw [if_pos (decide_eq_true (by omega)), if_pos (by omega)]
    have key : ∀ b : Bool, b = hP o n (p.f_Holdings.getD i default) → ref14_Supply.j1 p (i : Int) w b = some (.cont ((i : Int) + 1, selL (hP o n) (fun h => h.f_Amount) p.f_Holdings (i + 1))) := fun b hb => by
      subst hb
      unfold ref14_Supply.j1 ref14_Supply.j2 selL
      rw [incW hi (by rw [mxlE]; omega), ← hw, natTo]
      split
      · rw [if_pos (by rw [mxlE]; simp only [List.length_cons, List.length_nil]; omega)]
      · rfl
    rw [natTo]
    by_cases q : (p.f_Holdings.getD i default).f_Origin = o
    · rw [if_pos (decide_eq_true q)]
      exact key _ (by unfold hP; rw [decide_eq_true q, Bool.true_and, Bool.and_true])
    · rw [if_neg (by rw [decide_eq_false q]; decide)]
      exact key _ (by unfold hP; rw [decide_eq_false q, Bool.false_and])) (fun w hw => by
    show ref14_Supply.b1 p o n (p.f_Holdings.length : Int) w = _
    unfold ref14_Supply.b1
    rw [if_neg (by simp)]) (by omega)
  subst h2
  unfold ref14_Supply
  refine bind_next h1 (bind_of (rsum_eq (sup_u (o := o) (n := n) hh) ?_) rfl)
  have := selL_len (hP o n) (fun h => h.f_Amount) p.f_Holdings p.f_Holdings.length
  show (supL p o n).length ≤ 1000
  unfold supL
  omega
theorem sup_range {p : S_api_Purse} {o : Int} {n : List UInt8} (hh : ∀ y ∈ p.f_Holdings, U64 y.f_Amount) (hl : p.f_Holdings.length ≤ 100) : 0 ≤ supT p o n ∧ supT p o n ≤ 100 * 18446744073709551616 := by
  have h1 := sumT_range (sup_u (o := o) (n := n) hh) (supL p o n).length (Nat.le_refl _)
  have h2 := selL_len (hP o n) (fun h => h.f_Amount) p.f_Holdings p.f_Holdings.length
  have h3 : (supL p o n).length ≤ 100 := by unfold supL; omega
  unfold supT
  omega
/-- All coins. -/
def totL (l : S_api_Ledger) : List Int := selL (fun _ => true) (fun a : S_api_Account => a.f_Coins) l.f_Accounts l.f_Accounts.length
def totT (l : S_api_Ledger) : Int := sumT (totL l) (totL l).length
theorem tot_u {l : S_api_Ledger} (hh : ∀ y ∈ l.f_Accounts, U64 y.f_Coins) : ∀ x ∈ totL l, U64 x := selL_u (p := fun _ => true) (v := fun a : S_api_Account => a.f_Coins) (l := l.f_Accounts) hh _ (Nat.le_refl _)
theorem tot_len (l : S_api_Ledger) : (totL l).length ≤ l.f_Accounts.length := selL_len _ _ _ _
theorem total_eq {l : S_api_Ledger} (hh : ∀ y ∈ l.f_Accounts, U64 y.f_Coins) (hl : l.f_Accounts.length ≤ 100) : ledger_Total l = some (wideOf (totT l)) := by
  obtain ⟨w, h1, h2⟩ := loop_inv (R := S_amount_Wide) (body := fun s : Int × (List (Int)) => ledger_Total.b1 l s.1 s.2) (fun i w => w = selL (fun _ => true) (fun a : S_api_Account => a.f_Coins) l.f_Accounts i) (n := l.f_Accounts.length) (k := ((l.f_Accounts.length : Int) - 0 : Int).toNat + 2) (s0 := []) rfl (fun i w hi hw => by
    have hn := selL_len (fun _ => true) (fun a : S_api_Account => a.f_Coins) l.f_Accounts i
    rw [← hw] at hn
    refine ⟨selL (fun _ => true) (fun a : S_api_Account => a.f_Coins) l.f_Accounts (i + 1), ?_, rfl⟩
    show ledger_Total.b1 l (i : Int) w = _
    unfold ledger_Total.b1
    rw [if_pos (decide_eq_true (by omega)), if_pos (by omega), natTo, if_pos (by rw [mxlE]; simp only [List.length_cons, List.length_nil]; omega), incW hi (by rw [mxlE]; omega)]
    unfold selL
    rw [if_pos rfl, ← hw]) (fun w hw => by
    show ledger_Total.b1 l (l.f_Accounts.length : Int) w = _
    unfold ledger_Total.b1
    rw [if_neg (by simp)]) (by omega)
  subst h2
  unfold ledger_Total
  exact bind_next h1 (bind_of (sum_eq28 (tot_u hh) (by show (totL l).length ≤ 1000; have := tot_len l; omega)) rfl)
theorem rtotal_eq {l : S_api_Ledger} (hh : ∀ y ∈ l.f_Accounts, U64 y.f_Coins) (hl : l.f_Accounts.length ≤ 100) : ref13_Total l = some (dg (totT l)) := by
  obtain ⟨w, h1, h2⟩ := loop_inv (R := List Int) (body := fun s : Int × (List (Int)) => ref13_Total.b1 l s.1 s.2) (fun i w => w = selL (fun _ => true) (fun a : S_api_Account => a.f_Coins) l.f_Accounts i) (n := l.f_Accounts.length) (k := ((l.f_Accounts.length : Int) - 0 : Int).toNat + 2) (s0 := []) rfl (fun i w hi hw => by
    have hn := selL_len (fun _ => true) (fun a : S_api_Account => a.f_Coins) l.f_Accounts i
    rw [← hw] at hn
    refine ⟨selL (fun _ => true) (fun a : S_api_Account => a.f_Coins) l.f_Accounts (i + 1), ?_, rfl⟩
    show ref13_Total.b1 l (i : Int) w = _
    unfold ref13_Total.b1
    rw [if_pos (decide_eq_true (by omega)), if_pos (by omega), natTo, if_pos (by rw [mxlE]; simp only [List.length_cons, List.length_nil]; omega), incW hi (by rw [mxlE]; omega)]
    unfold selL
    rw [if_pos rfl, ← hw]) (fun w hw => by
    show ref13_Total.b1 l (l.f_Accounts.length : Int) w = _
    unfold ref13_Total.b1
    rw [if_neg (by simp)]) (by omega)
  subst h2
  unfold ref13_Total
  exact bind_next h1 (bind_of (rsum_eq (tot_u hh) (by show (totL l).length ≤ 1000; have := tot_len l; omega)) rfl)
theorem tot_range {l : S_api_Ledger} (hh : ∀ y ∈ l.f_Accounts, U64 y.f_Coins) (hl : l.f_Accounts.length ≤ 100) : 0 ≤ totT l ∧ totT l ≤ 100 * 18446744073709551616 := by
  have h1 := sumT_range (tot_u hh) (totL l).length (Nat.le_refl _)
  have h2 := tot_len l
  unfold totT
  omega
theorem add_wide {t x : Int} (ht : 0 ≤ t ∧ t ≤ 100 * 18446744073709551616) (hx : U64 x) : amount_Wide_Add (wideOf t) (S_amount_Wide.mk (0 : Int) x) = some (wideOf (t + x), 0) := by
  unfold amount_Wide_Add wideOf
  simp only
  rw [if_pos (by omega), if_neg (by
    have : (t / 18446744073709551616 + 0 + (t % 18446744073709551616 + x + 0) / 18446744073709551616) / 18446744073709551616 = 0 := by omega
    rw [decide_eq_true this]; decide)]
  congr 2
  congr 1
  · omega
  · omega
theorem wide_dg {t : Int} (ht : 0 ≤ t ∧ t ≤ 1000 * 18446744073709551616) : law28_wide (wideOf t) = some (dg t) := by
  unfold law28_wide wideOf
  refine bind_of (of_dg (by simp only; omega) (by simp only; omega)) ?_
  simp only
  congr 2
  omega
/-- The place of a token. -/
def tkP (o : Int) (n : List UInt8) (t : S_api_Token) : Bool := (decide (t.f_Origin = o)) && ((decide (t.f_Name = n)) && true)
def tkV (p : S_api_Purse) (o : Int) (n : List UInt8) : S_api_Token × Bool := if 0 ≤ fd (fun i => tkP o n (p.f_Tokens.getD i default)) p.f_Tokens.length then (p.f_Tokens.getD (fd (fun i => tkP o n (p.f_Tokens.getD i default)) p.f_Tokens.length).toNat default, true) else (S_api_Token.mk (0 : Int) [] (0 : Int) (0 : Int) (0 : Int) (0 : Int) (0 : Int), false)
theorem ixToken (l : List S_api_Token) (g : S_api_Token → Option Bool) (p : S_api_Token → Bool) (hg : ∀ y, g y = some (p y)) (hl : l.length ≤ mxl) : slices_IndexFunc_api_Token l g = some (fd (fun i => p (l.getD i default)) l.length) := by
  unfold slices_IndexFunc_api_Token
  refine bind_of (loop_fd (fun x => x) (p := fun i => p (l.getD i default)) (n := l.length) (fun i hi => ?_) ?_ (by omega)) ?_
  · show slices_IndexFunc_api_Token.b1 l g (i : Int) = _
    unfold slices_IndexFunc_api_Token.b1
    rw [if_pos (decide_eq_true (by omega)), if_pos (by omega), natTo, incW hi hl]
    exact bind_of (hg _) rfl
  · show slices_IndexFunc_api_Token.b1 l g (l.length : Int) = _
    unfold slices_IndexFunc_api_Token.b1
    rw [if_neg (by simp)]
  · by_cases h : 0 ≤ fd (fun i => p (l.getD i default)) l.length
    · rw [if_pos h]
    · rw [if_neg h, fdEnd _ _ h]
theorem known_eq (p : S_api_Purse) (o : Int) (n : List UInt8) (hl : p.f_Tokens.length ≤ mxl) : purse_Known p o n = some (tkV p o n) := by
  unfold purse_Known purse_token
  refine bind_of (bind_of (ixToken p.f_Tokens (fun x => purse_token_1 x (S_purse_key.mk o n)) (tkP o n) (fun y => rfl) hl) rfl) ?_
  have r := fd_range (fun i => tkP o n (p.f_Tokens.getD i default)) p.f_Tokens.length
  unfold tkV
  generalize fd (fun i => tkP o n (p.f_Tokens.getD i default)) p.f_Tokens.length = z at r
  by_cases h : 0 ≤ z
  · rw [if_neg (by simp; omega), if_pos (by omega), if_pos h]
  · rw [if_pos (decide_eq_true (by omega)), if_neg h]
theorem rknown_eq (p : S_api_Purse) (o : Int) (n : List UInt8) (hl : p.f_Tokens.length ≤ mxl) : ref14_Known p o n = some (tkV p o n) := by
  unfold ref14_Known
  refine bind_of (loop_fd (fun x => (p.f_Tokens.getD x.toNat default, true)) (p := fun i => tkP o n (p.f_Tokens.getD i default)) (n := p.f_Tokens.length) (fun i hi => ?_) ?_ (by omega)) ?_
  · show ref14_Known.b1 p o n (i : Int) = _
    unfold ref14_Known.b1 ref14_Known.j1 tkP
    rw [if_pos (decide_eq_true (by omega)), if_pos (by omega), incW hi hl, natTo]
    by_cases q : (p.f_Tokens.getD i default).f_Origin = o
    · rw [if_pos (decide_eq_true q), decide_eq_true q, Bool.true_and, Bool.and_true]
    · rw [if_neg (by rw [decide_eq_false q]; decide), decide_eq_false q, Bool.false_and]
  · show ref14_Known.b1 p o n (p.f_Tokens.length : Int) = _
    unfold ref14_Known.b1
    rw [if_neg (by simp)]
  · unfold tkV
    generalize fd (fun i => tkP o n (p.f_Tokens.getD i default)) p.f_Tokens.length = z
    by_cases h : 0 ≤ z
    · rw [if_pos h, if_pos h]
    · rw [if_neg h, if_neg h]
def subV (a b : Int) : Int := if a < b then 0 else IntKind.wrap .u64 (a - b)
theorem subV_u (a b : Int) : U64 (subV a b) := by
  unfold subV
  split
  · decide
  · rw [wrapU]; omega
theorem out_eq (t : S_api_Token) : purse_Out t = some (subV t.f_Minted t.f_Burned, subV t.f_Locked t.f_Unlocked) := by
  have h : ∀ a b, ∃ e, amount_Sub a b = some (subV a b, e) := fun a b => by
    unfold amount_Sub subV
    by_cases q : a < b
    · rw [if_pos (decide_eq_true q), if_pos q]; exact ⟨_, rfl⟩
    · rw [if_neg (by rw [decide_eq_false q]; decide), if_neg q]; exact ⟨_, rfl⟩
  obtain ⟨e1, h1⟩ := h t.f_Minted t.f_Burned
  obtain ⟨e2, h2⟩ := h t.f_Locked t.f_Unlocked
  unfold purse_Out
  exact bind_of h1 (bind_of h2 rfl)
theorem rout_eq (t : S_api_Token) : ref14_Out t = some (subV t.f_Minted t.f_Burned, subV t.f_Locked t.f_Unlocked) := by
  have h : ∀ a b, ref14_minus a b = some (subV a b) := fun a b => by
    unfold ref14_minus subV
    by_cases q : a < b
    · rw [if_pos (decide_eq_true q), if_pos q]
    · rw [if_neg (by rw [decide_eq_false q]; decide), if_neg q]
  unfold ref14_Out
  exact bind_of (h _ _) (bind_of (h _ _) rfl)
def mtV (p : S_api_Purse) (o : Int) (n : List UInt8) : Int := subV (tkV p o n).1.f_Minted (tkV p o n).1.f_Burned
def lkV (p : S_api_Purse) (o : Int) (n : List UInt8) : Int := subV (tkV p o n).1.f_Locked (tkV p o n).1.f_Unlocked
theorem aout_eq (c : S_api_Chain) (o : Int) (n : List UInt8) (hl : c.f_Purse.f_Tokens.length ≤ mxl) : audit_out c o n = some (mtV c.f_Purse o n, lkV c.f_Purse o n) := by
  unfold audit_out
  exact bind_of (known_eq c.f_Purse o n hl) (bind_of (out_eq _) rfl)
theorem dg_inj {t x : Int} (ht : 0 ≤ t ∧ t ≤ 1000 * 18446744073709551616) (hx : U64 x) : dg t = dg x ↔ (t / 18446744073709551616 = 0 ∧ t % 18446744073709551616 = x) := by
  unfold dg
  simp only [List.cons.injEq, and_true]
  omega
/-- Is a chain gone through here? All is answered; if it is, its lists are short. -/
theorem few13 (l : S_api_Ledger) (hl : l.f_Accounts.length ≤ mxl) : ∃ b, law13_Few l = some b ∧ (b = true → l.f_Accounts.length ≤ 100) := by
  have h := loop_fd (R := Bool) (fun _ => false) (body := fun s : Int => law13_Few.b1 l s) (p := fun i => decide ((100 : Int) < (l.f_Accounts.length : Int)) || decide ((200 : Int) < ((l.f_Accounts.getD i default).f_Name.length : Int))) (n := l.f_Accounts.length) (k := ((l.f_Accounts.length : Int) - 0 : Int).toNat + 2) (fun i hi => by
    show law13_Few.b1 l (i : Int) = _
    unfold law13_Few.b1 law13_Few.j1
    rw [if_pos (decide_eq_true (by omega)), if_pos (by omega), incW hi hl, natTo]
    by_cases q : (100 : Int) < (l.f_Accounts.length : Int)
    · rw [if_pos (decide_eq_true q), decide_eq_true q, Bool.true_or]
    · rw [if_neg (by rw [decide_eq_false q]; decide), decide_eq_false q, Bool.false_or]) (by
    show law13_Few.b1 l (l.f_Accounts.length : Int) = _
    unfold law13_Few.b1
    rw [if_neg (by simp)]) (by omega)
  unfold law13_Few
  split at h
  · exact ⟨false, bind_of h rfl, fun e => by cases e⟩
  · rename_i hn
    have hb : l.f_Accounts.length ≤ 100 := by
      rcases Nat.eq_zero_or_pos l.f_Accounts.length with q | q
      · omega
      · have := (fd_neg _ _).1 hn 0 q
        rw [Bool.or_eq_false_iff] at this
        have := of_decide_eq_false this.1
        omega
    have : ∃ b, (if (decide ((l.f_Events.length : Int) ≤ (200 : Int))) = true then law13_Few.j2 true else (if (decide ((4094 : Int) ≤ (l.f_Events.length : Int))) = true then law13_Few.j2 (decide ((l.f_Events.length : Int) ≤ (4100 : Int))) else law13_Few.j2 false)) = some b := by
      unfold law13_Few.j2
      split
      · exact ⟨_, rfl⟩
      · split <;> exact ⟨_, rfl⟩
    obtain ⟨b, e⟩ := this
    exact ⟨b, bind_of h e, fun _ => hb⟩
theorem few14 (p : S_api_Purse) (h1 : p.f_Tokens.length ≤ mxl) (h2 : p.f_Holdings.length ≤ mxl) : ∃ b, law14_Few p = some b ∧ (b = true → p.f_Holdings.length ≤ 100) := by
  have ha := loop_fd (R := Bool) (fun _ => false) (body := fun s : Int => law14_Few.b1 p s) (p := fun i => decide ((200 : Int) < ((p.f_Tokens.getD i default).f_Name.length : Int))) (n := p.f_Tokens.length) (k := ((p.f_Tokens.length : Int) - 0 : Int).toNat + 2) (fun i hi => by
    show law14_Few.b1 p (i : Int) = _
    unfold law14_Few.b1
    rw [if_pos (decide_eq_true (by omega)), if_pos (by omega), incW hi h1, natTo]) (by
    show law14_Few.b1 p (p.f_Tokens.length : Int) = _
    unfold law14_Few.b1
    rw [if_neg (by simp)]) (by omega)
  have hb := loop_fd (R := Bool) (fun _ => false) (body := fun s : Int => law14_Few.b2 p s) (p := fun i => decide ((200 : Int) < ((p.f_Holdings.getD i default).f_Token.length : Int)) || decide ((200 : Int) < ((p.f_Holdings.getD i default).f_Owner.length : Int))) (n := p.f_Holdings.length) (k := ((p.f_Holdings.length : Int) - 0 : Int).toNat + 2) (fun i hi => by
    show law14_Few.b2 p (i : Int) = _
    unfold law14_Few.b2 law14_Few.j2
    rw [if_pos (decide_eq_true (by omega)), if_pos (by omega), incW hi h2, natTo]
    by_cases q : (200 : Int) < ((p.f_Holdings.getD i default).f_Token.length : Int)
    · rw [if_pos (decide_eq_true q), decide_eq_true q, Bool.true_or]
    · rw [if_neg (by rw [decide_eq_false q]; decide), decide_eq_false q, Bool.false_or]) (by
    show law14_Few.b2 p (p.f_Holdings.length : Int) = _
    unfold law14_Few.b2
    rw [if_neg (by simp)]) (by omega)
  have key : ∃ b, law14_Few.j1 p false = some b := by
    unfold law14_Few.j1
    rw [if_neg (by decide)]
    split at ha
    · exact ⟨_, bind_of ha rfl⟩
    · split at hb
      · exact ⟨_, bind_of ha (bind_of hb rfl)⟩
      · exact ⟨_, bind_of ha (bind_of hb rfl)⟩
  have skip : law14_Few.j1 p true = some false := by unfold law14_Few.j1; rw [if_pos rfl]
  unfold law14_Few
  split
  · exact ⟨_, skip, fun e => by cases e⟩
  · by_cases q : (100 : Int) < (p.f_Holdings.length : Int)
    · rw [decide_eq_true q]; exact ⟨_, skip, fun e => by cases e⟩
    · rw [decide_eq_false q]
      obtain ⟨b, e⟩ := key
      exact ⟨b, e, fun _ => by omega⟩
theorem few16 (h : S_api_Home) : ∃ b, law16_Few h = some b := by
  unfold law16_Few law16_Few.j1
  split
  · split <;> exact ⟨_, rfl⟩
  · exact ⟨_, rfl⟩
theorem few17 (h : S_api_Replica) : ∃ b, law17_Few h = some b := by
  unfold law17_Few law17_Few.j1
  split
  · split <;> exact ⟨_, rfl⟩
  · exact ⟨_, rfl⟩
theorem few19 (c : S_api_Chain) (h0 : c.f_Ledger.f_Accounts.length ≤ mxl) (h1 : c.f_Purse.f_Tokens.length ≤ mxl) (h2 : c.f_Purse.f_Holdings.length ≤ mxl) : ∃ b, law19_Few c = some b ∧ (b = true → c.f_Ledger.f_Accounts.length ≤ 100 ∧ c.f_Purse.f_Holdings.length ≤ 100) := by
  obtain ⟨b1, e1, k1⟩ := few13 c.f_Ledger h0
  obtain ⟨b2, e2, k2⟩ := few14 c.f_Purse h1 h2
  obtain ⟨b3, e3⟩ := few16 c.f_Home
  obtain ⟨b4, e4⟩ := few17 c.f_Replica
  cases b1 with
  | false => exact ⟨false, by unfold law19_Few law19_Few.j1; exact bind_of e1 rfl, fun e => by cases e⟩
  | true =>
    cases b2 with
    | false => exact ⟨false, by unfold law19_Few law19_Few.j1; exact bind_of e1 (bind_of e2 rfl), fun e => by cases e⟩
    | true =>
      cases b3 with
      | false => exact ⟨false, by unfold law19_Few law19_Few.j1; exact bind_of e1 (bind_of e2 (bind_of e3 rfl)), fun e => by cases e⟩
      | true =>
        cases b4 with
        | false => exact ⟨false, by unfold law19_Few law19_Few.j1; exact bind_of e1 (bind_of e2 (bind_of e3 (bind_of e4 rfl))), fun e => by cases e⟩
        | true => exact ⟨_, by unfold law19_Few law19_Few.j1; exact bind_of e1 (bind_of e2 (bind_of e3 (bind_of e4 rfl))), fun _ => ⟨k1 rfl, k2 rfl⟩⟩
theorem slashes_some (c : S_api_Chain) (hl : c.f_Ledger.f_Events.length ≤ mxl) : ∃ n, audit_Slashes c = some n := by
  unfold audit_Slashes
  refine ⟨_, bind_next (loop_it2 (R := Int) (body := fun s : Int × Int => audit_Slashes.b1 c s.1 s.2) (fun i n => if (c.f_Ledger.f_Events.getD i default).f_Kind = 4 then IntKind.wrap .i64 (n + 1) else n) (n := c.f_Ledger.f_Events.length) (fun i s hi _ => ?_) ?_ (by omega)) rfl⟩
  · show audit_Slashes.b1 c s (i : Int) = _
    unfold audit_Slashes.b1 audit_Slashes.j1
    rw [if_pos (decide_eq_true (by omega)), if_pos (by omega), natTo, incW hi hl]
    by_cases q : (c.f_Ledger.f_Events.getD i default).f_Kind = 4
    · rw [if_pos (decide_eq_true q), if_pos q]
    · rw [if_neg (by rw [decide_eq_false q]; decide), if_neg q]
  · show audit_Slashes.b1 c _ (c.f_Ledger.f_Events.length : Int) = _
    unfold audit_Slashes.b1
    rw [if_neg (by simp)]
theorem auditChains_true (c d : S_api_Chain) (o : Int) (n : List UInt8) (h0 : c.f_Ledger.f_Accounts.length ≤ mxl) (h1 : c.f_Purse.f_Tokens.length ≤ mxl) (h2 : c.f_Purse.f_Holdings.length ≤ mxl) (h3 : c.f_Ledger.f_Events.length ≤ mxl)
    (g0 : d.f_Ledger.f_Accounts.length ≤ mxl) (g1 : d.f_Purse.f_Tokens.length ≤ mxl) (g2 : d.f_Purse.f_Holdings.length ≤ mxl)
    (u1 : ∀ y ∈ c.f_Purse.f_Holdings, InR .u64 y.f_Amount) (u2 : ∀ y ∈ c.f_Ledger.f_Accounts, InR .u64 y.f_Coins) (u3 : InR .u64 c.f_Home.f_Bond) : law28_AuditChains c d o n = some true := by
  have hskip : law28_AuditChains.j1 c d o n true = some true := by unfold law28_AuditChains.j1; rw [if_pos rfl]
  obtain ⟨b1, e1, k1⟩ := few19 c h0 h1 h2
  obtain ⟨b2, e2, k2⟩ := few19 d g0 g1 g2
  unfold law28_AuditChains
  refine bind_of awake28c ?_
  rw [if_neg (by decide)]
  refine bind_of e1 ?_
  cases b1 with
  | false => exact hskip
  | true =>
    show (if _ then _ else _) = _
    rw [if_neg (by decide)]
    refine bind_of e2 ?_
    cases b2 with
    | false => exact hskip
    | true =>
      show (if _ then _ else _) = _
      rw [if_neg (by decide)]
      obtain ⟨ka, kh⟩ := k1 rfl
      have u1' : ∀ y ∈ c.f_Purse.f_Holdings, U64 y.f_Amount := fun y hy => u64_of (u1 y hy)
      have u2' : ∀ y ∈ c.f_Ledger.f_Accounts, U64 y.f_Coins := fun y hy => u64_of (u2 y hy)
      have key : law28_AuditChains.j1 c d o n false = some true := by
        unfold law28_AuditChains.j1
        rw [if_neg (by decide)]
        refine bind_of (x := (lkV c.f_Purse c.f_ID n, mtV d.f_Purse c.f_ID n, decide (mtV d.f_Purse c.f_ID n ≤ lkV c.f_Purse c.f_ID n))) ?_ (bind_of (x := (lkV c.f_Purse c.f_ID n, mtV d.f_Purse c.f_ID n, decide (mtV d.f_Purse c.f_ID n ≤ lkV c.f_Purse c.f_ID n))) ?_ ?_)
        · unfold audit_Backed
          exact bind_of (aout_eq c _ n h1) (bind_of (aout_eq d _ n g1) rfl)
        · unfold ref28_Backed
          exact bind_of (rknown_eq _ _ n h1) (bind_of (rknown_eq _ _ n g1) (bind_of (rout_eq _) (bind_of (rout_eq _) rfl)))
        rw [if_pos (decide_eq_true rfl), if_pos (decide_eq_true rfl), if_pos (by simp)]
        have rs := sup_range (o := c.f_ID) (n := n) u1' kh
        have rs2 := sup_range (o := o) (n := n) u1' kh
        have rt := tot_range u2' ka
        have ul := subV_u (tkV c.f_Purse c.f_ID n).1.f_Locked (tkV c.f_Purse c.f_ID n).1.f_Unlocked
        have ul : U64 (lkV c.f_Purse c.f_ID n) := ul
        have um := subV_u (tkV c.f_Purse o n).1.f_Minted (tkV c.f_Purse o n).1.f_Burned
        have um : U64 (mtV c.f_Purse o n) := um
        refine bind_of (x := wideOf (supT c.f_Purse c.f_ID n + lkV c.f_Purse c.f_ID n)) ?_ (bind_of (wide_dg (by omega)) (bind_of (x := dg (supT c.f_Purse c.f_ID n + lkV c.f_Purse c.f_ID n)) ?_ ?_))
        · unfold audit_Whole
          exact bind_of (aout_eq c _ n h1) (bind_of (supply_eq _ n u1' kh) (bind_of (add_wide rs ul) rfl))
        · unfold ref28_Whole
          obtain ⟨q, hp⟩ := plus_dg (supT c.f_Purse c.f_ID n) (lkV c.f_Purse c.f_ID n)
          refine bind_of (rknown_eq _ _ n h1) (bind_of (rout_eq _) (bind_of (rsupply_eq _ n u1' kh) (bind_of (of_dg (h := 0) (by decide) ul) ?_)))
          rw [show (0 : Int) * 18446744073709551616 + subV (tkV c.f_Purse c.f_ID n).1.f_Locked (tkV c.f_Purse c.f_ID n).1.f_Unlocked = lkV c.f_Purse c.f_ID n by unfold lkV; omega]
          exact bind_of hp rfl
        rw [if_pos (decide_eq_true rfl)]
        refine bind_of (x := decide (dg (supT c.f_Purse o n) = dg (mtV c.f_Purse o n))) ?_ (bind_of (x := decide (dg (supT c.f_Purse o n) = dg (mtV c.f_Purse o n))) ?_ ?_)
        · unfold audit_Stands
          refine bind_of (aout_eq c o n h1) (bind_of (supply_eq o n u1' kh) ?_)
          have e := dg_inj (t := supT c.f_Purse o n) (x := mtV c.f_Purse o n) (by omega) um
          refine congrArg some ?_
          show ((decide ((wideOf (supT c.f_Purse o n)).f_High = (0 : Int))) && ((decide ((wideOf (supT c.f_Purse o n)).f_Low = mtV c.f_Purse o n)) && true)) = _
          by_cases hq : dg (supT c.f_Purse o n) = dg (mtV c.f_Purse o n)
          · obtain ⟨q1, q2⟩ := e.1 hq
            rw [decide_eq_true hq, decide_eq_true (show (wideOf (supT c.f_Purse o n)).f_High = (0 : Int) from q1), decide_eq_true (show (wideOf (supT c.f_Purse o n)).f_Low = mtV c.f_Purse o n from q2)]
            rfl
          · rw [decide_eq_false hq]
            by_cases q1 : (wideOf (supT c.f_Purse o n)).f_High = (0 : Int)
            · rw [decide_eq_true q1, decide_eq_false (show ¬ (wideOf (supT c.f_Purse o n)).f_Low = mtV c.f_Purse o n from fun q2 => hq (e.2 ⟨q1, q2⟩))]
              rfl
            · rw [decide_eq_false q1]
              rfl
        · unfold ref28_Stands
          refine bind_of (rknown_eq _ o n h1) (bind_of (rout_eq _) (bind_of (rsupply_eq o n u1' kh) (bind_of (of_dg (h := 0) (by decide) um) ?_)))
          rw [show (0 : Int) * 18446744073709551616 + subV (tkV c.f_Purse o n).1.f_Minted (tkV c.f_Purse o n).1.f_Burned = mtV c.f_Purse o n by unfold mtV; omega]
        rw [if_pos (by simp)]
        have ub := u64_of u3
        refine bind_of (x := wideOf (totT c.f_Ledger + c.f_Home.f_Bond)) ?_ (bind_of (wide_dg (by omega)) (bind_of (x := dg (totT c.f_Ledger + c.f_Home.f_Bond)) ?_ ?_))
        · unfold audit_Coins
          exact bind_of (total_eq u2' ka) (bind_of (add_wide rt ub) rfl)
        · unfold ref28_Coins
          obtain ⟨q, hp⟩ := plus_dg (totT c.f_Ledger) c.f_Home.f_Bond
          refine bind_of (rtotal_eq u2' ka) (bind_of (of_dg (h := 0) (by decide) ub) ?_)
          rw [show (0 : Int) * 18446744073709551616 + c.f_Home.f_Bond = c.f_Home.f_Bond by omega]
          exact bind_of hp rfl
        rw [if_pos (decide_eq_true rfl)]
        obtain ⟨m, hm⟩ := slashes_some c h3
        have hr : ref28_Slashes c = some m := hm
        refine bind_of hm (bind_of hr ?_)
        unfold law28_AuditChains.j2
        exact congrArg some (decide_eq_true rfl)
      cases decide ((200 : Int) < (n.length : Int))
      · exact key
      · exact hskip
end Go.Proofs.YtafeolgdggncnaaDoor
