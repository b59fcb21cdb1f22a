/- Plain law of UpdateBinds: an update that was turned is right just if its claim tells the same bits, unless two inputs clash. -/
import Derived.Test.YtamnmljgcmbliaaDoorP24a
import Derived.Test.YtamnmljgcmbliaaDoorP37
namespace Go.Proofs.YtamnmljgcmbliaaDoor
open Go Go.RowKit Go.Proofs
set_option linter.unusedVariables false

theorem rclaimQ {Q : O_RLog} {n : Nat} (A : RefOk Q n) (hn : n < 60000) (home : Int) {a b : List UInt8} (ha : a.length = 32) (hb : b.length = 32) : ∃ Q', ref10_Claim (some Q) home a b = some (claim home a b, some Q') ∧ Grow Q n Q' (n + 1) := by
  obtain ⟨Q', h1, h2, h3, h4⟩ := rOf A hn 7 (clSmall (home := home) ha hb)
  refine ⟨Q', ?_, ⟨h2, h4⟩⟩
  unfold ref10_Claim
  exact bind_of (rword_eq home) (bind_of (rdig_eq ha) (bind_of (rdig_eq hb) (bind_of h1 rfl)))
/-- A digest's first 32 bits, of its first four bytes. -/
theorem bitv_at {d : List UInt8} (hd : d.length = 32) (i : Nat) (hi : i < 32) : bitv d (i : Int) = (((d.getD (i / 8) 0).toNat / 2 ^ (7 - i % 8) % 2 : Nat) : Int) := by
  have e1 : (i : Int).tdiv 8 = ((i / 8 : Nat) : Int) := by rw [Int.tdiv_eq_ediv_of_nonneg (by omega)]; simp
  have e2 : (i : Int).tmod 8 = ((i % 8 : Nat) : Int) := by rw [Int.tmod_eq_emod_of_nonneg (by omega)]; simp
  have h : lamport_Bit d i = some ((((d.getD (i / 8) 0).toNat / 2 ^ (7 - i % 8) % 2 : Nat) : Int)) := by
    unfold lamport_Bit
    rw [if_neg (by simp)]
    unfold lamport_Bit.j1
    have hk : IntKind.wrap .i64 (7 - ((i : Int).tmod 8)) = ((7 - i % 8 : Nat) : Int) := by rw [e2, w64 (by omega)]; omega
    have hq : IntKind.wrap .i64 ((i : Int).tdiv 8) = ((i / 8 : Nat) : Int) := by rw [e1, w64 (by omega)]
    rw [if_neg (by simp; omega), hk, hq, if_pos (by omega), if_pos (by omega)]
    have hx := UInt8.toNat_lt (d.getD ((i / 8 : Nat) : Int).toNat 0)
    have ht : ((i / 8 : Nat) : Int).toNat = i / 8 := by omega
    rw [ht] at hx ⊢
    generalize (d.getD (i / 8) 0).toNat = x at *
    have hk7 : 7 - i % 8 ≤ 7 := by omega
    generalize 7 - i % 8 = k at *
    have hsh : shr .u8 (x : Int) (k : Int) = ((x / 2 ^ k : Nat) : Int) := by
      unfold shr
      have : min (k : Int).toNat IntKind.u8.bits = k := by simp [IntKind.bits]; omega
      rw [this, Int.fdiv_eq_ediv_of_nonneg _ (by exact Int.le_of_lt (Int.pow_pos (by decide)))]
      simp
    have hdl : x / 2 ^ k ≤ x := Nat.div_le_self _ _
    rw [hsh]
    generalize x / 2 ^ k = q at hdl ⊢
    rw [w64 (by omega), i64_and1]
    simp
  unfold bitv
  rw [h]
  rfl
theorem byte_bits {x y : Nat} (hx : x < 256) (hy : y < 256) (h : ∀ k, k < 8 → x / 2 ^ (7 - k) % 2 = y / 2 ^ (7 - k) % 2) : x = y := by
  have h0 := h 0 (by decide)
  have h1 := h 1 (by decide)
  have h2 := h 2 (by decide)
  have h3 := h 3 (by decide)
  have h4 := h 4 (by decide)
  have h5 := h 5 (by decide)
  have h6 := h 6 (by decide)
  have h7 := h 7 (by decide)
  simp only [Nat.reduceSub, Nat.reducePow] at h0 h1 h2 h3 h4 h5 h6 h7
  omega
/-- The first four bytes are the same just if the 32 bits are. -/
theorem bits_bytes {d e : List UInt8} (hd : d.length = 32) (he : e.length = 32) : (∀ i, i < 4 → d.getD i 0 = e.getD i 0) ↔ ∀ j : Nat, j < 32 → bitv d (j : Int) = bitv e (j : Int) := by
  constructor
  · intro h j hj
    rw [bitv_at hd j hj, bitv_at he j hj, h (j / 8) (by omega)]
  · intro h i hi
    refine UInt8.toNat_inj.1 (byte_bits (UInt8.toNat_lt _) (UInt8.toNat_lt _) fun k hk => ?_)
    have := h (8 * i + k) (by omega)
    rw [bitv_at hd _ (by omega), bitv_at he _ (by omega), show (8 * i + k) / 8 = i by omega, show (8 * i + k) % 8 = k by omega] at this
    exact_mod_cast this
theorem opn_bits {d e : List UInt8} {parts others : List (List UInt8)} (h : ∀ j : Nat, j < 32 → bitv d (j : Int) = bitv e (j : Int)) : opn d parts others = opn e parts others := by
  unfold opn
  refine List.map_congr_left fun j hj => ?_
  have hj : j < 64 := List.mem_range.1 hj
  unfold opnA
  rw [h (j / 2) (by omega)]
/-- A signature of one digest, opened to the key's word with another: the bits are the same. -/
theorem bits_bind {Q : O_RLog} {n : Nat} (A : RefOk Q n) (hn : n < 60000) (hc : ref04_Log_Clash (some Q) = some false) {seed d e : List UInt8} (hs : seed.length = 32) {idx : Int} (hW : NotedW Q seed idx 64) (h : opn e (sgP seed idx d) (sgO seed idx d) = pubs seed idx) : ∀ j : Nat, j < 32 → bitv d (j : Int) = bitv e (j : Int) := by
  intro t ht
  obtain ⟨_, hb⟩ := bit_eq d t (by omega)
  obtain ⟨_, hb'⟩ := bit_eq e t (by omega)
  have g1 : (sgP seed idx d).getD t default = sec seed idx (t : Int) (bitv d (t : Int)) := by simp [sgP, List.getD, ht]
  have at_ : ∀ j, j < 64 → opnA e (sgP seed idx d) (sgO seed idx d) j = pub (sec seed idx ((j / 2 : Nat) : Int) ((j % 2 : Nat) : Int)) := by
    intro j hj
    have h1 := opn_at e (sgP seed idx d) (sgO seed idx d) j hj
    rw [h, pubs_at seed idx j hj] at h1
    exact (Option.some.inj h1).symm
  have wN : ∀ b : Nat, b < 2 → Noted Q (inp 2 [sec seed idx (t : Int) (b : Int)]) ∧ Noted Q (inp 1 (secP seed idx (t : Int) (b : Int))) := by
    intro b hb
    have := hW (2 * t + b) (by omega)
    rw [show (2 * t + b) / 2 = t by omega, show (2 * t + b) % 2 = b by omega] at this
    exact ⟨this.2, this.1⟩
  have inj : ∀ a b : Nat, a < 2 → b < 2 → pub (sec seed idx (t : Int) (a : Int)) = pub (sec seed idx (t : Int) (b : Int)) → (a : Int) = (b : Int) := by
    intro a b ha hb he
    have e1 := noted_inj A hn hc (pubSmall (sec_len hs idx (t : Int) (a : Int))) (pubSmall (sec_len hs idx (t : Int) (b : Int))) (wN a ha).1 (wN b hb).1 he
    simp only [List.cons.injEq, and_true] at e1
    have e2 := noted_inj A hn hc (secSmall hs idx (t : Int) (a : Int)) (secSmall hs idx (t : Int) (b : Int)) (wN a ha).2 (wN b hb).2 e1
    unfold secP at e2
    simp only [List.cons.injEq, and_true, true_and] at e2
    exact by1_01 (by omega) (by omega) e2
  rcases hb with e1 | e1 <;> rcases hb' with e2 | e2
  · rw [e1, e2]
  · exfalso
    have := at_ (2 * t + 1) (by omega)
    unfold opnA at this
    rw [show (2 * t + 1) / 2 = t by omega, show (2 * t + 1) % 2 = 1 by omega, e2, if_pos (by rfl), g1, e1] at this
    have := inj 0 1 (by decide) (by decide) this
    simp at this
  · exfalso
    have := at_ (2 * t) (by omega)
    unfold opnA at this
    rw [show 2 * t / 2 = t by omega, show 2 * t % 2 = 0 by omega, e2, if_pos (by rfl), g1, e1] at this
    have := inj 1 0 (by decide) (by decide) this
    simp at this
  · rw [e1, e2]
theorem bits_loop {d e : List UInt8} (hd : d.length = 32) (he : e.length = 32) (q1 q2 : Option O_RLog) : ∃ i, loopN (fun s : Bool × Int => law10_UpdateBinds.b1 (d, q1) (e, q2) s.1 s.2) ((4 - 0 : Int).toNat + 2) (true, 0) = some (.next (decide (∀ i : Nat, i < 4 → d.getD i 0 = e.getD i 0), i)) := by
  obtain ⟨c, h1, h2⟩ := loop_ok (body := fun s : Bool × Int => law10_UpdateBinds.b1 (d, q1) (e, q2) s.1 s.2) (fun s => ∃ i : Nat, i ≤ 4 ∧ s.2 = (i : Int) ∧ (s.1 = true ↔ ∀ j : Nat, j < i → d.getD j 0 = e.getD j 0))
    (fun c => match c with | .next s => (s.1 = true ↔ ∀ j : Nat, j < 4 → d.getD j 0 = e.getD j 0) | .ret _ => False) (fun s => (4 - s.2).toNat)
    (fun s ⟨i, hi, hs, hj⟩ => by
      obtain ⟨b, x⟩ := s
      have hs : x = (i : Int) := hs
      subst hs
      have hj : b = true ↔ ∀ j : Nat, j < i → d.getD j 0 = e.getD j 0 := hj
      by_cases hlt : i < 4
      · cases b with
        | false =>
          refine .inl ⟨(false, ((i + 1 : Nat) : Int)), ?_, ⟨i + 1, by omega, rfl, ?_⟩, by simp; omega⟩
          · show law10_UpdateBinds.b1 (d, q1) (e, q2) false (i : Int) = _
            unfold law10_UpdateBinds.b1 law10_UpdateBinds.j2
            rw [if_pos (by simp; omega), if_neg (by simp), w64 (by omega)]
            rfl
          · exact ⟨fun h => (Bool.noConfusion h), fun h => hj.2 fun j hj' => h j (by omega)⟩
        | true =>
          have hall := hj.1 rfl
          refine .inl ⟨(decide (((d.getD i 0).toNat : Int) = ((e.getD i 0).toNat : Int)), ((i + 1 : Nat) : Int)), ?_, ⟨i + 1, by omega, rfl, ?_⟩, by simp; omega⟩
          · show law10_UpdateBinds.b1 (d, q1) (e, q2) true (i : Int) = _
            unfold law10_UpdateBinds.b1 law10_UpdateBinds.j2
            rw [if_pos (by simp; omega), if_pos rfl, if_pos (by omega), w64 (by omega)]
            rfl
          · simp only [decide_eq_true_eq]
            constructor
            · intro h j hj'
              by_cases hji : j = i
              · subst hji; exact UInt8.toNat_inj.1 (by omega)
              · exact hall j (by omega)
            · intro h; rw [h i (by omega)]
      · have : i = 4 := by omega
        subst this
        refine .inr (.inl ⟨(b, ((4 : Nat) : Int)), ?_, hj⟩)
        show law10_UpdateBinds.b1 (d, q1) (e, q2) b 4 = _
        unfold law10_UpdateBinds.b1
        rw [if_neg (by simp)]
        rfl) ((4 - 0 : Int).toNat + 2) (true, 0) ⟨0, by decide, rfl, by simp⟩ (by decide)
  cases c with
  | ret r => exact h2.elim
  | next s =>
    obtain ⟨b, i⟩ := s
    refine ⟨i, h1.trans ?_⟩
    have h2 : b = true ↔ ∀ j : Nat, j < 4 → d.getD j 0 = e.getD j 0 := h2
    have : b = decide (∀ i : Nat, i < 4 → d.getD i 0 = e.getD i 0) := by
      rw [Bool.eq_iff_iff, h2]; simp
    rw [this]
theorem updateBinds_true (seed : List UInt8) (home other : Int) (a b c d : List UInt8) (hs : seed.length = 32) (hh : InR .u32 home) (ho : InR .u32 other) (ha : a.length = 32) (hb : b.length = 32) (hc : c.length = 32) (hd : d.length = 32) : law10_UpdateBinds seed home other a b c d = some true := by
  obtain ⟨hl, h32⟩ := leaves_len hs
  have ih := inr32 hh
  have io := inr32 ho
  unfold law10_UpdateBinds
  refine bind_of awake10 ?_
  rw [if_neg (by simp)]
  refine bind_of new_r ?_
  obtain ⟨L1, a1, a1n⟩ := new_eq none hs
  obtain ⟨Q1, c1, c2, c3⟩ := rnewQ hs refNew (by decide)
  obtain ⟨Q2, e1, e2, e3⟩ := rrootQ (s := ⟨seed, 0, leaves seed⟩) hl h32 c2.ok (by decide)
  refine bind_of a1 (bind_of c1 (bind_of e1 ?_))
  generalize hx : claim home a b = x
  generalize hy : claim other c d = y
  have lx : x.length = 32 := by rw [← hx]; exact claim_len ha hb
  have ly : y.length = 32 := by rw [← hy]; exact claim_len hc hd
  -- what is signed
  obtain ⟨L2, f1, _⟩ := claim_eq L1 (home := home) ih ha hb
  rw [hx] at f1
  obtain ⟨L3, f2, _⟩ := signer_eq L2 (s := ⟨seed, 0, leaves seed⟩) hs hl h32 (i := 0) (by decide) rfl x
  have hsign : update_Sign L1 ⟨seed, 0, leaves seed⟩ home a b = some (⟨seed, ((0 : Nat) : Int) + 1, leaves seed⟩, ⟨home, a, b, sigV seed (leaves seed) 0 x⟩, 0, L3) := by
    unfold update_Sign
    refine bind_of f1 (bind_of f2 ?_)
    rw [if_neg (by simp)]
  refine bind_of hsign ?_
  have hsg := sigV_32 hs hl h32 (i := 0) (by decide) x
  have hu : UpdW ⟨home, a, b, sigV seed (leaves seed) 0 x⟩ := ⟨hh, ha, hb, hsg⟩
  have hv : UpdW ⟨other, c, d, sigV seed (leaves seed) 0 x⟩ := ⟨ho, hc, hd, hsg⟩
  obtain ⟨L4, g1, _⟩ := right_eq L3 (rootL (leaves seed)) hv
  refine bind_of g1 ?_
  obtain ⟨Q3, k1, k2⟩ := rclaimQ e2.ok (by decide) home ha hb
  refine bind_of k1 ?_
  obtain ⟨Q4, m1, m2⟩ := rclaimQ k2.ok (by decide) other hc hd
  rw [hy] at m1
  obtain ⟨Q5, n1, n2, n3⟩ := rverifyQ (rootL (leaves seed)) y hsg m2.ok (by decide)
  have hright : ref10_Right (some Q3) (rootL (leaves seed)) ⟨other, c, d, sigV seed (leaves seed) 0 x⟩ = some (verV (rootL (leaves seed)) y (sigV seed (leaves seed) 0 x), some Q5) := by
    unfold ref10_Right
    exact bind_of m1 (bind_of n1 rfl)
  refine bind_of hright ?_
  have hrv : rightV (rootL (leaves seed)) ⟨other, c, d, sigV seed (leaves seed) 0 x⟩ = verV (rootL (leaves seed)) y (sigV seed (leaves seed) 0 x) := by
    unfold rightV
    rw [← hy]
  rw [hrv]
  generalize hok : verV (rootL (leaves seed)) y (sigV seed (leaves seed) 0 x) = ok at *
  obtain ⟨Q6, p1, p2⟩ := rclaimQ n2.ok (by decide) home ha hb
  obtain ⟨Q7, q1, q2⟩ := rclaimQ p2.ok (by decide) other hc hd
  rw [hx] at p1
  rw [hy] at q1
  obtain ⟨ii, hloop⟩ := bits_loop lx ly (some Q6) (some Q7)
  obtain ⟨cl, hcl⟩ := clash_some q2.ok (by decide)
  obtain ⟨L5, r1, _⟩ := right_eq L4 (rootL (leaves seed)) hu
  have hru : rightV (rootL (leaves seed)) ⟨home, a, b, sigV seed (leaves seed) 0 x⟩ = true := by
    unfold rightV
    rw [hx]
    exact verV_sig hs (by decide) x
  rw [hru] at r1
  -- same bits: right
  have hbits : (∀ i : Nat, i < 4 → x.getD i 0 = y.getD i 0) → ok = true := by
    intro h
    have hb32 := (bits_bytes lx ly).1 h
    have h1 := verV_sig hs (i := 0) (by decide) x
    rw [← hok]
    rw [← h1]
    unfold verV sigV
    simp only []
    rw [opn_bits (fun j hj => (hb32 j hj).symm)]
  have hbind : ok = true → cl = false → ∀ i : Nat, i < 4 → x.getD i 0 = y.getD i 0 := by
    intro h1 h2
    subst h1 h2
    obtain ⟨y1, y2, y3⟩ := n3 rfl
    have gr : ∀ z, Noted Q5 z → Noted Q7 z := fun z hz => q2.old z (p2.old z hz)
    have gr2 : ∀ z, Noted Q2 z → Noted Q7 z := fun z hz => gr z (n2.old z (m2.old z (k2.old z hz)))
    have hS : NotedS Q7 seed 16 := fun k hk => ⟨(c3 k hk).1.mono fun z hz => gr2 z (e2.old z hz), gr2 _ (e2.old _ (c3 k hk).2)⟩
    obtain ⟨o1, _⟩ := opn_bind q2.ok (by decide) hcl hs hS (e3.mono gr2) hsg hok (gr _ y2) (y3.mono gr)
    exact (bits_bytes lx ly).2 (bits_bind q2.ok (by decide) hcl hs (hS 0 (by decide)).1 o1)
  have hfin : ∀ same : Bool, (same = true → ok = true) → law10_UpdateBinds.j1 home other a b c d (rootL (leaves seed), some Q2) (⟨seed, ((0 : Nat) : Int) + 1, leaves seed⟩, ⟨home, a, b, sigV seed (leaves seed) 0 x⟩, 0, L3) (ok, L4) (ok, some Q5) same = some true := by
    intro same hsame
    unfold law10_UpdateBinds.j1
    refine bind_of p1 (bind_of q1 (bind_next hloop (bind_of awake10 ?_)))
    rw [if_pos rfl, if_pos (by simp)]
    cases same with
    | true =>
      obtain rfl := hsame rfl
      rw [if_pos rfl, if_pos (by simp)]
      exact bind_of r1 rfl
    | false =>
      rw [if_neg (by simp)]
      by_cases hbt : ∀ i : Nat, i < 4 → x.getD i 0 = y.getD i 0
      · obtain rfl := hbits hbt
        rw [if_pos (by simpa using hbt), if_pos (by simp)]
        exact bind_of r1 rfl
      · rw [if_neg (by simpa using hbt)]
        cases ok with
        | true =>
          rw [if_pos rfl]
          refine bind_of hcl ?_
          cases cl with
          | true => rw [if_pos (by simp)]; exact bind_of r1 rfl
          | false => exact absurd (hbind rfl rfl) hbt
        | false =>
          rw [if_neg (by simp), if_pos (by simp)]
          exact bind_of r1 rfl
  by_cases h1 : home = other
  · rw [if_pos (by simpa using h1)]
    by_cases h2 : a = c
    · rw [if_pos (by simpa using h2)]
      refine hfin _ fun h3 => ?_
      have h3 : b = d := by simpa using h3
      refine hbits ?_
      rw [← hx, ← hy, h1, h2, h3]
      exact fun _ _ => rfl
    · rw [if_neg (by simpa using h2)]
      exact hfin _ fun h => by cases h
  · rw [if_neg (by simpa using h1)]
    exact hfin _ fun h => by cases h
end Go.Proofs.YtamnmljgcmbliaaDoor
