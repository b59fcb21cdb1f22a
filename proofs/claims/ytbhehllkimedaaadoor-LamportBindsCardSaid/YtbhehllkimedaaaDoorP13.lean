/- Plain law of LamportBinds: with other bits told a signature isn't opened to the key's word, unless two inputs clash. -/
import Derived.Test.YtbhehllkimedaaaDoorP11
import Derived.Test.YtbhehllkimedaaaDoorP7b
namespace Go.Proofs.YtbhehllkimedaaaDoor
open Go Go.RowKit Go.Proofs
set_option linter.unusedVariables false

theorem same_loop (d e : List UInt8) : ∃ i, loopN (fun s : Bool × Int => law05_LamportBinds.b1 d e s.1 s.2) ((32 - 0 : Int).toNat + 2) (true, 0) = some (.next (decide (∀ j : Nat, j < 32 → bitv d j = bitv e j), i)) := by
  obtain ⟨c, h1, h2⟩ := loop_ok (body := fun s : Bool × Int => law05_LamportBinds.b1 d e s.1 s.2) (fun s => ∃ i : Nat, i ≤ 32 ∧ s = (decide (∀ j : Nat, j < i → bitv d j = bitv e j), (i : Int)))
    (fun c => match c with | .next s => s.1 = decide (∀ j : Nat, j < 32 → bitv d j = bitv e j) | .ret _ => False) (fun s => (32 - s.2).toNat)
    (fun s ⟨i, hi, hs⟩ => by
      subst hs
      by_cases hlt : i < 32
      · refine .inl ⟨(decide (∀ j : Nat, j < i + 1 → bitv d j = bitv e j), ((i + 1 : Nat) : Int)), ?_, ⟨i + 1, by omega, rfl⟩, by simp; omega⟩
        show law05_LamportBinds.b1 d e _ _ = _
        unfold law05_LamportBinds.b1 law05_LamportBinds.j1
        rw [if_pos (by simp; omega)]
        by_cases hp : ∀ j : Nat, j < i → bitv d j = bitv e j
        · rw [if_pos (by simpa using hp)]
          refine bind_of (bit_eq d i (by omega)).1 (bind_of (bit_eq e i (by omega)).1 ?_)
          rw [w64 (by omega)]
          have : (bitv d (i : Int) = bitv e (i : Int)) ↔ ∀ j : Nat, j < i + 1 → bitv d j = bitv e j := by
            constructor
            · intro h j hj
              by_cases e : j < i
              · exact hp j e
              · have : j = i := by omega
                subst this; exact h
            · intro h; exact h i (by omega)
          simp only [this]
          rfl
        · rw [if_neg (by simpa using hp), w64 (by omega)]
          have : decide (∀ j : Nat, j < i + 1 → bitv d j = bitv e j) = false := decide_eq_false fun h => hp fun j hj => h j (by omega)
          rw [this]
          rfl
      · have : i = 32 := by omega
        subst this
        refine .inr (.inl ⟨(decide (∀ j : Nat, j < 32 → bitv d j = bitv e j), ((32 : Nat) : Int)), ?_, rfl⟩)
        show law05_LamportBinds.b1 d e _ _ = _
        unfold law05_LamportBinds.b1
        rw [if_neg (by simp)]) ((32 - 0 : Int).toNat + 2) (true, 0) ⟨0, by omega, by simp⟩ (by simp)
  cases c with
  | ret r => exact h2.elim
  | next s =>
    obtain ⟨b, i⟩ := s
    have h2 : b = _ := h2
    subst h2
    exact ⟨i, h1⟩
theorem flat_inj : ∀ (l m : List (List UInt8)), (∀ p ∈ l, p.length = 32) → (∀ p ∈ m, p.length = 32) → l.flatten = m.flatten → l = m
  | [], [], _, _, _ => rfl
  | [], q :: m, _, hm, h => by have := congrArg List.length h; have h1 := hm q (by simp); simp only [List.flatten_cons, List.flatten_nil, List.length_append, List.length_nil] at this; omega
  | p :: l, [], hl, _, h => by have := congrArg List.length h; have h1 := hl p (by simp); simp only [List.flatten_cons, List.flatten_nil, List.length_append, List.length_nil] at this; omega
  | p :: l, q :: m, hl, hm, h => by
    have h1 := hl p (by simp)
    have h2 := hm q (by simp)
    simp only [List.flatten_cons] at h
    obtain ⟨e1, e2⟩ := List.append_inj h (by omega)
    rw [e1, flat_inj l m (fun x hx => hl x (by simp [hx])) (fun x hx => hm x (by simp [hx])) e2]
theorem inp_inj {d : Int} {ps qs : List (List UInt8)} (hp : Small ps) (hq : Small qs) (h : inp d ps = inp d qs) : ps = qs :=
  enc_inj ps qs (fun p h => by have := hp.1 p h; omega) (fun p h => by have := hq.1 p h; omega) (List.cons.inj h).2
/-- Without a clash: noted inputs of one digest are one. -/
theorem noted_inj {Q : O_RLog} {n : Nat} (A : RefOk Q n) (hn : n < 1000) (hc : ref04_Log_Clash (some Q) = some false) {d : Int} {ps qs : List (List UInt8)} (hp : Small ps) (hq : Small qs) (h1 : Noted Q (inp d ps)) (h2 : Noted Q (inp d qs)) (h : H (inp d ps) = H (inp d qs)) : ps = qs := by
  obtain ⟨L, A⟩ := A
  refine inp_inj hp hq (clash_noted A hn hc h1 h2 ?_)
  rw [(hp.H d).1, (hq.H d).1, h]
theorem clash_some {Q : O_RLog} {n : Nat} (A : RefOk Q n) (hn : n < 1000) : ∃ b, ref04_Log_Clash (some Q) = some b := by
  obtain ⟨L, A⟩ := A
  have h6 := A.j6.1
  have h5 := A.j5
  show ∃ b, ref04_Log_Clash.s Q = some b
  unfold ref04_Log_Clash.s
  rw [if_pos (by simp only [mxl]; omega)]
  exact ⟨_, rfl⟩
theorem by1_01 {a b : Int} (ha : a = 0 ∨ a = 1) (hb : b = 0 ∨ b = 1) (h : by1 a = by1 b) : a = b := by
  rcases ha with rfl | rfl <;> rcases hb with rfl | rfl <;> first | rfl | (exact absurd h (by decide))
theorem lamportBinds_true (seed d e : List UInt8) (idx : Int) (hs : seed.length = 32) (hd : d.length = 32) (he : e.length = 32) : law05_LamportBinds seed d e idx = some true := by
  unfold law05_LamportBinds
  obtain ⟨L1, a1, a2⟩ := sign_eq none hs idx d
  obtain ⟨Q1, b1, b2, b3, b4⟩ := rword_law hs idx refNew (by omega)
  obtain ⟨L2, c1, c2⟩ := opened_eq L1 e (sgP_len hs idx d) (sgO_len hs idx d)
  obtain ⟨Q2, d1, d2, d3, d4⟩ := ropened_eq e (sgP_len hs idx d) (sgO_len hs idx d) b2.ok (by omega)
  obtain ⟨i, hl⟩ := same_loop d e
  have hol := opn_len (d := e) (sgP_len hs idx d) (sgO_len hs idx d)
  have hpl := pubs_len hs idx
  obtain ⟨cl, hcl⟩ := clash_some d2.ok (by omega)
  -- where the bits are other ones
  have key : wordOf (opn e (sgP seed idx d) (sgO seed idx d)) = wordOf (pubs seed idx) → cl = false → ∀ j : Nat, j < 32 → bitv d j = bitv e j := by
    intro hw hf j hj
    subst hf
    have e1 := noted_inj d2.ok (by omega) hcl (flatSmall hol.1 hol.2) (flatSmall hpl.1 hpl.2) d4 (d2.old _ b4) hw
    have e2 := flat_inj _ _ hol.2 hpl.2 (List.cons.inj e1).1
    obtain ⟨_, hb⟩ := bit_eq d j (by omega)
    obtain ⟨_, hb'⟩ := bit_eq e j (by omega)
    -- the place of e's bit
    obtain ⟨k, hk, hk2, hk3⟩ : ∃ k : Nat, k < 64 ∧ k / 2 = j ∧ ((k % 2 : Nat) : Int) = bitv e j := by
      rcases hb' with h | h
      · exact ⟨2 * j, by omega, by omega, by rw [h, show 2 * j % 2 = 0 by omega]; rfl⟩
      · exact ⟨2 * j + 1, by omega, by omega, by rw [h, show (2 * j + 1) % 2 = 1 by omega]; rfl⟩
    have f1 := opn_at e (sgP seed idx d) (sgO seed idx d) k hk
    rw [e2, pubs_at seed idx k hk] at f1
    have f2 := Option.some.inj f1
    unfold opnA at f2
    rw [hk2, hk3, if_pos rfl] at f2
    have f3 : (sgP seed idx d).getD j default = sec seed idx (j : Int) (bitv d j) := at_map _ j hj
    rw [f3] at f2
    -- publics of one digest are of one secret
    obtain ⟨k', hk', hk2', hk3'⟩ : ∃ k : Nat, k < 64 ∧ k / 2 = j ∧ ((k % 2 : Nat) : Int) = bitv d j := by
      rcases hb with h | h
      · exact ⟨2 * j, by omega, by omega, by rw [h, show 2 * j % 2 = 0 by omega]; rfl⟩
      · exact ⟨2 * j + 1, by omega, by omega, by rw [h, show (2 * j + 1) % 2 = 1 by omega]; rfl⟩
    have n1 := b3 k hk
    have n2 := b3 k' hk'
    rw [hk2, hk3] at n1
    rw [hk2', hk3'] at n2
    have g1 := noted_inj d2.ok (by omega) hcl (pubSmall (sec_len hs idx (j : Int) (bitv e j))) (pubSmall (sec_len hs idx (j : Int) (bitv d j))) (d2.old _ n1.2) (d2.old _ n2.2) f2
    have g2 := (List.cons.inj g1).1
    have g3 := noted_inj d2.ok (by omega) hcl (secSmall hs idx (j : Int) (bitv e j)) (secSmall hs idx (j : Int) (bitv d j)) (d2.old _ n1.1) (d2.old _ n2.1) g2
    unfold secP at g3
    simp only [List.cons.injEq, and_true, true_and] at g3
    exact (by1_01 hb' hb g3).symm
  have same : (∀ j : Nat, j < 32 → bitv d j = bitv e j) → wordOf (opn e (sgP seed idx d) (sgO seed idx d)) = wordOf (pubs seed idx) := by
    intro h
    have : opn e (sgP seed idx d) (sgO seed idx d) = opn d (sgP seed idx d) (sgO seed idx d) := by
      unfold opn
      refine List.map_congr_left fun k hk => ?_
      have hk : k < 64 := List.mem_range.1 hk
      unfold opnA
      rw [h (k / 2) (by omega)]
    rw [this, opn_sign]
  generalize hW : wordOf (opn e (sgP seed idx d) (sgO seed idx d)) = x at *
  generalize hV : wordOf (pubs seed idx) = w at *
  generalize hS : decide (∀ j : Nat, j < 32 → bitv d j = bitv e j) = sm at *
  have sm1 : sm = true ↔ ∀ j : Nat, j < 32 → bitv d j = bitv e j := by rw [← hS]; simp
  refine bind_of awake5 ?_
  rw [if_neg (by simp)]
  refine bind_of new_r ?_
  refine bind_of a1 ?_
  refine bind_of b1 ?_
  refine bind_next hl ?_
  dsimp only
  refine bind_of c1 (bind_of d1 (bind_of awake5 ?_))
  rw [if_pos rfl, if_pos rfl]
  cases sm with
  | true =>
    have hxw := same (sm1.1 rfl)
    subst hxw
    rw [if_neg (by simp), if_pos (by simp), if_pos rfl]
    rfl
  | false =>
    rw [if_pos (by simp), if_neg (by simp)]
    by_cases hxw : x = w
    · rw [if_neg (by simp [hxw])]
      refine bind_of hcl ?_
      cases cl with
      | true => rfl
      | false => exact absurd (sm1.2 (key hxw rfl)) (by simp)
    · rw [if_pos (by simp [hxw])]
      rfl
end Go.Proofs.YtbhehllkimedaaaDoor
