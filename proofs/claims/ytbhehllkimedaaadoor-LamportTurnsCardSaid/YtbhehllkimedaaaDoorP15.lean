/- Plain law of LamportTurns: a signature with a part or another half turned isn't opened to the key's word, unless two inputs clash. -/
import Derived.Test.YtbhehllkimedaaaDoorP13b
import Derived.Laws.BitsAllLaws
namespace Go.Proofs.YtbhehllkimedaaaDoor
open Go Go.RowKit Go.Proofs
set_option linter.unusedVariables false

def Turned (a turn e : List UInt8) : Prop := e.length = 32 ∧ ∀ j, j < 32 → e[j]? = some (u8of (bits .xor .u8 ((a.getD j 0).toNat) ((turn.getD j 0).toNat)))
theorem xor_same {a b : UInt8} (h : u8of (bits .xor .u8 (a.toNat : Int) (b.toNat : Int)) = a) : b = 0 := by
  have ha := UInt8.toNat_lt a
  have hb := UInt8.toNat_lt b
  have hx : bits .xor .u8 (a.toNat : Int) (b.toNat : Int) = ((a.toNat ^^^ b.toNat : Nat) : Int) := u8_xor_nat _ _ ha hb
  rw [hx] at h
  have hlt : a.toNat ^^^ b.toNat < 256 := Nat.xor_lt_two_pow (n := 8) ha hb
  have h2 := congrArg UInt8.toNat h
  unfold u8of at h2
  rw [Int.toNat_natCast] at h2
  have h3 : (UInt8.ofNat (a.toNat ^^^ b.toNat)).toNat = a.toNat ^^^ b.toNat := by simp
  rw [h3] at h2
  have h4 : a.toNat ^^^ (a.toNat ^^^ b.toNat) = a.toNat ^^^ a.toNat := by rw [h2]
  rw [← Nat.xor_assoc, Nat.xor_self, Nat.zero_xor] at h4
  exact UInt8.toNat_inj.1 h4
theorem turned_ne {a turn e : List UInt8} (h : Turned a turn e) (ht : turn.length = 32) (hne : turn ≠ List.replicate 32 0) : e ≠ a := by
  intro he
  apply hne
  refine List.ext_getElem (by simp [ht]) fun j h1 h2 => ?_
  have hj : j < 32 := by omega
  have h3 := h.2 j hj
  rw [he] at h3
  have h4 : a[j]? = some (a.getD j 0) := by
    have : j < a.length := by rw [← he, h.1]; exact hj
    rw [List.getElem?_eq_getElem this]; simp [List.getD, this]
  rw [h4] at h3
  have h5 := xor_same (Option.some.inj h3).symm
  rw [show turn.getD j 0 = turn[j] from by simp [List.getD, h1]] at h5
  rw [h5, List.getElem_replicate]
theorem turn_loop1 (l : List (List UInt8)) (turn : List UInt8) (at_ : Int) (k : Nat) (hk : IntKind.wrap .i64 ((IntKind.wrap .u64 at_).tmod 32) = (k : Int)) (hk32 : k < 32) (hl : l.length = 32 ∧ ∀ p ∈ l, p.length = 32) :
    ∃ i e, loopN (fun s : Int × (List (List UInt8)) => law05_LamportTurns.b1 turn at_ s.1 s.2) ((32 - 0 : Int).toNat + 2) (0, l) = some (.next (i, l.set k e)) ∧ Turned (l.getD k default) turn e := by
  have hk' : k < l.length := by omega
  have hlk : (l.getD k default).length = 32 := by
    rw [show l.getD k default = l[k]'hk' from by simp [List.getD, hk']]
    exact hl.2 _ (List.getElem_mem _)
  obtain ⟨c, h1, h2⟩ := loop_ok (body := fun s : Int × (List (List UInt8)) => law05_LamportTurns.b1 turn at_ s.1 s.2)
    (fun s => ∃ (i : Nat) (e : List UInt8), i ≤ 32 ∧ s = ((i : Int), l.set k e) ∧ e.length = 32 ∧ ∀ j, j < 32 → e[j]? = if j < i then some (u8of (bits .xor .u8 (((l.getD k default).getD j 0).toNat) ((turn.getD j 0).toNat))) else some ((l.getD k default).getD j 0))
    (fun c => match c with | .next s => ∃ e, s.2 = l.set k e ∧ Turned (l.getD k default) turn e | .ret _ => False) (fun s => (32 - s.1).toNat)
    (fun s ⟨i, e, hi, hs, he, hj⟩ => by
      subst hs
      by_cases hlt : i < 32
      · have g1 : (l.set k e).getD (k : Int).toNat default = e := by simp [List.getD, hk']
        have g2 : e.getD (i : Int).toNat 0 = (l.getD k default).getD i 0 := by
          have := hj i hlt
          rw [if_neg (by omega)] at this
          show e.getD i 0 = _
          rw [List.getD, this]; rfl
        refine .inl ⟨(((i + 1 : Nat) : Int), l.set k (e.set i (u8of (bits .xor .u8 (((l.getD k default).getD i 0).toNat) ((turn.getD i 0).toNat))))), ?_, ⟨i + 1, _, by omega, rfl, by simpa using he, fun j hj32 => ?_⟩, by simp; omega⟩
        · show law05_LamportTurns.b1 turn at_ i _ = _
          unfold law05_LamportTurns.b1
          rw [if_pos (by simp; omega), hk, if_pos (by simp; omega), if_pos (by omega), g1, g2, w64 (by omega)]
          have g3 : (l.set k e).set (k : Int).toNat (e.set (i : Int).toNat (u8of (bits .xor .u8 (((l.getD k default).getD i 0).toNat) ((turn.getD (i : Int).toNat 0).toNat)))) = l.set k (e.set i (u8of (bits .xor .u8 (((l.getD k default).getD i 0).toNat) ((turn.getD i 0).toNat)))) := List.set_set _
          rw [g3]
          rfl
        · by_cases e1 : j = i
          · subst e1; rw [List.getElem?_set_self (by omega), if_pos (by omega)]
          · rw [List.getElem?_set_ne (by omega), hj j hj32]
            by_cases e2 : j < i
            · rw [if_pos e2, if_pos (by omega)]
            · rw [if_neg e2, if_neg (by omega)]
      · have : i = 32 := by omega
        subst this
        refine .inr (.inl ⟨((32 : Nat), l.set k e), ?_, e, rfl, he, fun j h => by rw [hj j h, if_pos h]⟩)
        show law05_LamportTurns.b1 turn at_ 32 _ = _
        unfold law05_LamportTurns.b1
        rw [if_neg (by simp)]
        rfl) ((32 - 0 : Int).toNat + 2) (0, l) ⟨0, l.getD k default, by omega, by
          rw [show l.getD k default = l[k]'hk' from by simp [List.getD, hk'], List.set_getElem_self]; rfl, hlk, fun j h => by
          rw [if_neg (by omega)]
          have hj : j < (l.getD k default).length := by omega
          generalize l.getD k default = y at *
          rw [List.getElem?_eq_getElem hj]
          simp [List.getD, hj]⟩ (by simp)
  cases c with
  | ret r => exact h2.elim
  | next s =>
    obtain ⟨i, s2⟩ := s
    obtain ⟨e, rfl, h3⟩ : ∃ e, s2 = l.set k e ∧ Turned (l.getD k default) turn e := h2
    exact ⟨i, e, h1, h3⟩
theorem turn_loop2 (l : List (List UInt8)) (turn : List UInt8) (at_ : Int) (k : Nat) (hk : IntKind.wrap .i64 ((IntKind.wrap .u64 at_).tmod 32) = (k : Int)) (hk32 : k < 32) (hl : l.length = 32 ∧ ∀ p ∈ l, p.length = 32) :
    ∃ i e, loopN (fun s : Int × (List (List UInt8)) => law05_LamportTurns.b2 turn at_ s.1 s.2) ((32 - 0 : Int).toNat + 2) (0, l) = some (.next (i, l.set k e)) ∧ Turned (l.getD k default) turn e := by
  have hk' : k < l.length := by omega
  have hlk : (l.getD k default).length = 32 := by
    rw [show l.getD k default = l[k]'hk' from by simp [List.getD, hk']]
    exact hl.2 _ (List.getElem_mem _)
  obtain ⟨c, h1, h2⟩ := loop_ok (body := fun s : Int × (List (List UInt8)) => law05_LamportTurns.b2 turn at_ s.1 s.2)
    (fun s => ∃ (i : Nat) (e : List UInt8), i ≤ 32 ∧ s = ((i : Int), l.set k e) ∧ e.length = 32 ∧ ∀ j, j < 32 → e[j]? = if j < i then some (u8of (bits .xor .u8 (((l.getD k default).getD j 0).toNat) ((turn.getD j 0).toNat))) else some ((l.getD k default).getD j 0))
    (fun c => match c with | .next s => ∃ e, s.2 = l.set k e ∧ Turned (l.getD k default) turn e | .ret _ => False) (fun s => (32 - s.1).toNat)
    (fun s ⟨i, e, hi, hs, he, hj⟩ => by
      subst hs
      by_cases hlt : i < 32
      · have g1 : (l.set k e).getD (k : Int).toNat default = e := by simp [List.getD, hk']
        have g2 : e.getD (i : Int).toNat 0 = (l.getD k default).getD i 0 := by
          have := hj i hlt
          rw [if_neg (by omega)] at this
          show e.getD i 0 = _
          rw [List.getD, this]; rfl
        refine .inl ⟨(((i + 1 : Nat) : Int), l.set k (e.set i (u8of (bits .xor .u8 (((l.getD k default).getD i 0).toNat) ((turn.getD i 0).toNat))))), ?_, ⟨i + 1, _, by omega, rfl, by simpa using he, fun j hj32 => ?_⟩, by simp; omega⟩
        · show law05_LamportTurns.b2 turn at_ i _ = _
          unfold law05_LamportTurns.b2
          rw [if_pos (by simp; omega), hk, if_pos (by simp; omega), if_pos (by omega), g1, g2, w64 (by omega)]
          have g3 : (l.set k e).set (k : Int).toNat (e.set (i : Int).toNat (u8of (bits .xor .u8 (((l.getD k default).getD i 0).toNat) ((turn.getD (i : Int).toNat 0).toNat)))) = l.set k (e.set i (u8of (bits .xor .u8 (((l.getD k default).getD i 0).toNat) ((turn.getD i 0).toNat)))) := List.set_set _
          rw [g3]
          rfl
        · by_cases e1 : j = i
          · subst e1; rw [List.getElem?_set_self (by omega), if_pos (by omega)]
          · rw [List.getElem?_set_ne (by omega), hj j hj32]
            by_cases e2 : j < i
            · rw [if_pos e2, if_pos (by omega)]
            · rw [if_neg e2, if_neg (by omega)]
      · have : i = 32 := by omega
        subst this
        refine .inr (.inl ⟨((32 : Nat), l.set k e), ?_, e, rfl, he, fun j h => by rw [hj j h, if_pos h]⟩)
        show law05_LamportTurns.b2 turn at_ 32 _ = _
        unfold law05_LamportTurns.b2
        rw [if_neg (by simp)]
        rfl) ((32 - 0 : Int).toNat + 2) (0, l) ⟨0, l.getD k default, by omega, by
          rw [show l.getD k default = l[k]'hk' from by simp [List.getD, hk'], List.set_getElem_self]; rfl, hlk, fun j h => by
          rw [if_neg (by omega)]
          have hj : j < (l.getD k default).length := by omega
          generalize l.getD k default = y at *
          rw [List.getElem?_eq_getElem hj]
          simp [List.getD, hj]⟩ (by simp)
  cases c with
  | ret r => exact h2.elim
  | next s =>
    obtain ⟨i, s2⟩ := s
    obtain ⟨e, rfl, h3⟩ : ∃ e, s2 = l.set k e ∧ Turned (l.getD k default) turn e := h2
    exact ⟨i, e, h1, h3⟩
theorem lamportTurns_true (seed d turn : List UInt8) (idx at_ : Int) (other : Bool) (hs : seed.length = 32) (hd : d.length = 32) (ht : turn.length = 32) : law05_LamportTurns seed d turn idx at_ other = some true := by
  unfold law05_LamportTurns
  refine bind_of awake5 ?_
  rw [if_neg (by simp)]
  by_cases h0 : turn = List.replicate 32 0
  · rw [if_pos (by simpa using h0)]
    exact bind_of awake5 rfl
  · rw [if_neg (by simpa using h0)]
    obtain ⟨n, hn1, hn2, hn3⟩ := wrap64 at_
    obtain ⟨k, hk, hk32⟩ : ∃ k : Nat, IntKind.wrap .i64 ((IntKind.wrap .u64 at_).tmod 32) = (k : Int) ∧ k < 32 := by
      refine ⟨n % 32, ?_, by omega⟩
      rw [hn1, Int.tmod_eq_emod_of_nonneg (by omega), w64 (by omega)]
      simp
    obtain ⟨L1, a1, a2⟩ := sign_eq none hs idx d
    obtain ⟨Q1, b1, b2, b3, b4⟩ := rword_law hs idx refNew (by omega)
    have hP := sgP_len hs idx d
    have hO := sgO_len hs idx d
    have hpl := pubs_len hs idx
    obtain ⟨_, hb⟩ := bit_eq d k (by omega)
    have set_len : ∀ {l : List (List UInt8)} {e : List UInt8}, (l.length = 32 ∧ ∀ p ∈ l, p.length = 32) → e.length = 32 → ((l.set k e).length = 32 ∧ ∀ p ∈ l.set k e, p.length = 32) := fun {l e} h he => ⟨by simpa using h.1, fun p hp => by
      rcases List.mem_or_eq_of_mem_set hp with q | q
      · exact h.2 p q
      · rw [q]; exact he⟩
    refine bind_of new_r ?_
    refine bind_of a1 ?_
    refine bind_of b1 ?_
    cases other with
    | true =>
      rw [if_pos rfl]
      obtain ⟨i, e, hl, hT⟩ := turn_loop1 (sgO seed idx d) turn at_ k hk hk32 hO
      have hne := turned_ne hT ht h0
      have hO' := set_len hO hT.1
      obtain ⟨L2, c1, c2⟩ := opened_eq L1 d hP hO'
      obtain ⟨Q2, d1, d2, d3, d4⟩ := ropened_eq d hP hO' b2.ok (by omega)
      obtain ⟨cl, hcl⟩ := clash_some d2.ok (by omega)
      have hol := opn_len (d := d) hP hO'
      have key : wordOf (opn d (sgP seed idx d) ((sgO seed idx d).set k e)) = wordOf (pubs seed idx) → cl = true := by
        intro hw
        cases cl with
        | true => rfl
        | false =>
          exfalso
          have e1 := noted_inj d2.ok (by omega) hcl (flatSmall hol.1 hol.2) (flatSmall hpl.1 hpl.2) d4 (d2.old _ b4) hw
          have e2 := flat_inj _ _ hol.2 hpl.2 (List.cons.inj e1).1
          rw [← opn_sign seed idx d] at e2
          obtain ⟨j, hj, hj2, hj3⟩ : ∃ j : Nat, j < 64 ∧ j / 2 = k ∧ ((j % 2 : Nat) : Int) ≠ bitv d k := by
            rcases hb with h | h
            · exact ⟨2 * k + 1, by omega, by omega, by rw [h, show (2 * k + 1) % 2 = 1 by omega]; decide⟩
            · exact ⟨2 * k, by omega, by omega, by rw [h, show 2 * k % 2 = 0 by omega]; decide⟩
          have f1 := opn_at d (sgP seed idx d) ((sgO seed idx d).set k e) j hj
          rw [e2, opn_at d (sgP seed idx d) (sgO seed idx d) j hj] at f1
          have f2 := Option.some.inj f1
          unfold opnA at f2
          rw [hj2, if_neg hj3, if_neg hj3] at f2
          rw [show ((sgO seed idx d).set k e).getD k default = e from by simp [List.getD, hO.1, hk32]] at f2
          exact hne f2.symm
      refine bind_next hl ?_
      dsimp only
      refine bind_of c1 ?_
      refine bind_of d1 ?_
      refine bind_of awake5 ?_
      rw [if_pos rfl, if_pos rfl]
      generalize wordOf (opn d (sgP seed idx d) ((sgO seed idx d).set k e)) = x at *
      generalize wordOf (pubs seed idx) = w at *
      by_cases hxw : x = w
      · rw [if_neg (by simp [hxw])]
        refine bind_of hcl ?_
        rw [key hxw]
        rfl
      · rw [if_pos (by simp [hxw])]
        rfl
    | false =>
      rw [if_neg (by simp)]
      obtain ⟨i, e, hl, hT⟩ := turn_loop2 (sgP seed idx d) turn at_ k hk hk32 hP
      have hne := turned_ne hT ht h0
      have hP' := set_len hP hT.1
      obtain ⟨L2, c1, c2⟩ := opened_eq L1 d hP' hO
      obtain ⟨Q2, d1, d2, d3, d4⟩ := ropened_eq d hP' hO b2.ok (by omega)
      obtain ⟨cl, hcl⟩ := clash_some d2.ok (by omega)
      have hol := opn_len (d := d) hP' hO
      have hgk : ((sgP seed idx d).set k e).getD k default = e := by simp [List.getD, hP.1, hk32]
      have key : wordOf (opn d ((sgP seed idx d).set k e) (sgO seed idx d)) = wordOf (pubs seed idx) → cl = true := by
        intro hw
        cases cl with
        | true => rfl
        | false =>
          exfalso
          have e1 := noted_inj d2.ok (by omega) hcl (flatSmall hol.1 hol.2) (flatSmall hpl.1 hpl.2) d4 (d2.old _ b4) hw
          have e2 := flat_inj _ _ hol.2 hpl.2 (List.cons.inj e1).1
          rw [← opn_sign seed idx d] at e2
          obtain ⟨j, hj, hj2, hj3⟩ : ∃ j : Nat, j < 64 ∧ j / 2 = k ∧ ((j % 2 : Nat) : Int) = bitv d k := by
            rcases hb with h | h
            · exact ⟨2 * k, by omega, by omega, by rw [h, show 2 * k % 2 = 0 by omega]; rfl⟩
            · exact ⟨2 * k + 1, by omega, by omega, by rw [h, show (2 * k + 1) % 2 = 1 by omega]; rfl⟩
          have f1 := opn_at d ((sgP seed idx d).set k e) (sgO seed idx d) j hj
          rw [e2, opn_at d (sgP seed idx d) (sgO seed idx d) j hj] at f1
          have f2 := Option.some.inj f1
          unfold opnA at f2
          rw [hj2, if_pos hj3, if_pos hj3, hgk] at f2
          have f3 : (sgP seed idx d).getD k default = sec seed idx (k : Int) (bitv d k) := at_map _ k hk32
          rw [f3] at f2 hne
          have n1 := b3 j hj
          rw [hj2, hj3] at n1
          have n2 := d3 k hk32
          rw [hgk] at n2
          have g1 := noted_inj d2.ok (by omega) hcl (pubSmall (sec_len hs idx (k : Int) (bitv d k))) (pubSmall hT.1) (d2.old _ n1.2) n2 f2
          exact hne (List.cons.inj g1).1.symm
      refine bind_next hl ?_
      dsimp only
      refine bind_of c1 ?_
      refine bind_of d1 ?_
      refine bind_of awake5 ?_
      rw [if_pos rfl, if_pos rfl]
      generalize wordOf (opn d ((sgP seed idx d).set k e) (sgO seed idx d)) = x at *
      generalize wordOf (pubs seed idx) = w at *
      by_cases hxw : x = w
      · rw [if_neg (by simp [hxw])]
        refine bind_of hcl ?_
        rw [key hxw]
        rfl
      · rw [if_pos (by simp [hxw])]
        rfl
end Go.Proofs.YtbhehllkimedaaaDoor
