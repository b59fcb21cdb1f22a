/- Plain laws: P11, P13b, as one text. -/
import Derived.Test.YtamnmljgcmbliaaDoorP10
namespace Go.Proofs.YtamnmljgcmbliaaDoor
open Go Go.RowKit Go.Proofs
section
set_option linter.unusedVariables false

theorem ropened_eq (d : List UInt8) {parts others : List (List UInt8)} (hp : parts.length = 32 ∧ ∀ p ∈ parts, p.length = 32) (ho : others.length = 32 ∧ ∀ p ∈ others, p.length = 32) {Q : O_RLog} {n : Nat} (A : RefOk Q n) (hn : n < 59000) :
    ∃ Q', ref05_Opened (some Q) d parts others = some (wordOf (opn d parts others), true, some Q') ∧ Grow Q n Q' (n + 33) ∧ (∀ j, j < 32 → Noted Q' (inp 2 [parts.getD j default])) ∧ Noted Q' (inp 3 [(opn d parts others).flatten]) := by
  have hol := opn_len (d := d) hp ho
  obtain ⟨c, h1, h2⟩ := loop_ok (body := fun s : Int × (Option O_RLog) × (List (UInt8)) => ref05_Opened.b1 d parts others s.1 s.2.1 s.2.2)
    (fun s => ∃ (i : Nat) (Q' : O_RLog), i ≤ 32 ∧ s = ((i : Int), some Q', ((opn d parts others).take (2 * i)).flatten) ∧ Grow Q n Q' (n + i) ∧ ∀ j, j < i → Noted Q' (inp 2 [parts.getD j default]))
    (fun c => match c with | .next s => ∃ Q', s.2 = (some Q', (opn d parts others).flatten) ∧ Grow Q n Q' (n + 32) ∧ ∀ j, j < 32 → Noted Q' (inp 2 [parts.getD j default]) | .ret _ => False) (fun s => (32 - s.1).toNat)
    (fun s ⟨i, Q', hi, hs, hg, hN⟩ => by
      subst hs
      by_cases hlt : i < 32
      · obtain ⟨hb, hb2⟩ := bit_eq d i (by omega)
        have hpi : (parts.getD i default).length = 32 := by
          rw [show parts.getD i default = parts[i]'(by omega) from by simp [List.getD, show i < parts.length by omega]]
          exact hp.2 _ (List.getElem_mem _)
        have hoi : (others.getD i default).length = 32 := by
          rw [show others.getD i default = others[i]'(by omega) from by simp [List.getD, show i < others.length by omega]]
          exact ho.2 _ (List.getElem_mem _)
        have hoi' : (others.getD (i : Int).toNat default).length = 32 := hoi
        obtain ⟨Q1, a1, a2, a3⟩ := rpublic_eq hg.ok (by omega) hpi
        have k0 : opnA d parts others (2 * i) = if 0 = bitv d i then pub (parts.getD i default) else others.getD i default := by
          unfold opnA
          rw [show 2 * i % 2 = 0 by omega, show 2 * i / 2 = i by omega]
          rfl
        have k1 : opnA d parts others (2 * i + 1) = if 1 = bitv d i then pub (parts.getD i default) else others.getD i default := by
          unfold opnA
          rw [show (2 * i + 1) % 2 = 1 by omega, show (2 * i + 1) / 2 = i by omega]
          rfl
        have f1 := flat_succ _ _ _ (opn_at d parts others (2 * i) (by omega))
        have f2 := flat_succ _ _ _ (opn_at d parts others (2 * i + 1) (by omega))
        have hlen := flat_take_len hol.2 (2 * i) (by omega)
        have hpp := pub_len hpi
        have hstep : ref05_Opened.b1 d parts others i (some Q') ((opn d parts others).take (2 * i)).flatten = some (.cont (((i + 1 : Nat) : Int), some Q1, ((opn d parts others).take (2 * (i + 1))).flatten)) := by
          rw [show 2 * (i + 1) = 2 * i + 1 + 1 by omega, f2, f1]
          unfold ref05_Opened.b1
          rw [if_pos (by simp; omega), if_pos (by omega)]
          refine bind_of a1 (bind_of (rdig_eq hpp) ?_)
          refine bind_of ((rbit_eq d i).1.trans hb) ?_
          rcases hb2 with e | e
          · rw [e] at k0 k1
            rw [e, if_pos (by simp), if_pos (by simp only [mxl]; omega), if_pos (by omega)]
            refine bind_of (rdig_eq hoi) ?_
            rw [if_pos (by simp only [List.length_append, mxl]; omega), k0, k1]
            unfold ref05_Opened.j2
            rw [w64 (by omega)]
            rfl
          · rw [e] at k0 k1
            rw [e, if_neg (by simp), if_pos (by omega)]
            refine bind_of (rdig_eq hoi) ?_
            rw [if_pos (by simp only [mxl]; omega), if_pos (by simp only [List.length_append, mxl]; omega), k0, k1]
            unfold ref05_Opened.j2
            rw [w64 (by omega)]
            rfl
        refine .inl ⟨_, hstep, ⟨i + 1, Q1, by omega, rfl, hg.trans a2, fun j hj => ?_⟩, by simp; omega⟩
        by_cases hj2 : j < i
        · exact a2.old _ (hN j hj2)
        · have : j = i := by omega
          subst this
          exact a3
      · have : i = 32 := by omega
        subst this
        refine .inr (.inl ⟨((32 : Nat), some Q', ((opn d parts others).take (2 * 32)).flatten), ?_, Q', ?_, hg, hN⟩)
        · show ref05_Opened.b1 d parts others 32 _ _ = _
          unfold ref05_Opened.b1
          rw [if_neg (by simp)]
          rfl
        · rw [List.take_of_length_le (by rw [hol.1]; decide)]) ((32 - 0 : Int).toNat + 2) (0, some Q, []) ⟨0, Q, by omega, rfl, Grow.refl A, fun j hj => by omega⟩ (by simp)
  unfold ref05_Opened
  rw [if_neg (by simp [hp.1])]
  unfold ref05_Opened.j1
  rw [if_neg (by simp [ho.1])]
  cases c with
  | ret r => exact h2.elim
  | next s =>
    obtain ⟨i, s2⟩ := s
    obtain ⟨Q', rfl, h3, h4⟩ : ∃ Q', s2 = (some Q', (opn d parts others).flatten) ∧ Grow Q n Q' (n + 32) ∧ ∀ j, j < 32 → Noted Q' (inp 2 [parts.getD j default]) := h2
    obtain ⟨Q2, p1, p2, p3⟩ := rpair_eq h3.ok (by omega) hol.1 hol.2
    refine ⟨Q2, bind_next h1 ?_, h3.trans p2, fun j hj => p2.old _ (h4 j hj), p3⟩
    dsimp only
    rw [p1]
    simp only [Option.bind_some]
end

section
set_option linter.unusedVariables false

theorem flat_inj : ∀ (l m : List (List UInt8)), (∀ p ∈ l, p.length = 32) → (∀ p ∈ m, p.length = 32) → l.flatten = m.flatten → l = m
  | [], [], _, _, _ => rfl
  | [], q :: m, _, hm, h => by have := congrArg List.length h; have h1 := hm q (by simp); simp only [List.flatten_cons, List.flatten_nil, List.length_append, List.length_nil] at this; omega
  | p :: l, [], hl, _, h => by have := congrArg List.length h; have h1 := hl p (by simp); simp only [List.flatten_cons, List.flatten_nil, List.length_append, List.length_nil] at this; omega
  | p :: l, q :: m, hl, hm, h => by
    have h1 := hl p (by simp)
    have h2 := hm q (by simp)
    simp only [List.flatten_cons] at h
    obtain ⟨e1, e2⟩ := List.append_inj h (by omega)
    rw [e1, flat_inj l m (fun x hx => hl x (by simp [hx])) (fun x hx => hm x (by simp [hx])) e2]
theorem inp_inj {d : Int} {ps qs : List (List UInt8)} (hp : Small ps) (hq : Small qs) (h : inp d ps = inp d qs) : ps = qs :=
  enc_inj ps qs (fun p h => by have := hp.1 p h; omega) (fun p h => by have := hq.1 p h; omega) (List.cons.inj h).2
/-- Without a clash: noted inputs of one digest are one. -/
theorem noted_inj {Q : O_RLog} {n : Nat} (A : RefOk Q n) (hn : n < 60000) (hc : ref04_Log_Clash (some Q) = some false) {d : Int} {ps qs : List (List UInt8)} (hp : Small ps) (hq : Small qs) (h1 : Noted Q (inp d ps)) (h2 : Noted Q (inp d qs)) (h : H (inp d ps) = H (inp d qs)) : ps = qs := by
  obtain ⟨L, A⟩ := A
  refine inp_inj hp hq (clash_noted A hn hc h1 h2 ?_)
  rw [(hp.H d).1, (hq.H d).1, h]
theorem clash_some {Q : O_RLog} {n : Nat} (A : RefOk Q n) (hn : n < 60000) : ∃ b, ref04_Log_Clash (some Q) = some b := by
  obtain ⟨L, A⟩ := A
  have h6 := A.j6.1
  have h5 := A.j5
  show ∃ b, ref04_Log_Clash.s Q = some b
  unfold ref04_Log_Clash.s
  rw [if_pos (by simp only [mxl]; omega)]
  exact ⟨_, rfl⟩
theorem by1_01 {a b : Int} (ha : a = 0 ∨ a = 1) (hb : b = 0 ∨ b = 1) (h : by1 a = by1 b) : a = b := by
  rcases ha with rfl | rfl <;> rcases hb with rfl | rfl <;> first | rfl | (exact absurd h (by decide))
end
end Go.Proofs.YtamnmljgcmbliaaDoor
