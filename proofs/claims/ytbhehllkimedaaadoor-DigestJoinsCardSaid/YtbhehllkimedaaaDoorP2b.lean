/- Plain law of the logs: what a log answers to an ask, and the chapter's example. -/
import Derived.Test.YtbhehllkimedaaaDoorP2
namespace Go.Proofs.YtbhehllkimedaaaDoor
open Go Go.RowKit Go.Proofs
set_option linter.unusedVariables false

/-- What a light list of asks is. -/
def LightP (xs : List S_law04_Ask) : Prop := xs.length ≤ 40 ∧ ∀ x ∈ xs, x.f_Parts.length ≤ 20 ∧ ∀ p ∈ x.f_Parts, p.length ≤ 1000
theorem light_eq (xs : List S_law04_Ask) (hn : xs.length ≤ mxl) (hq : ∀ x ∈ xs, x.f_Parts.length ≤ mxl) : ∃ b, law04_light xs = some b ∧ (b = true → xs = [] ∨ LightP xs) := by
  unfold law04_light
  unfold mxl at hn hq
  obtain ⟨c, h1, h2⟩ := loop_ok (body := fun s : Int => law04_light.b1 xs s) (fun s => ∃ i : Nat, i ≤ xs.length ∧ s = (i : Int) ∧ (i ≠ 0 → xs.length ≤ 40) ∧ ∀ x ∈ xs.take i, x.f_Parts.length ≤ 20 ∧ ∀ p ∈ x.f_Parts, p.length ≤ 1000)
    (fun c => match c with | .next _ => xs = [] ∨ LightP xs | .ret r => r = false) (fun s => (xs.length - s).toNat)
    (fun s ⟨i, hi, hs, h40, hall⟩ => by
      subst hs
      by_cases h : i < xs.length
      · unfold law04_light.b1
        rw [if_pos (by simpa using h), if_pos (by omega)]
        by_cases hb : xs.length ≤ 40
        · rw [if_neg (by simp; omega)]
          have hg : xs.getD (i : Int).toNat default = xs[i] := by simp [List.getD, h]
          unfold law04_light.j1
          rw [hg]
          by_cases h20 : xs[i].f_Parts.length ≤ 20
          · rw [if_neg (by simp; omega)]
            obtain ⟨c, h3, h4⟩ := loop_ok (body := fun s : Int => law04_light.b2 xs (i : Int) s) (fun s => ∃ j : Nat, j ≤ xs[i].f_Parts.length ∧ s = (j : Int) ∧ ∀ p ∈ xs[i].f_Parts.take j, p.length ≤ 1000)
              (fun c => match c with | .next _ => ∀ p ∈ xs[i].f_Parts, p.length ≤ 1000 | .ret r => r = false) (fun s => (xs[i].f_Parts.length - s).toNat)
              (fun s ⟨j, hj, hs, hp⟩ => by
                subst hs
                unfold law04_light.b2
                rw [hg]
                by_cases h' : j < xs[i].f_Parts.length
                · rw [if_pos (by simpa using h'), if_pos (by omega)]
                  have hg2 : xs[i].f_Parts.getD (j : Int).toNat default = xs[i].f_Parts[j] := by simp [List.getD, h']
                  rw [hg2]
                  by_cases hk : xs[i].f_Parts[j].length ≤ 1000
                  · rw [if_neg (by simp; omega)]
                    simp (disch := omega) only [w64]
                    refine .inl ⟨_, rfl, ⟨j + 1, by omega, by omega, fun p hm => ?_⟩, by omega⟩
                    rw [List.take_succ_eq_append_getElem h'] at hm
                    rcases List.mem_append.1 hm with hm | hm
                    · exact hp p hm
                    · simp at hm; subst hm; exact hk
                  · rw [if_pos (by simp; omega)]
                    exact .inr (.inr ⟨_, rfl, rfl⟩)
                · rw [if_neg (by simp; omega)]
                  have : j = xs[i].f_Parts.length := by omega
                  subst this
                  exact .inr (.inl ⟨_, rfl, by simpa using hp⟩)) (((xs[i].f_Parts.length : Int) - 0 : Int).toNat + 2) 0 ⟨0, by omega, rfl, by simp⟩ (by omega)
            rw [h3]
            cases c with
            | ret r => exact .inr (.inr ⟨r, rfl, h4⟩)
            | next t =>
              simp (disch := omega) only [Option.bind_some, w64]
              refine .inl ⟨_, rfl, ⟨i + 1, by omega, by omega, fun _ => hb, fun x hm => ?_⟩, by omega⟩
              rw [List.take_succ_eq_append_getElem h] at hm
              rcases List.mem_append.1 hm with hm | hm
              · exact hall x hm
              · simp at hm; subst hm; exact ⟨h20, h4⟩
          · rw [if_pos (by simp; omega)]
            exact .inr (.inr ⟨_, rfl, rfl⟩)
        · rw [if_pos (by simp; omega)]
          unfold law04_light.j1
          rw [if_pos rfl]
          exact .inr (.inr ⟨_, rfl, rfl⟩)
      · have : i = xs.length := by omega
        subst this
        refine .inr (.inl ⟨_, by unfold law04_light.b1; rw [if_neg (by simp)], ?_⟩)
        by_cases h0 : xs = []
        · exact .inl h0
        · exact .inr ⟨h40 (by intro e; exact h0 (List.eq_nil_of_length_eq_zero e)), by simpa using hall⟩) (((xs.length : Int) - 0 : Int).toNat + 2) 0 ⟨0, by omega, rfl, by simp, by simp⟩ (by omega)
  rw [h1]
  cases c with
  | ret r => exact ⟨r, rfl, fun h => by rw [h2] at h; cases h⟩
  | next s => exact ⟨true, rfl, fun _ => h2⟩
theorem of_eq (L : Option O_Log) (d : Int) (ps : List (List UInt8)) (hp : ∀ p ∈ ps, p.length < 4294967296) (hl : (enc ps).length + 1 ≤ 140737488355328) (hn : ps.length < 4294967296) : ∃ g, sha_Sum [u8of d :: enc ps] = some g ∧ g.length = 32 ∧ digest_Log_Of L d ps = (digest_Log_note L g (u8of d :: enc ps)).bind fun r => some (g, r) := by
  obtain ⟨g, h1, h2⟩ := sum_total (u8of d :: enc ps) (by simp [mxl]; omega)
  refine ⟨g, h1, h2, ?_⟩
  unfold digest_Log_Of
  rw [input_eq d ps hp hl hn, Option.bind_some, h1, Option.bind_some]
theorem awake_eq : law04_awake = some true := by
  unfold law04_awake digest_New
  rw [Option.bind_some]
  obtain ⟨g, h1, h2, h3⟩ := of_eq (some ⟨[], []⟩) 1 [] (by simp) (by simp [enc]) (by simp)
  have h1' : sha_Sum [[1]] = some g := h1
  have h4 : digest_Log_note (some ⟨[], []⟩) g (u8of 1 :: enc []) = some (some ⟨[(g, u8of 1 :: enc [])], []⟩) := rfl
  rw [h3, h4, Option.bind_some, Option.bind_some, h1', Option.bind_some]
  rw [if_pos (by simp)]
  have h5 : digest_Log_Count (some ⟨[(g, u8of 1 :: enc [])], []⟩) = some 1 := rfl
  have h6 : digest_Log_Clash (some ⟨[(g, u8of 1 :: enc [])], []⟩) = some false := rfl
  rw [h5, Option.bind_some, if_pos (by simp), h6, Option.bind_some]
  rfl
theorem light_bound {ps : List (List UInt8)} (h : ps.length ≤ 20 ∧ ∀ p ∈ ps, p.length ≤ 1000) : (enc ps).length ≤ 20 * 1004 := by
  have : ∀ (ps : List (List UInt8)), (∀ p ∈ ps, p.length ≤ 1000) → (enc ps).length ≤ ps.length * 1004 := by
    intro ps
    induction ps with
    | nil => intro _; simp [enc]
    | cons p ps ih =>
      intro hp
      have h1 := ih fun q hq => hp q (by simp [hq])
      have h2 := hp p (by simp)
      simp only [enc, List.length_append, List.length_cons]
      simp [hd4]
      omega
  exact Nat.le_trans (this ps h.2) (Nat.mul_le_mul_right _ h.1)
theorem u8of_inj {a b : Int} (ha : InR .u8 a) (hb : InR .u8 b) (h : u8of a = u8of b) : a = b := by
  have e := congrArg UInt8.toNat h
  have h1 := ha.1; have h2 := ha.2; have h3 := hb.1; have h4 := hb.2
  simp [IntKind.min, IntKind.max, IntKind.bits, IntKind.signed] at h1 h2 h3 h4
  simp [u8of] at e
  omega
end Go.Proofs.YtbhehllkimedaaaDoor
