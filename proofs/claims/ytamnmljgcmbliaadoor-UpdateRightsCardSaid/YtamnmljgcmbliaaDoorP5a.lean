/- Plain law: the document's bytes of a number, of a text, of an ask. -/
import Derived.Test.YtamnmljgcmbliaaDoorP4c
import Derived.Test.YtamnmljgcmbliaaDoorP2
namespace Go.Proofs.YtamnmljgcmbliaaDoor
open Go Go.RowKit Go.Proofs
set_option linter.unusedVariables false

theorem u8mod (x : Nat) : (u8of (IntKind.wrap .u8 ((x % 256 : Nat) : Int))).toNat = x % 256 := by
  simp only [IntKind.wrap, IntKind.bits, IntKind.signed, u8of]
  simp
  omega
theorem rbig_step (x : Nat) (i : Nat) (w : List UInt8) (hx : x < 18446744073709551616) (hi : i < 4) : ref03_Big.b1 (x : Int) (i : Int) w = some (.cont (((x / 256 : Nat) : Int), (i : Int) - 1, w.set i (u8of (IntKind.wrap .u8 ((x % 256 : Nat) : Int))))) := by
  unfold ref03_Big.b1
  rw [if_pos (by simp), if_pos (by omega)]
  have e1 : (x : Int).tdiv 256 = ((x / 256 : Nat) : Int) := by rw [Int.tdiv_eq_ediv_of_nonneg (by omega)]; simp
  have e2 : (x : Int).tmod 256 = ((x % 256 : Nat) : Int) := by rw [Int.tmod_eq_emod_of_nonneg (by omega)]; simp
  rw [e1, e2]
  simp (disch := omega) only [w64, wu64]
  rfl
theorem rbig_end (x : Int) (w : List UInt8) : ref03_Big.b1 x (-1) w = some (.brk (x, -1, w)) := by
  unfold ref03_Big.b1
  rw [if_neg (by simp)]
theorem loop_cont {R S : Type} {body : S → Option (Flow R S)} (k : Nat) {s s' : S} {r : Option (Ctl R S)} (h1 : body s = some (.cont s')) (h2 : loopN body k s' = r) : loopN body (k + 1) s = r := by
  unfold loopN
  rw [h1]
  exact h2
theorem loop_brk {R S : Type} {body : S → Option (Flow R S)} (k : Nat) {s s' : S} (h1 : body s = some (.brk s')) : loopN body (k + 1) s = some (.next s') := by
  unfold loopN
  rw [h1]
theorem ref_big1 (n : Nat) (hn : n < 18446744073709551616) : ref03_Big (n : Int) 1 = some [u8of (IntKind.wrap .u8 ((n % 256 : Nat) : Int))] := by
  have k3 : IntKind.wrap .i64 (1 - 1) = ((0 : Nat) : Int) := by decide
  have hloop : loopN (fun s : Int × Int × (List UInt8) => ref03_Big.b1 s.1 s.2.1 s.2.2) (((IntKind.wrap .i64 (1 - 1)) - 0 : Int).toNat + 2) ((n : Int), IntKind.wrap .i64 (1 - 1), (List.replicate 8 0)) =
      some (.next (((n / 256 : Nat) : Int), -1, [u8of (IntKind.wrap .u8 ((n % 256 : Nat) : Int)), 0, 0, 0, 0, 0, 0, 0])) := by
    rw [k3]
    exact loop_cont 1 (rbig_step n 0 (List.replicate 8 0) hn (by decide)) (loop_brk 0 (rbig_end _ _))
  unfold ref03_Big
  refine bind_next hloop ?_
  show (if _ then _ else _) = _
  rw [if_pos (by decide), if_pos (by decide)]
  rfl
theorem ref_big4 (n : Nat) (hn : n < 18446744073709551616) : ref03_Big (n : Int) 4 = some (hd4 n) := by
  have hloop : loopN (fun s : Int × Int × (List UInt8) => ref03_Big.b1 s.1 s.2.1 s.2.2) (((IntKind.wrap .i64 (4 - 1)) - 0 : Int).toNat + 2) ((n : Int), IntKind.wrap .i64 (4 - 1), (List.replicate 8 0)) =
      some (.next (((n / 256 / 256 / 256 / 256 : Nat) : Int), -1, [u8of (IntKind.wrap .u8 ((n / 256 / 256 / 256 % 256 : Nat) : Int)), u8of (IntKind.wrap .u8 ((n / 256 / 256 % 256 : Nat) : Int)), u8of (IntKind.wrap .u8 ((n / 256 % 256 : Nat) : Int)), u8of (IntKind.wrap .u8 ((n % 256 : Nat) : Int)), 0, 0, 0, 0])) := by
    have k3 : IntKind.wrap .i64 (4 - 1) = ((3 : Nat) : Int) := by decide
    rw [k3]
    show loopN _ 5 _ = _
    have s0 := rbig_step n 3 (List.replicate 8 0) hn (by decide)
    have s1 := rbig_step (n / 256) 2 [0, 0, 0, u8of (IntKind.wrap .u8 ((n % 256 : Nat) : Int)), 0, 0, 0, 0] (by omega) (by decide)
    have s2 := rbig_step (n / 256 / 256) 1 [0, 0, u8of (IntKind.wrap .u8 ((n / 256 % 256 : Nat) : Int)), u8of (IntKind.wrap .u8 ((n % 256 : Nat) : Int)), 0, 0, 0, 0] (by omega) (by decide)
    have s3 := rbig_step (n / 256 / 256 / 256) 0 [0, u8of (IntKind.wrap .u8 ((n / 256 / 256 % 256 : Nat) : Int)), u8of (IntKind.wrap .u8 ((n / 256 % 256 : Nat) : Int)), u8of (IntKind.wrap .u8 ((n % 256 : Nat) : Int)), 0, 0, 0, 0] (by omega) (by decide)
    exact loop_cont 4 s0 (loop_cont 3 s1 (loop_cont 2 s2 (loop_cont 1 s3 (loop_brk 0 (rbig_end _ _)))))
  unfold ref03_Big
  refine bind_next hloop ?_
  show (if _ then _ else _) = _
  rw [if_pos (by decide), if_pos (by decide)]
  have e0 : u8of (IntKind.wrap .u8 (shr .u64 (n : Int) 24)) = u8of (IntKind.wrap .u8 ((n / 256 / 256 / 256 % 256 : Nat) : Int)) := UInt8.toNat_inj.1 (by rw [byteOf (q := 16777216) (by decide) (by decide), u8mod]; omega)
  have e1 : u8of (IntKind.wrap .u8 (shr .u64 (n : Int) 16)) = u8of (IntKind.wrap .u8 ((n / 256 / 256 % 256 : Nat) : Int)) := UInt8.toNat_inj.1 (by rw [byteOf (q := 65536) (by decide) (by decide), u8mod]; omega)
  have e2 : u8of (IntKind.wrap .u8 (shr .u64 (n : Int) 8)) = u8of (IntKind.wrap .u8 ((n / 256 % 256 : Nat) : Int)) := UInt8.toNat_inj.1 (by rw [byteOf (q := 256) (by decide) (by decide), u8mod])
  have e3 : u8of (IntKind.wrap .u8 (shr .u64 (n : Int) 0)) = u8of (IntKind.wrap .u8 ((n % 256 : Nat) : Int)) := UInt8.toNat_inj.1 (by rw [byteOf (q := 1) (by decide) (by decide), u8mod]; omega)
  unfold hd4
  rw [e0, e1, e2, e3]
  rfl
theorem ref_text (p : List UInt8) (h : p.length < 4294967296) : ref03_Text p = some (hd4 p.length ++ p) := by
  unfold ref03_Text
  rw [wu64 (by omega), ref_big4 _ (by omega)]
  refine bind_of rfl ?_
  rw [if_pos (by simp only [hd4, List.length_cons, List.length_nil, mxl]; omega)]
theorem ref_input (d : Int) (ps : List (List UInt8)) (hp : ∀ p ∈ ps, p.length < 4294967296) (hl : (enc ps).length + 1 ≤ 140737488355328) (hn : ps.length < 4294967296) : ref04_Input d ps = some (u8of d :: enc ps) := by
  obtain ⟨c, h1, h2⟩ := loop_ok (body := fun s : (List UInt8) × Int => ref04_Input.b1 ps s.1 s.2) (fun s => ∃ i : Nat, i ≤ ps.length ∧ s = (u8of d :: enc (ps.take i), (i : Int)))
    (fun c => match c with | .next s => s.1 = u8of d :: enc ps | .ret _ => False) (fun s => (ps.length - s.2).toNat)
    (fun s ⟨i, hi, hs⟩ => by
      subst hs
      show (∃ s', ref04_Input.b1 ps (u8of d :: enc (ps.take i)) (i : Int) = some (.cont s') ∧ _) ∨ (∃ s', ref04_Input.b1 ps (u8of d :: enc (ps.take i)) (i : Int) = some (.brk s') ∧ _) ∨ _
      unfold ref04_Input.b1
      by_cases h : i < ps.length
      · have g : ps.getD (i : Int).toNat default = ps[i] := by simp [List.getD, h]
        have htk : ps.take (i + 1) = ps.take i ++ [ps[i]] := List.take_succ_eq_append_getElem h
        have hbound : (enc (ps.take (i + 1))).length ≤ (enc ps).length := by
          have : ps = ps.take (i + 1) ++ ps.drop (i + 1) := (List.take_append_drop _ _).symm
          conv => rhs; rw [this, enc_append]
          simp
        rw [htk, enc_append] at hbound
        rw [if_pos (by simpa using h), if_pos (by omega), g, ref_text _ (hp _ (List.getElem_mem h)), Option.bind_some, if_pos (by simp only [enc, mxl, List.length_append, List.length_cons, List.append_nil] at hbound ⊢; omega), w64 (by omega)]
        refine .inl ⟨_, rfl, ⟨i + 1, by omega, ?_⟩, by simp; omega⟩
        rw [htk, enc_append]
        simp [enc]
      · rw [if_neg (by simpa using h)]
        have : i = ps.length := by omega
        subst this
        exact .inr (.inl ⟨_, rfl, by simp⟩)) (((ps.length : Int) - 0 : Int).toNat + 2) ([u8of d], 0) ⟨0, by omega, rfl⟩ (by simp)
  unfold ref04_Input
  cases c with
  | ret r => exact h2.elim
  | next s =>
    refine bind_next h1 ?_
    obtain ⟨x, y⟩ := s
    have h2 : x = _ := h2
    rw [h2]
end Go.Proofs.YtamnmljgcmbliaaDoor
