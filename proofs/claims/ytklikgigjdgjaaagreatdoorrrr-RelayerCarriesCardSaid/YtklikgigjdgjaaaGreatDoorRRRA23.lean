/- Arrays of arrays: an element of such a value; the zero value's cells. -/
import Derived.Test.YtklikgigjdgjaaaGreatDoorRRRA21
namespace Go.Proofs.YtklikgigjdgjaaaGreatDoorRRR
open Go Go.RowKit Go.Proofs
set_option linter.unusedVariables false
set_option linter.unusedSimpArgs false
section
variable {P : Program} {G : FP} {N : List Ent} {d : Nat} {ty : TypeId} {pos : String} {af : Array Edge} {gd : Option (Nat × Bool)}
theorem op_index_aggA {α : Type} [Inhabited α] {t e : TypeId} {x y : Operand} {ki : IntKind} {c : α → List Ck} {n sz : Nat} {hsz : ∀ x, lens (c x) = sz} {l : List α} {i : Int} (hu : P.underlying t = some (.array n e)) (hs : ∀ w, (sizeOf e).run P w = .ok sz w) (ha : ∀ w, (isAgg e).run P w = .ok true w)
    (hx : OpndOk G N x (aggVP [arrCk n sz c hsz l])) (hy : OpndOk G N y (intVP ki i)) (hi : 0 ≤ i ∧ i < n) : OpOk P G ⟨some d, .index t x y, ty, pos, af, gd⟩ N [] (fun _ => [.slot d (aggVP (c (l.getD i.toNat default)))]) :=
  OpOk.val fun Φ a w f _ hG hN => by
    obtain ⟨hy1, _⟩ := hy Φ a w f hG hN
    obtain ⟨cs, hv, ys, zs, rfl, ⟨hl, hA⟩, hz⟩ := hx Φ a w f hG hN
    have hz : zs = [] := hz
    subst hz
    have hit : i.toNat < l.length := by omega
    obtain ⟨us, vs, ws, rfl, q1, q2, _⟩ := hA.at hsz i.toNat hit
    have e1 : l.getD i.toNat default = l[i.toNat] := by simp [List.getD, hit]
    have q3 : vs.length = sz := by rw [q2.len, hsz]
    refine ⟨.agg vs.toArray, ?_, vs, rfl, by rw [e1]; exact q2⟩
    simp only [execOp, hv, hy1]
    have e3 : (us ++ (vs ++ ws)).drop (i.toNat * sz) = vs ++ ws := by rw [← q1]; simp
    simp [Instr.index, asIntOf, run_underlying hu, hi, hs, part, ha, e3]
    rw [← q3]; simp
end
theorem zarr {α : Type} {c : α → List Ck} {z : α} {zs : List Value} (h : ∀ Φ, Lrel Φ zs (c z)) (Φ : Pub) : ∀ n, Arel Φ c (List.replicate n zs).flatten (List.replicate n z)
  | 0 => rfl
  | n + 1 => ⟨zs, (List.replicate n zs).flatten, rfl, h Φ, zarr h Φ n⟩
theorem zarr1 {α : Type} {n sz : Nat} {c : α → List Ck} {hsz : ∀ x, lens (c x) = sz} {z : α} {zs cs : List Value} (e : cs = (List.replicate n zs).flatten) (h : ∀ Φ, Lrel Φ zs (c z)) : ∀ Φ, Lrel Φ cs [arrCk n sz c hsz (List.replicate n z)] :=
  fun Φ => ⟨cs, [], by simp, ⟨by simp, by rw [e]; exact zarr h Φ n⟩, rfl⟩
end Go.Proofs.YtklikgigjdgjaaaGreatDoorRRR
