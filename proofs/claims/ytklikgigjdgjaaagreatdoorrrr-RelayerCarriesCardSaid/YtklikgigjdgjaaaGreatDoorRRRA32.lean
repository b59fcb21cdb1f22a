/- A field of a struct's value. -/
import Derived.Test.YtklikgigjdgjaaaGreatDoorRRRA31
namespace Go.Proofs.YtklikgigjdgjaaaGreatDoorRRR
open Go Go.RowKit Go.Proofs
set_option linter.unusedVariables false
section ops
variable {P : Program} {G : FP} {N : List Ent} {d : Nat} {ty : TypeId} {pos : String} {af : Array Edge} {gd : Option (Nat × Bool)}
theorem op_field1 {S : TypeId} {x : Operand} {i : Nat} {fields : Array Field} {fd : Field} {V : VP} (pre post : List Ck) (hu : P.underlying S = some (.struct fields)) (hi : fields[i]? = some fd) (ha : ∀ w, (isAgg fd.type).run P w = .ok false w)
    (hx : OpndOk G N x (aggVP (pre ++ [one V] ++ post))) (hk : lens pre = fd.offset) : OpOk P G ⟨some d, .field S x i, ty, pos, af, gd⟩ N [] (fun _ => [.slot d V]) :=
  OpOk.val fun Φ a w f _ hG hN => by
    obtain ⟨cs, hv, hL⟩ := hx Φ a w f hG hN
    obtain ⟨xs, ys, zs, rfl, h1, h2, h3⟩ := take_mid hL
    obtain ⟨y1, y2, rfl, ⟨v, rfl, _, hV⟩, h4⟩ := h2
    refine ⟨v, ?_, hV⟩
    have hc : (xs ++ ([v] ++ y2) ++ zs).toArray[fd.offset]? = some v := by
      rw [← hk, ← h1.len]; simp
    simp only [execOp, hv]
    rw [Sem.run_bind]
    have : (Instr.field S (.agg (xs ++ ([v] ++ y2) ++ zs).toArray) i).run P w = .ok v w := by
      simp only [Instr.field, Sem.run_bind, run_underlying hu, Result.andThen_ok, hi, asAgg, part, ha w, Sem.run_pure, hc]
      rfl
    rw [this]
    rfl
theorem op_field {S : TypeId} {x : Operand} {i n : Nat} {fields : Array Field} {fd : Field} (pre mid post : List Ck) (hu : P.underlying S = some (.struct fields)) (hi : fields[i]? = some fd) (ha : ∀ w, (isAgg fd.type).run P w = .ok true w) (hs : ∀ w, (sizeOf fd.type).run P w = .ok n w)
    (hx : OpndOk G N x (aggVP (pre ++ mid ++ post))) (hk : lens pre = fd.offset) (hn : lens mid = n) : OpOk P G ⟨some d, .field S x i, ty, pos, af, gd⟩ N [] (fun _ => [.slot d (aggVP mid)]) :=
  OpOk.val fun Φ a w f _ hG hN => by
    obtain ⟨cs, hv, hL⟩ := hx Φ a w f hG hN
    obtain ⟨xs, ys, zs, rfl, h1, h2, h3⟩ := take_mid hL
    refine ⟨.agg ys.toArray, ?_, ys, rfl, h2⟩
    have hc : (xs ++ ys ++ zs).toArray.extract fd.offset (fd.offset + n) = ys.toArray := by
      rw [← hk, ← hn, ← h1.len, ← h2.len]; simp [List.extract_toArray]
    simp only [execOp, hv]
    rw [Sem.run_bind]
    have : (Instr.field S (.agg (xs ++ ys ++ zs).toArray) i).run P w = .ok (.agg ys.toArray) w := by
      simp only [Instr.field, Sem.run_bind, run_underlying hu, Result.andThen_ok, hi, asAgg, part, ha w, hs w, Sem.run_pure, hc, if_true]
    rw [this]
    rfl
end ops
end Go.Proofs.YtklikgigjdgjaaaGreatDoorRRR
