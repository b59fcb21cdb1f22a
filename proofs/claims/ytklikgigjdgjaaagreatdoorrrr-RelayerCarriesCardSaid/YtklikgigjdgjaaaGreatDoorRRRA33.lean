/- math/bits.Add64, which the model runs itself. -/
import Derived.Test.YtklikgigjdgjaaaGreatDoorRRRA32
import Derived.Laws.Externs
namespace Go.Proofs.YtklikgigjdgjaaaGreatDoorRRR
open Go Go.RowKit Go.Proofs
set_option linter.unusedVariables false
theorem op_add64 {P : Program} {G : FP} {N : List Ent} {d : Nat} {ty : TypeId} {pos : String} {af : Array Edge} {gd : Option (Nat × Bool)} {f : FuncId} {x y z : Operand} {a b c : Int} {tys : Array TypeId}
    (hr : ∀ (a b c : Int) (w : World), 0 ≤ a → 0 ≤ b → 0 ≤ c → c ≤ 1 → (callFunc f #[.int .u64 a, .int .u64 b, .int .u64 c]).run P w = .ok (.value (.tuple #[.int .u64 ((a + b + c) % 18446744073709551616), .int .u64 ((a + b + c) / 18446744073709551616)])) w)
    (hx : OpndOk G N x (intVP .u64 a)) (hy : OpndOk G N y (intVP .u64 b)) (hz : OpndOk G N z (intVP .u64 c)) (hv : c ≤ 1) :
    OpOk P G ⟨some d, .call ⟨.value (.func f), #[x, y, z], tys⟩, ty, pos, af, gd⟩ N [] (fun _ => [.slot d (tupVP [intVP .u64 ((a + b + c) % 18446744073709551616), intVP .u64 ((a + b + c) / 18446744073709551616)])]) :=
  OpOk.val fun Φ ac w fp _ hG hN => by
    obtain ⟨h1, h2⟩ := hx Φ ac w fp hG hN
    obtain ⟨h3, h4⟩ := hy Φ ac w fp hG hN
    obtain ⟨h5, h6⟩ := hz Φ ac w fp hG hN
    have r2 := h2; have r4 := h4; have r6 := h6
    simp [InR, IntKind.min, IntKind.max, IntKind.bits, IntKind.signed] at r2 r4 r6
    refine ⟨.tuple #[.int .u64 ((a + b + c) % 18446744073709551616), .int .u64 ((a + b + c) / 18446744073709551616)], ?_, ?_⟩
    · have e : ac.eval (.func f) = .func (.func f) #[] #[] := rfl
      simp [execOp, resolve, e, h1, h3, h5, Deferred.ofValue, invoke, hr a b c w (by omega) (by omega) (by omega) hv]
    · exact ⟨_, rfl, ⟨⟨rfl, by simp [InR, IntKind.min, IntKind.max, IntKind.bits, IntKind.signed]; omega⟩, ⟨rfl, by simp [InR, IntKind.min, IntKind.max, IntKind.bits, IntKind.signed]; omega⟩, trivial⟩⟩
end Go.Proofs.YtklikgigjdgjaaaGreatDoorRRR
