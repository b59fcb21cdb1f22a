/- Plain laws: P11, P13b, as one text. -/
import Derived.Test.YtnjkofmmpfehcaaDoorRP10
namespace Go.Proofs.YtnjkofmmpfehcaaDoorR
open Go Go.RowKit Go.Proofs
section
set_option linter.unusedVariables false

end

section
set_option linter.unusedVariables false

theorem inp_inj {d : Int} {ps qs : List (List UInt8)} (hp : Small ps) (hq : Small qs) (h : inp d ps = inp d qs) : ps = qs :=
  enc_inj ps qs (fun p h => by have := hp.1 p h; omega) (fun p h => by have := hq.1 p h; omega) (List.cons.inj h).2
/-- Without a clash: noted inputs of one digest are one. -/
theorem noted_inj {Q : O_RLog} {n : Nat} (A : RefOk Q n) (hn : n < 60000) (hc : ref04_Log_Clash (some Q) = some false) {d : Int} {ps qs : List (List UInt8)} (hp : Small ps) (hq : Small qs) (h1 : Noted Q (inp d ps)) (h2 : Noted Q (inp d qs)) (h : H (inp d ps) = H (inp d qs)) : ps = qs := by
  obtain ⟨L, A⟩ := A
  refine inp_inj hp hq (clash_noted A hn hc h1 h2 ?_)
  rw [(hp.H d).1, (hq.H d).1, h]
theorem clash_some {Q : O_RLog} {n : Nat} (A : RefOk Q n) (hn : n < 60000) : ∃ b, ref04_Log_Clash (some Q) = some b := by
  obtain ⟨L, A⟩ := A
  have h6 := A.j6.1
  have h5 := A.j5
  show ∃ b, ref04_Log_Clash.s Q = some b
  unfold ref04_Log_Clash.s
  rw [if_pos (by simp only [mxl]; omega)]
  exact ⟨_, rfl⟩
end
end Go.Proofs.YtnjkofmmpfehcaaDoorR
