/- Plain law of lamport's example. -/
import Derived.Test.YtbhehllkimedaaaDoorP7
namespace Go.Proofs.YtbhehllkimedaaaDoor
open Go Go.RowKit Go.Proofs
set_option linter.unusedVariables false

theorem awake5 : law05_awake = some true := by
  unfold law05_awake
  generalize hd : ([u8of 128] ++ List.replicate (32 - 1) 0 : List UInt8) = d
  have h32 : d.length = 32 := by rw [← hd]; rfl
  have hbit : lamport_Bit d 0 = some 1 := by rw [← hd]; decide
  clear hd
  obtain ⟨L1, a1, a2⟩ := sign_eq none h32 1 d
  obtain ⟨L2, b1, b2⟩ := opened_eq L1 d (sgP_len h32 1 d) (sgO_len h32 1 d)
  obtain ⟨L3, c1, c2⟩ := word_law L2 h32 1
  refine bind_of a1 (bind_of b1 (bind_of hbit ?_))
  rw [if_pos (by simp), if_pos rfl]
  refine bind_of c1 ?_
  rw [opn_sign]
  unfold law05_awake.j1
  simp
end Go.Proofs.YtbhehllkimedaaaDoor
