/- pontoonlaw04.DigestInputs: whatever the input (the listed variables as the program's text lays them), the call returns true and each argument reads afterwards as it read before: the tied card. -/
import Derived.Test.YtbhehllkimedaaaDoorC2
import Derived.Test.YtbhehllkimedaaaDoorP3
namespace Go.Proofs.YtbhehllkimedaaaDoor
open Go Go.RowKit Go.Proofs
theorem digestInputs_card : Rows.DigestInputsCardSaid :=
  Claim7.holds_tied_plain_at .later [] [.data, .data] true (true, "f1211bb5ececc2c4c773864c63d207778bdb5fa3a7036cdf266f61a4f5e876fb") false
    (digestInputs_said digestInputs_true) (fun _ h => by cases h) (by kernel_rfl) (fun _ h => by cases h) digestInputs_row_tie rfl ⟨rfl, rfl⟩ (by kernel_rfl) rfl
    (fun f fn hf hfn => by
      obtain rfl : f = 3 := Option.some.inj ((show Tryd.prog.funcNamed "pontoon/pontoonlaw04.DigestInputs" = some 3 by kernel_rfl).symm.trans hf) |>.symm
      obtain rfl : fn = Tryd.f3 := (Option.some.inj (Tryd.func3.symm.trans hfn)).symm
      exact ⟨by kernel_rfl, fun j t ht => by
        rw [Tryd.params3] at ht
        have h3 : t = 26 := by
          rcases j with _ | _ | j
          · simpa using ht.symm
          · simpa using ht.symm
          · simp at ht
        subst h3
        exact (show Tryd.prog.wantsStandIn 26 = false by kernel_rfl)⟩)
    (by kernel_rfl)
#print axioms digestInputs_card
end Go.Proofs.YtbhehllkimedaaaDoor
