/- Plain law of LamportKeys: the secrets, publics and word of any key. -/
import Derived.Test.YtbhehllkimedaaaDoorP11
import Derived.Test.YtbhehllkimedaaaDoorP7b
namespace Go.Proofs.YtbhehllkimedaaaDoor
open Go Go.RowKit Go.Proofs
set_option linter.unusedVariables false

theorem new_d : digest_New = some ⟨[], []⟩ := rfl
theorem lamportKeys_true (seed d : List UInt8) (idx i b : Int) (hs : seed.length = 32) (hd : d.length = 32) : law05_LamportKeys seed d idx i b = some true := by
  unfold law05_LamportKeys
  obtain ⟨L1, a1, _⟩ := secret_eq (some ⟨[], []⟩) hs idx i b
  obtain ⟨Q1, b1, b2, _⟩ := rsecret_eq refNew (by omega) hs idx i b
  obtain ⟨L2, c1, _⟩ := public_eq L1 (sec_len hs idx i b)
  obtain ⟨Q2, d1, d2, _⟩ := rpublic_eq b2.ok (by omega) (sec_len hs idx i b)
  obtain ⟨L3, e1, _⟩ := word_law L2 hs idx
  obtain ⟨Q3, f1, _⟩ := rword_law hs idx d2.ok (by omega)
  obtain ⟨g1, x, g2⟩ := rbit_eq d i
  refine bind_of awake5 ?_
  rw [if_neg (by simp)]
  refine bind_of new_d ?_
  refine bind_of new_r ?_
  refine bind_of a1 ?_
  refine bind_of b1 ?_
  refine bind_of awake5 ?_
  rw [if_pos rfl]
  refine bind_of g2 (bind_of (g1.trans g2) ?_)
  rw [if_pos (by simp), if_pos (by simp)]
  refine bind_of c1 (bind_of d1 ?_)
  rw [if_pos (by simp)]
  refine bind_of e1 (bind_of f1 ?_)
  unfold law05_LamportKeys.j1
  simp
end Go.Proofs.YtbhehllkimedaaaDoor
