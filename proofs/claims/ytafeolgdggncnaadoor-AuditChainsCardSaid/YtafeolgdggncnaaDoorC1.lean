/- What a call needs of the world as it begins, where Go's own tables of UTF-8 are listed and not read. -/
import Derived.Test.YtafeolgdggncnaaDoorA20
import Derived.Test.YtafeolgdggncnaaDoorG4
import Derived.Test.YtafeolgdggncnaaDoorRows
import Derived.Test.YtafeolgdggncnaaDoorTie
import Derived.Test.YtafeolgdggncnaaDoorCards
import Derived.ProofKit
import Derived.LaidMore
import Derived.Carry
import Derived.Stop.Joined
import Derived.SevenTiedAt
import Derived.Lib.LaidU8
namespace Go.Proofs.YtafeolgdggncnaaDoor
open Go Go.RowKit Go.Proofs Go.ChangeShapes Go.WideShapes Go.ChangeAt Go.WideMaps Go.WideElems
set_option maxRecDepth 100000

theorem law_calls {P : Program} {G : FP} {f : FuncId} {Vs : List VP} (hok : CallOk P G f Vs [] (fun _ => []) (boolVP true)) {w : World} {args : List Value} (hG : G.p (allPub w)) (ha : ArgsL (allPub w) Vs args) :
    Calls P f args.toArray w fun e w' => e = .returned (.bool true) ∧ Below w.heap.size w w' := by
  refine (hok (allPub w) w args [] (allPub_ok w) hG ha trivial (by simp) (by simp)).mono fun e w' hq => ?_
  obtain ⟨v, Φ', fs', rfl, h1, _, h3, _⟩ := hq
  have h3 : v = .bool true := h3
  subst h3
  exact ⟨rfl, h1.os, h1.tape, h1.output, h1.size, fun b hb => h1.block b hb (by simp)⟩

theorem ownKn : ownKnob Tryd.prog.godebug = none := by kernel_rfl
theorem laidOut : laidOutB Tryd.prog = true := by kernel_rfl
def laidL : List (String × DataW Unit) := [("unicode/utf8.acceptRanges", Rows.laid_unicode_utf8_acceptRanges), ("unicode/utf8.first", Rows.laid_unicode_utf8_first)]
/-- A world to begin in: what the door lays, and the table that is pinned. -/
noncomputable def laidWorld (os : Os) : World :=
  let w0 := World.doorLaid Tryd.prog 400 os
  { w0 with heap := w0.heap.modify 0 fun
    | .cells _ t frozen => .cells (Lib.firstTab.map fun z => Value.int .u8 z).toArray t frozen
    | o => o }
theorem door_met (os : Os) (args : Array Value) : laidMetH Tryd.prog laidL ((laidWorld os).forCall (fun _ _ => 0) ⟨#[], args, []⟩).memory :=
  laidMetH_of_parts3 (fuel := 8) (laidMet_of_run' 8 (by kernel_rfl) (by kernel_rfl)) (by kernel_rfl) (by kernel_rfl)
theorem KG_of {W : World} (_ : laidMetH Tryd.prog laidL W) : KG.p (allPub W) := trivial
end Go.Proofs.YtafeolgdggncnaaDoor
