/- A call's arguments of many cells fit: cell by cell. -/
import Derived.Test.YtemnhknjphjpnaaDoorC1
namespace Go.Proofs.YtemnhknjphjpnaaDoor
open Go Go.RowKit Go.Proofs Go.ChangeShapes Go.WideShapes Go.ChangeAt Go.WideMaps Go.WideElems
set_option maxRecDepth 100000

def JB (P : Program) (w : World) : List Value → List TypeId → Bool
  | [], [] => true
  | v :: vs, u :: us => Cell.okWideB P w u v && JB P w vs us
  | _, _ => false
theorem HU {P : Program} {w : World} : ∀ {vs : List Value} {us : List TypeId}, JB P w vs us = true → vs.length = us.length ∧ ∀ (i : Nat) (v : Value), vs[i]? = some v → ∃ u, us[i]? = some u ∧ Cell.okWideB P w u v = true
  | [], [], _ => ⟨rfl, fun i v h => by simp at h⟩
  | v :: vs, u :: us, h => by
    rw [JB, Bool.and_eq_true] at h
    obtain ⟨h1, h2⟩ := HU h.2
    refine ⟨by simp [h1], fun i x hx => ?_⟩
    cases i with
    | zero => simp at hx; subst hx; exact ⟨u, rfl, h.1⟩
    | succ i => simp at hx; simpa using h2 i x hx
  | [], _ :: _, h => by cases h
  | _ :: _, [], h => by cases h
def Jg (P : Program) (w : World) (t : TypeId) (cs : Array Value) : Bool :=
  match P.cellTypes P.depth t with
  | some ts => JB P w cs.toList ts
  | none => false
theorem Jf {P : Program} {w : World} {base : Nat} {t : TypeId} {cs : Array Value} (h : Jg P w t cs = true) : Row.okWide P w .any base t cs := by
  unfold Jg at h
  split at h
  · rename_i ts hts
    obtain ⟨h1, h2⟩ := HU h
    refine ⟨ts, hts, ⟨1, by rw [← Array.length_toList, h1, Nat.one_mul]⟩, fun i v hv => ?_⟩
    have hv' : cs.toList[i]? = some v := by simpa using hv
    obtain ⟨u, e1, e2⟩ := h2 i v hv'
    have hi : i < ts.length := (List.getElem?_eq_some_iff.1 e1).1
    exact ⟨u, by rw [Nat.mod_eq_of_lt hi]; exact e1, Cell.okWide_of_okWideB e2⟩
  · cases h
theorem Je {P : Program} {w : World} {base : Nat} {t : TypeId} {fs : Array Field} {cs : Array Value} (hu : P.underlying t = some (.struct fs)) (hn : cs.size = P.cellsOf t) (h : Jg P w t cs = true) : Value.okWide P w .any base t (.agg cs) := by
  unfold Value.okWide
  rw [hu]
  exact ⟨cs, rfl, hn, Jf h⟩
theorem H5 {H : Type} {enc : TypeId × Value → H} {C : Checked} {os : Os} {f : FuncId} {fn : Func} {s : ChangeSpec} {conds : List PathCond} {apart : Bool} {X : World → Array Value → Prop} (modest : Bool) (w0 : World) (args : Array Value) (fuel : Nat) (hos : w0.os = os)
    (hsh : (w0.forCall (fun _ _ => 0) ⟨#[], args, []⟩).Shaped C.prog)
    (hok : ∀ base, Input.okWide C.prog (w0.forCall (fun _ _ => 0) ⟨#[], args, []⟩) .any base f ⟨#[], args, []⟩)
    (hpre : s.preB enc C.prog fn conds apart (w0.forCall (fun _ _ => 0) ⟨#[], args, []⟩).memory args fuel = true)
    (hsz : s.sizedB enc C.prog fn apart (w0.forCall (fun _ _ => 0) ⟨#[], args, []⟩).memory args fuel = true)
    (hx : X (w0.forCall (fun _ _ => 0) ⟨#[], args, []⟩).memory args) :
    ∃ (w : World) (tape : Tape) (i : Input), w.os = os ∧ (w.forCall tape i).Shaped C.prog ∧ i.vars = [] ∧ Input.okWide C.prog (w.forCall tape i) .any w.heap.size f i ∧
      ((s.pre enc C.prog fn conds apart (w.forCall tape i).memory i.args ∧ X (w.forCall tape i).memory i.args) ∧ sizedMet enc C.prog fn (OpenSpec.ofChange s) apart (w.forCall tape i).memory i.args) ∧ ({ modest := modest } : Assume).holds C.prog (lone (Frame.enter C.prog f i.args .normal) [] (w.forCall tape i)) :=
  ⟨w0, fun _ _ => 0, ⟨#[], args, []⟩, hos, hsh, rfl, hok _, ⟨⟨ChangeSpec.pre_of_preB hpre, hx⟩, sizedMet_of_sizedB hsz⟩, by
    simp only [Assume.holds]
    exact ⟨by simp, by simp, fun _ => Modest.zero, by simp, by simp⟩⟩
theorem okInput {P : Program} {w : World} {base : Nat} {f : FuncId} {fn : Func} {args : Array Value} (h1 : P.inits.idxOf? f = none) (h2 : P.funcs[f]? = some fn) (h3 : fn.body.isSome = true) (h4 : fn.ours = false) (h5 : fn.nfree = 0) (h6 : args.size = fn.params.size)
    (h7 : ∀ (j : Nat) t v, fn.params[j]? = some t → args[j]? = some v → Value.okWide P w .any base t v) : Input.okWide P w .any base f ⟨#[], args, []⟩ :=
  ⟨fun o ho => by simp at ho, fun g hg => by simp at hg, h1, fn, h2, h3, h4, h5, h6, h7⟩
end Go.Proofs.YtemnhknjphjpnaaDoor
