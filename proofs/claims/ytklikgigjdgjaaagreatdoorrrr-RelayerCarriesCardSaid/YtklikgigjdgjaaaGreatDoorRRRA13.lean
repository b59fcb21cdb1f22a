/- Cells of elements; tests taken apart. -/
import Derived.Test.YtklikgigjdgjaaaGreatDoorRRRA12
namespace Go.Proofs.YtklikgigjdgjaaaGreatDoorRRR
open Go Go.RowKit

instance (k : IntKind) (x : Int) : Decidable (InR k x) := by unfold InR; infer_instance
def dC (n : Nat) (l : List UInt8) : List Ck := [bytesCk n l]
theorem lens_dC (n : Nat) (l : List UInt8) : lens (dC n l) = n := rfl
def iC (k : IntKind) (x : Int) : List Ck := [one (intVP k x)]
theorem lens_iC (k : IntKind) (x : Int) : lens (iC k x) = 1 := rfl
def boC (x : Bool) : List Ck := [one (boolVP x)]
theorem lens_boC (x : Bool) : lens (boC x) = 1 := rfl
def slC {α : Type} (c : α → List Ck) (x : List α) : List Ck := [one (slVP c x)]
theorem lens_slC {α : Type} (c : α → List Ck) (x : List α) : lens (slC c x) = 1 := rfl

theorem tt_of {α : Type} {b : Bool} {x y : Option α} {r : Option α} (hb : b = true) (h : (if b = true then x else y) = r) : x = r := by rw [if_pos hb] at h; exact h
theorem ff_of {α : Type} {b : Bool} {x y : Option α} {r : Option α} (hb : b = false) (h : (if b = true then x else y) = r) : y = r := by rw [if_neg (by rw [hb]; exact Bool.false_ne_true)] at h; exact h

section
variable {P : Program} {G : FP} {ops : Array Oper} {o : Oper} {N C : List Ent} {Gv : Value → List Ent}
theorem GOk.on_eq {k d : Nat} {want b : Bool} {ok : Oper} (hb : b = want) (hg : o.guard = some (k, want)) (hk : ops[k]? = some ok) (hd : ok.dst = some d) (h : OpOk P G o N C Gv) : GOk P G ops o (.slot d (boolVP b) :: N) C Gv := by
  subst hb; exact GOk.on hg hk hd h
theorem GOk.off_eq {k d : Nat} {want b : Bool} {ok : Oper} (hb : b = !want) (hg : o.guard = some (k, want)) (hk : ops[k]? = some ok) (hd : ok.dst = some d) : GOk P G ops o [.slot d (boolVP b)] [] (fun _ => []) := by
  subst hb; exact GOk.off hg hk hd
variable {d : Nat} {ty : TypeId} {pos : String} {af : Array Edge} {gd : Option (Nat × Bool)}
theorem op_pick_t {c x y : Operand} {b : Bool} {V : VP} (hb : b = true) (hc : OpndOk G N c (boolVP b)) (hx : OpndOk G N x V) : OpOk P G ⟨some d, .pick c x y, ty, pos, af, gd⟩ N [] (fun _ => [.slot d V]) := by
  subst hb; exact op_pick hc hx
theorem op_pick_f {c x y : Operand} {b : Bool} {V : VP} (hb : b = false) (hc : OpndOk G N c (boolVP b)) (hy : OpndOk G N y V) : OpOk P G ⟨some d, .pick c x y, ty, pos, af, gd⟩ N [] (fun _ => [.slot d V]) := by
  subst hb; exact op_pick hc hy
theorem build0 {z : Value} {T e : TypeId} {n sz : Nat} {L : List Ck} (hz : ∀ w, (zeroValue T).run P w = .ok z w) (hu : P.underlying T = some (.array n e)) (hs : ∀ w, (sizeOf e).run P w = .ok sz w) (hL : ∀ Φ, Lrel Φ z.cells.toList L) :
    OpOk P G ⟨some d, .build T #[], ty, pos, af, gd⟩ N [] (fun _ => [.slot d (aggVP L)]) :=
  OpOk.val fun Φ a w f _ _ _ => ⟨.agg z.cells, by simp [execOp, Instr.build, hz, run_underlying hu, hs, Instr.fill], z.cells.toList, by simp, hL Φ⟩
end

/-- The cells of an aggregate that is a value, as a slot's. -/
theorem len_w {α : Type} {V : VP} {n : Nat} {l : List α} (_h : V = V) (hn : l.length = n) : l.length = n := hn
end Go.Proofs.YtklikgigjdgjaaaGreatDoorRRR
