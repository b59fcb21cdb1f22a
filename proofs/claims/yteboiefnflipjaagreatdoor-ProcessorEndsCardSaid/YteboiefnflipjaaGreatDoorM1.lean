/- The program logic, as far as this claim leans on it: part 1. -/
import Derived.Orders
import Derived.Below
import Derived.KernelRfl
import Derived.Laws.Entries
import Derived.Laws.Cells
import Derived.Laws.Rows
import Derived.LoopTactic
import Derived.StepT
import Derived.Laws.Strings
import Derived.Laws.StructEq
import Derived.Laws.BytesString
import Derived.ChangeKeysEq
import Derived.Laws.Pointers
import Derived.Laws.AppendOwn
import Derived.Lib.AppendStr
import Derived.Laws.CopyRow
import Derived.Laws.IdiomStrings
import Derived.Laws.Tables
import Derived.MapKept
import Derived.Lib.UnsafeStr
import Derived.OpenShut
import Derived.ChangeArms
import Derived.DataReads
import Derived.WideShapes
import Derived.Maps.RangeRun
import Derived.WalkSpells
import Derived.Lib.BufferWrite
import Derived.Laws.Externs
import Derived.Laws.RangeAny
namespace Go.Proofs.YteboiefnflipjaaGreatDoor
section
open Go Go.RowKit

abbrev BR := Nat → Nat → Option Value

def BR.le (Φ Φ' : BR) : Prop := ∀ b o v, Φ b o = some v → Φ' b o = some v
theorem BR.le_refl (Φ : BR) : BR.le Φ Φ := fun _ _ _ h => h
theorem BR.le_trans {Φ Φ' Φ'' : BR} (h : BR.le Φ Φ') (k : BR.le Φ' Φ'') : BR.le Φ Φ'' := fun b o v e => k b o v (h b o v e)

structure Cv (Φ : BR) (w : World) : Prop where
  lt : ∀ b o v, Φ b o = some v → b < w.heap.size
  cell : ∀ b o v, Φ b o = some v → w.cell? ⟨b, o, none⟩ = some v

structure VP where
  p : BR → Value → Prop
  mono : ∀ {Φ Φ' : BR} {v : Value}, BR.le Φ Φ' → p Φ v → p Φ' v

structure FP where
  p : BR → Prop
  mono : ∀ {Φ Φ' : BR}, BR.le Φ Φ' → p Φ → p Φ'

structure RP where
  p : BR → List Nat → World → Prop
  loc : ∀ {Φ Φ' : BR} {f : List Nat} {w w' : World}, BR.le Φ Φ' → (∀ b ∈ f, Φ' b = Φ b) → (∀ b ∈ f, w'.heap[b]? = w.heap[b]?) → p Φ f w → p Φ' f w'

inductive B1 where
  | slot (d : Nat) (V : VP)
  | res (R : RP)
  | fact (V : VP) (v : Value)
  | none

def B1.JZ : B1 → Option Nat
  | .slot d _ => some d
  | _ => Option.none

structure Step (w : World) (Φ : BR) (F : List Nat) (w' : World) (Φ' : BR) : Prop where
  os : w'.os = w.os
  tape : w'.tape = w.tape
  output : w'.output = w.output
  size : w.heap.size ≤ w'.heap.size
  block : ∀ b, b < w.heap.size → b ∉ F → w'.heap[b]? = w.heap[b]?
  le : BR.le Φ Φ'
  same : ∀ b, b < w.heap.size → b ∉ F → Φ' b = Φ b

theorem Step.refl (w : World) (Φ : BR) (F : List Nat) : Step w Φ F w Φ := ⟨rfl, rfl, rfl, Nat.le_refl _, fun _ _ _ => rfl, BR.le_refl _, fun _ _ _ => rfl⟩

theorem Step.KY {w w' : World} {Φ Φ' : BR} {F F' : List Nat} (h : Step w Φ F w' Φ') (hf : ∀ b ∈ F, b < w.heap.size → b ∈ F') : Step w Φ F' w' Φ' :=
  ⟨h.os, h.tape, h.output, h.size, fun b hb hn => h.block b hb (fun hm => hn (hf b hm hb)), h.le, fun b hb hn => h.same b hb (fun hm => hn (hf b hm hb))⟩

theorem Step.trans {w w' w'' : World} {Φ Φ' Φ'' : BR} {F G : List Nat} (h : Step w Φ F w' Φ') (k : Step w' Φ' G w'' Φ'')
    (hg : ∀ b ∈ G, b < w.heap.size → b ∈ F) : Step w Φ F w'' Φ'' :=
  ⟨k.os.trans h.os, k.tape.trans h.tape, k.output.trans h.output, Nat.le_trans h.size k.size,
   fun b hb hn => (k.block b (Nat.lt_of_lt_of_le hb h.size) (fun hm => hn (hg b hm hb))).trans (h.block b hb hn),
   BR.le_trans h.le k.le,
   fun b hb hn => (k.same b (Nat.lt_of_lt_of_le hb h.size) (fun hm => hn (hg b hm hb))).trans (h.same b hb hn)⟩

theorem Step.drew (w : World) (Φ : BR) (F : List Nat) : Step w Φ F { w with drawn := w.drawn + 1 } Φ := ⟨rfl, rfl, rfl, Nat.le_refl _, fun _ _ _ => rfl, BR.le_refl _, fun _ _ _ => rfl⟩
theorem Cv.drew {Φ : BR} {w : World} (h : Cv Φ w) : Cv Φ { w with drawn := w.drawn + 1 } := ⟨h.lt, h.cell⟩

def B1.holds (Φ : BR) (tmps : Array Value) (w : World) (f : List Nat) : B1 → Prop
  | .slot d V => f = [] ∧ ∃ v, tmps[d]? = some v ∧ V.p Φ v
  | .res R => R.p Φ f w
  | .fact V v => f = [] ∧ V.p Φ v
  | .none => f = []

theorem B1.F1 {Φ Φ' : BR} {tmps tmps' : Array Value} {w w' : World} {f : List Nat} {e : B1} (h : e.holds Φ tmps w f)
    (hle : BR.le Φ Φ') (hsame : ∀ b ∈ f, Φ' b = Φ b) (hblk : ∀ b ∈ f, w'.heap[b]? = w.heap[b]?) (ht : ∀ d, e.JZ = some d → tmps'[d]? = tmps[d]?) : e.holds Φ' tmps' w' f := by
  cases e with
  | slot d V => obtain ⟨rfl, v, h1, h2⟩ := h; exact ⟨rfl, v, by rw [ht d rfl]; exact h1, V.mono hle h2⟩
  | res R => exact R.loc hle hsame hblk h
  | fact V v => exact ⟨h.1, V.mono hle h.2⟩
  | none => exact h

structure Cx where
  w0 : World
  Φ0 : BR
  F0 : List Nat
  n : Nat
  G : FP

structure LA (c : Cx) (E : Nat → B1) (al : Nat → Prop) (a : Act) (w : World) (Φ : BR) (fp : Nat → List Nat) : Prop where
  defers : a.defers = []
  size : a.tmps.size = c.n
  I0 : Cv Φ w
  G3 : c.G.p Φ
  step : Step c.w0 c.Φ0 c.F0 w Φ
  holds : ∀ i, al i → (E i).holds Φ a.tmps w (fp i)
  own : ∀ i, al i → (fp i).Nodup ∧ ∀ b ∈ fp i, b < w.heap.size ∧ (b ∈ c.F0 ∨ c.w0.heap.size ≤ b)
  apart : ∀ i j, al i → al j → i ≠ j → ∀ b ∈ fp i, b ∉ fp j

def Sat (c : Cx) (E : Nat → B1) (al : Nat → Prop) (a : Act) (w : World) : Prop := ∃ Φ fp, LA c E al a w Φ fp

theorem Sat.pick {c : Cx} {E E' : Nat → B1} {al al' : Nat → Prop} {a : Act} {w : World} (h : Sat c E al a w) (r : Nat → Nat)
    (hal : ∀ i, al' i → al (r i)) (hE : ∀ i, al' i → E' i = E (r i)) (hinj : ∀ i j, al' i → al' j → i ≠ j → r i ≠ r j) : Sat c E' al' a w := by
  obtain ⟨Φ, fp, h⟩ := h
  refine ⟨Φ, fun i => fp (r i), h.defers, h.size, h.I0, h.G3, h.step, fun i hi => ?_, fun i hi => h.own _ (hal i hi), fun i j hi hj hne => h.apart _ _ (hal i hi) (hal j hj) (hinj i j hi hj hne)⟩
  rw [hE i hi]; exact h.holds _ (hal i hi)

theorem Sat.drew {c : Cx} {E : Nat → B1} {al : Nat → Prop} {a : Act} {w : World} (h : Sat c E al a w) : Sat c E al a { w with drawn := w.drawn + 1 } := by
  obtain ⟨Φ, fp, h⟩ := h
  exact ⟨Φ, fp, h.defers, h.size, h.I0.drew, h.G3, h.step.trans (Step.drew w Φ []) (by simp),
    fun i hi => B1.F1 (h.holds i hi) (BR.le_refl _) (fun _ _ => rfl) (fun _ _ => rfl) (fun _ _ => rfl), h.own, h.apart⟩

def BT (Φ : BR) (tmps : Array Value) (w : World) : List B1 → List (List Nat) → Prop
  | [], [] => True
  | e :: es, f :: fs => e.holds Φ tmps w f ∧ BT Φ tmps w es fs
  | _, _ => False

theorem BT.of_map {Φ : BR} {tmps : Array Value} {w : World} (E : Nat → B1) (fp : Nat → List Nat) : ∀ (l : List Nat), (∀ r ∈ l, (E r).holds Φ tmps w (fp r)) → BT Φ tmps w (l.map E) (l.map fp)
  | [], _ => trivial
  | r :: l, h => ⟨h r (by simp), BT.of_map E fp l fun x hx => h x (by simp [hx])⟩

theorem BT.get {Φ : BR} {tmps : Array Value} {w : World} : ∀ {es : List B1} {fs : List (List Nat)}, BT Φ tmps w es fs → es.length = fs.length ∧ ∀ (i : Nat) (e : B1), es[i]? = some e → ∃ f, fs[i]? = some f ∧ e.holds Φ tmps w f
  | [], [], _ => ⟨rfl, fun i e h => by simp at h⟩
  | e :: es, f :: fs, h => by
    obtain ⟨h1, h2⟩ := BT.get h.2
    refine ⟨by simp [h1], fun i x hx => ?_⟩
    cases i with
    | zero => simp at hx; subst hx; exact ⟨f, rfl, h.1⟩
    | succ i => simp at hx; simpa using h2 i x hx
  | [], _ :: _, h => h.elim
  | _ :: _, [], h => h.elim

def Ba (P : Program) (G : FP) (o : Oper) (N C : List B1) (Gv : Value → List B1) : Prop :=
  ∀ (Φ : BR) (a : Act) (w : World) (fN fC : List (List Nat)),
    Cv Φ w → G.p Φ → BT Φ a.tmps w N fN → BT Φ a.tmps w C fC → (fN.flatten ++ fC.flatten).Nodup → (∀ b ∈ fN.flatten ++ fC.flatten, b < w.heap.size) →
    (∀ d, o.dst = some d → d < a.tmps.size) →
    ∀ (K : Act → World → Prop) (Q : Exit → Act → World → Prop),
      (∀ (v : Value) (w' : World) (Φ' : BR) (fG : List (List Nat)), Step w Φ fC.flatten w' Φ' → Cv Φ' w' →
        BT Φ' (a.put o.dst v).tmps w' (Gv v) fG → fG.flatten.Nodup → (∀ b ∈ fG.flatten, b < w'.heap.size ∧ (b ∈ fC.flatten ∨ w.heap.size ≤ b)) → K (a.put o.dst v) w') →
      o.wp P a w K Q

def Nj (P : Program) (ops : Array Oper) (Q : Exit → Act → World → Prop) (o : Oper) (K : Act → World → Prop) (a : Act) (w : World) : Prop :=
  if Region.wanted o (yielded ops a.tmps) then o.wp P a w K Q ∨ (o.asks P a w ∧ LetsOut Q) else K (a.put o.dst undef) w

def AV (P : Program) (G : FP) (ops : Array Oper) (o : Oper) (N C : List B1) (Gv : Value → List B1) : Prop :=
  ∀ (Φ : BR) (a : Act) (w : World) (fN fC : List (List Nat)),
    Cv Φ w → G.p Φ → BT Φ a.tmps w N fN → BT Φ a.tmps w C fC → (fN.flatten ++ fC.flatten).Nodup → (∀ b ∈ fN.flatten ++ fC.flatten, b < w.heap.size) →
    (∀ d, o.dst = some d → d < a.tmps.size) →
    ∀ (K : Act → World → Prop) (Q : Exit → Act → World → Prop),
      (∀ (v : Value) (w' : World) (Φ' : BR) (fG : List (List Nat)), Step w Φ fC.flatten w' Φ' → Cv Φ' w' →
        BT Φ' (a.put o.dst v).tmps w' (Gv v) fG → fG.flatten.Nodup → (∀ b ∈ fG.flatten, b < w'.heap.size ∧ (b ∈ fC.flatten ∨ w.heap.size ≤ b)) → K (a.put o.dst v) w') →
      Nj P ops Q o K a w

theorem AV.plain {P : Program} {G : FP} {ops : Array Oper} {o : Oper} {N C : List B1} {Gv : Value → List B1} (h : Ba P G o N C Gv) (hg : o.guard = none) : AV P G ops o N C Gv := by
  intro Φ a w fN fC h1 h2 h3 h4 h5 h6 h7 K Q hK
  unfold Nj
  rw [if_pos (by simp [Region.wanted, hg])]
  exact .inl (h Φ a w fN fC h1 h2 h3 h4 h5 h6 h7 K Q hK)

def AE (b : Bool) : VP := ⟨fun _ v => v = .bool b, fun _ h => h⟩

theorem AV.on {P : Program} {G : FP} {ops : Array Oper} {o : Oper} {N C : List B1} {Gv : Value → List B1} {k d : Nat} {want : Bool} {ok : Oper} (hg : o.guard = some (k, want)) (hk : ops[k]? = some ok) (hd : ok.dst = some d)
    (h : Ba P G o N C Gv) : AV P G ops o (.slot d (AE want) :: N) C Gv := by
  intro Φ a w fN fC h1 h2 h3 h4 h5 h6 h7 K Q hK
  cases fN with
  | nil => exact h3.elim
  | cons f fN =>
    obtain ⟨⟨rfl, v, hv, hb⟩, h3⟩ := h3
    have hb : v = .bool want := hb
    subst hb
    unfold Nj
    rw [if_pos (by simp [Region.wanted, hg, yielded, hk, hd, hv])]
    exact .inl (h Φ a w fN fC h1 h2 h3 h4 (by simpa using h5) (by simpa using h6) h7 K Q hK)

theorem AV.off {P : Program} {G : FP} {ops : Array Oper} {o : Oper} {k d : Nat} {want : Bool} {ok : Oper} (hg : o.guard = some (k, want)) (hk : ops[k]? = some ok) (hd : ok.dst = some d) :
    AV P G ops o [.slot d (AE !want)] [] (fun _ => []) := by
  intro Φ a w fN fC h1 h2 h3 h4 h5 h6 h7 K Q hK
  match fN, h3 with
  | [f], h3 =>
    match fC, h4 with
    | [], _ =>
      obtain ⟨⟨rfl, v, hv, hb⟩, _⟩ := h3
      have hb : v = .bool !want := hb
      subst hb
      unfold Nj
      rw [if_neg (by cases want <;> simp [Region.wanted, hg, yielded, hk, hd, hv])]
      exact hK undef w Φ [] (Step.refl _ _ _) h1 trivial List.nodup_nil (by simp)

inductive GE where
  | slot (d : Nat) (i j : Nat) (V : Value → Value → VP)
  | res (i j : Nat) (R : Value → Value → RP)
  | fact (i j : Nat) (V : Value → Value → VP) (v : Value → Value → Value)
  | slot3 (d : Nat) (i j k : Nat) (V : Value → Value → Value → VP)
  | res3 (i j k : Nat) (R : Value → Value → Value → RP)
  | base (e : B1)

def GE.at (β : Nat → Value) : GE → B1
  | .slot d i j V => .slot d (V (β i) (β j))
  | .res i j R => .res (R (β i) (β j))
  | .fact i j V v => .fact (V (β i) (β j)) (v (β i) (β j))
  | .slot3 d i j k V => .slot d (V (β i) (β j) (β k))
  | .res3 i j k R => .res (R (β i) (β j) (β k))
  | .base e => e
def GE.JZ : GE → Option Nat
  | .slot d _ _ _ => some d
  | .slot3 d _ _ _ _ => some d
  | .base e => e.JZ
  | _ => none
def GE.Ql : GE → List Nat
  | .slot _ i j _ => [i, j]
  | .res i j _ => [i, j]
  | .fact i j _ _ => [i, j]
  | .slot3 _ i j k _ => [i, j, k]
  | .res3 i j k _ => [i, j, k]
  | .base _ => []
theorem GE.Nv (β : Nat → Value) (g : GE) : (g.at β).JZ = g.JZ := by cases g <;> rfl
theorem GE.Oj {β β' : Nat → Value} {g : GE} (h : ∀ k ∈ g.Ql, β k = β' k) : g.at β = g.at β' := by
  cases g <;> simp_all [GE.at, GE.Ql]

def Br {α : Type _} (d : α) : List α → Nat → α
  | [], _ => d
  | x :: _, 0 => x
  | _ :: l, k + 1 => Br d l k
theorem DI {α : Type _} (d : α) : ∀ (l : List α) (k : Nat), Br d l k = l.getD k d
  | [], k => by simp [Br]
  | x :: l, 0 => by simp [Br]
  | x :: l, k + 1 => by simp [Br, DI d l k]

structure H2 where
  Cj : List Nat
  cons : List Nat
  Cu : List Nat
  bf : List Nat
  dst : Option Nat

def H2.none : H2 := ⟨[], [], [], [], Option.none⟩

structure Dd where
  n : Nat
  G4 : List GE
  own : List (Option Nat)
  ops : List H2

def Dd.E (p : Dd) (β : Nat → Value) (r : Nat) : B1 := (Br (.base .none) p.G4 r).at β
def Dd.op (p : Dd) (i : Nat) : H2 := Br H2.none p.ops i
def Dd.owner (p : Dd) (r : Nat) : Option Nat := Br none p.own r
def Dd.I9 (p : Dd) (r : Nat) : Option Nat := (Br (.base .none) p.G4 r).JZ
def Dd.JC (p : Dd) (r : Nat) : List Nat := (Br (.base .none) p.G4 r).Ql

def distinct : List Nat → Bool
  | [] => true
  | x :: l => !l.contains x && distinct l
theorem D5 : ∀ {l : List Nat}, distinct l = true → l.Nodup
  | [], _ => List.nodup_nil
  | x :: l, h => by
    simp [distinct] at h
    exact List.nodup_cons.2 ⟨by simpa using h.1, D5 h.2⟩

def Dd.Mx (p : Dd) (i : Nat) : Bool :=
  let s := p.op i
  ((s.Cj ++ s.cons).all fun r => decide (r < p.G4.length) && (match p.owner r with | none => true | some j => s.bf.contains j) &&
    (List.range p.ops.length).all fun k => k == i || !(p.op k).cons.contains r || (p.op k).bf.contains i) &&
  distinct (s.Cj ++ s.cons) &&
  distinct s.Cu &&
  (s.Cu.all fun r => p.owner r == some i && decide (r < p.G4.length) && (match p.I9 r with | none => true | some d => s.dst == some d) &&
    (p.JC r).all fun k => decide (p.ops.length ≤ k) || k == i || s.bf.contains k) &&
  ((List.range p.G4.length).all fun r => (p.owner r != some i || s.Cu.contains r) &&
    (match p.I9 r with
     | none => true
     | some d => s.dst != some d || p.owner r == some i || s.cons.contains r || (match p.owner r with | none => false | some k => (p.op k).bf.contains i) ||
        (List.range p.ops.length).any fun k => (p.op k).cons.contains r && s.bf.contains k)) &&
  (match s.dst with | none => true | some d => decide (d < p.n))

def Dd.check (p : Dd) : Bool := (List.range p.ops.length).all p.Mx && (List.range p.G4.length).all fun r =>
  match p.owner r with | none => (p.JC r).all fun k => decide (p.ops.length ≤ k) | some j => decide (j < p.ops.length)

def Dd.alive (p : Dd) (listed : Nat → Prop) (r : Nat) : Prop :=
  r < p.G4.length ∧ (∀ j, p.owner r = some j → listed j) ∧ ∀ k, listed k → r ∉ (p.op k).cons

structure Dd.Good (p : Dd) (i : Nat) : Prop where
  Oi : ∀ r ∈ (p.op i).Cj ++ (p.op i).cons, r < p.G4.length ∧ (∀ j, p.owner r = some j → j ∈ (p.op i).bf) ∧ ∀ k, k < p.ops.length → k ≠ i → r ∈ (p.op k).cons → i ∈ (p.op k).bf
  nd : ((p.op i).Cj ++ (p.op i).cons).Nodup
  ndg : (p.op i).Cu.Nodup
  giv : ∀ r ∈ (p.op i).Cu, p.owner r = some i ∧ r < p.G4.length ∧ (∀ d, p.I9 r = some d → (p.op i).dst = some d) ∧ ∀ k ∈ p.JC r, p.ops.length ≤ k ∨ k = i ∨ k ∈ (p.op i).bf
  all : ∀ r, r < p.G4.length → p.owner r = some i → r ∈ (p.op i).Cu
  dst : ∀ r d, r < p.G4.length → p.I9 r = some d → (p.op i).dst = some d → p.owner r = some i ∨ r ∈ (p.op i).cons ∨ (∃ k, p.owner r = some k ∧ i ∈ (p.op k).bf) ∨ ∃ k, k < p.ops.length ∧ r ∈ (p.op k).cons ∧ k ∈ (p.op i).bf
  dlt : ∀ d, (p.op i).dst = some d → d < p.n

theorem Dd.FU {p : Dd} (h : p.check = true) {r : Nat} (hr : r < p.G4.length) :
    (p.owner r = none → ∀ k ∈ p.JC r, p.ops.length ≤ k) ∧ ∀ j, p.owner r = some j → j < p.ops.length := by
  simp only [Dd.check, Bool.and_eq_true] at h
  have h := (List.all_eq_true.1 h.2) r (List.mem_range.2 hr)
  refine ⟨fun ho k hk => ?_, fun j hj => by simpa [hj] using h⟩
  simp only [ho, List.all_eq_true, decide_eq_true_eq] at h
  exact h k hk

theorem Dd.Hm {p : Dd} (h : p.check = true) {i : Nat} (hi : i < p.ops.length) : p.Good i := by
  simp only [Dd.check, Bool.and_eq_true] at h
  have h := (List.all_eq_true.1 h.1) i (List.mem_range.2 hi)
  simp only [Dd.Mx, Bool.and_eq_true] at h
  obtain ⟨⟨⟨⟨⟨h1, h2⟩, h3⟩, h4⟩, h5⟩, h6⟩ := h
  rw [List.all_eq_true] at h1 h4 h5
  refine ⟨fun r hr => ?_, D5 h2, D5 h3, fun r hr => ?_, fun r hr ho => ?_, fun r d hr hs hd => ?_, fun d hd => ?_⟩
  · have := h1 r hr
    simp only [Bool.and_eq_true, decide_eq_true_eq, List.all_eq_true] at this
    obtain ⟨⟨a1, a2⟩, a3⟩ := this
    refine ⟨a1, fun j hj => by simpa [hj] using a2, fun k hk hne hm => ?_⟩
    have := a3 k (List.mem_range.2 hk)
    simpa [hne, hm] using this
  · have := h4 r hr
    simp only [Bool.and_eq_true, decide_eq_true_eq, List.all_eq_true] at this
    obtain ⟨⟨⟨a1, a2⟩, a3⟩, a4⟩ := this
    refine ⟨by simpa using a1, a2, fun d hd => by simpa [hd] using a3, fun k hk => ?_⟩
    have := a4 k hk
    simp only [Bool.or_eq_true, decide_eq_true_eq, beq_iff_eq] at this
    rcases this with (h | h) | h
    · exact .inl h
    · exact .inr (.inl h)
    · exact .inr (.inr (by simpa using h))
  · have := (h5 r (List.mem_range.2 hr))
    simp only [Bool.and_eq_true] at this
    have := this.1
    simpa [ho] using this
  · have := (h5 r (List.mem_range.2 hr))
    simp only [Bool.and_eq_true] at this
    have := this.2
    simp only [hs, hd, bne_self_eq_false, Bool.false_or, Bool.or_eq_true] at this
    rcases this with ((h | h) | h) | h
    · exact .inl (by simpa using h)
    · exact .inr (.inl (by simpa using h))
    · refine .inr (.inr (.inl ?_))
      cases ho : p.owner r with
      | none => simp [ho] at h
      | some k => exact ⟨k, rfl, by simpa [ho] using h⟩
    · refine .inr (.inr (.inr ?_))
      rw [List.any_eq_true] at h
      obtain ⟨k, hk, h⟩ := h
      simp only [Bool.and_eq_true] at h
      exact ⟨k, List.mem_range.1 hk, by simpa using h.1, by simpa using h.2⟩
  · simpa [hd] using h6

theorem Fj {fp : Nat → List Nat} : ∀ {l : List Nat}, l.Nodup → (∀ r ∈ l, (fp r).Nodup) → (∀ r ∈ l, ∀ s ∈ l, r ≠ s → ∀ b ∈ fp r, b ∉ fp s) → (l.map fp).flatten.Nodup
  | [], _, _, _ => List.nodup_nil
  | r :: l, hn, h1, h2 => by
    have hn' := List.nodup_cons.1 hn
    simp only [List.map_cons, List.flatten_cons]
    rw [List.nodup_append]
    refine ⟨h1 r (by simp), Fj hn'.2 (fun s hs => h1 s (by simp [hs])) (fun s hs t ht => h2 s (by simp [hs]) t (by simp [ht])), fun x hx y hy hxy => ?_⟩
    subst hxy
    obtain ⟨s, hs, hys⟩ := List.mem_flatten.1 hy
    obtain ⟨t, ht, rfl⟩ := List.mem_map.1 hs
    exact h2 r (by simp) t (by simp [ht]) (fun e => hn'.1 (e ▸ ht)) _ hx hys

theorem LS (a : Act) (dst : Option Nat) (v : Value) (d : Nat) (h : dst ≠ some d) : (a.put dst v).tmps[d]? = a.tmps[d]? := by
  cases dst with
  | none => rfl
  | some e => simp only [Act.put]; exact Array.getElem?_setIfInBounds_ne (fun he => h (by rw [he]))
theorem C0 (a : Act) (v : Value) (d : Nat) (h : d < a.tmps.size) : (a.put (some d) v).tmps[d]? = some v := by
  simp [Act.put, h]
theorem NH (a : Act) (dst : Option Nat) (v : Value) : (a.put dst v).tmps.size = a.tmps.size := by cases dst <;> simp [Act.put]
theorem put_defers (a : Act) (dst : Option Nat) (v : Value) : (a.put dst v).defers = a.defers := by cases dst <;> rfl

theorem Io : ∀ {l : List Nat} {r : Nat}, r ∈ l → l[l.idxOf r]? = some r
  | x :: l, r, h => by
    by_cases e : x = r
    · subst e; simp
    · have hr : r ∈ l := (List.mem_cons.1 h).resolve_left (fun q => e q.symm)
      have hb : (x == r) = false := by simpa using e
      rw [List.idxOf_cons, hb]
      simpa using Io hr
theorem L3 {l : List Nat} {r s : Nat} (hr : r ∈ l) (hs : s ∈ l) (e : l.idxOf r = l.idxOf s) : r = s := by
  have h1 := Io hr
  have h2 := Io hs
  rw [e, h2] at h1
  exact (Option.some.inj h1).symm
theorem Fi : ∀ {l : List (List Nat)}, l.flatten.Nodup → ∀ f ∈ l, f.Nodup
  | [], _, f, hf => by cases hf
  | g :: l, h, f, hf => by
    simp only [List.flatten_cons] at h
    rw [List.nodup_append] at h
    rcases List.mem_cons.1 hf with rfl | hf
    · exact h.1
    · exact Fi h.2.1 f hf
theorem Fo : ∀ {l : List (List Nat)}, l.flatten.Nodup → ∀ (i j : Nat) (f g : List Nat), l[i]? = some f → l[j]? = some g → i ≠ j → ∀ b ∈ f, b ∉ g
  | [], _, i, j, f, g, hi, _, _ => by simp at hi
  | x :: l, h, i, j, f, g, hi, hj, hne => by
    simp only [List.flatten_cons] at h
    rw [List.nodup_append] at h
    intro b hb hg
    cases i with
    | zero =>
      cases j with
      | zero => exact hne rfl
      | succ j => simp at hi hj; subst hi; exact h.2.2 b hb b (List.mem_flatten.2 ⟨g, List.mem_of_getElem? hj, hg⟩) rfl
    | succ i =>
      cases j with
      | zero => simp at hi hj; subst hj; exact h.2.2 b hg b (List.mem_flatten.2 ⟨f, List.mem_of_getElem? hi, hb⟩) rfl
      | succ j => simp at hi hj; exact Fo h.2.1 i j f g hi hj (fun e => hne (by rw [e])) b hb hg

theorem Dd.step {P : Program} {ops : Array Oper} {c : Cx} {p : Dd} (hn : p.n = c.n) {listed : Nat → Prop} {β : Nat → Value} {a : Act} {w : World} {o : Oper} {i : Nat}
    (hc : p.check = true) (hi : i < p.ops.length) (hnl : ¬ listed i) (hbf : ∀ j ∈ (p.op i).bf, listed j) (hdown : ∀ j k, listed k → j ∈ (p.op k).bf → listed j) (hlt : ∀ j, listed j → j < p.ops.length)
    (hod : o.dst = (p.op i).dst)
    (hop : ∀ β, AV P c.G ops o ((p.op i).Cj.map (p.E β)) ((p.op i).cons.map (p.E β)) (fun v => (p.op i).Cu.map (p.E fun k => if k = i then v else β k)))
    (hs : Sat c (p.E β) (p.alive listed) a w) (K : Act → World → Prop) (Q : Exit → Act → World → Prop)
    (hK : ∀ a' w' β', Sat c (p.E β') (p.alive fun k => listed k ∨ k = i) a' w' → K a' w') : Nj P ops Q o K a w := by
  obtain ⟨Φ, fp, h⟩ := hs
  have hg := Dd.Hm hc hi
  have hali : ∀ r ∈ (p.op i).Cj ++ (p.op i).cons, p.alive listed r := fun r hr =>
    ⟨(hg.Oi r hr).1, fun j hj => hbf j ((hg.Oi r hr).2.1 j hj), fun k hk hm => by
      by_cases hki : k = i
      · exact hnl (hki ▸ hk)
      · exact hnl (hdown i k hk ((hg.Oi r hr).2.2 k (hlt k hk) hki hm))⟩
  have hnd := hg.nd
  have hflat : (((p.op i).Cj.map fp).flatten ++ ((p.op i).cons.map fp).flatten) = (((p.op i).Cj ++ (p.op i).cons).map fp).flatten := by simp
  refine hop β Φ a w ((p.op i).Cj.map fp) ((p.op i).cons.map fp) h.I0 h.G3
    (BT.of_map _ _ _ fun r hr => h.holds r (hali r (by simp [hr]))) (BT.of_map _ _ _ fun r hr => h.holds r (hali r (by simp [hr]))) ?_ ?_ ?_ K Q ?_
  · rw [hflat]
    exact Fj hnd (fun r hr => (h.own r (hali r hr)).1) (fun r hr s hs hne => h.apart r s (hali r hr) (hali s hs) hne)
  · rw [hflat]
    intro b hb
    obtain ⟨s, hs, hbs⟩ := List.mem_flatten.1 hb
    obtain ⟨r, hr, rfl⟩ := List.mem_map.1 hs
    exact ((h.own r (hali r hr)).2 b hbs).1
  · intro d hd
    rw [h.size, ← hn]
    exact hg.dlt d (by rw [← hod]; exact hd)
  · intro v w' Φ' fG hstep hpub hG hGn hGb
    refine hK _ w' (fun k => if k = i then v else β k) ?_
    -- the blocks of each entry behind the operation
    have hlen := (BT.get hG).1
    have hget := (BT.get hG).2
    let fp' : Nat → List Nat := fun r => if r ∈ (p.op i).Cu then fG.getD ((p.op i).Cu.idxOf r) [] else fp r
    have hfpG : ∀ r ∈ (p.op i).Cu, ∃ f, fG[(p.op i).Cu.idxOf r]? = some f ∧ fp' r = f ∧ (p.E (fun k => if k = i then v else β k) r).holds Φ' (a.put o.dst v).tmps w' f := by
      intro r hr
      have hx : (p.op i).Cu.idxOf r < (p.op i).Cu.length := List.idxOf_lt_length_of_mem hr
      obtain ⟨f, hf, hh⟩ := hget ((p.op i).Cu.idxOf r) (p.E (fun k => if k = i then v else β k) r) (by simp [List.getElem?_eq_getElem hx])
      exact ⟨f, hf, by simp [fp', hr, List.getD, hf], hh⟩
    have hold : ∀ r, p.alive (fun k => listed k ∨ k = i) r → r ∉ (p.op i).Cu → p.alive listed r ∧ r ∉ (p.op i).cons := by
      intro r hr hng
      refine ⟨⟨hr.1, fun j hj => ?_, fun k hk => hr.2.2 k (.inl hk)⟩, hr.2.2 i (.inr rfl)⟩
      rcases hr.2.1 j hj with hl | rfl
      · exact hl
      · exact absurd (hg.all r hr.1 hj) hng
    -- an entry that is not used up shares no block with what is
    have hfar : ∀ r, p.alive listed r → r ∉ (p.op i).cons → ∀ b ∈ fp r, b ∉ ((p.op i).cons.map fp).flatten := by
      intro r hr hnc b hb hm
      obtain ⟨s, hs, hbs⟩ := List.mem_flatten.1 hm
      obtain ⟨t, ht, rfl⟩ := List.mem_map.1 hs
      exact h.apart r t hr (hali t (by simp [ht])) (fun e => hnc (e ▸ ht)) b hb hbs
    have hslot : ∀ r, p.alive listed r → r ∉ (p.op i).cons → ∀ d, p.I9 r = some d → o.dst ≠ some d := by
      intro r hr hnc d hd he
      rcases hg.dst r d hr.1 hd (by rw [← hod]; exact he) with h1 | h1 | ⟨k, hk, hik⟩ | ⟨k, hk, hrk, hki⟩
      · exact hnl (hr.2.1 i h1)
      · exact hnc h1
      · exact hnl (hdown i k (hr.2.1 k hk) hik)
      · exact hr.2.2 k (hbf k hki) hrk
    refine ⟨Φ', fp', by rw [put_defers]; exact h.defers, by rw [NH]; exact h.size, hpub, c.G.mono hstep.le h.G3, ?_, ?_, ?_, ?_⟩
    · refine h.step.trans hstep fun b hb hlt' => ?_
      obtain ⟨s, hs, hbs⟩ := List.mem_flatten.1 hb
      obtain ⟨r, hr, rfl⟩ := List.mem_map.1 hs
      rcases ((h.own r (hali r (by simp [hr]))).2 b hbs).2 with h1 | h1
      · exact h1
      · omega
    · intro r hr
      by_cases hrg : r ∈ (p.op i).Cu
      · obtain ⟨f, _, hf, hh⟩ := hfpG r hrg
        rw [hf]; exact hh
      · obtain ⟨hal, hnc⟩ := hold r hr hrg
        have hfr : fp' r = fp r := by simp [fp', hrg]
        rw [hfr]
        have hE : p.E (fun k => if k = i then v else β k) r = p.E β r := by
          refine GE.Oj fun k hk => ?_
          by_cases hki : k = i
          · exfalso
            subst hki
            have hmem : k ∈ p.JC r := hk
            cases ho : p.owner r with
            | none => have := (Dd.FU hc hal.1).1 ho k hmem; omega
            | some j =>
              have hlj := hal.2.1 j ho
              have hgj := Dd.Hm hc ((Dd.FU hc hal.1).2 j ho)
              rcases (hgj.giv r (hgj.all r hal.1 ho)).2.2.2 k hmem with h1 | h1 | h1
              · omega
              · exact hnl (h1 ▸ hlj)
              · exact hnl (hdown k j hlj h1)
          · simp [hki]
        rw [hE]
        exact B1.F1 (h.holds r hal) hstep.le (fun b hb => hstep.same b ((h.own r hal).2 b hb).1 (hfar r hal hnc b hb)) (fun b hb => hstep.block b ((h.own r hal).2 b hb).1 (hfar r hal hnc b hb))
          (fun d hd => LS _ _ _ _ (hslot r hal hnc d (by rw [← hd]; exact (GE.Nv β _).symm)))
    · intro r hr
      by_cases hrg : r ∈ (p.op i).Cu
      · obtain ⟨f, hf, hfe, _⟩ := hfpG r hrg
        rw [hfe]
        have hfm : f ∈ fG := List.mem_of_getElem? hf
        refine ⟨Fi hGn f hfm, fun b hb => ?_⟩
        have := hGb b (List.mem_flatten.2 ⟨f, hfm, hb⟩)
        refine ⟨this.1, ?_⟩
        rcases this.2 with h1 | h1
        · obtain ⟨s, hs, hbs⟩ := List.mem_flatten.1 h1
          obtain ⟨t, ht, rfl⟩ := List.mem_map.1 hs
          exact ((h.own t (hali t (by simp [ht]))).2 b hbs).2
        · exact .inr (Nat.le_trans h.step.size h1)
      · obtain ⟨hal, hnc⟩ := hold r hr hrg
        have hfr : fp' r = fp r := by simp [fp', hrg]
        rw [hfr]
        exact ⟨(h.own r hal).1, fun b hb => ⟨Nat.lt_of_lt_of_le ((h.own r hal).2 b hb).1 hstep.size, ((h.own r hal).2 b hb).2⟩⟩
    · intro r s hr hs hne b hb
      by_cases hrg : r ∈ (p.op i).Cu
      · obtain ⟨f, hf, hfe, _⟩ := hfpG r hrg
        rw [hfe] at hb
        by_cases hsg : s ∈ (p.op i).Cu
        · obtain ⟨f2, hf2, hfe2, _⟩ := hfpG s hsg
          rw [hfe2]
          refine Fo hGn _ _ f f2 hf hf2 (fun e => hne ?_) b hb
          exact L3 hrg hsg e
        · obtain ⟨hals, hncs⟩ := hold s hs hsg
          have hfs : fp' s = fp s := by simp [fp', hsg]
          rw [hfs]
          intro hbs
          rcases (hGb b (List.mem_flatten.2 ⟨f, List.mem_of_getElem? hf, hb⟩)).2 with h1 | h1
          · exact hfar s hals hncs b hbs h1
          · have := ((h.own s hals).2 b hbs).1; omega
      · obtain ⟨hal, hnc⟩ := hold r hr hrg
        have hfr : fp' r = fp r := by simp [fp', hrg]
        rw [hfr] at hb
        by_cases hsg : s ∈ (p.op i).Cu
        · obtain ⟨f2, hf2, hfe2, _⟩ := hfpG s hsg
          rw [hfe2]
          intro hbs
          rcases (hGb b (List.mem_flatten.2 ⟨f2, List.mem_of_getElem? hf2, hbs⟩)).2 with h1 | h1
          · exact hfar r hal hnc b hb h1
          · have := ((h.own r hal).2 b hb).1; omega
        · obtain ⟨hals, hncs⟩ := hold s hs hsg
          have hfs : fp' s = fp s := by simp [fp', hsg]
          rw [hfs]
          exact h.apart r s hal hals hne b hb

end
section
open Go Go.RowKit

section region
variable {P : Program} {ops : Array Oper} {c : Cx} {p : Dd} {Q : Exit → Act → World → Prop}

def Dd.Ok (P : Program) (G : FP) (ops : Array Oper) (p : Dd) : List Oper → Nat → Prop
  | [], _ => True
  | o :: l, i => (o.dst = (p.op i).dst ∧ ∀ β, AV P G ops o ((p.op i).Cj.map (p.E β)) ((p.op i).cons.map (p.E β)) (fun v => (p.op i).Cu.map (p.E fun k => if k = i then v else β k))) ∧ p.Ok P G ops l (i + 1)

theorem Dd.Ok.get {G : FP} : ∀ {l : List Oper} {i : Nat}, p.Ok P G ops l i → ∀ (j : Nat) (o : Oper), l[j]? = some o →
    o.dst = (p.op (i + j)).dst ∧ ∀ β, AV P G ops o ((p.op (i + j)).Cj.map (p.E β)) ((p.op (i + j)).cons.map (p.E β)) (fun v => (p.op (i + j)).Cu.map (p.E fun k => if k = i + j then v else β k))
  | [], _, _, j, o, h => by simp at h
  | x :: l, i, h, 0, o, ho => by simp at ho; subst ho; exact h.1
  | x :: l, i, h, j + 1, o, ho => by
    simp at ho
    have := Dd.Ok.get h.2 j o ho
    rwa [show i + 1 + j = i + (j + 1) by omega] at this

def Dd.checkSeq (p : Dd) : Bool := (List.range p.ops.length).all fun i => (p.op i).bf.all fun j => decide (j < i)

theorem I5 (hn : p.n = c.n) (hc : p.check = true) (hseq : p.checkSeq = true) (hlen : p.ops.length = ops.size) (hops : p.Ok P c.G ops ops.toList 0)
    (hQ : ∀ a w β, Sat c (p.E β) (p.alive fun k => k < p.ops.length) a w → Q .normal a w) :
    ∀ (m k : Nat), k + m = ops.size → ∀ (a : Act) (w : World) (β : Nat → Value), Sat c (p.E β) (p.alive fun j => j < k) a w → wpOps P ops Q (List.range' k m) a w
  | 0, k, hk, a, w, β, hs => by
    have : k = p.ops.length := by omega
    subst this
    exact hQ a w β hs
  | m + 1, k, hk, a, w, β, hs => by
    have hkl : k < ops.size := by omega
    have ho : ops[k]? = some ops[k] := Array.getElem?_eq_getElem hkl
    have hbf : ∀ i, i < p.ops.length → ∀ j ∈ (p.op i).bf, j < i := fun i hi j hj => by
      have := (List.all_eq_true.1 ((List.all_eq_true.1 hseq) i (List.mem_range.2 hi))) j hj
      simpa using this
    obtain ⟨hd, hg⟩ := hops.get k ops[k] (by simp)
    rw [Nat.zero_add] at hd hg
    simp only [List.range'_succ, wpOps, ho]
    refine Dd.step (P := P) (ops := ops) (listed := fun j => j < k) (i := k) hn hc (by omega) (by simp) (fun j hj => hbf k (by omega) j hj)
      (fun j k' hk' hj => by have := hbf k' (by omega) j hj; omega) (fun j hj => by omega) hd hg hs _ _ fun a' w' β' h' => ?_
    refine I5 hn hc hseq hlen hops hQ m (k + 1) (by omega) a' w' β' ?_
    have e : (fun j => j < k ∨ j = k) = (fun j => j < k + 1) := by funext j; exact propext (by omega)
    rwa [e] at h'

theorem LQ {id : Nat} {a : Act} {w : World} (p : Dd) (hn : p.n = c.n) (hc : p.check = true) (hseq : p.checkSeq = true) (hlen : p.ops.length = ops.size) (hops : p.Ok P c.G ops ops.toList 0)
    (hs : Sat c (p.E fun _ => undef) (p.alive fun _ => False) a w)
    (hQ : ∀ a w β, Sat c (p.E β) (p.alive fun k => k < p.ops.length) a w → Q .normal a w) : (Code.region id ops false).wp P Q a w := by
  refine wp_region ?_
  rw [List.range_eq_range']
  refine I5 hn hc hseq hlen hops hQ ops.size 0 (by omega) a w (fun _ => undef) ?_
  have e : (fun j : Nat => j < 0) = (fun _ => False) := by funext j; exact propext ⟨fun h => by omega, False.elim⟩
  rw [e]; exact hs

def direct (ops : Array Oper) (i : Nat) : List Nat := ((ops[i]?).map fun o => (o.after.toList.filter fun e => Region.binds .any e).map (·.on)).getD []

def Dd.JD (p : Dd) (ops : Array Oper) : Bool := (List.range p.ops.length).all fun i =>
  ((p.op i).bf.all fun x => (direct ops i).contains x || (direct ops i).any fun e => (p.op e).bf.contains x) && (direct ops i).all fun x => decide (x < i)

theorem Jl {listed : Array Bool} {i : Nat} (h : i ∈ Region.ready .any ops listed) :
    i < ops.size ∧ listed.getD i true = false ∧ ∀ x ∈ direct ops i, listed.getD x false = true := by
  obtain ⟨h1, h2⟩ := List.mem_filter.1 h
  have hi := List.mem_range.1 h1
  have ho : ops[i]? = some ops[i] := Array.getElem?_eq_getElem hi
  simp only [ho, Option.map_some, Option.getD_some, Bool.and_eq_true] at h2
  refine ⟨hi, by simpa using h2.1, fun x hx => ?_⟩
  simp only [direct, ho, Option.map_some, Option.getD_some] at hx
  obtain ⟨e, he, rfl⟩ := List.mem_map.1 hx
  obtain ⟨he1, he2⟩ := List.mem_filter.1 he
  have := (Array.all_eq_true_iff_forall_mem.1 h2.2) e (Array.mem_toList_iff.1 he1)
  simpa [he2] using this

theorem NC {listed : Array Bool} {i : Nat} (hi : i < ops.size) (hl : listed.getD i true = false) (h : ∀ x ∈ direct ops i, listed.getD x false = true) : i ∈ Region.ready .any ops listed := by
  have ho : ops[i]? = some ops[i] := Array.getElem?_eq_getElem hi
  refine List.mem_filter.2 ⟨List.mem_range.2 hi, ?_⟩
  simp only [ho, Option.map_some, Option.getD_some, Bool.and_eq_true, hl, Bool.not_false, true_and]
  refine Array.all_eq_true_iff_forall_mem.2 fun e he => ?_
  by_cases hb : Region.binds .any e = true
  · simp only [hb, Bool.not_true, Bool.false_or]
    refine h e.on ?_
    simp only [direct, ho, Option.map_some, Option.getD_some]
    exact List.mem_map.2 ⟨e, List.mem_filter.2 ⟨Array.mem_toList_iff.2 he, hb⟩, rfl⟩
  · simp [hb]

def open_ (listed : Array Bool) : Nat := (listed.toList.filter (!·)).length

theorem NN {listed : Array Bool} {i : Nat} (h : listed[i]? = some false) : open_ (listed.setIfInBounds i true) + 1 = open_ listed := by
  obtain ⟨l⟩ := listed
  simp only [open_, List.setIfInBounds_toArray]
  simp only [List.getElem?_toArray] at h
  induction l generalizing i with
  | nil => simp at h
  | cons x l ih =>
    cases i with
    | zero => simp at h; subst h; simp
    | succ i =>
      simp at h
      have := ih h
      cases x <;> simp_all <;> omega

theorem MU {listed : Array Bool} (h : open_ listed = 0) (i : Nat) (hi : i < listed.size) : listed[i]? = some true := by
  obtain ⟨l⟩ := listed
  simp only [open_, List.length_eq_zero_iff, List.filter_eq_nil_iff] at h
  have := h l[i] (List.getElem_mem (by simpa using hi))
  simp at hi
  simp [hi] at this ⊢
  exact this

theorem LJ (hn : p.n = c.n) (hc : p.check = true) (hany : p.JD ops = true) (hlen : p.ops.length = ops.size) (hops : p.Ok P c.G ops ops.toList 0)
    (hQ : ∀ a w β, Sat c (p.E β) (p.alive fun k => k < p.ops.length) a w → Q .normal a w) :
    ∀ (fuel : Nat) (listed : Array Bool), listed.size = ops.size → open_ listed = fuel → (∀ k, listed[k]? = some true → ∀ j ∈ (p.op k).bf, listed[j]? = some true) →
      ∀ (a : Act) (w : World) (β : Nat → Value), Sat c (p.E β) (p.alive fun j => listed[j]? = some true) a w → wpAny P .any ops Q fuel listed a w := by
  have hbf : ∀ i, i < p.ops.length → (∀ x ∈ (p.op i).bf, x ∈ direct ops i ∨ ∃ e ∈ direct ops i, x ∈ (p.op e).bf) ∧ ∀ x ∈ direct ops i, x < i := fun i hi => by
    have := (List.all_eq_true.1 hany) i (List.mem_range.2 hi)
    simp only [Bool.and_eq_true, List.all_eq_true, decide_eq_true_eq] at this
    refine ⟨fun x hx => ?_, this.2⟩
    have h := this.1 x hx
    simp only [Bool.or_eq_true] at h
    rcases h with h | h
    · exact .inl (by simpa using h)
    · obtain ⟨e, he, hx⟩ := List.any_eq_true.1 h
      exact .inr ⟨e, he, by simpa using hx⟩
  -- if nothing is ready, all is done
  have hdone : ∀ (listed : Array Bool), listed.size = ops.size → Region.ready .any ops listed = [] → ∀ k, k < ops.size → listed[k]? = some true := by
    intro listed hsz hr k
    induction k using Nat.strongRecOn with
    | _ k ih =>
      intro hk
      have hk' : k < listed.size := by omega
      cases hl : listed[k] with
      | true => simp [Array.getElem?_eq_getElem hk', hl]
      | false =>
        exfalso
        have hm : k ∈ Region.ready .any ops listed := NC hk (by simp [Array.getD, hk', hl]) fun x hx => by
          have hx' := (hbf k (by omega)).2 x hx
          have := ih x hx' (by omega)
          rw [Array.getD_eq_getD_getElem?, this]; rfl
        rw [hr] at hm
        cases hm
  have hall : ∀ (listed : Array Bool), listed.size = ops.size → (∀ k, k < ops.size → listed[k]? = some true) → (fun j => listed[j]? = some true) = fun j => j < p.ops.length := by
    intro listed hsz h
    funext j
    refine propext ⟨fun hj => ?_, fun hj => h j (by omega)⟩
    rcases Nat.lt_or_ge j listed.size with h1 | h1
    · omega
    · simp [Array.getElem?_eq_none h1] at hj
  intro fuel
  induction fuel with
  | zero =>
    intro listed hsz hop _ a w β hs
    have hfull : ∀ k, k < ops.size → listed[k]? = some true := fun k hk => MU hop k (by omega)
    refine ⟨?_, hQ a w β (by rw [← hall listed hsz hfull]; exact hs)⟩
    cases hr : Region.ready .any ops listed with
    | nil => rfl
    | cons x xs =>
      have hx := Jl (ops := ops) (listed := listed) (i := x) (by rw [hr]; simp)
      have := hfull x hx.1
      have h2 := hx.2.1
      rw [Array.getD_eq_getD_getElem?, this] at h2
      simp at h2
  | succ fuel ih =>
    intro listed hsz hop hdown a w β hs
    refine ⟨fun hr => hQ a w β (by rw [← hall listed hsz (hdone listed hsz hr)]; exact hs), fun i hi => ?_⟩
    obtain ⟨hi1, hi2, hi3⟩ := Jl hi
    have hil : listed[i]? = some false := by
      have : i < listed.size := by omega
      simp [Array.getD, this] at hi2
      simp [Array.getElem?_eq_getElem this, hi2]
    have hi3' : ∀ x ∈ direct ops i, listed[x]? = some true := fun x hx => by
      have := hi3 x hx
      rw [Array.getD_eq_getD_getElem?] at this
      cases h : listed[x]? with
      | none => simp [h] at this
      | some b => simp [h] at this; rw [this]
    have ho : ops[i]? = some ops[i] := Array.getElem?_eq_getElem hi1
    obtain ⟨hd, hg⟩ := hops.get i ops[i] (by simp)
    rw [Nat.zero_add] at hd hg
    unfold wpOp
    simp only [ho]
    refine Dd.step (P := P) (ops := ops) (listed := fun j => listed[j]? = some true) hn hc (by omega) (by simp [hil]) (fun j hj => ?_) (fun j k hk hj => hdown k hk j hj) (fun j hj => ?_) hd hg hs _ _ fun a' w' β' h' => ?_
    · rcases (hbf i (by omega)).1 j hj with h | ⟨e, he, h⟩
      · exact hi3' j h
      · exact hdown e (hi3' e he) j h
    · rcases Nat.lt_or_ge j listed.size with h1 | h1
      · omega
      · simp [Array.getElem?_eq_none h1] at hj
    · have hset : ∀ j, (listed.setIfInBounds i true)[j]? = some true ↔ listed[j]? = some true ∨ j = i := fun j => by
        by_cases hji : i = j
        · subst hji
          have : i < listed.size := by omega
          simp [this]
        · rw [Array.getElem?_setIfInBounds_ne hji]
          exact ⟨.inl, fun h => h.resolve_right (fun e => hji e.symm)⟩
      refine ih (listed.setIfInBounds i true) (by simpa using hsz) (by have := NN hil; omega) (fun k hk j hj => ?_) a' w' β' ?_
      · rcases (hset k).1 hk with h | h
        · exact (hset j).2 (.inl (hdown k h j hj))
        · subst h
          refine (hset j).2 (.inl ?_)
          rcases (hbf k (by omega)).1 j hj with h | ⟨e, he, h⟩
          · exact hi3' j h
          · exact hdown e (hi3' e he) j h
      · have e : (fun j => (listed.setIfInBounds i true)[j]? = some true) = fun j => listed[j]? = some true ∨ j = i := by funext j; exact propext (hset j)
        rw [e]; exact h'

theorem LR {id : Nat} {a : Act} {w : World} (p : Dd) (hm : P.follows .mixedOrders = true) (hn : p.n = c.n) (hc : p.check = true) (hany : p.JD ops = true) (hlen : p.ops.length = ops.size) (hops : p.Ok P c.G ops ops.toList 0)
    (hs : Sat c (p.E fun _ => undef) (p.alive fun _ => False) a w)
    (hQ : ∀ a w β, Sat c (p.E β) (p.alive fun k => k < p.ops.length) a w → Q .normal a w) : (Code.region id ops true).wp P Q a w := by
  refine wp_region_any hm ?_
  have hnone : ∀ j, ¬ (Array.replicate ops.size false)[j]? = some true := fun j h => by
    rw [Array.getElem?_replicate] at h
    split at h <;> simp at h
  refine LJ hn hc hany hlen hops hQ ops.size (Array.replicate ops.size false) (by simp) (by simp [open_]) (fun k hk => absurd hk (hnone k)) a _ (fun _ => undef) ?_
  have e : (fun j : Nat => (Array.replicate ops.size false)[j]? = some true) = fun _ => False := by funext j; exact propext ⟨hnone j, False.elim⟩
  rw [e]
  exact Sat.drew hs
end region

def Ar (c : Cx) (l : List B1) (a : Act) (w : World) : Prop := Sat c (Br .none l) (fun i => i < l.length) a w

theorem Ar.Rx {c : Cx} {p : Dd} {l : List B1} {a : Act} {w : World} (h : Ar c l a w) (β : Nat → Value) (hown : ∀ r, r < p.G4.length → p.owner r = none → r < l.length)
    (hE : ∀ r, r < l.length → p.E β r = Br .none l r) : Sat c (p.E β) (p.alive fun _ => False) a w := by
  have hr : ∀ i, p.alive (fun _ => False) i → i < l.length := fun i hi => hown i hi.1 (by
    cases ho : p.owner i with
    | none => rfl
    | some j => exact (hi.2.1 j ho).elim)
  exact Sat.pick h id (fun i hi => hr i hi) (fun i hi => hE i (hr i hi)) (fun i j _ _ hne => hne)

theorem Sat.IU {c : Cx} {p : Dd} {β : Nat → Value} {a : Act} {w : World} (h : Sat c (p.E β) (p.alive fun k => k < p.ops.length) a w) (hc : p.check = true) (ks : List Nat) (hd : distinct ks = true)
    (hk : (ks.all fun r => decide (r < p.G4.length) && (List.range p.ops.length).all fun k => !(p.op k).cons.contains r) = true) : Ar c (ks.map (p.E β)) a w := by
  have hnd := D5 hd
  refine Sat.pick h (fun i => Br 0 ks i) (fun i hi => ?_) (fun i hi => ?_) (fun i j hi hj hne e => ?_)
  · have hi : i < ks.length := by simpa using hi
    have hm : Br 0 ks i ∈ ks := by rw [DI]; simp [List.getD, List.getElem?_eq_getElem hi]
    have h1 := (List.all_eq_true.1 hk) _ hm
    simp only [Bool.and_eq_true, decide_eq_true_eq, List.all_eq_true, List.mem_range] at h1
    refine ⟨h1.1, fun j hj => (Dd.FU hc h1.1).2 j hj, fun k hk' hm' => ?_⟩
    have := h1.2 k hk'
    simp at this
    exact this hm'
  · have hi : i < ks.length := by simpa using hi
    rw [DI, DI]
    simp [List.getD, List.getElem?_eq_getElem hi]
  · have hi : i < ks.length := by simpa using hi
    have hj : j < ks.length := by simpa using hj
    rw [DI, DI] at e
    simp only [List.getD, List.getElem?_eq_getElem hi, List.getElem?_eq_getElem hj, Option.getD_some] at e
    exact hne ((List.getElem_inj hnd).1 e)


end
section
open Go Go.RowKit

def Ew (Φ : BR) : List VP → List Value → Prop
  | [], [] => True
  | V :: Vs, v :: vs => V.p Φ v ∧ Ew Φ Vs vs
  | _, _ => False

def GH (Φ : BR) (w : World) : List RP → List (List Nat) → Prop
  | [], [] => True
  | R :: Rs, f :: fs => R.p Φ f w ∧ GH Φ w Rs fs
  | _, _ => False

def CO (P : Program) (fn : Func) (c : Cx) (res : VP) (post : Value → List RP) (a : Act) (w : World) : Prop :=
  a.defers = [] ∧ ∃ (v : Value) (Φ : BR) (fs : List (List Nat)), (results fn a.tmps).run P w = .ok v w ∧ Step c.w0 c.Φ0 c.F0 w Φ ∧ Cv Φ w ∧ res.p Φ v ∧ GH Φ w (post v) fs ∧
    fs.flatten.Nodup ∧ ∀ b ∈ fs.flatten, b < w.heap.size ∧ (b ∈ c.F0 ∨ c.w0.heap.size ≤ b)

def Az (P : Program) (G : FP) (f : FuncId) (args : List VP) (pre : List RP) (post : Value → List RP) (res : VP) : Prop :=
  ∀ (Φ : BR) (w : World) (vs : List Value) (fs : List (List Nat)), Cv Φ w → G.p Φ → Ew Φ args vs → GH Φ w pre fs → fs.flatten.Nodup → (∀ b ∈ fs.flatten, b < w.heap.size) →
    Calls P f vs.toArray w fun e w' => ∃ (v : Value) (Φ' : BR) (fs' : List (List Nat)), e = .returned v ∧ Step w Φ fs.flatten w' Φ' ∧ Cv Φ' w' ∧ res.p Φ' v ∧ GH Φ' w' (post v) fs' ∧
      fs'.flatten.Nodup ∧ ∀ b ∈ fs'.flatten, b < w'.heap.size ∧ (b ∈ fs.flatten ∨ w.heap.size ≤ b)

def Lz : Nat → List VP → List B1
  | _, [] => []
  | i, V :: Vs => .slot i V :: Lz (i + 1) Vs

theorem IG : ∀ (l : List VP) (i : Nat), (Lz i l).length = l.length
  | [], _ => rfl
  | V :: l, i => by simp [Lz, IG l]

theorem Ew.length {Φ : BR} : ∀ {Vs : List VP} {vs : List Value}, Ew Φ Vs vs → vs.length = Vs.length
  | [], [], _ => rfl
  | V :: Vs, v :: vs, h => by simp [Ew.length h.2]
  | [], _ :: _, h => h.elim
  | _ :: _, [], h => h.elim

theorem Ly {Φ : BR} : ∀ {Vs : List VP} {vs : List Value} (i k : Nat), Ew Φ Vs vs → k < Vs.length → ∃ V v, Br .none (Lz i Vs) k = .slot (i + k) V ∧ vs[k]? = some v ∧ V.p Φ v
  | V :: Vs, v :: vs, i, 0, h, _ => ⟨V, v, rfl, rfl, h.1⟩
  | V :: Vs, v :: vs, i, k + 1, h, hk => by
    obtain ⟨V', v', h1, h2, h3⟩ := Ly (i + 1) k h.2 (by simpa using hk)
    exact ⟨V', v', by rw [show i + (k + 1) = i + 1 + k by omega]; exact h1, by simpa using h2, h3⟩
  | [], _, _, k, _, hk => by simp at hk
  | _ :: _, [], _, _, h, _ => h.elim

theorem GH.length {Φ : BR} {w : World} : ∀ {Rs : List RP} {fs : List (List Nat)}, GH Φ w Rs fs → fs.length = Rs.length
  | [], [], _ => rfl
  | R :: Rs, f :: fs, h => by simp [GH.length h.2]
  | [], _ :: _, h => h.elim
  | _ :: _, [], h => h.elim

theorem GH.get {Φ : BR} {w : World} : ∀ {Rs : List RP} {fs : List (List Nat)} (k : Nat), GH Φ w Rs fs → k < Rs.length → ∃ R f, Rs[k]? = some R ∧ fs[k]? = some f ∧ R.p Φ f w
  | R :: Rs, f :: fs, 0, h, _ => ⟨R, f, rfl, rfl, h.1⟩
  | R :: Rs, f :: fs, k + 1, h, hk => by simpa using GH.get k h.2 (by simpa using hk)
  | [], _, k, _, hk => by simp at hk
  | _ :: _, [], _, h, _ => h.elim

theorem B8 {α : Type _} (d : α) (l m : List α) (i : Nat) : Br d (l ++ m) i = if i < l.length then Br d l i else Br d m (i - l.length) := by
  simp only [DI, List.getD]
  split
  · rename_i h; rw [List.getElem?_append_left h]
  · rename_i h; rw [List.getElem?_append_right (by omega)]

theorem HP {α β : Type _} (d : α) (e : β) (f : α → β) (l : List α) (i : Nat) (h : i < l.length) : Br e (l.map f) i = f (Br d l i) := by
  simp only [DI, List.getD, List.getElem?_map, List.getElem?_eq_getElem h]
  rfl

theorem Az.intro {P : Program} {G : FP} {f : FuncId} {fn : Func} {code : Code} {args : List VP} {pre : List RP} {post : Value → List RP} {res : VP} (n : Nat)
    (hf : P.funcs[f]? = some fn) (hb : fn.body = some code) (hn : fn.ntmps = n) (hle : args.length ≤ n)
    (h : ∀ (c : Cx) (a : Act) (w : World), c.G = G → c.n = n → Ar c (Lz 0 args ++ pre.map .res) a w → code.wp P (fun e a w => (e = .ret ∨ e = .normal) ∧ CO P fn c res post a w) a w) :
    Az P G f args pre post res := by
  intro Φ w vs fs h1 h2 h3 h4 h5 h6
  have hvl := h3.length
  have hfl := h4.length
  have hsat : Ar ⟨w, Φ, fs.flatten, n, G⟩ (Lz 0 args ++ pre.map .res) { tmps := vs.toArray ++ Array.replicate (fn.ntmps - vs.toArray.size) undef, defers := [] } w := by
    have hal := IG args 0
    have hgetR : ∀ i, ¬ i < args.length → i < (Lz 0 args ++ pre.map B1.res).length → ∃ R f, Br .none (Lz 0 args ++ pre.map .res) i = .res R ∧ fs[i - args.length]? = some f ∧ R.p Φ f w := by
      intro i hi hlt
      have hlt' : i - args.length < pre.length := by simp [hal] at hlt; omega
      obtain ⟨R, f, e1, e2, e3⟩ := GH.get (i - args.length) h4 hlt'
      refine ⟨R, f, ?_, e2, e3⟩
      rw [B8, if_neg (by rw [hal]; exact hi), hal, DI]
      simp [List.getD, e1]
    refine ⟨Φ, fun i => if i < args.length then [] else fs.getD (i - args.length) [], rfl, by simp [hvl, hn]; omega, h1, h2, Step.refl _ _ _, fun i hi => ?_, fun i hi => ?_, fun i j hi hj hne => ?_⟩
    · by_cases hlt : i < args.length
      · obtain ⟨V, v, e1, e2, e3⟩ := Ly 0 i h3 hlt
        rw [if_pos hlt, B8, if_pos (by rw [hal]; exact hlt), e1]
        refine ⟨rfl, v, ?_, e3⟩
        have hiv : i < vs.length := by omega
        simp only [Nat.zero_add]
        rw [Array.getElem?_append_left (by simpa using hiv)]
        simpa using e2
      · obtain ⟨R, f, e1, e2, e3⟩ := hgetR i hlt hi
        rw [e1, if_neg hlt]
        simp only [List.getD, e2, Option.getD_some]
        exact e3
    · by_cases hlt : i < args.length
      · simp [hlt]
      · obtain ⟨R, f, e1, e2, e3⟩ := hgetR i hlt hi
        simp only [if_neg hlt, List.getD, e2, Option.getD_some]
        have hm := List.mem_of_getElem? e2
        exact ⟨Fi h5 f hm, fun b hb => ⟨h6 b (List.mem_flatten.2 ⟨f, hm, hb⟩), .inl (List.mem_flatten.2 ⟨f, hm, hb⟩)⟩⟩
    · by_cases hlt : i < args.length
      · simp [hlt]
      · by_cases hlt2 : j < args.length
        · simp [hlt2]
        · obtain ⟨R, f, e1, e2, e3⟩ := hgetR i hlt hi
          obtain ⟨R', f', e1', e2', e3'⟩ := hgetR j hlt2 hj
          simp only [if_neg hlt, if_neg hlt2, List.getD, e2, e2', Option.getD_some]
          exact Fo h5 _ _ f f' e2 e2' (by omega)
  have hwp := h ⟨w, Φ, fs.flatten, n, G⟩ _ w rfl rfl hsat
  refine calls_of_wp hf hb (wp_mono hwp fun e a w' hq => ?_)
  obtain ⟨he, hd, v, Φ', fs', hr, q1, q2, q3, q4, q5, q6⟩ := hq
  rcases he with rfl | rfl
  · exact ⟨hd, v, hr, v, Φ', fs', rfl, q1, q2, q3, q4, q5, q6⟩
  · exact ⟨hd, v, hr, v, Φ', fs', rfl, q1, q2, q3, q4, q5, q6⟩

theorem D6 {P : Program} {c : Cx} {l : List B1} {a : Act} {w : World} {Q : Exit → Act → World → Prop} {t : Nat} {b : Bool} {x y : Code} (h : Ar c l a w) (i : Nat) (he : Br .none l i = .slot t (AE b))
    (ht : b = true → x.wp P Q a w) (hf : b = false → y.wp P Q a w) : (Code.cond (.tmp t) x y).wp P Q a w := by
  obtain ⟨Φ, fp, hs⟩ := h
  have hi : i < l.length := by
    rcases Nat.lt_or_ge i l.length with q | q
    · exact q
    · rw [DI, List.getD, List.getElem?_eq_none q] at he
      cases he
  have := hs.holds i hi
  rw [he] at this
  obtain ⟨_, v, hv, hb⟩ := this
  have hb : v = .bool b := hb
  subst hb
  refine wp_cond_split (t := b) ?_ ht hf
  simp [Act.eval, hv]

inductive CR (R S : Type) where
  | ret (r : R)
  | brk (s : S)
  | cont (s : S)
inductive Qw (R S : Type) where
  | ret (r : R)
  | next (s : S)

def Bf {R S : Type} (body : S → Option (CR R S)) : Nat → S → Option (Qw R S)
  | 0, _ => none
  | k + 1, s =>
    match body s with
    | none => none
    | some (.ret r) => some (.ret r)
    | some (.brk s') => some (.next s')
    | some (.cont s') => Bf body k s'

theorem Bw {P : Program} {R S : Type} {body : S → Option (CR R S)} {code : Code} (I : S → Act → World → Prop) (Qo : Qw R S → Exit → Act → World → Prop)
    (hbody : ∀ s a w o, I s a w → body s = some o → code.wp P (fun e a' w' => match o with
      | .cont s' => e = .normal ∧ I s' a' w'
      | .brk s' => e ≠ .normal ∧ Qo (.next s') e a' w'
      | .ret r => e ≠ .normal ∧ Qo (.ret r) e a' w') a w) :
    ∀ (k : Nat) (s : S) (a : Act) (w : World) (r : Qw R S), I s a w → Bf body k s = some r → (Code.loop code).wp P (Qo r) a w := by
  intro k s a w r hI hl b kk cs
  have key : ∀ (k : Nat) (s : S) (a : Act) (w : World), I s a w → Bf body k s = some r →
      ∃ e a' w', Qo r e a' w' ∧ Arrives P (lone (b.at a (.code code :: .inLoop code :: kk)) cs w) b kk cs e a' w' := by
    intro k
    induction k with
    | zero => intro s a w _ hl; simp [Bf] at hl
    | succ k ih =>
      intro s a w hI hl
      cases hb : body s with
      | none => simp [Bf, hb] at hl
      | some o =>
        obtain ⟨e, a₁, w₁, hq, harr⟩ := hbody s a w o hI hb b (.inLoop code :: kk) cs
        cases o with
        | cont s' =>
          obtain ⟨rfl, hI'⟩ := hq
          simp only [Bf, hb] at hl
          obtain ⟨e₂, a₂, w₂, hq₂, harr₂⟩ := ih s' a₁ w₁ hI' hl
          exact ⟨e₂, a₂, w₂, hq₂, .of_steps (Steps.trans harr (.one step_inLoop)) harr₂⟩
        | brk s' =>
          simp only [Bf, hb, Option.some.injEq] at hl
          subst hl
          exact ⟨e, a₁, w₁, hq.2, .pass (x := .inLoop code) rfl (fun _ _ => .inl hq.1) harr⟩
        | ret x =>
          simp only [Bf, hb, Option.some.injEq] at hl
          subst hl
          exact ⟨e, a₁, w₁, hq.2, .pass (x := .inLoop code) rfl (fun _ _ => .inl hq.1) harr⟩
  obtain ⟨e, a', w', hq, harr⟩ := key k s a w hI hl
  exact ⟨e, a', w', hq, .of_steps (.one step_loop) harr⟩


end
section
open Go Go.RowKit

def H5 (k : IntKind) (x : Int) : Prop := k.min ≤ x ∧ x ≤ k.max
theorem F5 (k : IntKind) (x : Int) : H5 k (k.wrap x) := by
  cases k <;> simp only [H5, IntKind.wrap, IntKind.min, IntKind.max, IntKind.bits, IntKind.signed] <;> simp <;> (try split) <;> constructor <;> omega

def Ab (k : IntKind) (x : Int) : VP := ⟨fun _ v => v = .int k x ∧ H5 k x, fun _ h => h⟩
def CG : Nat := 9223372036854775807
theorem FY {n : Nat} (h : n ≤ CG) : H5 .i64 n := by
  unfold CG at h
  simp only [H5, IntKind.min, IntKind.max, IntKind.bits, IntKind.signed]
  simp
  omega
def As (l : List UInt8) : VP := ⟨fun _ v => v = .string ⟨l.toArray⟩ ∧ l.length ≤ CG, fun _ h => h⟩
def Am (u : Value) : VP := ⟨fun _ v => v = u, fun _ h => h⟩
def Mz : VP := ⟨fun _ _ => True, fun _ h => h⟩
theorem Ew.mono {Φ Φ' : BR} (hle : BR.le Φ Φ') : ∀ {l : List VP} {vs : List Value}, Ew Φ l vs → Ew Φ' l vs
  | [], [], _ => trivial
  | V :: _, _ :: _, h => ⟨V.mono hle h.1, Ew.mono hle h.2⟩
  | [], _ :: _, h => h.elim
  | _ :: _, [], h => h.elim
def CV (l : List VP) : VP := ⟨fun Φ v => ∃ vs, v = .tuple vs.toArray ∧ Ew Φ l vs, by rintro Φ Φ' v hle ⟨vs, h1, h2⟩; exact ⟨vs, h1, h2.mono hle⟩⟩

structure Ck where
  n : Nat
  rel : BR → List Value → Prop
  len : ∀ {Φ cs}, rel Φ cs → cs.length = n
  cell : ∀ {Φ cs}, rel Φ cs → ∀ v ∈ cs, v.oneCell' = true
  mono : ∀ {Φ Φ' : BR} {cs}, BR.le Φ Φ' → rel Φ cs → rel Φ' cs

def B0 (Φ : BR) : List Value → List Ck → Prop
  | cs, [] => cs = []
  | cs, c :: L => ∃ xs ys, cs = xs ++ ys ∧ c.rel Φ xs ∧ B0 Φ ys L

def lens : List Ck → Nat
  | [] => 0
  | c :: L => c.n + lens L

theorem B0.len {Φ : BR} : ∀ {L : List Ck} {cs : List Value}, B0 Φ cs L → cs.length = lens L
  | [], cs, h => by have : cs = [] := h; simp [this, lens]
  | c :: L, cs, h => by
    obtain ⟨xs, ys, rfl, h1, h2⟩ := h
    simp [lens, c.len h1, B0.len h2]
theorem B0.cell {Φ : BR} : ∀ {L : List Ck} {cs : List Value}, B0 Φ cs L → ∀ v ∈ cs, v.oneCell' = true
  | [], cs, h, v, hv => by have : cs = [] := h; simp [this] at hv
  | c :: L, cs, h, v, hv => by
    obtain ⟨xs, ys, rfl, h1, h2⟩ := h
    rcases List.mem_append.1 hv with hv | hv
    · exact c.cell h1 v hv
    · exact B0.cell h2 v hv
theorem B0.mono {Φ Φ' : BR} (hle : BR.le Φ Φ') : ∀ {L : List Ck} {cs : List Value}, B0 Φ cs L → B0 Φ' cs L
  | [], _, h => h
  | c :: L, cs, h => by
    obtain ⟨xs, ys, rfl, h1, h2⟩ := h
    exact ⟨xs, ys, rfl, c.mono hle h1, B0.mono hle h2⟩
theorem B0.append {Φ : BR} : ∀ {L M : List Ck} {xs ys : List Value}, B0 Φ xs L → B0 Φ ys M → B0 Φ (xs ++ ys) (L ++ M)
  | [], M, xs, ys, h, k => by have : xs = [] := h; subst this; exact k
  | c :: L, M, xs, ys, h, k => by
    obtain ⟨x1, x2, rfl, h1, h2⟩ := h
    exact ⟨x1, x2 ++ ys, by simp, h1, B0.append h2 k⟩
theorem B0.split {Φ : BR} : ∀ {L M : List Ck} {cs : List Value}, B0 Φ cs (L ++ M) → ∃ xs ys, cs = xs ++ ys ∧ B0 Φ xs L ∧ B0 Φ ys M
  | [], M, cs, h => ⟨[], cs, rfl, rfl, h⟩
  | c :: L, M, cs, h => by
    obtain ⟨x1, x2, rfl, h1, h2⟩ := h
    obtain ⟨xs, ys, rfl, h3, h4⟩ := B0.split h2
    exact ⟨x1 ++ xs, ys, by simp, ⟨x1, xs, rfl, h1, h3⟩, h4⟩
def one (V : VP) : Ck := ⟨1, fun Φ cs => ∃ v, cs = [v] ∧ v.oneCell' = true ∧ V.p Φ v, fun ⟨v, h, _⟩ => by simp [h], fun ⟨v, h, h1, _⟩ u hu => by simp [h] at hu; rw [hu]; exact h1,
  fun hle ⟨v, h, h1, h2⟩ => ⟨v, h, h1, V.mono hle h2⟩⟩
def B9 (b : UInt8) : Value := .int .u8 b.toNat
theorem KN (b : UInt8) : H5 .u8 b.toNat := by
  have := b.toNat_lt
  simp only [H5, IntKind.min, IntKind.max, IntKind.bits, IntKind.signed]
  simp
  omega
def Af (n : Nat) (l : List UInt8) : Ck := ⟨n, fun _ cs => l.length = n ∧ cs = l.map B9, fun ⟨h, e⟩ => by simp [e, h], fun ⟨_, e⟩ v hv => by
  subst e; obtain ⟨b, _, rfl⟩ := List.mem_map.1 hv; rfl, fun _ h => h⟩
def AI (k : IntKind) (n : Nat) (l : List Int) : Ck := ⟨n, fun _ cs => l.length = n ∧ cs = l.map (Value.int k) ∧ ∀ x ∈ l, H5 k x, fun ⟨h, e, _⟩ => by simp [e, h], fun ⟨_, e, _⟩ v hv => by
  subst e; obtain ⟨b, _, rfl⟩ := List.mem_map.1 hv; rfl, fun _ h => h⟩

def CS {α : Type} (Φ : BR) (c : α → List Ck) : List Value → List α → Prop
  | cs, [] => cs = []
  | cs, x :: xs => ∃ us vs, cs = us ++ vs ∧ B0 Φ us (c x) ∧ CS Φ c vs xs
theorem CS.len {α : Type} {Φ : BR} {c : α → List Ck} {sz : Nat} (hsz : ∀ x, lens (c x) = sz) : ∀ {xs : List α} {cs : List Value}, CS Φ c cs xs → cs.length = xs.length * sz
  | [], cs, h => by have : cs = [] := h; simp [this]
  | x :: xs, cs, h => by
    obtain ⟨us, vs, rfl, h1, h2⟩ := h
    simp [h1.len, hsz, CS.len hsz h2, Nat.succ_mul]; omega
theorem CS.cell {α : Type} {Φ : BR} {c : α → List Ck} : ∀ {xs : List α} {cs : List Value}, CS Φ c cs xs → ∀ v ∈ cs, v.oneCell' = true
  | [], cs, h, v, hv => by have : cs = [] := h; simp [this] at hv
  | x :: xs, cs, h, v, hv => by
    obtain ⟨us, vs, rfl, h1, h2⟩ := h
    rcases List.mem_append.1 hv with hv | hv
    · exact h1.cell v hv
    · exact CS.cell h2 v hv
theorem CS.mono {α : Type} {Φ Φ' : BR} {c : α → List Ck} (hle : BR.le Φ Φ') : ∀ {xs : List α} {cs : List Value}, CS Φ c cs xs → CS Φ' c cs xs
  | [], _, h => h
  | x :: xs, cs, h => by
    obtain ⟨us, vs, rfl, h1, h2⟩ := h
    exact ⟨us, vs, rfl, h1.mono hle, CS.mono hle h2⟩
theorem CS.append {α : Type} {Φ : BR} {c : α → List Ck} : ∀ {xs ys : List α} {us vs : List Value}, CS Φ c us xs → CS Φ c vs ys → CS Φ c (us ++ vs) (xs ++ ys)
  | [], ys, us, vs, h, k => by have : us = [] := h; subst this; exact k
  | x :: xs, ys, us, vs, h, k => by
    obtain ⟨u1, u2, rfl, h1, h2⟩ := h
    exact ⟨u1, u2 ++ vs, by simp, h1, CS.append h2 k⟩
theorem CS.split {α : Type} {Φ : BR} {c : α → List Ck} : ∀ {xs ys : List α} {cs : List Value}, CS Φ c cs (xs ++ ys) → ∃ us vs, cs = us ++ vs ∧ CS Φ c us xs ∧ CS Φ c vs ys
  | [], ys, cs, h => ⟨[], cs, rfl, rfl, h⟩
  | x :: xs, ys, cs, h => by
    obtain ⟨u1, u2, rfl, h1, h2⟩ := h
    obtain ⟨us, vs, rfl, h3, h4⟩ := CS.split h2
    exact ⟨u1 ++ us, vs, by simp, ⟨u1, us, rfl, h1, h3⟩, h4⟩
def Ee {α : Type} (n sz : Nat) (c : α → List Ck) (hsz : ∀ x, lens (c x) = sz) (xs : List α) : Ck := ⟨n * sz, fun Φ cs => xs.length = n ∧ CS Φ c cs xs, fun ⟨h, k⟩ => by rw [k.len hsz, h], fun ⟨_, k⟩ => k.cell, fun hle ⟨h, k⟩ => ⟨h, k.mono hle⟩⟩

def AG (L : List Ck) : VP := ⟨fun Φ v => ∃ cs, v = .agg cs.toArray ∧ B0 Φ cs L, by rintro Φ Φ' v hle ⟨cs, h, k⟩; exact ⟨cs, h, k.mono hle⟩⟩

def EE (Φ : BR) (b o : Nat) (cs : List Value) : Prop := ∀ j v, cs[j]? = some v → Φ b (o + j) = some v
theorem EE.mono {Φ Φ' : BR} {b o : Nat} {cs : List Value} (hle : BR.le Φ Φ') (h : EE Φ b o cs) : EE Φ' b o cs := fun j v hj => hle _ _ _ (h j v hj)
theorem EE.left {Φ : BR} {b o : Nat} {xs ys : List Value} (h : EE Φ b o (xs ++ ys)) : EE Φ b o xs := fun j v hj => h j v (by
  have : j < xs.length := by rcases Nat.lt_or_ge j xs.length with h1 | h1
                             · exact h1
                             · simp [List.getElem?_eq_none h1] at hj
  rw [List.getElem?_append_left this]; exact hj)
theorem EE.right {Φ : BR} {b o : Nat} {xs ys : List Value} (h : EE Φ b o (xs ++ ys)) : EE Φ b (o + xs.length) ys := fun j v hj => by
  have := h (xs.length + j) v (by rw [List.getElem?_append_right (by omega)]; simpa using hj)
  rwa [← Nat.add_assoc] at this
theorem EE.append {Φ : BR} {b o : Nat} {xs ys : List Value} (h : EE Φ b o xs) (k : EE Φ b (o + xs.length) ys) : EE Φ b o (xs ++ ys) := fun j v hj => by
  rcases Nat.lt_or_ge j xs.length with h1 | h1
  · exact h j v (by rwa [List.getElem?_append_left h1] at hj)
  · rw [List.getElem?_append_right h1] at hj
    have := k (j - xs.length) v hj
    rwa [show o + xs.length + (j - xs.length) = o + j by omega] at this

def FB (L : List Ck) : VP := ⟨fun Φ v => ∃ b o cs, v = .pointer (some ⟨b, o, none⟩) ∧ B0 Φ cs L ∧ EE Φ b o cs, fun hle ⟨b, o, cs, h, k, m⟩ => ⟨b, o, cs, h, k.mono hle, m.mono hle⟩⟩

def An {α : Type} (c : α → List Ck) (xs : List α) : VP := ⟨fun Φ v => xs.length ≤ CG ∧ ((v = .slice none 0 0 ∧ xs = []) ∨
    (∃ b o cap cs, v = .slice (some ⟨b, o, none⟩) xs.length cap ∧ xs.length ≤ cap ∧ CS Φ c cs xs ∧ EE Φ b o cs) ∨ (xs = [] ∧ ∃ a cap, v = .slice (some a) 0 cap)),
  fun hle h => ⟨h.1, h.2.imp id fun h => h.imp (fun ⟨b, o, cap, cs, h1, h2, h3, h4⟩ => ⟨b, o, cap, cs, h1, h2, h3.mono hle, h4.mono hle⟩) id⟩⟩

def AM (G : FP) (N : List B1) (x : Operand) (V : VP) : Prop := ∀ (Φ : BR) (a : Act) (w : World) (f : List (List Nat)), G.p Φ → BT Φ a.tmps w N f → V.p Φ (a.eval x)
theorem BT.nth {Φ : BR} {tmps : Array Value} {w : World} : ∀ {es : List B1} {fs : List (List Nat)} (i : Nat), BT Φ tmps w es fs → i < es.length → ∃ f, (Br .none es i).holds Φ tmps w f ∧ f ∈ fs
  | e :: es, f :: fs, 0, h, _ => ⟨f, h.1, by simp⟩
  | e :: es, f :: fs, i + 1, h, hi => by
    obtain ⟨g, h1, h2⟩ := BT.nth i h.2 (by simpa using hi)
    exact ⟨g, h1, by simp [h2]⟩
  | [], _, i, _, hi => by simp at hi
  | _ :: _, [], _, h, _ => h.elim
theorem Dv {N : List B1} {i : Nat} {e : B1} (h : Br .none N i = e) (hne : e ≠ .none) : i < N.length := by
  rcases Nat.lt_or_ge i N.length with q | q
  · exact q
  · rw [DI, List.getD, List.getElem?_eq_none q] at h
    exact absurd h.symm hne
theorem opt {G : FP} {N : List B1} {t : Nat} {V : VP} (i : Nat) (h : Br .none N i = .slot t V) : AM G N (.tmp t) V := by
  intro Φ a w f _ hN
  have hi := Dv h (by simp)
  obtain ⟨g, hg, _⟩ := hN.nth i hi
  rw [h] at hg
  obtain ⟨_, v, hv, hV⟩ := hg
  simpa [Act.eval, hv] using hV
theorem DZ {G : FP} {N : List B1} {v : Value} {V : VP} (h : ∀ Φ, V.p Φ v) : AM G N (.const v) V := fun Φ _ _ _ _ _ => h Φ
theorem RM {G : FP} {N : List B1} {g : Nat} {V : VP} (h : ∀ Φ, G.p Φ → V.p Φ (.pointer (some ⟨g, 0, none⟩))) : AM G N (.global g) V := fun Φ _ _ _ hG _ => h Φ hG
theorem ic {k : IntKind} {x : Int} (h : H5 k x) : ∀ Φ, (Ab k x).p Φ (.int k x) := fun _ => ⟨rfl, h⟩
theorem bc (b : Bool) : ∀ Φ, (AE b).p Φ (.bool b) := fun _ => rfl
theorem sc (l : List UInt8) (h : l.length ≤ CG) : ∀ Φ, (As l).p Φ (.string ⟨l.toArray⟩) := fun _ => ⟨rfl, h⟩
theorem ec (v : Value) : ∀ Φ, (Am v).p Φ v := fun _ => rfl

section ops
variable {P : Program} {G : FP} {N : List B1} {d : Nat} {ty : TypeId} {pos : String} {af : Array Edge} {gd : Option (Nat × Bool)}

theorem Ba.val {op : Op} {V : Value → VP}
    (h : ∀ (Φ : BR) (a : Act) (w : World) (f : List (List Nat)), Cv Φ w → G.p Φ → BT Φ a.tmps w N f → ∃ v, (execOp a.eval ⟨some d, op, ty, pos, af, gd⟩).run P w = .ok (.value v) w ∧ (V v).p Φ v) :
    Ba P G ⟨some d, op, ty, pos, af, gd⟩ N [] (fun v => [.slot d (V v)]) := by
  intro Φ a w fN fC h1 h2 h3 h4 h5 h6 h7 K Q hK
  obtain ⟨v, hr, hv⟩ := h Φ a w fN h1 h2 h3
  match fC, h4 with
  | [], _ =>
    unfold Oper.wp
    rw [hr, Oper.upon_value]
    refine hK v w Φ [[]] (Step.refl _ _ _) h1 ⟨⟨rfl, v, C0 a v d (h7 d rfl), hv⟩, trivial⟩ (by simp) (by simp)

theorem Aa {x : Operand} {V : VP} (hx : AM G N x V) : Ba P G ⟨some d, .move x, ty, pos, af, gd⟩ N [] (fun _ => [.slot d V]) :=
  Ba.val fun Φ a w f _ hG hN => ⟨a.eval x, rfl, hx Φ a w f hG hN⟩
theorem Ad {x : Operand} {V : VP} (hx : AM G N x V) : Ba P G ⟨some d, .assign x, ty, pos, af, gd⟩ N [] (fun _ => [.slot d V]) :=
  Ba.val fun Φ a w f _ hG hN => ⟨a.eval x, rfl, hx Φ a w f hG hN⟩
theorem Mi {c x y : Operand} {b : Bool} {V : VP} (hc : AM G N c (AE b)) (hx : AM G N (if b then x else y) V) : Ba P G ⟨some d, .pick c x y, ty, pos, af, gd⟩ N [] (fun _ => [.slot d V]) :=
  Ba.val fun Φ a w f _ hG hN => ⟨a.eval (if b then x else y), by
    have hb : a.eval c = .bool b := hc Φ a w f hG hN
    cases b <;> simp [execOp, hb, asBool], hx Φ a w f hG hN⟩
theorem AQ {x : Operand} {i : Nat} {l : List VP} {V : VP} (hx : AM G N x (CV l)) (hi : l[i]? = some V) : Ba P G ⟨some d, .extract x i, ty, pos, af, gd⟩ N [] (fun _ => [.slot d V]) :=
  Ba.val fun Φ a w f _ hG hN => by
    obtain ⟨vs, hv, hl⟩ := hx Φ a w f hG hN
    have key : ∀ (l : List VP) (vs : List Value) (i : Nat), Ew Φ l vs → l[i]? = some V → ∃ v, vs[i]? = some v ∧ V.p Φ v := by
      intro l
      induction l with
      | nil => intro vs i _ h; simp at h
      | cons W l ih =>
        intro vs i hl h
        cases vs with
        | nil => exact hl.elim
        | cons v vs =>
          cases i with
          | zero => simp at h; subst h; exact ⟨v, rfl, hl.1⟩
          | succ i => simpa using ih vs i hl.2 (by simpa using h)
    obtain ⟨v, h1, h2⟩ := key l vs i hl hi
    exact ⟨v, by simp [execOp, hv, Instr.extract, h1], h2⟩

def II (P : Program) (op : BinOp) (t : TypeId) (X Y Z : VP) : Prop := ∀ (Φ : BR) (u v : Value) (w : World) (x y : Operand), X.p Φ u → Y.p Φ v → ∃ r, (do eqGuard op t x y u v; binOp op t u v : Sem Value).run P w = .ok r w ∧ Z.p Φ r
theorem Ak {op : BinOp} {t t' : TypeId} {x y : Operand} {X Y Z : VP} (hb : II P op t X Y Z) (hx : AM G N x X) (hy : AM G N y Y) : Ba P G ⟨some d, .binOp op t x y t', ty, pos, af, gd⟩ N [] (fun _ => [.slot d Z]) :=
  Ba.val fun Φ a w f _ hG hN => by
    obtain ⟨r, hr, hz⟩ := hb Φ _ _ w x y (hx Φ a w f hG hN) (hy Φ a w f hG hN)
    refine ⟨r, ?_, hz⟩
    simp only [execOp, Sem.run_bind, Sem.run_pure] at hr ⊢
    cases h1 : (eqGuard op t x y (a.eval x) (a.eval y)).run P w with
    | ok _ w1 => simp only [h1, Result.andThen_ok] at hr ⊢; rw [hr]; rfl
    | halt _ w1 => simp [h1] at hr

section bins
variable {t : TypeId} {k : IntKind} {m n : Int}
theorem AY : II P .add t (Ab k m) (Ab k n) (Ab k (k.wrap (m + n))) := by rintro Φ u v w x y ⟨rfl, _⟩ ⟨rfl, _⟩; exact ⟨_, by simp [eqGuard_add, binOp_add, Op.intArith] <;> rfl, rfl, F5 _ _⟩
theorem CH : II P .sub t (Ab k m) (Ab k n) (Ab k (k.wrap (m - n))) := by rintro Φ u v w x y ⟨rfl, _⟩ ⟨rfl, _⟩; exact ⟨_, by simp [eqGuard_sub, binOp_sub, Op.intArith] <;> rfl, rfl, F5 _ _⟩
theorem Db : II P .mul t (Ab k m) (Ab k n) (Ab k (k.wrap (m * n))) := by rintro Φ u v w x y ⟨rfl, _⟩ ⟨rfl, _⟩; exact ⟨_, by simp [eqGuard_mul, binOp_mul, Op.intArith] <;> rfl, rfl, F5 _ _⟩
theorem KQ (h : n ≠ 0) : II P .quo t (Ab k m) (Ab k n) (Ab k (k.wrap (m.tdiv n))) := by rintro Φ u v w x y ⟨rfl, _⟩ ⟨rfl, _⟩; exact ⟨_, by simp [eqGuard_quo, binOp_quo, Op.intDiv, h] <;> rfl, rfl, F5 _ _⟩
theorem KP (op : BinOp) (k : IntKind) (m n : Int) : H5 k (bits op k m n) := F5 _ _
theorem ER : II P .and t (Ab k m) (Ab k n) (Ab k (bits .and k m n)) := by rintro Φ u v w x y ⟨rfl, _⟩ ⟨rfl, _⟩; exact ⟨_, by simp [eqGuard_and, binOp_and, intBits_and] <;> rfl, rfl, KP _ _ _ _⟩
theorem It : II P .or t (Ab k m) (Ab k n) (Ab k (bits .or k m n)) := by rintro Φ u v w x y ⟨rfl, _⟩ ⟨rfl, _⟩; exact ⟨_, by simp [eqGuard_or, binOp_or, intBits_or] <;> rfl, rfl, KP _ _ _ _⟩
theorem CQ : II P .xor t (Ab k m) (Ab k n) (Ab k (bits .xor k m n)) := by rintro Φ u v w x y ⟨rfl, _⟩ ⟨rfl, _⟩; exact ⟨_, by simp [eqGuard_xor, binOp_xor, intBits_xor] <;> rfl, rfl, KP _ _ _ _⟩
theorem Bl : II P .lss t (Ab k m) (Ab k n) (AE (decide (m < n))) := by rintro Φ u v w x y ⟨rfl, _⟩ ⟨rfl, _⟩; exact ⟨_, by simp [eqGuard_lss, binOp_lss] <;> rfl, rfl⟩
theorem O7 : II P .leq t (Ab k m) (Ab k n) (AE (decide (m ≤ n))) := by rintro Φ u v w x y ⟨rfl, _⟩ ⟨rfl, _⟩; exact ⟨_, by simp [eqGuard_leq, binOp_leq] <;> rfl, rfl⟩
theorem Gd : II P .gtr t (Ab k m) (Ab k n) (AE (decide (n < m))) := by rintro Φ u v w x y ⟨rfl, _⟩ ⟨rfl, _⟩; exact ⟨_, by simp [eqGuard_gtr, binOp_gtr] <;> rfl, rfl⟩
theorem DJ : II P .geq t (Ab k m) (Ab k n) (AE (decide (n ≤ m))) := by rintro Φ u v w x y ⟨rfl, _⟩ ⟨rfl, _⟩; exact ⟨_, by simp [eqGuard_geq, binOp_geq] <;> rfl, rfl⟩
theorem C3 : II P .eql t (Ab k m) (Ab k n) (AE (decide (m = n))) := by rintro Φ u v w x y ⟨rfl, _⟩ ⟨rfl, _⟩; exact ⟨_, by simp [eqGuard_at_int, binOp_eql] <;> rfl, by rfl⟩
theorem C2 : II P .neq t (Ab k m) (Ab k n) (AE (!decide (m = n))) := by rintro Φ u v w x y ⟨rfl, _⟩ ⟨rfl, _⟩; exact ⟨_, by simp [eqGuard_at_int, binOp_neq] <;> rfl, by rfl⟩
end bins
end ops

end
section
open Go Go.RowKit

def Au (p : Value) (k : Nat) : VP := ⟨fun _ v => ∃ b, p = .pointer (some ⟨b, 0, none⟩) ∧ v = .pointer (some ⟨b, k, none⟩), fun _ h => h⟩

def lb (p : Value) (T : TypeId) (L : List Ck) : RP := ⟨fun Φ f w => ∃ b cs, p = .pointer (some ⟨b, 0, none⟩) ∧ f = [b] ∧ w.heap[b]? = some (.cells cs.toArray T (0, 0)) ∧ B0 Φ cs L ∧ ∀ o, Φ b o = none, by
  rintro Φ Φ' f w w' hle hs hb ⟨b, cs, rfl, rfl, h1, h2, h3⟩
  exact ⟨b, cs, rfl, rfl, by rw [hb b (by simp)]; exact h1, h2.mono hle, fun o => by rw [hs b (by simp)]; exact h3 o⟩⟩

def Cells (V : VP) (L : List Ck) : Prop := ∀ Φ v, V.p Φ v → B0 Φ v.cells.toList L
def Nk (V : VP) : Prop := ∀ Φ v, V.p Φ v → v.oneCell' = true
theorem Al (L : List Ck) : Cells (AG L) L := by rintro Φ v ⟨cs, rfl, h⟩; simpa [Value.cells] using h
theorem Ap {V : VP} (h : Nk V) : Cells V [one V] := fun Φ v hv => by
  have h1 := h Φ v hv
  have h2 : v.cells.toList = [v] := by cases v <;> first | rfl | (simp [Value.oneCell'] at h1)
  rw [h2]
  exact ⟨[v], [], rfl, ⟨v, rfl, h1, hv⟩, rfl⟩
theorem AK (k : IntKind) (x : Int) : Nk (Ab k x) := by rintro Φ v ⟨rfl, _⟩; rfl
theorem Du (l : List UInt8) : Nk (As l) := by rintro Φ v ⟨rfl, _⟩; rfl
theorem P9 {u : Value} (hu : u.oneCell' = true) : Nk (Am u) := by rintro Φ v h; have h : v = u := h; subst h; exact hu
theorem Ku {α : Type} (c : α → List Ck) (xs : List α) : Nk (An c xs) := by rintro Φ v ⟨_, ⟨rfl, _⟩ | ⟨b, o, cap, cs, rfl, _⟩ | ⟨_, a, cap, rfl⟩⟩ <;> rfl

section runs
variable {P : Program} {w : World}
theorem cell_of {b j : Nat} {cs : List Value} {T : TypeId} {fr : Nat × Nat} (h : w.heap[b]? = some (.cells cs.toArray T fr)) : w.cell? ⟨b, j, none⟩ = cs[j]? := by
  simp [World.cell?, h]
theorem EA {T : TypeId} {n b k : Nat} {cs : List Value} (ha : ∀ w, (isAgg T).run P w = .ok true w) (hs : ∀ w, (sizeOf T).run P w = .ok n w) (hl : cs.length = n) (h : ∀ j v, cs[j]? = some v → w.cell? ⟨b, k + j, none⟩ = some v) :
    (Instr.loadAt T (.pointer (some ⟨b, k, none⟩))).run P w = .ok (.agg cs.toArray) w := by
  have hc := run_loadCells_list (P := P) w ⟨b, k, none⟩ cs (fun j v hj => by rw [Addr.add_lit]; exact h j v hj)
  rw [hl] at hc
  simp [Instr.loadAt, Instr.sureAddr, loadVar, ha, hs, hc]
theorem E1 {T : TypeId} {b k : Nat} {v : Value} (ha : ∀ w, (isAgg T).run P w = .ok false w) (h : w.cell? ⟨b, k, none⟩ = some v) :
    (Instr.loadAt T (.pointer (some ⟨b, k, none⟩))).run P w = .ok v w := by
  simp [Instr.loadAt, Instr.sureAddr, loadVar, ha, h]

theorem Iz {b j : Nat} {cs : List Value} {T : TypeId} {v : Value} (h : w.heap[b]? = some (.cells cs.toArray T (0, 0))) :
    (w.setCell ⟨b, j, none⟩ v).heap[b]? = some (.cells (cs.set j v).toArray T (0, 0)) := by
  simp [World.setCell, Array.getElem?_modify, h]
theorem Ge {b j b' : Nat} {v : Value} (h : b' ≠ b) : (w.setCell ⟨b, j, none⟩ v).heap[b']? = w.heap[b']? := Below.heap_setCell _ _ _ _ h

theorem E0 {b k : Nat} {T : TypeId} : ∀ (vs : List Value) (i : Nat) (w : World) (cs : List Value), w.heap[b]? = some (.cells cs.toArray T (0, 0)) → k + i + vs.length ≤ cs.length → (∀ v ∈ vs, v.oneCell' = true) →
    ∃ w', (storeCells ⟨b, k, none⟩ vs i).run P w = .ok () w' ∧ w'.heap[b]? = some (.cells (cs.take (k + i) ++ vs ++ cs.drop (k + i + vs.length)).toArray T (0, 0)) ∧ (∀ b', b' ≠ b → w'.heap[b']? = w.heap[b']?) ∧
      w'.heap.size = w.heap.size ∧ w'.os = w.os ∧ w'.tape = w.tape ∧ w'.output = w.output
  | [], i, w, cs, h, hl, _ => ⟨w, rfl, by simpa using h, fun _ _ => rfl, rfl, rfl, rfl, rfl⟩
  | v :: vs, i, w, cs, h, hl, hv => by
    simp only [List.length_cons] at hl
    have hst : (store (Addr.add ⟨b, k, none⟩ i) v).run P w = .ok () (w.setCell ⟨b, k + i, none⟩ v) := by
      rw [run_store P w _ v .plain (hv v (by simp)), Addr.add_lit]
      have hc : w.cell? ⟨b, k + i, none⟩ = some cs[k + i] := by rw [cell_of h]; simp [show k + i < cs.length by omega]
      simp only [hc]
      have hf : w.frozen? ⟨b, k + i, none⟩ = false := by simp [World.frozen?, h]
      simp [hf]
    obtain ⟨w', h1, h2, h3, h4, h5, h6, h7⟩ := E0 (b := b) (k := k) vs (i + 1) (w.setCell ⟨b, k + i, none⟩ v) (cs.set (k + i) v) (Iz h) (by simp; omega) (fun u hu => hv u (by simp [hu]))
    refine ⟨w', ?_, ?_, fun b' hb' => (h3 b' hb').trans (Ge hb'), by rw [h4]; simp, h5, h6, h7⟩
    · simp only [storeCells, Sem.run_bind, hst, Result.andThen_ok]; exact h1
    · rw [h2]
      congr 3
      have e1 : (cs.set (k + i) v).take (k + (i + 1)) = cs.take (k + i) ++ [v] := by
        rw [← Nat.add_assoc, List.take_add_one, List.take_set_of_le (by omega)]
        simp [show k + i < cs.length by omega]
      have e2 : (cs.set (k + i) v).drop (k + (i + 1) + vs.length) = cs.drop (k + i + (vs.length + 1)) := by
        rw [List.drop_set_of_lt (by omega)]
        congr 1; omega
      rw [e1, e2]
      simp
end runs

section ops
variable {P : Program} {G : FP} {N : List B1} {d : Nat} {ty : TypeId} {pos : String} {af : Array Edge} {gd : Option (Nat × Bool)}

theorem NI {Φ : BR} {w : World} (h : Cv Φ w) (o : Nat) : Φ w.heap.size o = none := by
  cases e : Φ w.heap.size o with
  | none => rfl
  | some v => exact absurd (h.lt _ _ _ e) (Nat.lt_irrefl _)
theorem Ha {Φ : BR} {w : World} (h : Cv Φ w) (o : Obj) : Cv Φ (w.alloc o) :=
  ⟨fun b o' v e => by have := h.lt b o' v e; simp; omega, fun b o' v e => by rw [World.cell?_alloc_lt _ _ _ (h.lt b o' v e)]; exact h.cell b o' v e⟩
theorem Gx (w : World) (Φ : BR) (o : Obj) : Step w Φ [] (w.alloc o) Φ :=
  ⟨rfl, rfl, rfl, by simp, fun b hb _ => @Go.heap_alloc_old w o b hb, BR.le_refl _, fun _ _ _ => rfl⟩

theorem Ba.new {op : Op} {T : TypeId} {L : List Ck}
    (h : ∀ (Φ : BR) (a : Act) (w : World) (f : List (List Nat)), Cv Φ w → G.p Φ → BT Φ a.tmps w N f → ∃ cs : List Value, (execOp a.eval ⟨some d, op, ty, pos, af, gd⟩).run P w = .ok (.value (.pointer (some ⟨w.heap.size, 0, none⟩))) (w.alloc (.cells cs.toArray T)) ∧ B0 Φ cs L) :
    Ba P G ⟨some d, op, ty, pos, af, gd⟩ N [] (fun v => [.slot d (Au v 0), .res (lb v T L)]) := by
  intro Φ a w fN fC h1 h2 h3 h4 h5 h6 h7 K Q hK
  obtain ⟨cs, hr, hL⟩ := h Φ a w fN h1 h2 h3
  match fC, h4 with
  | [], _ =>
    unfold Oper.wp
    rw [hr, Oper.upon_value]
    refine hK _ _ Φ [[], [w.heap.size]] (Gx w Φ _) (Ha h1 _) ⟨⟨rfl, _, C0 a _ d (h7 d rfl), w.heap.size, rfl, rfl⟩, ⟨w.heap.size, cs, rfl, rfl, heap_alloc_new _ _, hL, NI h1⟩, trivial⟩ (by simp) (by simp)

theorem AJ {T : TypeId} {z : Value} {L : List Ck} (hz : ∀ w, (zeroValue T).run P w = .ok z w) (hL : ∀ Φ, B0 Φ z.cells.toList L) :
    Ba P G ⟨some d, .alloc T, ty, pos, af, gd⟩ N [] (fun v => [.slot d (Au v 0), .res (lb v T L)]) :=
  Ba.new fun Φ a w f _ _ _ => ⟨z.cells.toList, by simp [execOp, Instr.alloc, hz, newVar, newRow], hL Φ⟩
theorem BF {T : TypeId} {x : Operand} {V : VP} {L : List Ck} (hx : AM G N x V) (hc : Cells V L) :
    Ba P G ⟨some d, .box T x, ty, pos, af, gd⟩ N [] (fun v => [.slot d (Au v 0), .res (lb v T L)]) :=
  Ba.new fun Φ a w f _ hG hN => ⟨(a.eval x).cells.toList, by simp [execOp, Instr.box, newVar, newRow], hc Φ _ (hx Φ a w f hG hN)⟩

theorem BT.res {Φ : BR} {tmps : Array Value} {w : World} {es : List B1} {fs : List (List Nat)} {R : RP} (j : Nat) (h : BT Φ tmps w es fs) (he : Br .none es j = .res R) : ∃ f, R.p Φ f w := by
  have hj := Dv he (by simp)
  obtain ⟨f, hf, _⟩ := h.nth j hj
  rw [he] at hf
  exact ⟨f, hf⟩

theorem EZ {pre mid post : List Ck} {Φ : BR} {cs : List Value} (h : B0 Φ cs (pre ++ mid ++ post)) : ∃ xs ys zs, cs = xs ++ ys ++ zs ∧ B0 Φ xs pre ∧ B0 Φ ys mid ∧ B0 Φ zs post := by
  obtain ⟨u, zs, rfl, h1, h2⟩ := h.split
  obtain ⟨xs, ys, rfl, h3, h4⟩ := h1.split
  exact ⟨xs, ys, zs, rfl, h3, h4, h2⟩

theorem DB {T T0 : TypeId} {x : Operand} {p : Value} {k n : Nat} (pre mid post : List Ck) (j : Nat) (ha : ∀ w, (isAgg T).run P w = .ok true w) (hs : ∀ w, (sizeOf T).run P w = .ok n w)
    (hx : AM G N x (Au p k)) (he : Br .none N j = .res (lb p T0 (pre ++ mid ++ post))) (hk : lens pre = k) (hn : lens mid = n) :
    Ba P G ⟨some d, .load T x, ty, pos, af, gd⟩ N [] (fun _ => [.slot d (AG mid)]) :=
  Ba.val fun Φ a w f _ hG hN => by
    obtain ⟨b, hp, hv⟩ := hx Φ a w f hG hN
    obtain ⟨g, b', cs, hp', _, hb, hL, _⟩ := hN.res j he
    have : b' = b := by rw [hp] at hp'; simpa using hp'.symm
    subst this
    obtain ⟨xs, ys, zs, rfl, h1, h2, h3⟩ := EZ hL
    refine ⟨.agg ys.toArray, ?_, ys, rfl, h2⟩
    simp only [execOp, hv]
    rw [Sem.run_bind, EA (cs := ys) ha hs (by rw [h2.len, hn]) (fun i v hi => by
      rw [cell_of hb, ← hk, ← h1.len, List.append_assoc, List.getElem?_append_right (by omega)]
      have : i < ys.length := by rcases Nat.lt_or_ge i ys.length with q | q
                                 · exact q
                                 · simp [List.getElem?_eq_none q] at hi
      rw [show xs.length + i - xs.length = i by omega, List.getElem?_append_left this]; exact hi)]
    rfl
theorem AB {T T0 : TypeId} {x : Operand} {p : Value} {k : Nat} {V : VP} (pre post : List Ck) (j : Nat) (ha : ∀ w, (isAgg T).run P w = .ok false w)
    (hx : AM G N x (Au p k)) (he : Br .none N j = .res (lb p T0 (pre ++ [one V] ++ post))) (hk : lens pre = k) :
    Ba P G ⟨some d, .load T x, ty, pos, af, gd⟩ N [] (fun _ => [.slot d V]) :=
  Ba.val fun Φ a w f _ hG hN => by
    obtain ⟨b, hp, hv⟩ := hx Φ a w f hG hN
    obtain ⟨g, b', cs, hp', _, hb, hL, _⟩ := hN.res j he
    have : b' = b := by rw [hp] at hp'; simpa using hp'.symm
    subst this
    obtain ⟨xs, ys, zs, rfl, h1, h2, h3⟩ := EZ hL
    obtain ⟨y1, y2, rfl, ⟨v, rfl, _, hV⟩, h4⟩ := h2
    refine ⟨v, ?_, hV⟩
    simp only [execOp, hv]
    rw [Sem.run_bind, E1 ha (v := v) (by rw [cell_of hb, ← hk, ← h1.len]; simp)]
    rfl
theorem BM {T : TypeId} {x : Operand} {n : Nat} (mid post : List Ck) (ha : ∀ w, (isAgg T).run P w = .ok true w) (hs : ∀ w, (sizeOf T).run P w = .ok n w)
    (hx : AM G N x (FB (mid ++ post))) (hn : lens mid = n) : Ba P G ⟨some d, .load T x, ty, pos, af, gd⟩ N [] (fun _ => [.slot d (AG mid)]) :=
  Ba.val fun Φ a w f hP hG hN => by
    obtain ⟨b, o, cs, hv, hL, hp⟩ := hx Φ a w f hG hN
    obtain ⟨ys, zs, rfl, h1, h2⟩ := hL.split
    refine ⟨.agg ys.toArray, ?_, ys, rfl, h1⟩
    simp only [execOp, hv]
    rw [Sem.run_bind, EA (cs := ys) ha hs (by rw [h1.len, hn]) (fun i v hi => hP.cell _ _ _ (hp.left i v hi))]
    rfl
theorem BH {T : TypeId} {x : Operand} {V : VP} (post : List Ck) (ha : ∀ w, (isAgg T).run P w = .ok false w)
    (hx : AM G N x (FB (one V :: post))) : Ba P G ⟨some d, .load T x, ty, pos, af, gd⟩ N [] (fun _ => [.slot d V]) :=
  Ba.val fun Φ a w f hP hG hN => by
    obtain ⟨b, o, cs, hv, ⟨ys, zs, rfl, ⟨v, rfl, _, hV⟩, h2⟩, hp⟩ := hx Φ a w f hG hN
    refine ⟨v, ?_, hV⟩
    simp only [execOp, hv]
    rw [Sem.run_bind, E1 ha (v := v) (hP.cell _ _ _ (by simpa using hp 0 v (by simp)))]
    rfl

theorem B7 {T T0 : TypeId} {x y : Operand} {p : Value} {k n : Nat} {V : VP} (pre mid post M : List Ck) (hs : ∀ w, (sizeOf T).run P w = .ok n w)
    (hx : AM G N x (Au p k)) (hy : AM G N y V) (hc : Cells V M) (hk : lens pre = k) (hm : lens mid = n) (hM : lens M = n) :
    Ba P G ⟨none, .store T x y, ty, pos, af, gd⟩ N [.res (lb p T0 (pre ++ mid ++ post))] (fun _ => [.res (lb p T0 (pre ++ M ++ post))]) := by
  intro Φ a w fN fC h1 h2 h3 h4 h5 h6 h7 K Q hK
  match fC, h4 with
  | [f], ⟨⟨b, cs, hp, hf, hb, hL, hn⟩, _⟩ =>
    subst hf
    obtain ⟨b', hp', hv⟩ := hx Φ a w fN h2 h3
    have : b' = b := by rw [hp] at hp'; simpa using hp'.symm
    subst this
    obtain ⟨xs, ys, zs, rfl, q1, q2, q3⟩ := EZ hL
    have hVL := hc Φ _ (hy Φ a w fN h2 h3)
    have hlen := hVL.len
    obtain ⟨w', r1, r2, r3, r4, r5, r6, r7⟩ := E0 (P := P) (b := b') (k := k) (a.eval y).cells.toList 0 w (xs ++ ys ++ zs) hb (by
      simp only [List.length_append, q1.len, q2.len, q3.len] at *; omega) (fun v hv => hVL.cell v hv)
    have hblk : w'.heap[b']? = some (.cells (xs ++ (a.eval y).cells.toList ++ zs).toArray T0 (0, 0)) := by
      rw [r2]
      congr 3
      have e1 : (xs ++ ys ++ zs).take (k + 0) = xs := by rw [Nat.add_zero, ← hk, ← q1.len, List.append_assoc, List.take_left]
      have e2 : (xs ++ ys ++ zs).drop (k + 0 + (a.eval y).cells.toList.length) = zs := by
        have : k + 0 + (a.eval y).cells.toList.length = (xs ++ ys).length := by simp only [List.length_append, q1.len, q2.len]; omega
        rw [this, List.drop_left]
      rw [e1, e2]
    have hrun : (execOp a.eval ⟨none, .store T x y, ty, pos, af, gd⟩).run P w = .ok .skip w' := by
      have hsz : ¬ (a.eval y).cells.size ≠ n := by have : (a.eval y).cells.size = (a.eval y).cells.toList.length := by simp
                                                   rw [this, hlen, hM]; simp
      simp only [execOp, hv, Instr.storeAt, Instr.sureAddr, storeVar, Sem.run_bind, Sem.run_pure, Result.andThen_ok, hs]
      simp only [if_neg hsz]
      simp [r1]
    unfold Oper.wp
    rw [hrun, Oper.upon_skip]
    refine hK undef w' Φ [[b']] ⟨r5, r6, r7, Nat.le_of_eq r4.symm, fun c hc' hne => r3 c (fun e => hne (by simp [e])), BR.le_refl _, fun _ _ _ => rfl⟩
      ⟨fun c o v e => by rw [r4]; exact h1.lt c o v e, fun c o v e => ?_⟩ ⟨⟨b', xs ++ (a.eval y).cells.toList ++ zs, hp, rfl, hblk, (q1.append hVL).append q3, hn⟩, trivial⟩ (by simp) (fun c hc' => ?_)
    · have hne : c ≠ b' := fun e' => by rw [e', hn o] at e; cases e
      exact (World.cell?_of_block (w := w) (r3 c hne)).trans (h1.cell c o v e)
    · simp at hc'
      subst hc'
      have := h6 c (by simp)
      exact ⟨by rw [r4]; exact this, .inl (by simp)⟩

theorem GR {s : TypeId} {fields : Array Field} {i : Nat} {fd : Field} {n b k : Nat} {w : World} (hu : P.underlying s = some (.struct fields)) (hi : fields[i]? = some fd) (hs : ∀ w, (sizeOf fd.type).run P w = .ok n w) (hn : n ≠ 0) :
    (Instr.fieldAt s (.pointer (some ⟨b, k, none⟩)) i).run P w = .ok (.pointer (some ⟨b, k + fd.offset, none⟩)) w := by
  simp [Instr.fieldAt, run_underlying hu, hi, Instr.sureAddr, fieldPlace, hs, hn, Addr.add_lit]
theorem IQ {s : TypeId} {x : Operand} {p : Value} {fields : Array Field} {i k n : Nat} {fd : Field} (hu : P.underlying s = some (.struct fields)) (hi : fields[i]? = some fd) (hs : ∀ w, (sizeOf fd.type).run P w = .ok n w) (hn : n ≠ 0)
    (hx : AM G N x (Au p k)) : Ba P G ⟨some d, .fieldAddr s x i, ty, pos, af, gd⟩ N [] (fun _ => [.slot d (Au p (k + fd.offset))]) :=
  Ba.val fun Φ a w f _ hG hN => by
    obtain ⟨b, hp, hv⟩ := hx Φ a w f hG hN
    refine ⟨_, ?_, b, hp, rfl⟩
    simp only [execOp, hv]
    rw [Sem.run_bind, GR hu hi hs hn]
    rfl
theorem Ct {s : TypeId} {x : Operand} {fields : Array Field} {i n : Nat} {fd : Field} (pre post : List Ck) (hu : P.underlying s = some (.struct fields)) (hi : fields[i]? = some fd) (hs : ∀ w, (sizeOf fd.type).run P w = .ok n w) (hn : n ≠ 0)
    (hx : AM G N x (FB (pre ++ post))) (hk : lens pre = fd.offset) : Ba P G ⟨some d, .fieldAddr s x i, ty, pos, af, gd⟩ N [] (fun _ => [.slot d (FB post)]) :=
  Ba.val fun Φ a w f _ hG hN => by
    obtain ⟨b, o, cs, hv, hL, hp⟩ := hx Φ a w f hG hN
    obtain ⟨xs, ys, rfl, h1, h2⟩ := hL.split
    refine ⟨_, ?_, b, o + fd.offset, ys, rfl, h2, by rw [← hk, ← h1.len]; exact hp.right⟩
    simp only [execOp, hv]
    rw [Sem.run_bind, GR hu hi hs hn]
    rfl
def Ra (V : VP) : Prop := ∀ Φ v, V.p Φ v → ∃ a, v = .pointer (some a)
theorem DA (p : Value) (k : Nat) : Ra (Au p k) := by rintro Φ v ⟨b, _, rfl⟩; exact ⟨_, rfl⟩
theorem Bz {x : Operand} {V : VP} (hx : AM G N x V) (hp : Ra V) : Ba P G ⟨some d, .nilCheck x, ty, pos, af, gd⟩ N [] (fun _ => [.slot d V]) :=
  Ba.val fun Φ a w f _ hG hN => by
    obtain ⟨q, hq⟩ := hp Φ _ (hx Φ a w f hG hN)
    exact ⟨a.eval x, by simp [execOp, hq], hx Φ a w f hG hN⟩

theorem CS.at {α : Type} {Φ : BR} {c : α → List Ck} {sz : Nat} (hsz : ∀ x, lens (c x) = sz) {xs : List α} {cs : List Value} (h : CS Φ c cs xs) (i : Nat) (hi : i < xs.length) :
    ∃ us vs ws, cs = us ++ vs ++ ws ∧ us.length = i * sz ∧ B0 Φ vs (c xs[i]) ∧ CS Φ c us (xs.take i) ∧ CS Φ c ws (xs.drop (i + 1)) := by
  have e : xs = xs.take i ++ (xs[i] :: xs.drop (i + 1)) := by simp
  rw [e] at h
  obtain ⟨us, rs, rfl, h1, h2⟩ := h.split
  obtain ⟨vs, ws, rfl, h3, h4⟩ := h2
  exact ⟨us, vs, ws, by simp, by rw [h1.len hsz, List.length_take, Nat.min_eq_left (by omega)], h3, h1, h4⟩

theorem AL {α : Type} [Inhabited α] {t e : TypeId} {x y : Operand} {c : α → List Ck} {xs : List α} {k : IntKind} {i : Int} {sz : Nat} (hu : P.underlying t = some (.slice e)) (hs : ∀ w, (sizeOf e).run P w = .ok sz w) (hsz : ∀ x, lens (c x) = sz)
    (hx : AM G N x (An c xs)) (hy : AM G N y (Ab k i)) (hi : 0 ≤ i ∧ i < xs.length) : Ba P G ⟨some d, .indexAddr t x y, ty, pos, af, gd⟩ N [] (fun _ => [.slot d (FB (c (xs.getD i.toNat default)))]) :=
  Ba.val fun Φ a w f _ hG hN => by
    obtain ⟨hy1, _⟩ := hy Φ a w f hG hN
    rcases (hx Φ a w f hG hN).2 with ⟨_, rfl⟩ | ⟨b, o, cap, cs, hv, _, hA, hp⟩ | ⟨rfl, _⟩
    · simp at hi; omega
    rotate_left
    · simp at hi; omega
    · have hit : i.toNat < xs.length := by omega
      obtain ⟨us, vs, ws, rfl, h1, h2, _⟩ := hA.at hsz i.toNat hit
      refine ⟨.pointer (some ⟨b, o + i.toNat * sz, none⟩), ?_, b, o + i.toNat * sz, vs, rfl, ?_, ?_⟩
      · simp only [execOp, hv, hy1]
        simp [Instr.indexAt, run_underlying hu, asIntOf, hi, hs, Addr.add_lit]
      · simpa [List.getD, hit] using h2
      · rw [← h1]; exact (hp.left).right
theorem Aw {t e : TypeId} {x y : Operand} {p : Value} {k : Nat} {kk : IntKind} {i : Int} {n sz : Nat} (hu : P.underlying t = some (.array n e)) (hs : ∀ w, (sizeOf e).run P w = .ok sz w)
    (hx : AM G N x (Au p k)) (hy : AM G N y (Ab kk i)) (hi : 0 ≤ i ∧ i < n) : Ba P G ⟨some d, .indexAddr t x y, ty, pos, af, gd⟩ N [] (fun _ => [.slot d (Au p (k + i.toNat * sz))]) :=
  Ba.val fun Φ a w f _ hG hN => by
    obtain ⟨hy1, _⟩ := hy Φ a w f hG hN
    obtain ⟨b, hp, hv⟩ := hx Φ a w f hG hN
    refine ⟨_, ?_, b, hp, rfl⟩
    simp only [execOp, hv, hy1]
    simp [Instr.indexAt, run_underlying hu, asIntOf, Instr.sureAddr, hi, hs, Addr.add_lit]
end ops

end
section
open Go Go.RowKit

theorem I7 (l : List UInt8) : (⟨l.toArray⟩ : ByteArray).toList = l := by rw [ByteArray.toList_eq]
theorem CW (l : List UInt8) : (⟨l.toArray⟩ : ByteArray).size = l.length := by simp [ByteArray.size]
theorem LK (l m : List UInt8) : (⟨l.toArray⟩ ++ ⟨m.toArray⟩ : ByteArray) = ⟨(l ++ m).toArray⟩ := by ext1; simp
theorem K1 (l : List UInt8) (a b : Nat) : (⟨l.toArray⟩ : ByteArray).extract a b = ⟨((l.take b).drop a).toArray⟩ := by
  ext1
  simp [List.drop_take]
theorem OE (l : List UInt8) (i : Nat) (h : i < l.length) : (⟨l.toArray⟩ : ByteArray)[i]? = some (l.getD i 0) := by
  rw [ByteArray.getElem?_lt' _ _ (by rw [CW]; exact h)]
  simp [List.getD, h]
  rfl

section ops
variable {P : Program} {G : FP} {N : List B1} {d : Nat} {ty : TypeId} {pos : String} {af : Array Edge} {gd : Option (Nat × Bool)}

def Un (op : UnOp) (X Z : VP) : Prop := ∀ (P : Program) (Φ : BR) (u : Value) (w : World), X.p Φ u → ∃ r, (Op.unary op u).run P w = .ok r w ∧ Z.p Φ r
theorem ID {op : UnOp} {t : TypeId} {x : Operand} {X Z : VP} (hb : Un op X Z) (hx : AM G N x X) : Ba P G ⟨some d, .unOp op t x, ty, pos, af, gd⟩ N [] (fun _ => [.slot d Z]) :=
  Ba.val fun Φ a w f _ hG hN => by
    obtain ⟨r, hr, hz⟩ := hb P Φ _ w (hx Φ a w f hG hN)
    exact ⟨r, by simp [execOp, hr], hz⟩
theorem Hq (b : Bool) : Un .not (AE b) (AE (!b)) := by
  intro P Φ u w h
  have h : u = .bool b := h
  subst h
  exact ⟨.bool !b, rfl, rfl⟩
def NZ (k : IntKind) (n : Int) : Int := bits .xor k (if k.signed then -1 else k.max) n
theorem PO (k : IntKind) (n : Int) : Un .xor (Ab k n) (Ab k (NZ k n)) := by
  rintro P Φ u w ⟨rfl, _⟩
  exact ⟨.int k (NZ k n), rfl, rfl, F5 _ _⟩
theorem AW {s t : TypeId} {x : Operand} {k k' : IntKind} {n : Int} {ds : TypeDesc} (hs : P.underlying s = some ds) (ht : P.underlying t = some (.int k')) (hx : AM G N x (Ab k n)) :
    Ba P G ⟨some d, .convert s t x, ty, pos, af, gd⟩ N [] (fun _ => [.slot d (Ab k' (k'.wrap n))]) :=
  Ba.val fun Φ a w f _ hG hN => by
    obtain ⟨hv, _⟩ := hx Φ a w f hG hN
    exact ⟨.int k' (k'.wrap n), by simp [execOp, hv, convert, run_underlying hs, run_underlying ht, Conv.intToInt], rfl, F5 _ _⟩
theorem DU {t : TypeId} {x : Operand} {l : List UInt8} (ht : P.underlying t = some .string) (hx : AM G N x (As l)) :
    Ba P G ⟨some d, .call ⟨.builtin .len, #[x], #[t]⟩, ty, pos, af, gd⟩ N [] (fun _ => [.slot d (Ab .i64 l.length)]) :=
  Ba.val fun Φ a w f _ hG hN => by
    obtain ⟨hv, hl⟩ := hx Φ a w f hG hN
    exact ⟨goInt l.length, by simp [execOp, hv, resolve, invoke, builtin, Builtin.len_, run_underlying ht, CW], rfl, FY hl⟩
theorem A4 {α : Type} {c : α → List Ck} {xs : List α} {t e : TypeId} {x : Operand} (ht : P.underlying t = some (.slice e)) (hx : AM G N x (An c xs)) :
    Ba P G ⟨some d, .call ⟨.builtin .len, #[x], #[t]⟩, ty, pos, af, gd⟩ N [] (fun _ => [.slot d (Ab .i64 xs.length)]) :=
  Ba.val fun Φ a w f _ hG hN => by
    obtain ⟨hl, h⟩ := hx Φ a w f hG hN
    rcases h with ⟨hv, rfl⟩ | ⟨b, o, cap, cs, hv, _⟩ | ⟨rfl, b, cap, hv⟩
    · exact ⟨goInt 0, by simp [execOp, hv, resolve, invoke, builtin, Builtin.len_, run_underlying ht], rfl, FY hl⟩
    · exact ⟨goInt xs.length, by simp [execOp, hv, resolve, invoke, builtin, Builtin.len_, run_underlying ht], rfl, FY hl⟩
    · exact ⟨goInt 0, by simp [execOp, hv, resolve, invoke, builtin, Builtin.len_, run_underlying ht], rfl, FY hl⟩

section strs
variable {t : TypeId} {l m : List UInt8}
theorem Cy (h : l.length + m.length ≤ CG) : II P .add t (As l) (As m) (As (l ++ m)) := by
  rintro Φ u v w x y ⟨rfl, _⟩ ⟨rfl, _⟩
  have hb : ¬ (((l.length + m.length : Nat) : Int) > IntKind.i64.max) := by
    have := (FY h).2
    omega
  refine ⟨.string ⟨(l ++ m).toArray⟩, ?_, rfl, by simpa using h⟩
  simp only [eqGuard_add, binOp, Op.stringOp, CW, if_neg hb, LK]
  rfl
theorem Lv : II P .eql t (As l) (As m) (AE (decide (l = m))) := by
  rintro Φ u v w x y ⟨rfl, _⟩ ⟨rfl, _⟩
  refine ⟨.bool (decide (l = m)), ?_, rfl⟩
  simp only [eqGuard_at_string, binOp, Op.stringOp, I7]
  rw [show (l == m) = decide (l = m) from by rw [Bool.eq_iff_iff]; simp]
  rfl
theorem Lu : II P .neq t (As l) (As m) (AE (!decide (l = m))) := by
  rintro Φ u v w x y ⟨rfl, _⟩ ⟨rfl, _⟩
  refine ⟨.bool (!decide (l = m)), ?_, rfl⟩
  simp only [eqGuard_at_string, binOp, Op.stringOp, I7]
  rw [show (l == m) = decide (l = m) from by rw [Bool.eq_iff_iff]; simp]
  rfl
end strs
def shl (k : IntKind) (m n : Int) : Int := k.wrap (m * 2 ^ (min n.toNat k.bits))
def shr (k : IntKind) (m n : Int) : Int := m.fdiv (2 ^ (min n.toNat k.bits))
theorem PS {k : IntKind} {m n : Int} (h : H5 k m) : H5 k (shr k m n) := by
  have hp : (1 : Int) ≤ 2 ^ (min n.toNat k.bits) := by
    have : (1 : Int) ≤ ((2 ^ (min n.toNat k.bits) : Nat) : Int) := by
      have := Nat.one_le_two_pow (n := min n.toNat k.bits); omega
    simpa using this
  have h0 : k.min ≤ 0 ∧ 0 ≤ k.max := by cases k <;> decide
  unfold shr H5 at *
  rw [Int.fdiv_eq_ediv_of_nonneg _ (by omega)]
  constructor
  · rcases Int.lt_or_le m 0 with hm | hm
    · have := Int.ediv_nonneg_iff_of_pos (a := m) (b := 2 ^ (min n.toNat k.bits)) (by omega)
      have h2 : m ≤ m / 2 ^ (min n.toNat k.bits) := by
        rw [Int.le_ediv_iff_mul_le (by omega)]
        have := Int.mul_le_mul_of_nonpos_left (a := m) (b := 2 ^ (min n.toNat k.bits)) (c := 1) (by omega) hp
        omega
      omega
    · have := Int.ediv_nonneg hm (by omega : (0 : Int) ≤ 2 ^ (min n.toNat k.bits)); omega
  · rcases Int.lt_or_le m 0 with hm | hm
    · have := Int.ediv_neg_of_neg_of_pos hm (by omega : (0 : Int) < 2 ^ (min n.toNat k.bits)); omega
    · have := Int.ediv_le_self (2 ^ (min n.toNat k.bits)) hm; omega
theorem O6 {t : TypeId} {k k' : IntKind} {m n : Int} (hn : 0 ≤ n) : II P .shl t (Ab k m) (Ab k' n) (Ab k (shl k m n)) := by
  rintro Φ u v w x y ⟨rfl, _⟩ ⟨rfl, _⟩
  exact ⟨.int k (shl k m n), by simp [eqGuard_shl, binOp_shl, Op.shift, show ¬ n < 0 by omega, shl], rfl, F5 _ _⟩
theorem HZ {t : TypeId} {k k' : IntKind} {m n : Int} (hn : 0 ≤ n) : II P .shr t (Ab k m) (Ab k' n) (Ab k (shr k m n)) := by
  rintro Φ u v w x y ⟨rfl, hm⟩ ⟨rfl, _⟩
  exact ⟨.int k (shr k m n), by simp [eqGuard_shr, binOp_shr, Op.shift, show ¬ n < 0 by omega, shr], rfl, PS hm⟩
theorem RJ {k : IntKind} {n : Int} (hk : k.signed = false) (h : H5 k n) : 0 ≤ n := by
  have := h.1
  simp [IntKind.min, hk] at this
  exact this
theorem Gr {t : TypeId} {k k' : IntKind} {m n : Int} (hk : k'.signed = false) : II P .shl t (Ab k m) (Ab k' n) (Ab k (shl k m n)) := by
  rintro Φ u v w x y h1 ⟨h2, h3⟩
  exact O6 (RJ hk h3) Φ u v w x y h1 ⟨h2, h3⟩
theorem Fz {t : TypeId} {k k' : IntKind} {m n : Int} (hk : k'.signed = false) : II P .shr t (Ab k m) (Ab k' n) (Ab k (shr k m n)) := by
  rintro Φ u v w x y h1 ⟨h2, h3⟩
  exact HZ (RJ hk h3) Φ u v w x y h1 ⟨h2, h3⟩
theorem GG {t : TypeId} {k : IntKind} {m n : Int} (hn : n ≠ 0) : II P .rem t (Ab k m) (Ab k n) (Ab k (m.tmod n)) := by
  rintro Φ u v w x y ⟨rfl, hm⟩ ⟨rfl, _⟩
  refine ⟨.int k (m.tmod n), by simp [eqGuard_rem, binOp_rem, Op.intDiv, hn], rfl, ?_⟩
  have h0 : k.min ≤ 0 ∧ 0 ≤ k.max := by cases k <;> decide
  have h1 := Int.natAbs_tmod m n
  have h2 := Nat.mod_le m.natAbs n.natAbs
  unfold H5 at *
  rcases Int.lt_or_le m 0 with h | h
  · have h3 := Int.tmod_nonneg n (by omega : 0 ≤ -m)
    rw [Int.neg_tmod] at h3
    omega
  · have h3 := Int.tmod_nonneg n h
    omega
end ops

end
section
open Go Go.RowKit

section ops
variable {P : Program} {G : FP} {N : List B1} {d : Nat} {ty : TypeId} {pos : String} {af : Array Edge} {gd : Option (Nat × Bool)}

def Fs (G : FP) (N : List B1) : List Operand → List VP → Prop
  | [], [] => True
  | x :: xs, V :: Vs => AM G N x V ∧ Fs G N xs Vs
  | _, _ => False
theorem Fs.eval {Φ : BR} {a : Act} {w : World} {f : List (List Nat)} (hG : G.p Φ) (hN : BT Φ a.tmps w N f) : ∀ {xs : List Operand} {Vs : List VP}, Fs G N xs Vs → Ew Φ Vs (xs.map a.eval)
  | [], [], _ => trivial
  | _ :: _, _ :: _, h => ⟨h.1 Φ a w f hG hN, Fs.eval hG hN h.2⟩
  | [], _ :: _, h => h.elim
  | _ :: _, [], h => h.elim
theorem BT.Jd {Φ : BR} {tmps : Array Value} {w : World} : ∀ {Rs : List RP} {fs : List (List Nat)}, BT Φ tmps w (Rs.map .res) fs → GH Φ w Rs fs
  | [], [], _ => trivial
  | _ :: _, _ :: _, h => ⟨h.1, BT.Jd h.2⟩
  | [], _ :: _, h => h.elim
  | _ :: _, [], h => h.elim
theorem BT.Kv {Φ : BR} {tmps : Array Value} {w : World} : ∀ {Rs : List RP} {fs : List (List Nat)}, GH Φ w Rs fs → BT Φ tmps w (Rs.map .res) fs
  | [], [], _ => trivial
  | _ :: _, _ :: _, h => ⟨h.1, BT.Kv h.2⟩
  | [], _ :: _, h => h.elim
  | _ :: _, [], h => h.elim

theorem HN {f : FuncId} {xs : List Operand} {tys : Array TypeId} {args : List VP} {pre : List RP} {post : Value → List RP} {res : VP} (hcall : ∀ args w, (callFunc f args).run P w = .ok (.enter f args) w)
    (hc : Az P G f args pre post res) (hx : Fs G N xs args) :
    Ba P G ⟨some d, .call ⟨.value (.func f), xs.toArray, tys⟩, ty, pos, af, gd⟩ N (pre.map .res) (fun v => .slot d res :: (post v).map .res) := by
  intro Φ a w fN fC h1 h2 h3 h4 h5 h6 h7 K Q hK
  have hargs := hx.eval h2 h3
  have hres := BT.Jd h4
  rw [List.nodup_append] at h5
  have hcl := hc Φ w _ fC h1 h2 hargs hres h5.2.1 (fun b hb => h6 b (by simp [hb]))
  have hrun : (execOp a.eval ⟨some d, .call ⟨.value (.func f), xs.toArray, tys⟩, ty, pos, af, gd⟩).run P w = .ok (.enter f (xs.map a.eval).toArray) w := by
    simp [execOp, resolve, Act.eval, Deferred.ofValue, invoke, hcall]
  unfold Oper.wp
  rw [hrun, Oper.upon_enter]
  refine hcl.mono fun e w' hq => ?_
  obtain ⟨v, Φ', fs', rfl, q1, q2, q3, q4, q5, q6⟩ := hq
  exact hK v w' Φ' ([] :: fs') q1 q2 ⟨⟨rfl, v, C0 a v d (h7 d rfl), q3⟩, BT.Kv q4⟩ (by simpa using q5) (by simpa using q6)

theorem JO {α : Type} {t e : TypeId} {n sz : Nat} {parts : Array (Nat × Operand)} {c : α → List Ck} {xs : List α} (h : ∀ (Φ : BR) (a : Act) (w : World) (f : List (List Nat)), Cv Φ w → G.p Φ → BT Φ a.tmps w N f →
      ∃ cs : List Value, (Instr.buildSlice t n (parts.map fun (i, x) => (i, a.eval x))).run P w = .ok (.slice (some ⟨w.heap.size, 0, none⟩) n n) (w.alloc (.cells cs.toArray e)) ∧ CS Φ c cs xs) (hn : xs.length = n) (hm : n ≤ CG) (_hsz : ∀ x, lens (c x) = sz) :
    Ba P G ⟨some d, .buildSlice t n parts, ty, pos, af, gd⟩ N [] (fun _ => [.slot d (An c xs)]) := by
  intro Φ a w fN fC h1 h2 h3 h4 h5 h6 h7 K Q hK
  obtain ⟨cs, hr, hA⟩ := h Φ a w fN h1 h2 h3
  match fC, h4 with
  | [], _ =>
    have hrun : (execOp a.eval ⟨some d, .buildSlice t n parts, ty, pos, af, gd⟩).run P w = .ok (.value (.slice (some ⟨w.heap.size, 0, none⟩) n n)) (w.alloc (.cells cs.toArray e)) := by
      simp only [execOp, Sem.run_bind, hr]
      rfl
    unfold Oper.wp
    rw [hrun, Oper.upon_value]
    let Φ' : BR := fun b o => if b = w.heap.size then cs[o]? else Φ b o
    have hle : BR.le Φ Φ' := fun b o v e => by
      have := h1.lt b o v e
      simp only [Φ', if_neg (by omega : ¬ b = w.heap.size)]
      exact e
    refine hK _ _ Φ' [[]] ⟨rfl, rfl, rfl, by simp, fun b hb _ => @Go.heap_alloc_old w _ b hb, hle, fun b hb _ => by funext o; simp only [Φ', if_neg (by omega : ¬ b = w.heap.size)]⟩ ⟨fun b o v e => ?_, fun b o v e => ?_⟩
      ⟨⟨rfl, _, C0 a _ d (h7 d rfl), by rw [hn]; exact hm, .inr (.inl ⟨w.heap.size, 0, n, cs, by rw [hn], by omega, hA.mono hle, fun j v hj => by simp only [Φ', if_pos trivial, Nat.zero_add]; exact hj⟩)⟩, trivial⟩ (by simp) (by simp)
    · by_cases hb : b = w.heap.size
      · simp [hb]
      · simp only [Φ', if_neg hb] at e
        have := h1.lt b o v e
        simp; omega
    · by_cases hb : b = w.heap.size
      · subst hb
        simp only [Φ', if_pos trivial] at e
        rw [World.cell?_alloc_new]
        simpa using e
      · simp only [Φ', if_neg hb] at e
        rw [World.cell?_alloc_lt _ _ _ (h1.lt b o v e)]
        exact h1.cell b o v e

def MB (v : Option Value) (dflt r : Nat) : Prop :=
  match v with
  | none => r = dflt
  | some u => ∃ k i, u = .int k i ∧ 0 ≤ i ∧ i.toNat = r
theorem FT {w : World} (isS : Bool) (len cap : Nat) {lo hi : Option Value} {a b : Nat} (hlo : MB lo 0 a) (hhi : MB hi len b) (hab : a ≤ b) (hb : b ≤ cap) :
    (Instr.sliceBounds isS len cap lo hi none).run P w = .ok (a, b, cap) w := by
  have sb : ∀ (k : IntKind) (i : Int) (y : Nat) (code : BoundsCode), 0 ≤ i → i.toNat ≤ y → (Instr.sliceBound (.int k i) y code).run P w = .ok i.toNat w := by
    intro k i y code h0 h1
    simp [Instr.sliceBound, asIntOf, show 0 ≤ i ∧ i ≤ (y : Int) by omega]
  unfold Instr.sliceBounds
  cases hi with
  | none =>
    have hhi : b = len := hhi
    subst hhi
    cases lo with
    | none =>
      have hlo : a = 0 := hlo
      subst hlo
      simp
    | some u =>
      obtain ⟨k, i, rfl, h0, rfl⟩ := hlo
      simp [sb k i b _ h0 hab]
  | some u' =>
    obtain ⟨k', i', rfl, h0', rfl⟩ := hhi
    cases lo with
    | none =>
      have hlo : a = 0 := hlo
      subst hlo
      cases isS <;> simp [sb k' i' cap _ h0' hb]
    | some u =>
      obtain ⟨k, i, rfl, h0, rfl⟩ := hlo
      cases isS <;> simp [sb k' i' cap _ h0' hb, sb k i i'.toNat _ h0 hab]

def LD (G : FP) (N : List B1) (x : Option Operand) (dflt : Nat) (i : Int) : Prop :=
  match x with
  | none => i = dflt
  | some y => ∃ k, AM G N y (Ab k i)
theorem LD.ok {Φ : BR} {a : Act} {w : World} {f : List (List Nat)} (hG : G.p Φ) (hN : BT Φ a.tmps w N f) {x : Option Operand} {dflt : Nat} {i : Int} (h : LD G N x dflt i) (h0 : 0 ≤ i) : MB (x.map a.eval) dflt i.toNat := by
  cases x with
  | none => have h : i = dflt := h; subst h; simp [MB]
  | some y =>
    obtain ⟨k, hk⟩ := h
    exact ⟨k, i, (hk Φ a w f hG hN).1, h0, rfl⟩

theorem E5 {t : TypeId} {x : Operand} {l : List UInt8} {lo hi : Option Operand} {a b : Int} (hu : P.underlying t = some .string) (hx : AM G N x (As l))
    (hlo : LD G N lo 0 a) (hhi : LD G N hi l.length b) (h : 0 ≤ a ∧ a ≤ b ∧ b ≤ l.length) :
    Ba P G ⟨some d, .slice t x lo hi none, ty, pos, af, gd⟩ N [] (fun _ => [.slot d (As ((l.take b.toNat).drop a.toNat))]) :=
  Ba.val fun Φ ac w f _ hG hN => by
    obtain ⟨hv, hl⟩ := hx Φ ac w f hG hN
    refine ⟨.string ⟨((l.take b.toNat).drop a.toNat).toArray⟩, ?_, rfl, by simp; omega⟩
    have hsb := FT (P := P) (w := w) false l.length l.length (hlo.ok hG hN h.1) (hhi.ok hG hN (by omega)) (by omega) (by omega)
    simp only [execOp, hv, Instr.sliceAt, Sem.run_bind, run_underlying hu, Result.andThen_ok, Instr.slice, Option.map_none, Option.isSome_none, Bool.false_eq_true, if_false, CW]
    simp [hsb, K1]
theorem FI {t : TypeId} {x y : Operand} {l : List UInt8} {k : IntKind} {i : Int} (hu : P.underlying t = some .string) (hx : AM G N x (As l)) (hy : AM G N y (Ab k i)) (h : 0 ≤ i ∧ i < l.length) :
    Ba P G ⟨some d, .index t x y, ty, pos, af, gd⟩ N [] (fun _ => [.slot d (Ab .u8 (l.getD i.toNat 0).toNat)]) :=
  Ba.val fun Φ ac w f _ hG hN => by
    obtain ⟨hv, hl⟩ := hx Φ ac w f hG hN
    obtain ⟨hy, _⟩ := hy Φ ac w f hG hN
    refine ⟨.int .u8 (l.getD i.toNat 0).toNat, ?_, rfl, KN _⟩
    have hg := OE l i.toNat (by omega)
    simp only [execOp, hv, hy, Instr.index, Sem.run_bind, asIntOf, Sem.run_pure, Result.andThen_ok, run_underlying hu, if_pos h.1, hg]

def Lg (p : Value) (k len cap : Nat) : VP := ⟨fun _ v => ∃ b, p = .pointer (some ⟨b, 0, none⟩) ∧ v = .slice (some ⟨b, k, none⟩) len cap, fun _ h => h⟩
theorem Eb {t e : TypeId} {x : Operand} {p : Value} {n k sz : Nat} {lo hi : Option Operand} {a b : Int} (hu : P.underlying t = some (.array n e)) (hs : ∀ w, (sizeOf e).run P w = .ok sz w) (hx : AM G N x (Au p k))
    (hlo : LD G N lo 0 a) (hhi : LD G N hi n b) (h : 0 ≤ a ∧ a ≤ b ∧ b ≤ n ∧ a < n) :
    Ba P G ⟨some d, .slice t x lo hi none, ty, pos, af, gd⟩ N [] (fun _ => [.slot d (Lg p (k + a.toNat * sz) (b.toNat - a.toNat) (n - a.toNat))]) :=
  Ba.val fun Φ ac w f _ hG hN => by
    obtain ⟨bb, hp, hv⟩ := hx Φ ac w f hG hN
    refine ⟨.slice (some ⟨bb, k + a.toNat * sz, none⟩) (b.toNat - a.toNat) (n - a.toNat), ?_, bb, hp, rfl⟩
    have hsb := FT (P := P) (w := w) false n n (hlo.ok hG hN h.1) (hhi.ok hG hN (by omega)) (by omega) (by omega)
    have hne : ¬ n = a.toNat := by omega
    simp [execOp, hv, Instr.sliceAt, run_underlying hu, Instr.sureAddr, hsb, hs, hne, Addr.add_lit]

theorem run_bytesToString {b k : Nat} {l : List UInt8} {cap : Nat} {w : World} (h : ∀ j v, (l.map B9)[j]? = some v → w.cell? ⟨b, k + j, none⟩ = some v) :
    (Conv.bytesToString (.slice (some ⟨b, k, none⟩) l.length cap)).run P w = .ok (.string ⟨l.toArray⟩) w := by
  have hc := run_loadCells_list (P := P) w ⟨b, k, none⟩ (l.map B9) (fun j v hj => by rw [Addr.add_lit]; exact h j v hj)
  rw [List.length_map] at hc
  have e1 : l.map B9 = (l.map fun x => (x.toNat : Int)).map (Value.int .u8) := by simp [B9, Function.comp_def]
  rw [e1] at hc
  rw [Go.run_bytesToString (P := P) w ⟨b, k, none⟩ l.length cap _ hc]
  have key : ∀ (l : List UInt8) (acc : ByteArray), (l.map fun x => (x.toNat : Int)).foldl (fun r n => r.push (UInt8.ofNat n.toNat)) acc = ⟨(acc.data.toList ++ l).toArray⟩ := by
    intro l
    induction l with
    | nil => intro acc; simp
    | cons x l ih => intro acc; simp only [List.map_cons, List.foldl_cons, ih]; simp [ByteArray.push]
  rw [key l ByteArray.empty]
  rfl

theorem FV {s t e : TypeId} {x : Operand} {p : Value} {T0 : TypeId} {k n m cap : Nat} {l : List UInt8} (pre post : List Ck) (j : Nat) (hs : P.underlying s = some (.slice e)) (he : P.underlying e = some (.int .u8)) (ht : P.underlying t = some .string)
    (hx : AM G N x (Lg p k m cap)) (hR : Br .none N j = .res (lb p T0 (pre ++ [Af n l] ++ post))) (hk : lens pre = k) (hm : m ≤ n) (hn : n ≤ CG) :
    Ba P G ⟨some d, .convert s t x, ty, pos, af, gd⟩ N [] (fun _ => [.slot d (As (l.take m))]) :=
  Ba.val fun Φ ac w f _ hG hN => by
    obtain ⟨b, hp, hv⟩ := hx Φ ac w f hG hN
    obtain ⟨g, b', cs, hp', _, hb, hL, _⟩ := hN.res j hR
    have : b' = b := by rw [hp] at hp'; simpa using hp'.symm
    subst this
    obtain ⟨xs, ys, zs, rfl, h1, h2, h3⟩ := EZ hL
    obtain ⟨y1, y2, rfl, ⟨hl, rfl⟩, h4⟩ := h2
    have h4 : y2 = [] := h4
    subst h4
    refine ⟨.string ⟨(l.take m).toArray⟩, ?_, rfl, by simp; omega⟩
    have hlen : (l.take m).length = m := by simp; omega
    have hr := run_bytesToString (P := P) (b := b') (k := k) (l := l.take m) (cap := cap) (w := w) (fun i v hi => by
      have hi' : i < m := by
        rcases Nat.lt_or_ge i (l.take m).length with q | q
        · omega
        · rw [List.getElem?_eq_none (by simpa using q)] at hi; cases hi
      rw [cell_of hb, ← hk, ← h1.len, List.append_assoc, List.getElem?_append_right (by omega), show xs.length + i - xs.length = i by omega, List.append_nil, List.getElem?_append_left (by simp; omega)]
      rw [List.map_take, List.getElem?_take_of_lt hi'] at hi
      exact hi)
    rw [hlen] at hr
    simp only [execOp, hv, Sem.run_bind, run_convert_bytes_string w s t e _ _ _ hs he ht, hr]
    rfl

end ops

end
section
open Go Go.RowKit

section eqs
variable {P : Program}
theorem Hn {e : TypeId} {sz : Nat} (he : P.underlying e = some (.int .u8)) (ha : ∀ w, (isAgg e).run P w = .ok false w) (dd : Nat) (w : World) (cs ds : List UInt8) (hl : cs.length = ds.length) (hsz : sz = 1) :
    ∀ (n k : Nat), k + n = cs.length → (Op.eqItems (dd + 1) e sz (cs.map B9).toArray (ds.map B9).toArray (List.range' k n)).run P w = .ok (decide (cs.drop k = ds.drop k)) w
  | 0, k, hk => by
    have h1 : cs.drop k = [] := List.drop_eq_nil_of_le (by omega)
    have h2 : ds.drop k = [] := List.drop_eq_nil_of_le (by omega)
    simp [Op.eqItems, h1, h2]
  | n + 1, k, hk => by
    have ih := Hn he ha dd w cs ds hl hsz n (k + 1) (by omega)
    have hc : cs.drop k = cs[k] :: cs.drop (k + 1) := by simp
    have hd : ds.drop k = ds[k] :: ds.drop (k + 1) := by simp
    have pc : ∀ (l : List UInt8) (h : k < l.length), (part e (l.map B9).toArray (k * sz)).run P w = .ok (B9 l[k]) w := by
      intro l h
      subst hsz
      simp [part, ha, h]
    simp only [List.range'_succ, Op.eqItems, Sem.run_bind, pc cs (by omega), pc ds (by omega), Result.andThen_ok, B9, run_equalIn_int w dd e _ _ _ _ he]
    rw [hc, hd]
    by_cases hh : cs[k] = ds[k]
    · simp only [hh, beq_self_eq_true, Bool.not_true, Bool.false_eq_true, if_false, ih, List.cons.injEq, true_and]
    · have : ((cs[k].toNat : Int) == (ds[k].toNat : Int)) = false := by
        simp only [beq_eq_false_iff_ne, ne_eq]
        intro e1
        exact hh (UInt8.toNat_inj.1 (by omega))
      simp only [this, Bool.not_false, if_true, Sem.run_pure, List.cons.injEq, hh, false_and, decide_false]
theorem Gy {t e : TypeId} {n : Nat} {i : TypeInfo} {l m : List UInt8} (hu : P.underlying t = some (.array n e)) (he : P.underlying e = some (.int .u8)) (hi : P.info? e = some i) (hs : ∀ w, (sizeOf e).run P w = .ok 1 w)
    (ha : ∀ w, (isAgg e).run P w = .ok false w) (hl : l.length = n) (hm : m.length = n) (dd : Nat) (w : World) :
    (Op.equalIn (dd + 2) t (.agg (l.map B9).toArray) (.agg (m.map B9).toArray)).run P w = .ok (decide (l = m)) w := by
  have hsz : P.cellsOf e = 1 := by
    have h1 := hs w
    rw [run_sizeOf w hi] at h1
    simpa using h1
  rw [run_equalIn_array w (dd + 1) _ _ hu hi, List.range_eq_range']
  have := Hn (P := P) he ha dd w l m (by omega) hsz n 0 (by omega)
  simpa using this
theorem Lx {t e : TypeId} {n : Nat} {i : TypeInfo} {l m : List UInt8} (hu : P.underlying t = some (.array n e)) (he : P.underlying e = some (.int .u8)) (hi : P.info? e = some i) (hs : ∀ w, (sizeOf e).run P w = .ok 1 w)
    (ha : ∀ w, (isAgg e).run P w = .ok false w) (hg : P.eqGuardType P.depth t = false) : II P .eql t (AG [Af n l]) (AG [Af n m]) (AE (decide (l = m))) := by
  rintro Φ u v w x y ⟨cs, rfl, a1, b1, rfl, ⟨hl, rfl⟩, hb1⟩ ⟨ds, rfl, a2, b2, rfl, ⟨hm, rfl⟩, hb2⟩
  have hb1 : b1 = [] := hb1
  have hb2 : b2 = [] := hb2
  subst hb1; subst hb2
  refine ⟨.bool (decide (l = m)), ?_, rfl⟩
  simp only [List.append_nil, Sem.run_bind, run_eqGuard_agg w .eql t x y _ _ hg, Result.andThen_ok, run_eql_struct w, Gy hu he hi hs ha hl hm 9998 w]
theorem Lw {t e : TypeId} {n : Nat} {i : TypeInfo} {l m : List UInt8} (hu : P.underlying t = some (.array n e)) (he : P.underlying e = some (.int .u8)) (hi : P.info? e = some i) (hs : ∀ w, (sizeOf e).run P w = .ok 1 w)
    (ha : ∀ w, (isAgg e).run P w = .ok false w) (hg : P.eqGuardType P.depth t = false) : II P .neq t (AG [Af n l]) (AG [Af n m]) (AE (!decide (l = m))) := by
  rintro Φ u v w x y ⟨cs, rfl, a1, b1, rfl, ⟨hl, rfl⟩, hb1⟩ ⟨ds, rfl, a2, b2, rfl, ⟨hm, rfl⟩, hb2⟩
  have hb1 : b1 = [] := hb1
  have hb2 : b2 = [] := hb2
  subst hb1; subst hb2
  refine ⟨.bool (!decide (l = m)), ?_, rfl⟩
  simp only [List.append_nil, Sem.run_bind, run_eqGuard_agg w .neq t x y _ _ hg, Result.andThen_ok, run_neq_struct w, Gy hu he hi hs ha hl hm 9998 w]
end eqs

section ops
variable {P : Program} {G : FP} {N : List B1} {d : Nat} {ty : TypeId} {pos : String} {af : Array Edge} {gd : Option (Nat × Bool)}

theorem KB {pre post : List Ck} {ck : Ck} {Φ : BR} {cs : List Value} (h : B0 Φ cs (pre ++ [ck] ++ post)) : ∃ xs ys zs, cs = xs ++ ys ++ zs ∧ xs.length = lens pre ∧ ck.rel Φ ys ∧ B0 Φ xs pre ∧ B0 Φ zs post := by
  obtain ⟨xs, ys, zs, rfl, h1, h2, h3⟩ := EZ h
  obtain ⟨y1, y2, rfl, hr, h4⟩ := h2
  have h4 : y2 = [] := h4
  subst h4
  exact ⟨xs, y1, zs, by simp, h1.len, hr, h1, h3⟩
theorem Mr {xs ys zs : List Value} {i : Nat} (h : i < ys.length) : (xs ++ ys ++ zs)[xs.length + i]? = ys[i]? := by
  rw [List.append_assoc, List.getElem?_append_right (by omega), show xs.length + i - xs.length = i by omega, List.getElem?_append_left h]

theorem AX {T T0 : TypeId} {x : Operand} {p : Value} {k n : Nat} {kk : IntKind} {l : List Int} {i : Int} (pre post : List Ck) (j : Nat) (ha : ∀ w, (isAgg T).run P w = .ok false w)
    (hx : AM G N x (Au p k)) (he : Br .none N j = .res (lb p T0 (pre ++ [AI kk n l] ++ post))) (hk : k = lens pre + i.toNat * 1) (hi : 0 ≤ i ∧ i < n) :
    Ba P G ⟨some d, .load T x, ty, pos, af, gd⟩ N [] (fun _ => [.slot d (Ab kk (l.getD i.toNat 0))]) :=
  Ba.val fun Φ a w f _ hG hN => by
    obtain ⟨b, hp, hv⟩ := hx Φ a w f hG hN
    obtain ⟨g, b', cs, hp', _, hb, hL, _⟩ := hN.res j he
    have : b' = b := by rw [hp] at hp'; simpa using hp'.symm
    subst this
    obtain ⟨xs, ys, zs, rfl, h1, ⟨hl, rfl, hin⟩, _, _⟩ := KB hL
    have hit : i.toNat < l.length := by omega
    refine ⟨.int kk (l.getD i.toNat 0), ?_, rfl, hin _ (by simp [List.getD, hit])⟩
    simp only [execOp, hv]
    rw [Sem.run_bind, E1 ha (v := .int kk (l.getD i.toNat 0)) (by
      rw [cell_of hb, hk, ← h1, Nat.mul_one, Mr (by simpa using hit)]
      simp [hit, List.getD])]
    rfl
theorem Ig {t e : TypeId} {x y : Operand} {kk ki : IntKind} {l : List Int} {n : Nat} {i : Int} {post : List Ck} (hu : P.underlying t = some (.array n e)) (hs : ∀ w, (sizeOf e).run P w = .ok 1 w)
    (hx : AM G N x (FB (AI kk n l :: post))) (hy : AM G N y (Ab ki i)) (hi : 0 ≤ i ∧ i < n) : Ba P G ⟨some d, .indexAddr t x y, ty, pos, af, gd⟩ N [] (fun _ => [.slot d (FB [one (Ab kk (l.getD i.toNat 0))])]) :=
  Ba.val fun Φ a w f _ hG hN => by
    obtain ⟨hy1, _⟩ := hy Φ a w f hG hN
    obtain ⟨b, o, cs, hv, ⟨ys, zs, rfl, ⟨hl, rfl, hin⟩, h2⟩, hp⟩ := hx Φ a w f hG hN
    have hit : i.toNat < l.length := by omega
    refine ⟨.pointer (some ⟨b, o + i.toNat * 1, none⟩), ?_, b, o + i.toNat * 1, [.int kk (l.getD i.toNat 0)], rfl, ⟨[_], [], rfl, ⟨_, rfl, rfl, rfl, hin _ (by simp [List.getD, hit])⟩, rfl⟩, fun j v hj => ?_⟩
    · simp only [execOp, hv, hy1]
      simp [Instr.indexAt, run_underlying hu, asIntOf, Instr.sureAddr, hi, hs, Addr.add_lit]
    · cases j with
      | zero =>
        simp at hj
        subst hj
        have := hp (i.toNat) (.int kk (l.getD i.toNat 0)) (by rw [List.getElem?_append_left (by simpa using hit)]; simp [List.getD, hit])
        simpa using this
      | succ j => simp at hj
theorem EU {α : Type} [Inhabited α] {T T0 : TypeId} {x : Operand} {p : Value} {k n sz : Nat} {c : α → List Ck} {hsz : ∀ x, lens (c x) = sz} {l : List α} {i : Int} (pre post : List Ck) (j : Nat) (ha : ∀ w, (isAgg T).run P w = .ok true w) (hs : ∀ w, (sizeOf T).run P w = .ok sz w)
    (hx : AM G N x (Au p k)) (he : Br .none N j = .res (lb p T0 (pre ++ [Ee n sz c hsz l] ++ post))) (hk : k = lens pre + i.toNat * sz) (hi : 0 ≤ i ∧ i < n) :
    Ba P G ⟨some d, .load T x, ty, pos, af, gd⟩ N [] (fun _ => [.slot d (AG (c (l.getD i.toNat default)))]) :=
  Ba.val fun Φ a w f _ hG hN => by
    obtain ⟨b, hp, hv⟩ := hx Φ a w f hG hN
    obtain ⟨g, b', cs, hp', _, hb, hL, _⟩ := hN.res j he
    have : b' = b := by rw [hp] at hp'; simpa using hp'.symm
    subst this
    obtain ⟨xs, ys, zs, rfl, h1, ⟨hl, hA⟩, _, _⟩ := KB hL
    have hit : i.toNat < l.length := by omega
    obtain ⟨us, vs, ws, rfl, q1, q2, _⟩ := hA.at hsz i.toNat hit
    have e1 : l.getD i.toNat default = l[i.toNat] := by simp [List.getD, hit]
    refine ⟨.agg vs.toArray, ?_, vs, rfl, by rw [e1]; exact q2⟩
    simp only [execOp, hv]
    rw [Sem.run_bind, EA (cs := vs) ha hs (by rw [q2.len, hsz]) (fun r v hr => by
      have hr' : r < vs.length := by
        rcases Nat.lt_or_ge r vs.length with q | q
        · exact q
        · rw [List.getElem?_eq_none q] at hr; cases hr
      rw [cell_of hb, hk, ← h1, ← q1, Nat.add_assoc, Mr (by simp; omega), List.append_assoc, List.getElem?_append_right (by omega), show us.length + r - us.length = r by omega, List.getElem?_append_left hr']
      exact hr)]
    rfl

theorem HG {α : Type _} (l : List α) (i : Nat) (v : α) (h : i < l.length) : l.set i v = l.take i ++ v :: l.drop (i + 1) := by
  rw [List.set_eq_take_append_cons_drop, if_pos h]

theorem Hr {T T0 : TypeId} {x y : Operand} {p : Value} {k n : Nat} {V : VP} (pre post : List Ck) (ck ck' : Ck) (off : Nat) (hs : ∀ w, (sizeOf T).run P w = .ok n w)
    (hx : AM G N x (Au p k)) (hy : AM G N y V) (hk : k = lens pre + off)
    (hv : ∀ Φ cs v, ck.rel Φ cs → V.p Φ v → v.cells.size = n ∧ (∀ u ∈ v.cells.toList, u.oneCell' = true) ∧ off + n ≤ cs.length ∧ ck'.rel Φ (cs.take off ++ v.cells.toList ++ cs.drop (off + n))) :
    Ba P G ⟨none, .store T x y, ty, pos, af, gd⟩ N [.res (lb p T0 (pre ++ [ck] ++ post))] (fun _ => [.res (lb p T0 (pre ++ [ck'] ++ post))]) := by
  intro Φ a w fN fC h1 h2 h3 h4 h5 h6 h7 K Q hK
  match fC, h4 with
  | [f], ⟨⟨b, cs, hp, hf, hb, hL, hn⟩, _⟩ =>
    subst hf
    obtain ⟨b', hp', hv'⟩ := hx Φ a w fN h2 h3
    have : b' = b := by rw [hp] at hp'; simpa using hp'.symm
    subst this
    obtain ⟨xs, ys, zs, rfl, q1, q2, q3, q4⟩ := KB hL
    obtain ⟨s1, s2, s3, s4⟩ := hv Φ ys _ q2 (hy Φ a w fN h2 h3)
    have hlen : (a.eval y).cells.toList.length = n := by simpa using s1
    obtain ⟨w', r1, r2, r3, r4, r5, r6, r7⟩ := E0 (P := P) (b := b') (k := k) (a.eval y).cells.toList 0 w (xs ++ ys ++ zs) hb (by
      simp only [List.length_append] at *; omega) s2
    have hblk : w'.heap[b']? = some (.cells (xs ++ (ys.take off ++ (a.eval y).cells.toList ++ ys.drop (off + n)) ++ zs).toArray T0 (0, 0)) := by
      rw [r2]
      congr 3
      have e1 : (xs ++ ys ++ zs).take (k + 0) = xs ++ ys.take off := by
        rw [Nat.add_zero, hk, ← q1, List.append_assoc, List.take_length_add_append, List.take_append_of_le_length (by omega)]
      have e2 : (xs ++ ys ++ zs).drop (k + 0 + (a.eval y).cells.toList.length) = ys.drop (off + n) ++ zs := by
        rw [Nat.add_zero, hk, ← q1, hlen, Nat.add_assoc, List.append_assoc, List.drop_length_add_append, List.drop_append_of_le_length (by omega)]
      rw [e1, e2]
      simp
    have hrun : (execOp a.eval ⟨none, .store T x y, ty, pos, af, gd⟩).run P w = .ok .skip w' := by
      have hsz : ¬ (a.eval y).cells.size ≠ n := by simp [s1]
      simp only [execOp, hv', Instr.storeAt, Instr.sureAddr, storeVar, Sem.run_bind, Sem.run_pure, Result.andThen_ok, hs]
      simp only [if_neg hsz]
      simp [r1]
    unfold Oper.wp
    rw [hrun, Oper.upon_skip]
    refine hK undef w' Φ [[b']] ⟨r5, r6, r7, Nat.le_of_eq r4.symm, fun c hc' hne => r3 c (fun e => hne (by simp [e])), BR.le_refl _, fun _ _ _ => rfl⟩
      ⟨fun c o v e => by rw [r4]; exact h1.lt c o v e, fun c o v e => ?_⟩ ⟨⟨b', _, hp, rfl, hblk, (q3.append (M := [ck']) ⟨_, [], (List.append_nil _).symm, s4, rfl⟩).append q4, hn⟩, trivial⟩ (by simp) (fun c hc' => ?_)
    · have hne : c ≠ b' := fun e' => by rw [e', hn o] at e; cases e
      exact (World.cell?_of_block (w := w) (r3 c hne)).trans (h1.cell c o v e)
    · simp at hc'
      subst hc'
      have := h6 c (by simp)
      exact ⟨by rw [r4]; exact this, .inl (by simp)⟩
theorem Eg {T T0 : TypeId} {x y : Operand} {p : Value} {k n : Nat} {kk : IntKind} {l : List Int} {i m : Int} (pre post : List Ck) (hs : ∀ w, (sizeOf T).run P w = .ok 1 w)
    (hx : AM G N x (Au p k)) (hy : AM G N y (Ab kk m)) (hk : k = lens pre + i.toNat * 1) (hi : 0 ≤ i ∧ i < n) :
    Ba P G ⟨none, .store T x y, ty, pos, af, gd⟩ N [.res (lb p T0 (pre ++ [AI kk n l] ++ post))] (fun _ => [.res (lb p T0 (pre ++ [AI kk n (l.set i.toNat m)] ++ post))]) :=
  Hr pre post _ _ (i.toNat * 1) hs hx hy hk (by
    rintro Φ cs v ⟨hl, rfl, hin⟩ ⟨rfl, hm⟩
    have hit : i.toNat < l.length := by omega
    refine ⟨rfl, by simp [Value.cells, Value.oneCell'], by rw [List.length_map]; omega, by simpa using hl, ?_, fun z hz => ?_⟩
    · rw [HG _ _ _ hit]
      simp [Value.cells]
    · rcases List.mem_or_eq_of_mem_set hz with h | h
      · exact hin z h
      · rw [h]; exact hm)
def BA (m : Int) : UInt8 := UInt8.ofNat m.toNat
theorem L5 {m : Int} (h : H5 .u8 m) : B9 (BA m) = .int .u8 m := by
  simp only [H5, IntKind.min, IntKind.max, IntKind.bits, IntKind.signed] at h
  simp at h
  unfold B9 BA
  congr 1
  have h1 : m.toNat < 256 := by omega
  have h2 : (UInt8.ofNat m.toNat).toNat = m.toNat := by simp; omega
  omega
theorem E4 {T T0 : TypeId} {x y : Operand} {p : Value} {k n : Nat} {l : List UInt8} {i m : Int} (pre post : List Ck) (hs : ∀ w, (sizeOf T).run P w = .ok 1 w)
    (hx : AM G N x (Au p k)) (hy : AM G N y (Ab .u8 m)) (hk : k = lens pre + i.toNat * 1) (hi : 0 ≤ i ∧ i < n) :
    Ba P G ⟨none, .store T x y, ty, pos, af, gd⟩ N [.res (lb p T0 (pre ++ [Af n l] ++ post))] (fun _ => [.res (lb p T0 (pre ++ [Af n (l.set i.toNat (BA m))] ++ post))]) :=
  Hr pre post _ _ (i.toNat * 1) hs hx hy hk (by
    rintro Φ cs v ⟨hl, rfl⟩ ⟨rfl, hm⟩
    have hit : i.toNat < l.length := by omega
    refine ⟨rfl, by simp [Value.cells, Value.oneCell'], by rw [List.length_map]; omega, by simpa using hl, ?_⟩
    rw [HG _ _ _ hit]
    simp [Value.cells, L5 hm])
theorem Ks {α : Type} {T T0 : TypeId} {x y : Operand} {p : Value} {k n sz : Nat} {c : α → List Ck} {hsz : ∀ x, lens (c x) = sz} {l : List α} {i : Int} {z : α} (pre post : List Ck) (hs : ∀ w, (sizeOf T).run P w = .ok sz w)
    (hx : AM G N x (Au p k)) (hy : AM G N y (AG (c z))) (hk : k = lens pre + i.toNat * sz) (hi : 0 ≤ i ∧ i < n) :
    Ba P G ⟨none, .store T x y, ty, pos, af, gd⟩ N [.res (lb p T0 (pre ++ [Ee n sz c hsz l] ++ post))] (fun _ => [.res (lb p T0 (pre ++ [Ee n sz c hsz (l.set i.toNat z)] ++ post))]) :=
  Hr pre post _ _ (i.toNat * sz) hs hx hy hk (by
    rintro Φ cs v ⟨hl, hA⟩ ⟨vs, rfl, hv⟩
    have hit : i.toNat < l.length := by omega
    obtain ⟨us, ms, ws, rfl, q1, q2, q3, q4⟩ := hA.at hsz i.toNat hit
    have hvl : vs.length = sz := by rw [hv.len, hsz]
    have hml : ms.length = sz := by rw [q2.len, hsz]
    refine ⟨by simp [Value.cells, hvl], by simpa [Value.cells] using hv.cell, by simp; omega, by simpa using hl, ?_⟩
    have e1 : (us ++ ms ++ ws).take (i.toNat * sz) = us := by rw [← q1, List.append_assoc, List.take_left]
    have e2 : (us ++ ms ++ ws).drop (i.toNat * sz + sz) = ws := by rw [← q1, show us.length + sz = (us ++ ms).length by simp [hml], List.drop_left]
    rw [e1, e2, HG _ _ _ hit]
    simp only [Value.cells, List.append_assoc]
    exact CS.append q3 ⟨vs, ws, rfl, hv, q4⟩)

theorem JM {t e : TypeId} {x y : Operand} {kk ki : IntKind} {l : List Int} {n : Nat} {i : Int} (hu : P.underlying t = some (.array n e)) (hs : ∀ w, (sizeOf e).run P w = .ok 1 w) (ha : ∀ w, (isAgg e).run P w = .ok false w)
    (hx : AM G N x (AG [AI kk n l])) (hy : AM G N y (Ab ki i)) (hi : 0 ≤ i ∧ i < n) : Ba P G ⟨some d, .index t x y, ty, pos, af, gd⟩ N [] (fun _ => [.slot d (Ab kk (l.getD i.toNat 0))]) :=
  Ba.val fun Φ a w f _ hG hN => by
    obtain ⟨hy1, _⟩ := hy Φ a w f hG hN
    obtain ⟨cs, hv, ys, zs, rfl, ⟨hl, rfl, hin⟩, hz⟩ := hx Φ a w f hG hN
    have hz : zs = [] := hz
    subst hz
    have hit : i.toNat < l.length := by omega
    refine ⟨.int kk (l.getD i.toNat 0), ?_, rfl, hin _ (by simp [List.getD, hit])⟩
    simp only [execOp, hv, hy1]
    simp [Instr.index, asIntOf, run_underlying hu, hi, hs, part, ha, hit]
def Rw (p : Value) (nn : Bool) : Prop := if nn then ∃ a, p = .pointer (some a) else p = .pointer none
def J0 (p : Value) (nn : Bool) : VP := ⟨fun _ v => v = p ∧ Rw p nn, fun _ h => h⟩
theorem Gt {t e : TypeId} {p : Value} {nn : Bool} (hu : P.underlying t = some (.pointer e)) : II P .eql t (J0 p nn) (Am (.pointer none)) (AE (!nn)) := by
  rintro Φ u v w x y ⟨rfl, hp⟩ hv
  have hv : v = .pointer none := hv
  subst hv
  refine ⟨.bool (!nn), ?_, rfl⟩
  have hu' : P.underlying t = some (.pointer (P.pointee t)) := by rw [hu]; simp [Program.pointee, hu]
  cases nn with
  | true => obtain ⟨q, rfl⟩ := hp; simp [eqGuard_at_pointer, run_eql_pointer_nil w t (some q) hu']
  | false =>
    have hp : u = .pointer none := hp
    subst hp
    simp [eqGuard_at_pointer, run_eql_pointer_nil w t none hu']
end ops

end
section
open Go Go.RowKit

section rets
variable {P : Program} {c : Cx} {l : List B1} {a : Act} {w : World}

def ML (tmps : Array Value) : ResultVar → Sem Value
  | .tmp t => pure (tmps.getD t undef)
  | .cell x t => do loadVar t (← asAddr (tmps.getD x undef))
theorem Gz (fn : Func) (tmps : Array Value) : results fn tmps = (fn.results.mapM (ML tmps) >>= fun vs => pure (if h : vs.size = 1 then vs[0] else .tuple vs)) := rfl
def Qu (P : Program) (c : Cx) (l : List B1) (r : ResultVar) (V : VP) : Prop := ∀ (a : Act) (w : World) (Φ : BR) (fp : Nat → List Nat), LA c (Br .none l) (fun i => i < l.length) a w Φ fp →
  ∃ v, (ML a.tmps r).run P w = .ok v w ∧ V.p Φ v
theorem Bc {t : Nat} {V : VP} (i : Nat) (he : Br .none l i = .slot t V) : Qu P c l (.tmp t) V := by
  intro a w Φ fp h
  have hi := Dv he (by simp)
  have := h.holds i hi
  rw [he] at this
  obtain ⟨_, v, hv, hV⟩ := this
  exact ⟨v, by simp [ML, hv], hV⟩
theorem Bs {t : Nat} {T T0 : TypeId} {q : Value} {L : List Ck} {n : Nat} (i j : Nat) (he : Br .none l i = .slot t (Au q 0)) (hf : Br .none l j = .res (lb q T0 L))
    (ha : ∀ w, (isAgg T).run P w = .ok true w) (hs : ∀ w, (sizeOf T).run P w = .ok n w) (hn : lens L = n) : Qu P c l (.cell t T) (AG L) := by
  intro a w Φ fp h
  have hi := Dv he (by simp)
  have hj := Dv hf (by simp)
  have h1 := h.holds i hi
  rw [he] at h1
  obtain ⟨_, v, hv, b, hq, hvp⟩ := h1
  have h2 := h.holds j hj
  rw [hf] at h2
  obtain ⟨b', cs, hq', _, hb, hL, _⟩ := h2
  have : b' = b := by rw [hq] at hq'; simpa using hq'.symm
  subst this
  refine ⟨.agg cs.toArray, ?_, cs, rfl, hL⟩
  have hr := EA (P := P) (w := w) (b := b') (k := 0) (cs := cs) ha hs (by rw [hL.len, hn]) (fun i v hi => by rw [cell_of hb, Nat.zero_add]; exact hi)
  simp only [Instr.loadAt, Instr.sureAddr, Sem.run_bind, Sem.run_pure, Result.andThen_ok] at hr
  simp [ML, hv, hvp, asAddr, hr]
def Om (P : Program) (c : Cx) (l : List B1) : List ResultVar → List VP → Prop
  | [], [] => True
  | r :: rs, V :: Vs => Qu P c l r V ∧ Om P c l rs Vs
  | _, _ => False

theorem Nz {Φ : BR} {fp : Nat → List Nat} (h : LA c (Br .none l) (fun i => i < l.length) a w Φ fp) : ∀ {rs : List ResultVar} {Vs : List VP}, Om P c l rs Vs →
    ∃ vs : List Value, (rs.mapM (ML a.tmps)).run P w = .ok vs w ∧ Ew Φ Vs vs
  | [], [], _ => ⟨[], rfl, trivial⟩
  | r :: rs, V :: Vs, hr => by
    obtain ⟨v, h1, h2⟩ := hr.1 a w Φ fp h
    obtain ⟨vs, h3, h4⟩ := Nz h hr.2
    refine ⟨v :: vs, ?_, h2, h4⟩
    simp only [List.mapM_cons, Sem.run_bind, h1, Result.andThen_ok, h3]
    rfl
  | [], _ :: _, h => h.elim
  | _ :: _, [], h => h.elim

theorem LA.P4 {Φ : BR} {fp : Nat → List Nat} (h : LA c (Br .none l) (fun i => i < l.length) a w Φ fp) (js : List Nat) (hd : distinct js = true) (hlt : ∀ j ∈ js, j < l.length) (Rs : List RP) (hR : Rs.map .res = js.map (Br .none l)) :
    ∃ fs, GH Φ w Rs fs ∧ fs.flatten.Nodup ∧ ∀ b ∈ fs.flatten, b < w.heap.size ∧ (b ∈ c.F0 ∨ c.w0.heap.size ≤ b) := by
  have hnd := D5 hd
  refine ⟨js.map fp, ?_, Fj hnd (fun r hr => (h.own r (hlt r hr)).1) (fun r hr s hs hne => h.apart r s (hlt r hr) (hlt s hs) hne), fun b hb => ?_⟩
  · have h1 : BT Φ a.tmps w (js.map (Br .none l)) (js.map fp) := BT.of_map _ _ _ fun r hr => h.holds r (hlt r hr)
    rw [← hR] at h1
    exact h1.Jd
  · obtain ⟨s, hs, hbs⟩ := List.mem_flatten.1 hb
    obtain ⟨r, hr, rfl⟩ := List.mem_map.1 hs
    exact (h.own r (hlt r hr)).2 b hbs

theorem BG {fn : Func} {r : ResultVar} {V : VP} (h : Ar c l a w) (hr : fn.results = #[r]) (hV : Qu P c l r V) (js : List Nat) (Rs : List RP) (hd : distinct js = true) (hlt : (js.all fun j => decide (j < l.length)) = true) (hR : Rs.map .res = js.map (Br .none l)) :
    CO P fn c V (fun _ => Rs) a w := by
  obtain ⟨Φ, fp, h⟩ := h
  obtain ⟨v, h1, h2⟩ := hV a w Φ fp h
  obtain ⟨fs, q1, q2, q3⟩ := h.P4 js hd (fun j hj => by simpa using (List.all_eq_true.1 hlt) j hj) Rs hR
  refine ⟨h.defers, v, Φ, fs, ?_, h.step, h.I0, h2, q1, q2, q3⟩
  rw [Gz, hr]
  simp [h1]
theorem Es {fn : Func} {rs : List ResultVar} {Vs : List VP} (h : Ar c l a w) (hr : fn.results = rs.toArray) (hn : rs.length ≠ 1) (hV : Om P c l rs Vs) (js : List Nat) (Rs : List RP) (hd : distinct js = true) (hlt : (js.all fun j => decide (j < l.length)) = true) (hR : Rs.map .res = js.map (Br .none l)) :
    CO P fn c (CV Vs) (fun _ => Rs) a w := by
  obtain ⟨Φ, fp, h⟩ := h
  obtain ⟨vs, h1, h2⟩ := Nz h hV
  obtain ⟨fs, q1, q2, q3⟩ := h.P4 js hd (fun j hj => by simpa using (List.all_eq_true.1 hlt) j hj) Rs hR
  have hlen : vs.length = rs.length := by
    have e1 := h2.length
    have e2 : ∀ {rs : List ResultVar} {Vs : List VP}, Om P c l rs Vs → rs.length = Vs.length := by
      intro rs
      induction rs with
      | nil => intro Vs h; cases Vs <;> simp_all [Om]
      | cons r rs ih => intro Vs h; cases Vs with
                                    | nil => exact h.elim
                                    | cons V Vs => simp [ih h.2]
    rw [e1, e2 hV]
  refine ⟨h.defers, .tuple vs.toArray, Φ, fs, ?_, h.step, h.I0, ⟨vs, rfl, h2⟩, q1, q2, q3⟩
  rw [Gz, hr]
  simp only [List.mapM_toArray, Sem.run_bind, Sem.run_map, h1, Result.andThen_ok]
  rw [dif_neg (by simp [hlen, hn])]
  rfl
end rets

def acc {α : Type} (v : Value) (T : TypeId) (sz : Nat) (c : α → List Ck) (xs : List α) : RP := ⟨fun Φ f w => xs.length ≤ CG ∧ ((v = .slice none 0 0 ∧ xs = [] ∧ f = []) ∨
    ∃ b cap cs zs, v = .slice (some ⟨b, 0, none⟩) xs.length cap ∧ f = [b] ∧ w.heap[b]? = some (.cells (cs ++ zs).toArray T (0, 0)) ∧ CS Φ c cs xs ∧ (cs ++ zs).length = cap * sz ∧ xs.length ≤ cap ∧ EE Φ b 0 cs ∧ ∀ o, cs.length ≤ o → Φ b o = none), by
  rintro Φ Φ' f w w' hle hs hb ⟨hm, ⟨h1, h2, h3⟩ | ⟨b, cap, cs, zs, h1, h2, h3, h4, h5, h6, h7, h8⟩⟩
  · exact ⟨hm, .inl ⟨h1, h2, h3⟩⟩
  · refine ⟨hm, .inr ⟨b, cap, cs, zs, h1, h2, ?_, h4.mono hle, h5, h6, h7.mono hle, fun o ho => ?_⟩⟩
    · rw [hb b (by simp [h2])]; exact h3
    · rw [hs b (by simp [h2])]; exact h8 o ho⟩

theorem Hj (z : Array Value) (n : Nat) : (Builtin.zeroCells z n).toList.length = n * z.size := by simp [Builtin.zeroCells]

section ops
variable {P : Program} {G : FP} {N : List B1} {d : Nat} {ty : TypeId} {pos : String} {af : Array Edge} {gd : Option (Nat × Bool)}

theorem Iu {α : Type} {v : Value} {T : TypeId} {sz : Nat} {c : α → List Ck} {xs : List α} {Φ : BR} {f : List Nat} {w : World} (h : (acc v T sz c xs).p Φ f w) : (An c xs).p Φ v := by
  obtain ⟨hm, ⟨h1, h2, _⟩ | ⟨b, cap, cs, zs, h1, _, _, h4, _, h6, h7, _⟩⟩ := h
  · exact ⟨hm, .inl ⟨h1, h2⟩⟩
  · exact ⟨hm, .inr (.inl ⟨b, 0, cap, cs, h1, h6, h4, h7⟩)⟩
theorem NO {α : Type} {v : Value} {T : TypeId} {sz : Nat} {c : α → List Ck} {xs : List α} {t : Nat} (i j : Nat) (he : Br .none N i = .slot t (Am v)) (hf : Br .none N j = .res (acc v T sz c xs)) : AM G N (.tmp t) (An c xs) := by
  intro Φ a w f _ hN
  have hi := Dv he (by simp)
  obtain ⟨g, hg, _⟩ := hN.nth i hi
  rw [he] at hg
  obtain ⟨_, u, hu, hV⟩ := hg
  have hV : u = v := hV
  subst hV
  obtain ⟨g', hr⟩ := hN.res j hf
  have := Iu hr
  simpa [Act.eval, hu] using this
end ops

theorem NG {P : Program} {c : Cx} {l : List B1} {α : Type} {v : Value} {T : TypeId} {sz : Nat} {ck : α → List Ck} {xs : List α} {t : Nat} (i j : Nat) (he : Br .none l i = .slot t (Am v)) (hf : Br .none l j = .res (acc v T sz ck xs)) :
    Qu P c l (.tmp t) (An ck xs) := by
  intro a w Φ fp h
  have hi := Dv he (by simp)
  have hj := Dv hf (by simp)
  have h1 := h.holds i hi
  rw [he] at h1
  obtain ⟨_, u, hu, hV⟩ := h1
  have hV : u = v := hV
  subst hV
  have h2 := h.holds j hj
  rw [hf] at h2
  exact ⟨u, by simp [ML, hu], Iu h2⟩

theorem Ar.Ij {c : Cx} {l : List B1} {a : Act} {w : World} {α : Type} (T : TypeId) (sz : Nat) (ck : α → List Ck) (h : Ar c l a w) : Ar c (l ++ [.res (acc (.slice none 0 0) T sz ck ([] : List α))]) a w := by
  obtain ⟨Φ, fp, h⟩ := h
  have hx : ∀ i, i < l.length → Br B1.none (l ++ [.res (acc (.slice none 0 0) T sz ck ([] : List α))]) i = Br .none l i := fun i hi => by rw [B8, if_pos hi]
  refine ⟨Φ, fun i => if i < l.length then fp i else [], h.defers, h.size, h.I0, h.G3, h.step, fun i hi => ?_, fun i hi => ?_, fun i j hi hj hne => ?_⟩
  · by_cases hlt : i < l.length
    · rw [hx i hlt]; simp only [if_pos hlt]; exact h.holds i hlt
    · have : i = l.length := by simp at hi; omega
      subst this
      rw [B8, if_neg hlt]
      simp only [if_neg hlt]
      simp only [Nat.sub_self]
      exact ⟨by simp [CG], .inl ⟨rfl, rfl, rfl⟩⟩
  · by_cases hlt : i < l.length
    · simp only [if_pos hlt]; exact h.own i hlt
    · simp [hlt]
  · by_cases hlt : i < l.length
    · by_cases hlt2 : j < l.length
      · simp only [if_pos hlt, if_pos hlt2]; exact h.apart i j hlt hlt2 hne
      · simp [hlt2]
    · simp [hlt]

end
section
open Go Go.RowKit

structure Src (P : Program) (w : World) (sT xT ty e : TypeId) (i : TypeInfo) (z : Value) (u : Value) (n : Nat) (ds : List Value) : Prop where
  room : ∀ (g sLen sCap : Nat) (cur : Array Value), w.heap[g]? = some (.cells cur e (0, 0)) → sLen + n ≤ sCap → sLen * i.size + ds.length ≤ cur.size →
    (Builtin.append_ #[sT, xT] ty #[.slice (some ⟨g, 0, none⟩) sLen sCap, u]).run P w = .ok (.slice (some ⟨g, 0, none⟩) (sLen + n) sCap) (w.setRow g (cur.toList.take (sLen * i.size) ++ ds ++ cur.toList.drop (sLen * i.size + ds.length)).toArray)
  grow : ∀ (b : Addr) (sLen sCap : Nat) (olds : List Value), olds.length = sLen * i.size → (∀ j v, olds[j]? = some v → w.cell? (b.add j) = some v) → sLen ≤ sCap → sCap < sLen + n → ((sLen + n : Nat) : Int) ≤ 9223372036854775807 → Builtin.nextslicecap (sLen + n) sCap * i.bytes ≤ 281474976710656 →
    (Builtin.append_ #[sT, xT] ty #[.slice (some b) sLen sCap, u]).run P w = .ok (.slice (some ⟨w.heap.size, 0, none⟩) (sLen + n) (grownCap w (sLen + n) sCap e)) (w.drew.alloc (.cells (olds.toArray ++ ds.toArray ++ Builtin.zeroCells z.cells (grownCap w (sLen + n) sCap e - (sLen + n))) e))
  fresh : 0 < n → (n : Int) ≤ 9223372036854775807 → n * i.bytes ≤ 281474976710656 →
    (Builtin.append_ #[sT, xT] ty #[.slice none 0 0, u]).run P w = .ok (.slice (some ⟨w.heap.size, 0, none⟩) n (grownCap w n 0 e)) (w.drew.alloc (.cells (ds.toArray ++ Builtin.zeroCells z.cells (grownCap w n 0 e - n)) e))
  idle : n = 0 → (Builtin.append_ #[sT, xT] ty #[.slice none 0 0, u]).run P w = .ok (.slice none 0 0) w

section
variable {P : Program} {w : World} {sT xT ty e : TypeId} {i : TypeInfo} {z : Value}
theorem Src.slice {a : Addr} {n cap : Nat} {ds : List Value} (ht : P.underlying sT = some (.slice e)) (hi : P.info? e = some i) (hz : i.zero = some z) (hl : ds.length = n * i.size) (hd : ∀ j v, ds[j]? = some v → w.cell? (a.add j) = some v) (h1 : ∀ v ∈ ds, v.oneCell' = true) :
    Src P w sT sT ty e i z (.slice (some a) n cap) n ds where
  room g sLen sCap cur hg hr hf := run_append_room w sT ty e i ht hi g sLen sCap cur hg a n cap ds hl hd h1 hr hf
  grow b sLen sCap olds ho hoc _ hc h63 hfit := run_append_grow w sT ty e i z ht hi hz b sLen sCap olds ho hoc a n cap ds hl hd hc h63 hfit
  fresh h0 h63 h48 := run_append_nil w sT ty e i z ht hi hz a n cap ds hl hd h0 h63 h48
  idle h0 := by
    subst h0
    simp [Builtin.append_, run_underlying ht, sizeOf, typeInfo, hi, Builtin.lenOf, Builtin.firstCells, loadCells, loadCellsFrom]
theorem Src.nil (ht : P.underlying sT = some (.slice e)) (hi : P.info? e = some i) : Src P w sT sT ty e i z (.slice none 0 0) 0 [] where
  room g sLen sCap cur hg hr hf := by
    simp only [Nat.add_zero] at hr ⊢
    have hrow : w.setRow g (cur.toList.take (sLen * i.size) ++ [] ++ cur.toList.drop (sLen * i.size + ([] : List Value).length)).toArray = w := by
      have e1 : (cur.toList.take (sLen * i.size) ++ [] ++ cur.toList.drop (sLen * i.size + ([] : List Value).length)).toArray = cur := by simp
      rw [e1]
      exact setRow_self w g cur e _ hg
    rw [hrow]
    simp [Builtin.append_, run_underlying ht, sizeOf, typeInfo, hi, Builtin.lenOf, Builtin.firstCells, hr, storeCells]
  grow b sLen sCap olds _ _ h1 h2 := by omega
  fresh h0 := by omega
  idle _ := by simp [Builtin.append_, run_underlying ht, sizeOf, typeInfo, hi, Builtin.lenOf, Builtin.firstCells]
theorem Src.string {l : List UInt8} (ht : P.underlying sT = some (.slice e)) (hx : P.underlying xT = some .string) (hi : P.info? e = some i) (hz : i.zero = some z) (h1 : i.size = 1) (hb : i.bytes = 1) : Src P w sT xT ty e i z (.string ⟨l.toArray⟩) l.length (l.map B9) where
  room g sLen sCap cur hg hr hf := by
    have := Lib.run_append_room_string (P := P) w sT xT ty e i ht hx hi h1 g sLen sCap cur hg ⟨l.toArray⟩ (by rw [CW]; exact hr) (by rw [CW]; rw [h1, Nat.mul_one, List.length_map] at hf; exact hf)
    rw [CW] at this
    rw [this, h1]
    simp [Lib.strCells, B9, Function.comp_def]
    rfl
  grow b sLen sCap olds ho hoc _ hc h63 hfit := by
    have := Lib.run_append_grow_string (P := P) w sT xT ty e i z ht hx hi hz b sLen sCap olds ho hoc ⟨l.toArray⟩ (by rw [CW]; exact hc) (by rw [CW]; exact h63) (by rw [CW]; exact hfit)
    rw [CW] at this
    rw [this]
    simp [Lib.strCells, B9, Function.comp_def]
    rfl
  fresh h0 h63 h48 := by
    have := run_append_nil_string (P := P) w sT xT ty e i z ht hx hi hz ⟨l.toArray⟩ (by rw [CW]; exact h0) (by rw [CW]; exact h63) (by rw [CW]; exact h48)
    rw [CW] at this
    rw [this]
    simp [B9, Function.comp_def]
    rfl
  idle h0 := by
    have : l = [] := List.eq_nil_of_length_eq_zero h0
    subst this
    simp [Builtin.append_, run_underlying ht, run_underlying hx, sizeOf, typeInfo, hi, Builtin.lenOf, Builtin.firstCells, CW]
end

theorem L6 {α : Type} {P : Program} {w : World} {sT xT ty e : TypeId} {i : TypeInfo} {z : Value} {u v : Value} {c : α → List Ck} {xs ys : List α} {ds : List Value} {Φ : BR} {f : List Nat} (hS : Src P w sT xT ty e i z u ys.length ds) (hsz : ∀ x, lens (c x) = i.size) (hpos : 0 < i.size) (hzs : z.cells.size = i.size)
    (hP : Cv Φ w) (hf : ∀ b ∈ f, b < w.heap.size) (h : (acc v e i.size c xs).p Φ f w) (hA : CS Φ c ds ys) (hm : xs.length + ys.length ≤ CG) (hb : (xs.length + ys.length) * i.bytes ≤ 140737488355328) :
    ∃ (v' : Value) (w' : World) (Φ' : BR) (f' : List Nat), (Builtin.append_ #[sT, xT] ty #[v, u]).run P w = .ok v' w' ∧ (acc v' e i.size c (xs ++ ys)).p Φ' f' w' ∧ Step w Φ f w' Φ' ∧ Cv Φ' w' ∧ f'.Nodup ∧ ∀ b ∈ f', b < w'.heap.size ∧ (b ∈ f ∨ w.heap.size ≤ b) := by
  have hdl : ds.length = ys.length * i.size := hA.len hsz
  have h63 : ((xs.length + ys.length : Nat) : Int) ≤ 9223372036854775807 := by have := (FY hm).2; simp [IntKind.max, IntKind.bits, IntKind.signed] at this; omega
  -- a new block
  have hnew : ∀ (cs : List Value) (cap : Nat) (v0 : Value), CS Φ c cs xs → xs.length + ys.length ≤ cap → v0 = .slice (some ⟨w.heap.size, 0, none⟩) (xs.length + ys.length) cap →
      ∀ w', w' = w.drew.alloc (.cells (cs.toArray ++ ds.toArray ++ Builtin.zeroCells z.cells (cap - (xs.length + ys.length))) e) →
      (Builtin.append_ #[sT, xT] ty #[v, u]).run P w = .ok v0 w' →
      ∃ (v' : Value) (w' : World) (Φ' : BR) (f' : List Nat), (Builtin.append_ #[sT, xT] ty #[v, u]).run P w = .ok v' w' ∧ (acc v' e i.size c (xs ++ ys)).p Φ' f' w' ∧ Step w Φ f w' Φ' ∧ Cv Φ' w' ∧ f'.Nodup ∧ ∀ b ∈ f', b < w'.heap.size ∧ (b ∈ f ∨ w.heap.size ≤ b) := by
    intro cs cap v0 hcs hcap hv w' hw hr
    subst hw
    let Φ' : BR := fun b o => if b = w.heap.size then (cs ++ ds)[o]? else Φ b o
    have hle : BR.le Φ Φ' := fun b o v e => by
      have := hP.lt b o v e
      simp only [Φ', if_neg (by omega : ¬ b = w.heap.size)]
      exact e
    refine ⟨v0, _, Φ', [w.heap.size], hr, ⟨by simpa using hm, .inr ⟨w.heap.size, cap, cs ++ ds, (Builtin.zeroCells z.cells (cap - (xs.length + ys.length))).toList, by rw [hv]; simp, rfl, ?_, (hcs.append hA).mono hle, ?_, by simpa using hcap, fun j v hj => ?_, fun o ho => ?_⟩⟩, ?_, ⟨fun b o v e => ?_, fun b o v e => ?_⟩, by simp, by simp⟩
    · rw [show w.heap.size = w.drew.heap.size from rfl, heap_alloc_new]
      congr 2
      apply Array.ext'
      simp
    · have h1 := hcs.len hsz
      simp only [List.length_append, h1, hdl, Hj, hzs]
      rw [← Nat.add_mul, ← Nat.add_mul]
      congr 1
      omega
    · simp only [Φ', if_pos trivial, Nat.zero_add]; exact hj
    · simp only [Φ', if_pos trivial]
      exact List.getElem?_eq_none ho
    · exact ⟨rfl, rfl, rfl, by simp, fun b hb _ => @Go.heap_alloc_old w.drew _ b hb, hle, fun b hb _ => by funext o; simp only [Φ', if_neg (by omega : ¬ b = w.heap.size)]⟩
    · by_cases hbb : b = w.heap.size
      · simp [hbb]
      · simp only [Φ', if_neg hbb] at e
        have := hP.lt b o v e
        simp; omega
    · by_cases hbb : b = w.heap.size
      · subst hbb
        simp only [Φ', if_pos trivial] at e
        rw [show w.heap.size = w.drew.heap.size from rfl, World.cell?_alloc_new]
        have hlt : o < (cs ++ ds).length := by
          rcases Nat.lt_or_ge o (cs ++ ds).length with q | q
          · exact q
          · rw [List.getElem?_eq_none q] at e; cases e
        rw [Array.getElem?_append_left (by simpa using hlt)]
        simpa using e
      · simp only [Φ', if_neg hbb] at e
        rw [World.cell?_alloc_lt _ _ _ (show b < w.drew.heap.size from hP.lt b o v e)]
        exact hP.cell b o v e
  obtain ⟨hm0, ⟨rfl, rfl, rfl⟩ | ⟨b, cap, cs, zs, rfl, rfl, hblk, hcs, hlen, hcap, hpub, hfree⟩⟩ := h
  · by_cases h0 : ys.length = 0
    · have hy : ys = [] := List.eq_nil_of_length_eq_zero h0
      subst hy
      exact ⟨.slice none 0 0, w, Φ, [], hS.idle rfl, ⟨by simp [CG], .inl ⟨rfl, rfl, rfl⟩⟩, Step.refl _ _ _, hP, List.nodup_nil, by simp⟩
    · have hr := hS.fresh (by omega) (by simpa using h63) (by simp at hb; omega)
      refine hnew [] (grownCap w ys.length 0 e) _ rfl ?_ (by simp) _ ?_ hr
      · have := grownCap_ge w ys.length 0 e; simpa using this
      · simp
  · have hcl := hcs.len hsz
    by_cases hroom : xs.length + ys.length ≤ cap
    · have hfit : xs.length * i.size + ds.length ≤ (cs ++ zs).toArray.size := by
        simp only [List.size_toArray, hlen, hdl, ← Nat.add_mul]
        exact Nat.mul_le_mul_right _ hroom
      have hr := hS.room b xs.length cap (cs ++ zs).toArray hblk hroom hfit
      have hrow : ((cs ++ zs).toArray.toList.take (xs.length * i.size) ++ ds ++ (cs ++ zs).toArray.toList.drop (xs.length * i.size + ds.length)) = cs ++ ds ++ zs.drop ds.length := by
        simp only [← hcl]
        rw [List.take_left, List.drop_length_add_append]
      rw [hrow] at hr
      let Φ' : BR := fun b' o => if b' = b then (cs ++ ds)[o]? else Φ b' o
      have hle : BR.le Φ Φ' := fun b' o v' e' => by
        by_cases hbb : b' = b
        · subst hbb
          simp only [Φ', if_pos trivial]
          rcases Nat.lt_or_ge o cs.length with q | q
          · have := hpub o cs[o] (by simp [q])
            rw [Nat.zero_add, e'] at this
            rw [List.getElem?_append_left q, List.getElem?_eq_getElem q]
            exact this.symm
          · rw [hfree o q] at e'; cases e'
        · simp only [Φ', if_neg hbb]; exact e'
      have hb0 := hf b (by simp)
      have hnb : (w.setRow b (cs ++ ds ++ zs.drop ds.length).toArray).heap[b]? = some (.cells (cs ++ ds ++ zs.drop ds.length).toArray e (0, 0)) := setRow_heap w b _ _ e _ hblk
      refine ⟨_, _, Φ', [b], hr, ⟨by simpa using hm, .inr ⟨b, cap, cs ++ ds, zs.drop ds.length, by simp, rfl, hnb, (hcs.append hA).mono hle, ?_, by simpa using hroom, fun j v hj => ?_, fun o ho => ?_⟩⟩, ?_, ⟨fun b' o v' e' => ?_, fun b' o v' e' => ?_⟩, by simp, by simpa using hb0⟩
      · simp only [List.length_append, List.length_drop] at hlen ⊢
        have : (xs.length + ys.length) * i.size ≤ cap * i.size := Nat.mul_le_mul_right _ hroom
        rw [Nat.add_mul] at this
        omega
      · simp only [Φ', if_pos trivial, Nat.zero_add]; exact hj
      · simp only [Φ', if_pos trivial]
        exact List.getElem?_eq_none ho
      · exact ⟨rfl, rfl, rfl, by simp, fun b' hb' hne => setRow_other w b b' _ (by simpa using hne), hle, fun b' hb' hne => by funext o; simp only [Φ', if_neg (by simpa using hne : ¬ b' = b)]⟩
      · rw [setRow_size]
        by_cases hbb : b' = b
        · rw [hbb]; exact hb0
        · simp only [Φ', if_neg hbb] at e'
          exact hP.lt b' o v' e'
      · by_cases hbb : b' = b
        · subst hbb
          simp only [Φ', if_pos trivial] at e'
          rw [cell_of hnb]
          have hlt : o < (cs ++ ds).length := by
            rcases Nat.lt_or_ge o (cs ++ ds).length with q | q
            · exact q
            · rw [List.getElem?_eq_none q] at e'; cases e'
          rw [List.getElem?_append_left hlt]
          exact e'
        · simp only [Φ', if_neg hbb] at e'
          exact (World.cell?_of_block (w := w) (setRow_other w b b' _ hbb)).trans (hP.cell b' o v' e')
    · have hr := hS.grow ⟨b, 0, none⟩ xs.length cap cs hcl (fun j v hj => by rw [Addr.add_lit]; exact hP.cell _ _ _ (hpub j v hj)) hcap (by omega) h63 (growslice_fits (by omega) hb)
      refine hnew cs (grownCap w (xs.length + ys.length) cap e) _ hcs (grownCap_ge w _ _ e) rfl _ rfl hr

section ops
variable {P : Program} {G : FP} {N : List B1} {d : Nat} {ty : TypeId} {pos : String} {af : Array Edge} {gd : Option (Nat × Bool)}

theorem HO {α : Type} {v : Value} {e sT xT : TypeId} {i : TypeInfo} {z : Value} {c : α → List Ck} {xs ys : List α} {s x : Operand} (hsz : ∀ x, lens (c x) = i.size) (hpos : 0 < i.size) (hzs : z.cells.size = i.size) (hs : AM G N s (Am v))
    (hx : ∀ (Φ : BR) (a : Act) (w : World) (f : List (List Nat)), Cv Φ w → G.p Φ → BT Φ a.tmps w N f → ∃ ds, Src P w sT xT ty e i z (a.eval x) ys.length ds ∧ CS Φ c ds ys) (hm : xs.length + ys.length ≤ CG) (hb : (xs.length + ys.length) * i.bytes ≤ 140737488355328) :
    Ba P G ⟨some d, .call ⟨.builtin .append, #[s, x], #[sT, xT]⟩, ty, pos, af, gd⟩ N [.res (acc v e i.size c xs)] (fun v' => [.slot d (Am v'), .res (acc v' e i.size c (xs ++ ys))]) := by
  intro Φ a w fN fC h1 h2 h3 h4 h5 h6 h7 K Q hK
  match fC, h4 with
  | [f], ⟨hacc, _⟩ =>
  obtain ⟨ds, hS, hA⟩ := hx Φ a w fN h1 h2 h3
  have hv : a.eval s = v := hs Φ a w fN h2 h3
  obtain ⟨v', w', Φ', f', hr, hacc', hst, hP', hnd, hfb⟩ := L6 hS hsz hpos hzs h1 (fun b hb => h6 b (by simp [hb])) hacc hA hm hb
  have hrun : (execOp a.eval ⟨some d, .call ⟨.builtin .append, #[s, x], #[sT, xT]⟩, ty, pos, af, gd⟩).run P w = .ok (.value v') w' := by
    simp only [execOp, resolve, List.map_toArray, List.map_cons, List.map_nil, hv, Sem.run_bind, Sem.run_pure, Result.andThen_ok, invoke, builtin, hr]
  unfold Oper.wp
  rw [hrun, Oper.upon_value]
  exact hK v' w' Φ' [[], f'] (by simpa using hst) hP' ⟨⟨rfl, v', C0 a v' d (h7 d rfl), rfl⟩, hacc', trivial⟩ (by simpa using hnd) (by simpa using hfb)

theorem DO {α : Type} {v : Value} {e sT : TypeId} {i : TypeInfo} {z : Value} {c : α → List Ck} {xs ys : List α} {s x : Operand} (ht : P.underlying sT = some (.slice e)) (hi : P.info? e = some i) (hz : i.zero = some z) (hsz : ∀ x, lens (c x) = i.size) (hpos : 0 < i.size) (hzs : z.cells.size = i.size)
    (hs : AM G N s (Am v)) (hx : AM G N x (An c ys)) (hb : xs.length + ys.length ≤ CG ∧ (xs.length + ys.length) * i.bytes ≤ 140737488355328) :
    Ba P G ⟨some d, .call ⟨.builtin .append, #[s, x], #[sT, sT]⟩, ty, pos, af, gd⟩ N [.res (acc v e i.size c xs)] (fun v' => [.slot d (Am v'), .res (acc v' e i.size c (xs ++ ys))]) :=
  HO hsz hpos hzs hs (fun Φ a w f hP hG hN => by
    obtain ⟨_, ⟨hv, rfl⟩ | ⟨b, o, cap, ds, hv, _, hA, hp⟩ | ⟨rfl, b, cap, hv⟩⟩ := hx Φ a w f hG hN
    · rw [hv]; exact ⟨[], Src.nil ht hi, rfl⟩
    rotate_left
    · rw [hv]; exact ⟨[], Src.slice ht hi hz (by simp) (fun j v hj => by simp at hj) (by simp), rfl⟩
    · rw [hv]; exact ⟨ds, Src.slice ht hi hz (hA.len hsz) (fun j v hj => by rw [Addr.add_lit]; exact hP.cell _ _ _ (hp j v hj)) hA.cell, hA⟩) hb.1 hb.2
def bC (b : UInt8) : List Ck := [one (Ab .u8 b.toNat)]
theorem DQ (b : UInt8) : lens (bC b) = 1 := rfl
theorem HB (Φ : BR) : ∀ (l : List UInt8), CS Φ bC (l.map B9) l
  | [] => rfl
  | b :: l => ⟨[B9 b], l.map B9, rfl, ⟨[_], [], rfl, ⟨_, rfl, rfl, rfl, KN b⟩, rfl⟩, HB Φ l⟩
theorem JP {v : Value} {e sT xT : TypeId} {i : TypeInfo} {z : Value} {xs l : List UInt8} {s x : Operand} (ht : P.underlying sT = some (.slice e)) (hxt : P.underlying xT = some .string) (hi : P.info? e = some i) (hz : i.zero = some z) (h1 : i.size = 1) (hb1 : i.bytes = 1) (hzs : z.cells.size = i.size)
    (hs : AM G N s (Am v)) (hx : AM G N x (As l)) (hb : xs.length + l.length ≤ CG ∧ (xs.length + l.length) * i.bytes ≤ 140737488355328) :
    Ba P G ⟨some d, .call ⟨.builtin .append, #[s, x], #[sT, xT]⟩, ty, pos, af, gd⟩ N [.res (acc v e i.size bC xs)] (fun v' => [.slot d (Am v'), .res (acc v' e i.size bC (xs ++ l))]) :=
  HO (fun x => by rw [h1]; rfl) (by omega) hzs hs (fun Φ a w f hP hG hN => by
    obtain ⟨hv, _⟩ := hx Φ a w f hG hN
    rw [hv]; exact ⟨_, Src.string ht hxt hi hz h1 hb1, HB Φ l⟩) hb.1 hb.2
end ops

end
section
open Go Go.RowKit

def ES (n : Nat) (l : List B1) (gs : List GE) (own : List Nat) (ops : List H2) : Dd :=
  ⟨n, l.map .base ++ gs, l.map (fun _ => none) ++ own.map some, ops⟩

def Je (p : Dd) (ops : Array Oper) (draw : Bool) (gl : Nat) (ol : Nat) (ks : List Nat) : Bool :=
  p.check && (if draw then p.JD ops else p.checkSeq) && decide (p.ops.length = ops.size) && decide (gl = ol) && distinct ks &&
    (ks.all fun r => decide (r < p.G4.length) && (List.range p.ops.length).all fun k => !(p.op k).cons.contains r)

theorem CL {P : Program} {c : Cx} {id n : Nat} {ops : Array Oper} {draw : Bool} {Q : Exit → Act → World → Prop} {a : Act} {w : World} {l : List B1} (gs : List GE) (own : List Nat) (refs : List H2) (ks : List Nat) {G : FP} (hm : P.follows .mixedOrders = true) (hn : c.n = n) (hG : c.G = G)
    (h : Ar c l a w) (hc : Je (ES n l gs own refs) ops draw gs.length own.length ks = true) (hops : (ES n l gs own refs).Ok P G ops ops.toList 0)
    (hQ : ∀ (β : Nat → Value) (a : Act) (w : World), Ar c (ks.map ((ES n l gs own refs).E β)) a w → Q .normal a w) : (Code.region id ops draw).wp P Q a w := by
  subst hG
  simp only [Je, Bool.and_eq_true, decide_eq_true_eq] at hc
  obtain ⟨⟨⟨⟨⟨hc1, hc2⟩, hc3⟩, hc4⟩, hc5⟩, hc6⟩ := hc
  have hs : Sat c ((ES n l gs own refs).E fun _ => undef) ((ES n l gs own refs).alive fun _ => False) a w := by
    refine h.Rx _ (fun r hr ho => ?_) (fun r hr => ?_)
    · rcases Nat.lt_or_ge r l.length with q | q
      · exact q
      · exfalso
        simp only [Dd.owner, ES] at ho
        rw [B8] at ho
        simp only [List.length_map, if_neg (by omega : ¬ r < l.length)] at ho
        have hr' : r - l.length < own.length := by
          simp [ES] at hr
          omega
        rw [HP 0 none some own _ hr'] at ho
        cases ho
    · simp only [Dd.E, ES]
      rw [B8, if_pos (by simpa using hr), HP .none _ _ _ _ hr]
      rfl
  have hQ' : ∀ a w β, Sat c ((ES n l gs own refs).E β) ((ES n l gs own refs).alive fun k => k < (ES n l gs own refs).ops.length) a w → Q .normal a w :=
    fun a w β hk => hQ β a w (Sat.IU hk hc1 ks hc5 hc6)
  cases draw with
  | true => exact LR _ hm hn.symm hc1 (by simpa using hc2) hc3 hops hs hQ'
  | false => exact LQ _ hn.symm hc1 (by simpa using hc2) hc3 hops hs hQ'

end
section
open Go Go.RowKit

theorem Ay {α : Type} {c : Prop} [Decidable c] {x : Option α} {r : α} (h : (if c then x else none) = some r) : c ∧ x = some r := by
  by_cases hc : c
  · rw [if_pos hc] at h; exact ⟨hc, h⟩
  · rw [if_neg hc] at h; cases h
theorem bind_some {α β : Type} {x : Option α} {k : α → Option β} {r : β} (h : x.bind k = some r) : ∃ y, x = some y ∧ k y = some r := by
  cases x with
  | none => cases h
  | some y => exact ⟨y, rfl, h⟩
theorem BQ (i : Nat) : Exit.exit i ≠ Exit.normal := by intro h; cases h
theorem E2 : Exit.ret ≠ Exit.normal := by intro h; cases h

theorem Ar.sub {c : Cx} {l : List B1} {a : Act} {w : World} (h : Ar c l a w) (ks : List Nat) (hk : (distinct ks && ks.all fun k => decide (k < l.length)) = true) : Ar c (ks.map (Br .none l)) a w := by
  simp only [Bool.and_eq_true] at hk
  have hnd := D5 hk.1
  have hlt : ∀ k ∈ ks, k < l.length := fun k hm => by simpa using (List.all_eq_true.1 hk.2) k hm
  refine Sat.pick h (fun i => Br 0 ks i) (fun i hi => ?_) (fun i hi => ?_) (fun i j hi hj hne e => ?_)
  · have hi : i < ks.length := by simpa using hi
    rw [DI]
    simp only [List.getD, List.getElem?_eq_getElem hi, Option.getD_some]
    exact hlt _ (List.getElem_mem hi)
  · have hi : i < ks.length := by simpa using hi
    rw [HP 0 B1.none (Br .none l) ks i hi]
  · have hi : i < ks.length := by simpa using hi
    have hj : j < ks.length := by simpa using hj
    rw [DI, DI] at e
    simp only [List.getD, List.getElem?_eq_getElem hi, List.getElem?_eq_getElem hj, Option.getD_some] at e
    exact hne ((List.getElem_inj hnd).1 e)

theorem BT.snoc {Φ : BR} {tmps : Array Value} {w : World} : ∀ {C : List B1} {e : B1} {fC : List (List Nat)}, BT Φ tmps w (C ++ [e]) fC → ∃ gC f, fC = gC ++ [f] ∧ BT Φ tmps w C gC
  | [], e, [f], h => ⟨[], f, rfl, trivial⟩
  | [], e, [], h => h.elim
  | [], e, _ :: _ :: _, h => h.2.elim
  | c :: C, e, f :: fC, h => by
    obtain ⟨gC, g, rfl, h2⟩ := BT.snoc h.2
    exact ⟨f :: gC, g, rfl, h.1, h2⟩
  | _ :: _, _, [], h => h.elim
theorem AV.drop {P : Program} {G : FP} {ops : Array Oper} {o : Oper} {N C : List B1} {Gv : Value → List B1} (e : B1) (h : AV P G ops o N C Gv) : AV P G ops o N (C ++ [e]) Gv := by
  intro Φ a w fN fC h1 h2 h3 h4 h5 h6 h7 K Q hK
  obtain ⟨gC, g, rfl, h4'⟩ := h4.snoc
  refine h Φ a w fN gC h1 h2 h3 h4' ?_ (fun b hb => h6 b ?_) h7 K Q fun v w' Φ' fG q1 q2 q3 q4 q5 => hK v w' Φ' fG (q1.KY fun b hb _ => by simp only [List.flatten_append]; exact List.mem_append.2 (.inl hb)) q2 q3 q4 fun b hb => ⟨(q5 b hb).1, (q5 b hb).2.imp (fun hm => by simp only [List.flatten_append]; exact List.mem_append.2 (.inl hm)) id⟩
  · simp only [List.flatten_append, ← List.append_assoc] at h5
    exact (List.nodup_append.1 h5).1
  · simp only [List.mem_append, List.flatten_append] at hb ⊢
    rcases hb with hb | hb
    · exact .inl hb
    · exact .inr (.inl hb)
theorem Mm {G : FP} {N : List B1} {α : Type} {c : α → List Ck} : AM G N (.const (.slice none 0 0)) (An c []) := fun _ _ _ _ _ _ => ⟨by simp [CG], .inl ⟨rfl, rfl⟩⟩
theorem Jm {P : Program} {cx : Cx} {l : List B1} {α : Type} {c : α → List Ck} {t : Nat} (i : Nat) (h : Br .none l i = .slot t (Am (.slice none 0 0))) : Qu P cx l (.tmp t) (An c []) := by
  intro a w Φ fp hs
  obtain ⟨v, h1, h2⟩ := Bc (P := P) (c := cx) i h a w Φ fp hs
  exact ⟨v, h1, by simp [CG], .inl ⟨h2, rfl⟩⟩
def C9 (s : List UInt8) : List Ck := [one (As s)]
theorem C5 (s : List UInt8) : lens (C9 s) = 1 := rfl

theorem GF (off : Nat) : ∀ (l : List Value) (k : Nat) (r : List Value), off + k + l.length ≤ r.length →
    (l.zipIdx k).foldl (fun (cs : Array Value) (p : Value × Nat) => cs.setIfInBounds (off + p.2) p.1) r.toArray = (r.take (off + k) ++ l ++ r.drop (off + k + l.length)).toArray
  | [], k, r, _ => by simp
  | v :: l, k, r, h => by
    simp only [List.length_cons] at h
    simp only [List.zipIdx_cons, List.foldl_cons, List.setIfInBounds_toArray]
    rw [GF off l (k + 1) (r.set (off + k) v) (by simp; omega)]
    congr 1
    rw [HG _ _ _ (by omega)]
    have hk : (r.take (off + k)).length = off + k := by rw [List.length_take]; omega
    have e1 : (r.take (off + k) ++ v :: r.drop (off + k + 1)).take (off + (k + 1)) = r.take (off + k) ++ [v] := by
      rw [List.take_append, hk, List.take_of_length_le (by omega), show off + (k + 1) - (off + k) = 1 by omega]
      rfl
    have e2 : (r.take (off + k) ++ v :: r.drop (off + k + 1)).drop (off + (k + 1) + l.length) = r.drop (off + k + (l.length + 1)) := by
      rw [List.drop_append, hk, List.drop_eq_nil_of_le (by omega), show off + (k + 1) + l.length - (off + k) = l.length + 1 by omega]
      simp only [List.nil_append, List.drop_succ_cons, List.drop_drop]
      congr 1; omega
    rw [e1, e2]
    simp

theorem Jy (sz : Nat) : ∀ (vs : List Value) (k : Nat) (r : List Value), (∀ v ∈ vs, v.cells.size = sz) → (k + vs.length) * sz ≤ r.length →
    Instr.fill (fun i => some (i * sz, sz)) r.toArray ((vs.zipIdx k).map fun p => (p.2, p.1)) = some (r.take (k * sz) ++ vs.flatMap (·.cells.toList) ++ r.drop ((k + vs.length) * sz)).toArray
  | [], k, r, _, _ => by simp [Instr.fill]
  | v :: vs, k, r, hv, h => by
    have h1 := hv v (by simp)
    have h2 : k * sz + sz ≤ r.length := by
      have : (k + 1) * sz ≤ (k + (v :: vs).length) * sz := Nat.mul_le_mul_right _ (by simp)
      rw [Nat.add_mul, Nat.one_mul] at this
      omega
    have hl : v.cells.toList.length = sz := by simpa using h1
    have hf := GF (k * sz) v.cells.toList 0 r (by omega)
    have hf' : v.cells.zipIdx.foldl (fun (cs : Array Value) (p : Value × Nat) => cs.setIfInBounds (k * sz + p.2) p.1) r.toArray = (r.take (k * sz) ++ v.cells.toList ++ r.drop (k * sz + sz)).toArray := by
      rw [← Array.foldl_toList, Array.toList_zipIdx, hf]
      simp [h1]
    simp only [List.zipIdx_cons, List.map_cons, Instr.fill]
    have hc : (decide (v.cells.size ≠ sz) || decide (k * sz + v.cells.size > r.toArray.size)) = false := by
      simp [h1]; omega
    rw [if_neg (by rw [hc]; simp)]
    have hf2 : v.cells.zipIdx.foldl (fun cs (x : Value × Nat) => match x with | (c, j) => cs.setIfInBounds (k * sz + j) c) r.toArray = (r.take (k * sz) ++ v.cells.toList ++ r.drop (k * sz + sz)).toArray := hf'
    rw [hf2, Jy sz vs (k + 1) _ (fun u hu => hv u (by simp [hu])) (by
      simp only [List.length_append, List.length_take, List.length_drop, hl]
      have : (k + 1 + vs.length) * sz = (k + (v :: vs).length) * sz := by congr 1; simp; omega
      rw [this]; omega)]
    congr 2
    have ht : (r.take (k * sz)).length = k * sz := by rw [List.length_take]; omega
    have e1 : (r.take (k * sz) ++ v.cells.toList ++ r.drop (k * sz + sz)).take ((k + 1) * sz) = r.take (k * sz) ++ v.cells.toList := by
      rw [show (k + 1) * sz = (r.take (k * sz) ++ v.cells.toList).length by rw [List.length_append, ht, hl, Nat.add_mul, Nat.one_mul], List.take_left]
    have e2 : (r.take (k * sz) ++ v.cells.toList ++ r.drop (k * sz + sz)).drop ((k + 1 + vs.length) * sz) = r.drop ((k + (v :: vs).length) * sz) := by
      have hA : (r.take (k * sz) ++ v.cells.toList).length = k * sz + sz := by rw [List.length_append, ht, hl]
      rw [show (k + 1 + vs.length) * sz = (r.take (k * sz) ++ v.cells.toList).length + vs.length * sz by rw [hA, Nat.add_mul, Nat.add_mul, Nat.one_mul], List.drop_length_add_append, List.drop_drop]
      congr 1
      simp only [List.length_cons, Nat.add_mul, Nat.one_mul]
      omega
    rw [e1, e2]
    simp [List.append_assoc]

def IH {α : Type} (G : FP) (N : List B1) (c : α → List Ck) : List Operand → List α → Prop
  | [], [] => True
  | x :: xs, y :: ys => (∃ V, AM G N x V ∧ Cells V (c y)) ∧ IH G N c xs ys
  | _, _ => False
theorem IH.run {α : Type} {G : FP} {N : List B1} {c : α → List Ck} {Φ : BR} {a : Act} {w : World} {f : List (List Nat)} (hG : G.p Φ) (hN : BT Φ a.tmps w N f) : ∀ {xs : List Operand} {ys : List α}, IH G N c xs ys →
    xs.length = ys.length ∧ CS Φ c ((xs.map a.eval).flatMap (·.cells.toList)) ys ∧ ∀ v ∈ xs.map a.eval, ∃ y, B0 Φ v.cells.toList (c y)
  | [], [], _ => ⟨rfl, rfl, fun v hv => by simp at hv⟩
  | x :: xs, y :: ys, h => by
    obtain ⟨⟨V, hV, hc⟩, h2⟩ := h
    obtain ⟨h3, h4, h5⟩ := IH.run hG hN h2
    have h6 := hc Φ _ (hV Φ a w f hG hN)
    refine ⟨by simp [h3], ⟨(a.eval x).cells.toList, (xs.map a.eval).flatMap (·.cells.toList), by simp, h6, h4⟩, fun v hv => ?_⟩
    simp only [List.map_cons, List.mem_cons] at hv
    rcases hv with rfl | hv
    · exact ⟨y, h6⟩
    · exact h5 v hv
  | [], _ :: _, h => h.elim
  | _ :: _, [], h => h.elim
theorem Dn {P : Program} {G : FP} {N : List B1} {d : Nat} {ty : TypeId} {pos : String} {af : Array Edge} {gd : Option (Nat × Bool)} {α : Type} {t e : TypeId} {n sz : Nat} {xs : List Operand} {c : α → List Ck} {ys : List α} (parts : Array (Nat × Operand)) (hparts : parts = (xs.zipIdx.map fun p => (p.2, p.1)).toArray)
    (hu : P.underlying t = some (.slice e)) (hs : ∀ w, (sizeOf e).run P w = .ok sz w) {z : Value} (hz : ∀ w, (zeroValue e).run P w = .ok z w) (hz1 : z.cells.size = sz) (hn : xs.length = n) (hle : n * sz ≤ 16777216) (hm : n ≤ CG)
    (hx : IH G N c xs ys) (hsz : ∀ x, lens (c x) = sz) : Ba P G ⟨some d, .buildSlice t n parts, ty, pos, af, gd⟩ N [] (fun _ => [.slot d (An c ys)]) := by
  subst hparts
  have hxl : ∀ (Φ : BR) (a : Act) (w : World) (f : List (List Nat)), Cv Φ w → G.p Φ → BT Φ a.tmps w N f → xs.length = ys.length := fun Φ a w f _ hG hN => (hx.run hG hN).1
  have hyl : ys.length = n := by
    have : ∀ {xs : List Operand} {ys : List α}, IH G N c xs ys → xs.length = ys.length := by
      intro xs
      induction xs with
      | nil => intro ys h; cases ys with
                           | nil => rfl
                           | cons y ys => exact h.elim
      | cons x xs ih => intro ys h; cases ys with
                                    | nil => exact h.elim
                                    | cons y ys => simp [ih h.2]
    rw [← this hx, hn]
  refine JO (e := e) (sz := sz) (fun Φ a w f hP hG hN => ?_) hyl hm hsz
  obtain ⟨_, hA, hv⟩ := hx.run hG hN
  refine ⟨_, ?_, hA⟩
  have hsizes : ∀ v ∈ xs.map a.eval, v.cells.size = sz := fun v hm => by
    obtain ⟨y, hy⟩ := hv v hm
    have := hy.len
    rw [hsz] at this
    simpa using this
  have hbig : ¬ (n * sz > 2 ^ 24) := by omega
  have hfill := Jy sz (xs.map a.eval) 0 ((List.range (n * sz)).map fun i => z.cells[i % z.cells.size]!) hsizes (by simp [hn])
  have hmap : ((xs.zipIdx.map fun p => (p.2, p.1)).toArray.map fun (i, x) => (i, a.eval x)).toList = ((xs.map a.eval).zipIdx 0).map fun p => (p.2, p.1) := by
    simp [List.zipIdx_map, Function.comp_def]
  have hpt : (((List.range (n * sz)).map fun i => z.cells[i % z.cells.size]!).take (0 * sz) ++ (xs.map a.eval).flatMap (·.cells.toList) ++ ((List.range (n * sz)).map fun i => z.cells[i % z.cells.size]!).drop ((0 + (xs.map a.eval).length) * sz)).toArray = ((xs.map a.eval).flatMap (·.cells.toList)).toArray := by
    rw [List.drop_eq_nil_of_le (by simp [hn])]
    simp
  rw [hpt] at hfill
  simp only [Instr.buildSlice, Sem.run_bind, run_underlying hu, Result.andThen_ok, hs, Sem.run_ite, if_neg hbig, Sem.run_pure]
  by_cases h0 : n * sz = 0
  · simp only [h0, if_true, hmap]
    have : (Array.range 0).map (fun i => (#[] : Array Value)[i % (#[] : Array Value).size]!) = ((List.range (n * sz)).map fun i => z.cells[i % z.cells.size]!).toArray := by
      rw [h0]; simp
    rw [this, hfill]
    simp [newRow]
  · simp only [if_neg h0, hz, Sem.run_bind, Sem.run_pure, Result.andThen_ok, hmap]
    have : (Array.range (n * sz)).map (fun i => z.cells[i % z.cells.size]!) = ((List.range (n * sz)).map fun i => z.cells[i % z.cells.size]!).toArray := by
      apply Array.ext'; simp
    rw [this, hfill]
    simp [newRow]

end
section
open Go Go.RowKit

instance (k : IntKind) (x : Int) : Decidable (H5 k x) := by unfold H5; infer_instance
def dC (n : Nat) (l : List UInt8) : List Ck := [Af n l]
theorem Bk (n : Nat) (l : List UInt8) : lens (dC n l) = n := rfl
def iC (k : IntKind) (x : Int) : List Ck := [one (Ab k x)]
theorem KF (k : IntKind) (x : Int) : lens (iC k x) = 1 := rfl
def RL {α : Type} (c : α → List Ck) (x : List α) : List Ck := [one (An c x)]
theorem EM {α : Type} {b : Bool} {x y : Option α} {r : Option α} (hb : b = true) (h : (if b = true then x else y) = r) : x = r := by rw [if_pos hb] at h; exact h
theorem EO {α : Type} {b : Bool} {x y : Option α} {r : Option α} (hb : b = false) (h : (if b = true then x else y) = r) : y = r := by rw [if_neg (by rw [hb]; exact Bool.false_ne_true)] at h; exact h

section
variable {P : Program} {G : FP} {ops : Array Oper} {o : Oper} {N C : List B1} {Gv : Value → List B1}
theorem AV.AT {k d : Nat} {want b : Bool} {ok : Oper} (hb : b = want) (hg : o.guard = some (k, want)) (hk : ops[k]? = some ok) (hd : ok.dst = some d) (h : Ba P G o N C Gv) : AV P G ops o (.slot d (AE b) :: N) C Gv := by
  subst hb; exact AV.on hg hk hd h
variable {d : Nat} {ty : TypeId} {pos : String} {af : Array Edge} {gd : Option (Nat × Bool)}
theorem Bu {c x y : Operand} {b : Bool} {V : VP} (hb : b = true) (hc : AM G N c (AE b)) (hx : AM G N x V) : Ba P G ⟨some d, .pick c x y, ty, pos, af, gd⟩ N [] (fun _ => [.slot d V]) := by
  subst hb; exact Mi hc hx
theorem Bq {c x y : Operand} {b : Bool} {V : VP} (hb : b = false) (hc : AM G N c (AE b)) (hy : AM G N y V) : Ba P G ⟨some d, .pick c x y, ty, pos, af, gd⟩ N [] (fun _ => [.slot d V]) := by
  subst hb; exact Mi hc hy
theorem Qq {z : Value} {T e : TypeId} {n sz : Nat} {L : List Ck} (hz : ∀ w, (zeroValue T).run P w = .ok z w) (hu : P.underlying T = some (.array n e)) (hs : ∀ w, (sizeOf e).run P w = .ok sz w) (hL : ∀ Φ, B0 Φ z.cells.toList L) :
    Ba P G ⟨some d, .build T #[], ty, pos, af, gd⟩ N [] (fun _ => [.slot d (AG L)]) :=
  Ba.val fun Φ a w f _ _ _ => ⟨.agg z.cells, by simp [execOp, Instr.build, hz, run_underlying hu, hs, Instr.fill], z.cells.toList, by simp, hL Φ⟩
end

end
section
open Go Go.RowKit
theorem Be {id : Nat} {Q : Exit → Act → World → Prop} {a : Act} {w : World} (h : Q .normal a w) : Exit.inBlock id Q (.exit id) a w := by
  simp only [Exit.inBlock, if_true]; exact h
theorem wp_cut {P : Program} {x : Code} {Q : Exit → Act → World → Prop} {a : Act} {w : World} (J : Act → World → Prop) (hx : x.wp P (Exit.then J Q) a w) (hy : ∀ a w, J a w → Q .normal a w) : x.wp P Q a w :=
  wp_mono hx fun e a w q => by cases e <;> first | exact hy _ _ q | exact q
theorem Jt {G : FP} {N : List B1} {t : Nat} {p : Value} (i : Nat) (h : Br .none N i = .slot t (Au p 0)) : AM G N (.tmp t) (Am p) := by
  intro Φ a w f hG hN
  obtain ⟨b, h1, h2⟩ := opt (G := G) i h Φ a w f hG hN
  exact h2.trans h1.symm
end
section
open Go Go.RowKit

theorem CS.take {α : Type} {Φ : BR} {c : α → List Ck} {sz : Nat} (hsz : ∀ x, lens (c x) = sz) {xs : List α} {cs : List Value} (h : CS Φ c cs xs) (n : Nat) : CS Φ c (cs.take (min n xs.length * sz)) (xs.take n) := by
  have h1 : CS Φ c cs (xs.take n ++ xs.drop n) := by rw [List.take_append_drop]; exact h
  obtain ⟨us, vs, rfl, h2, h3⟩ := h1.split
  have hl := h2.len hsz
  rw [List.length_take] at hl
  rw [← hl, List.take_left]
  exact h2
theorem CS.drop {α : Type} {Φ : BR} {c : α → List Ck} {sz : Nat} (hsz : ∀ x, lens (c x) = sz) {xs : List α} {cs : List Value} (h : CS Φ c cs xs) (n : Nat) : CS Φ c (cs.drop (min n xs.length * sz)) (xs.drop n) := by
  have h1 : CS Φ c cs (xs.take n ++ xs.drop n) := by rw [List.take_append_drop]; exact h
  obtain ⟨us, vs, rfl, h2, h3⟩ := h1.split
  have hl := h2.len hsz
  rw [List.length_take] at hl
  rw [← hl, List.drop_left]
  exact h3
theorem EE.sub {Φ : BR} {b o : Nat} {cs : List Value} (h : EE Φ b o cs) (k n : Nat) : EE Φ b (o + k) ((cs.drop k).take n) := fun j v hj => by
  have hj' : j < n := by
    rcases Nat.lt_or_ge j n with q | q
    · exact q
    · rw [List.getElem?_eq_none (by simp; omega)] at hj; cases hj
  rw [List.getElem?_take_of_lt hj', List.getElem?_drop] at hj
  have := h (k + j) v hj
  rwa [← Nat.add_assoc] at this

section ops
variable {P : Program} {G : FP} {N : List B1} {d : Nat} {ty : TypeId} {pos : String} {af : Array Edge} {gd : Option (Nat × Bool)}

theorem Ea {α : Type} {t e : TypeId} {x : Operand} {c : α → List Ck} {xs : List α} {sz : Nat} {lo hi : Option Operand} {a b : Int} (hu : P.underlying t = some (.slice e)) (hs : ∀ w, (sizeOf e).run P w = .ok sz w) (hsz : ∀ x, lens (c x) = sz) (hx : AM G N x (An c xs))
    (hlo : LD G N lo 0 a) (hhi : LD G N hi xs.length b) (h : 0 ≤ a ∧ a ≤ b ∧ b ≤ xs.length) :
    Ba P G ⟨some d, .slice t x lo hi none, ty, pos, af, gd⟩ N [] (fun _ => [.slot d (An c ((xs.take b.toNat).drop a.toNat))]) :=
  Ba.val fun Φ ac w f _ hG hN => by
    obtain ⟨hm, ⟨hv, rfl⟩ | ⟨bb, o, cap, cs, hv, hcap, hA, hp⟩ | ⟨rfl, b0, cap, hv⟩⟩ := hx Φ ac w f hG hN
    rotate_left 2
    · have ha : a = 0 := by simp at h; omega
      have hb : b = 0 := by simp at h; omega
      subst ha; subst hb
      have hsb := FT (P := P) (w := w) true 0 cap (lo := lo.map ac.eval) (hi := hi.map ac.eval) (a := 0) (b := 0) (hlo.ok hG hN (by omega)) (hhi.ok hG hN (by omega)) (by omega) (by omega)
      refine ⟨.slice (some b0) 0 cap, ?_, by simp, .inr (.inr ⟨by simp, b0, cap, rfl⟩)⟩
      simp [execOp, hv, Instr.sliceAt, Instr.slice, run_underlying hu, hsb, hs, Addr.add]
    · have ha : a = 0 := by simp at h; omega
      have hb : b = 0 := by simp at h; omega
      subst ha; subst hb
      have hsb := FT (P := P) (w := w) true 0 0 (lo := lo.map ac.eval) (hi := hi.map ac.eval) (a := 0) (b := 0) (hlo.ok hG hN (by omega)) (hhi.ok hG hN (by omega)) (by omega) (by omega)
      refine ⟨.slice none 0 0, ?_, by simp [CG], .inl ⟨rfl, by simp⟩⟩
      simp [execOp, hv, Instr.sliceAt, Instr.slice, run_underlying hu, hsb, hs]
    · have hsb := FT (P := P) (w := w) true xs.length cap (lo := lo.map ac.eval) (hi := hi.map ac.eval) (a := a.toNat) (b := b.toNat) (hlo.ok hG hN h.1) (hhi.ok hG hN (by omega)) (by omega) (by omega)
      have hlen : ((xs.take b.toNat).drop a.toNat).length = b.toNat - a.toNat := by simp; omega
      have hA2 : CS Φ c ((cs.drop (a.toNat * sz)).take ((b.toNat - a.toNat) * sz)) ((xs.take b.toNat).drop a.toNat) := by
        have h1 := hA.drop hsz a.toNat
        rw [Nat.min_eq_left (by omega)] at h1
        have h2 := h1.take hsz (b.toNat - a.toNat)
        rw [Nat.min_eq_left (by simp; omega)] at h2
        rw [List.drop_take]
        exact h2
      by_cases hc : cap = a.toNat
      · refine ⟨.slice (some ⟨bb, o, none⟩) (b.toNat - a.toNat) (cap - a.toNat), ?_, by rw [hlen]; omega, .inr (.inl ⟨bb, o, cap - a.toNat, [], by rw [hlen], by rw [hlen]; omega, ?_, fun j v hj => by simp at hj⟩)⟩
        · subst hc
          simp [execOp, hv, Instr.sliceAt, Instr.slice, run_underlying hu, hsb, hs]
        · have h0 : (xs.take b.toNat).drop a.toNat = [] := List.eq_nil_of_length_eq_zero (by omega)
          rw [h0]; rfl
      · refine ⟨.slice (some ⟨bb, o + a.toNat * sz, none⟩) (b.toNat - a.toNat) (cap - a.toNat), ?_, by rw [hlen]; omega, .inr (.inl ⟨bb, o + a.toNat * sz, cap - a.toNat, _, by rw [hlen], by rw [hlen]; omega, hA2, hp.sub _ _⟩)⟩
        simp [execOp, hv, Instr.sliceAt, Instr.slice, run_underlying hu, hsb, hs, hc, Addr.add_lit]

theorem Jn {s t e : TypeId} {x : Operand} {l : List UInt8} (hs : P.underlying s = some (.slice e)) (he : P.underlying e = some (.int .u8)) (ht : P.underlying t = some .string)
    (hx : AM G N x (An bC l)) : Ba P G ⟨some d, .convert s t x, ty, pos, af, gd⟩ N [] (fun _ => [.slot d (As l)]) :=
  Ba.val fun Φ ac w f hP hG hN => by
    obtain ⟨hm, ⟨hv, rfl⟩ | ⟨b, o, cap, cs, hv, hcap, hA, hp⟩ | ⟨rfl, b0, cap, hv⟩⟩ := hx Φ ac w f hG hN
    rotate_left 2
    · refine ⟨.string ⟨#[]⟩, ?_, rfl, by simp⟩
      have hl : (loadCells b0 0).run P w = .ok #[] w := by simpa using run_loadCells_list (P := P) w b0 [] (by simp)
      simp only [execOp, hv, Sem.run_bind, run_convert_bytes_string w s t e _ _ _ hs he ht, Go.run_bytesToString (P := P) w b0 0 cap [] (by simpa using hl)]
      rfl
    · refine ⟨.string ⟨#[]⟩, ?_, rfl, by simp [CG]⟩
      simp only [execOp, hv, Sem.run_bind, run_convert_bytes_string w s t e _ _ _ hs he ht]
      rfl
    · have hcs : cs = l.map B9 := by
        have : ∀ (l : List UInt8) (cs : List Value), CS Φ bC cs l → cs = l.map B9 := by
          intro l
          induction l with
          | nil => intro cs h; exact h
          | cons y l ih =>
            intro cs h
            obtain ⟨us, vs, rfl, ⟨y1, y2, rfl, ⟨v, rfl, _, hv, _⟩, hn⟩, h2⟩ := h
            have hn : y2 = [] := hn
            subst hn
            rw [ih vs h2, hv]
            rfl
        exact this l cs hA
      subst hcs
      refine ⟨.string ⟨l.toArray⟩, ?_, rfl, hm⟩
      have hr := run_bytesToString (P := P) (b := b) (k := o) (l := l) (cap := cap) (w := w) fun j v hj => hP.cell _ _ _ (hp j v hj)
      simp only [execOp, hv, Sem.run_bind, run_convert_bytes_string w s t e _ _ _ hs he ht, hr]
      rfl

theorem GY {s t e : TypeId} {x : Operand} {l : List UInt8} (hs : P.underlying s = some .string) (ht : P.underlying t = some (.slice e)) (he : P.underlying e = some (.int .u8))
    (hx : AM G N x (As l)) : Ba P G ⟨some d, .convert s t x, ty, pos, af, gd⟩ N [] (fun _ => [.slot d (An bC l)]) := by
  intro Φ a w fN fC h1 h2 h3 h4 h5 h6 h7 K Q hK
  obtain ⟨hv, hm⟩ := hx Φ a w fN h2 h3
  match fC, h4 with
  | [], _ =>
    have hr := run_bytes_of_string (P := P) w s t e ⟨l.toArray⟩ hs ht he
    rw [CW] at hr
    have hcap := grownCap_ge w l.length 0 e
    generalize hgc : grownCap w l.length 0 e = cap at hr hcap
    generalize hrow : bytesRow ⟨l.toArray⟩ cap = row at hr
    have hrow' : row = (l.map B9 ++ List.replicate (cap - l.length) (Value.int .u8 0)).toArray := by
      rw [← hrow]
      apply Array.ext'
      simp [bytesRow, B9, Function.comp_def, CW]
    have hrun : (execOp a.eval ⟨some d, .convert s t x, ty, pos, af, gd⟩).run P w = .ok (.value (.slice (some ⟨w.heap.size, 0, none⟩) l.length cap)) (w.drew.alloc (.cells row e (row.size, row.size + 1))) := by
      simp only [execOp, hv, Sem.run_bind, hr]
      rfl
    unfold Oper.wp
    rw [hrun, Oper.upon_value]
    let Φ' : BR := fun b o => if b = w.heap.size then (l.map B9)[o]? else Φ b o
    have hle : BR.le Φ Φ' := fun b o v e => by
      have := h1.lt b o v e
      simp only [Φ', if_neg (by omega : ¬ b = w.heap.size)]
      exact e
    refine hK _ _ Φ' [[]] ⟨rfl, rfl, rfl, by simp, fun b hb _ => @Go.heap_alloc_old w.drew _ b hb, hle, fun b hb _ => by funext o; simp only [Φ', if_neg (by omega : ¬ b = w.heap.size)]⟩ ⟨fun b o v q => ?_, fun b o v q => ?_⟩
      ⟨⟨rfl, _, C0 a _ d (h7 d rfl), hm, .inr (.inl ⟨w.heap.size, 0, cap, l.map B9, rfl, by simpa using hcap, HB Φ' l, fun j v hj => by simp only [Φ', if_pos trivial, Nat.zero_add]; exact hj⟩)⟩, trivial⟩ (by simp) (by simp)
    · by_cases hb : b = w.heap.size
      · simp [hb]
      · simp only [Φ', if_neg hb] at q
        have := h1.lt b o v q
        simp; omega
    · by_cases hb : b = w.heap.size
      · subst hb
        simp only [Φ', if_pos trivial] at q
        have hblk : (w.drew.alloc (.cells row e (row.size, row.size + 1))).heap[w.heap.size]? = some (.cells (l.map B9 ++ List.replicate (cap - l.length) (Value.int .u8 0)).toArray e (row.size, row.size + 1)) := by
          rw [← hrow']; exact heap_alloc_new w.drew _
        rw [cell_of hblk]
        have hlt : o < (l.map B9).length := by
          rcases Nat.lt_or_ge o (l.map B9).length with q' | q'
          · exact q'
          · rw [List.getElem?_eq_none q'] at q; cases q
        rw [List.getElem?_append_left hlt]
        exact q
      · simp only [Φ', if_neg hb] at q
        rw [World.cell?_alloc_lt _ _ _ (show b < w.drew.heap.size from h1.lt b o v q)]
        exact h1.cell b o v q

def Iw (G : FP) (N : List B1) (place : Nat → Option (Nat × Nat)) : List Ck → List (Nat × Operand) → List Ck → Prop
  | L, [], L' => L = L'
  | L, (i, x) :: rest, L' => ∃ pre mid post M V, L = pre ++ (mid ++ post) ∧ place i = some (lens pre, lens mid) ∧ lens M = lens mid ∧ AM G N x V ∧ Cells V M ∧ Iw G N place (pre ++ (M ++ post)) rest L'
theorem Iw.run {G : FP} {N : List B1} {place : Nat → Option (Nat × Nat)} {Φ : BR} {a : Act} {w : World} {f : List (List Nat)} (hG : G.p Φ) (hN : BT Φ a.tmps w N f) : ∀ (parts : List (Nat × Operand)) (L L' : List Ck) (cs : List Value), Iw G N place L parts L' → B0 Φ cs L →
    ∃ cs' : List Value, Instr.fill place cs.toArray (parts.map fun (i, x) => (i, a.eval x)) = some cs'.toArray ∧ B0 Φ cs' L'
  | [], L, L', cs, h, hL => by have h : L = L' := h; subst h; exact ⟨cs, rfl, hL⟩
  | (i, x) :: rest, L, L', cs, ⟨pre, mid, post, M, V, hLe, hp, hM, hx, hV, hr⟩, hL => by
    subst hLe
    obtain ⟨xs, yz, rfl, h1, h23⟩ := hL.split
    obtain ⟨ys, zs, rfl, h2, h3⟩ := h23.split
    have hv := hV Φ _ (hx Φ a w f hG hN)
    have hvl := hv.len
    obtain ⟨cs', h4, h5⟩ := Iw.run hG hN rest (pre ++ (M ++ post)) L' (xs ++ ((a.eval x).cells.toList ++ zs)) hr (h1.append (hv.append h3))
    refine ⟨cs', ?_, h5⟩
    simp only [List.map_cons, Instr.fill, hp]
    have hsz : (a.eval x).cells.size = lens mid := by rw [← hM, ← hvl]; simp
    rw [if_neg (by simp [hsz, h1.len, h2.len, h3.len])]
    have hf := GF (lens pre) (a.eval x).cells.toList 0 (xs ++ (ys ++ zs)) (by simp only [List.length_append, h1.len, h2.len, h3.len, hvl]; omega)
    rw [← Array.toList_zipIdx, Array.foldl_toList] at hf
    have hf2 : (a.eval x).cells.zipIdx.foldl (fun cs (x : Value × Nat) => match x with | (c, j) => cs.setIfInBounds (lens pre + j) c) (xs ++ (ys ++ zs)).toArray = (xs ++ ((a.eval x).cells.toList ++ zs)).toArray := by
      refine Eq.trans hf ?_
      congr 1
      have e1 : (xs ++ (ys ++ zs)).take (lens pre + 0) = xs := by rw [Nat.add_zero, ← h1.len, List.take_left]
      have e2 : (xs ++ (ys ++ zs)).drop (lens pre + 0 + (a.eval x).cells.toList.length) = zs := by
        rw [hvl, hM, Nat.add_zero, ← h1.len, ← h2.len, ← List.length_append, ← List.append_assoc, List.drop_left]
      rw [e1, e2, List.append_assoc]
    rw [hf2]
    exact h4
theorem Dc {T : TypeId} {parts : Array (Nat × Operand)} {z : List Value} {place : Nat → Option (Nat × Nat)} {L L' : List Ck} (ps : List (Nat × Operand)) (hps : parts = ps.toArray) (hB : ∀ p, P.built T p = Instr.fill place z.toArray p) (hz : ∀ Φ, B0 Φ z L) (hf : Iw G N place L ps L') :
    Ba P G ⟨some d, .build T parts, ty, pos, af, gd⟩ N [] (fun _ => [.slot d (AG L')]) :=
  Ba.val fun Φ a w f _ hG hN => by
    subst hps
    obtain ⟨cs', h1, h2⟩ := Iw.run hG hN ps L L' z hf (hz Φ)
    refine ⟨.agg cs'.toArray, ?_, cs', rfl, h2⟩
    have := run_build (P := P) w T (ps.toArray.map fun (i, x) => (i, a.eval x)) cs'.toArray (by rw [hB, Array.toList_map]; exact h1)
    simp only [execOp, Sem.run_bind, this]
    rfl

theorem N1 {α : Type} {c : α → List Ck} {Φ : BR} {a : Act} {w : World} {f : List (List Nat)} {xs : List Operand} {ys : List α} {sz n : Nat} {z : List Value} (hG : G.p Φ) (hN : BT Φ a.tmps w N f) (hx : IH G N c xs ys) (hsz : ∀ x, lens (c x) = sz) (hz : z.length = n * sz) (hn : xs.length ≤ n) :
    ∃ cs, Instr.fill (fun i => some (i * sz, sz)) z.toArray ((xs.zipIdx.map fun p => (p.2, p.1)).map fun (i, x) => (i, a.eval x)) = some (cs ++ z.drop (xs.length * sz)).toArray ∧ CS Φ c cs ys := by
  obtain ⟨h1, h2, h3⟩ := hx.run hG hN
  refine ⟨(xs.map a.eval).flatMap (·.cells.toList), ?_, h2⟩
  have hsizes : ∀ v ∈ xs.map a.eval, v.cells.size = sz := fun v hm => by
    obtain ⟨y, hy⟩ := h3 v hm
    have := hy.len
    rw [hsz] at this
    simpa using this
  have := Jy sz (xs.map a.eval) 0 z hsizes (by simp only [Nat.zero_add, List.length_map, hz]; exact Nat.mul_le_mul_right _ hn)
  have hmap : ((xs.zipIdx.map fun p => (p.2, p.1)).map fun (i, x) => (i, a.eval x)) = ((xs.map a.eval).zipIdx 0).map fun p => (p.2, p.1) := by
    simp [List.zipIdx_map, Function.comp_def]
  rw [hmap, this]
  simp
theorem Ka {k : IntKind} {Φ : BR} : ∀ (l : List Int) (cs : List Value), CS Φ (iC k) cs l → cs = l.map (Value.int k) ∧ ∀ x ∈ l, H5 k x
  | [], cs, h => ⟨h, by simp⟩
  | y :: l, cs, h => by
    obtain ⟨us, vs, rfl, ⟨y1, y2, rfl, ⟨v, rfl, _, hv, hr⟩, hn⟩, h2⟩ := h
    have hn : y2 = [] := hn
    subst hn
    obtain ⟨h3, h4⟩ := Ka l vs h2
    refine ⟨by rw [h3, hv]; rfl, fun x hx => ?_⟩
    rcases List.mem_cons.1 hx with rfl | hx
    · exact hr
    · exact h4 x hx
theorem JF {Φ : BR} : ∀ (l : List UInt8) (cs : List Value), CS Φ bC cs l → cs = l.map B9
  | [], cs, h => h
  | y :: l, cs, h => by
    obtain ⟨us, vs, rfl, ⟨y1, y2, rfl, ⟨v, rfl, _, hv, hr⟩, hn⟩, h2⟩ := h
    have hn : y2 = [] := hn
    subst hn
    rw [JF l vs h2, hv]
    rfl
theorem Ii {T : TypeId} {parts : Array (Nat × Operand)} {k : IntKind} {n : Nat} {xs : List Operand} {ys : List Int} (hp : parts = (xs.zipIdx.map fun p => (p.2, p.1)).toArray) (hB : ∀ p, P.built T p = Instr.fill (fun i => some (i * 1, 1)) (List.replicate n (.int k 0)).toArray p) (hx : IH G N (iC k) xs ys) (hn : xs.length ≤ n) (hl : ys.length = xs.length) :
    Ba P G ⟨some d, .build T parts, ty, pos, af, gd⟩ N [] (fun _ => [.slot d (AG [AI k n (ys ++ List.replicate (n - xs.length) 0)])]) :=
  Ba.val fun Φ a w f _ hG hN => by
    subst hp
    obtain ⟨cs, h1, h2⟩ := N1 (z := List.replicate n (.int k 0)) (n := n) hG hN hx (KF k) (by simp) hn
    obtain ⟨rfl, h4⟩ := Ka ys cs h2
    refine ⟨.agg (ys.map (Value.int k) ++ (List.replicate n (Value.int k 0)).drop (xs.length * 1)).toArray, ?_, _, rfl, _, [], (List.append_nil _).symm, ⟨by simp; omega, ?_, fun x hx => ?_⟩, rfl⟩
    · have := run_build (P := P) w T ((xs.zipIdx.map fun p => (p.2, p.1)).toArray.map fun (i, x) => (i, a.eval x)) _ (by rw [hB, Array.toList_map]; exact h1)
      simp only [execOp, Sem.run_bind, this]
      rfl
    · simp
    · rcases List.mem_append.1 hx with hx | hx
      · exact h4 x hx
      · rw [List.eq_of_mem_replicate hx]; cases k <;> decide
theorem G5 (x : Int) : Cells (Ab .u8 x) (bC (BA x)) := by
  rintro Φ v ⟨rfl, hr⟩
  have hx : ((BA x).toNat : Int) = x := by
    have h1 := hr.1
    have h2 := hr.2
    simp [IntKind.min, IntKind.max, IntKind.bits, IntKind.signed] at h1 h2
    simp only [BA]
    simp
    omega
  refine ⟨[.int .u8 x], [], rfl, ⟨_, rfl, rfl, ?_, KN _⟩, rfl⟩
  rw [hx]

theorem LZ {T0 e t1 t2 : TypeId} {x y : Operand} {p : Value} {n k1 k2 m1 m2 c1 c2 i j : Nat} {k : IntKind} {l : List Int} (pre post : List Ck) (hu : P.underlying t1 = some (.slice e)) (hs : (P.info? e).map (·.size) = some 1)
    (hx : AM G N x (Lg p k1 m1 c1)) (hy : AM G N y (Lg p k2 m2 c2)) (h1 : k1 = lens pre + i) (h2 : k2 = lens pre + j) (hm : i + m1 ≤ n ∧ j + m2 ≤ n) (hle : n ≤ CG) :
    Ba P G ⟨some d, .call ⟨.builtin .copy, #[x, y], #[t1, t2]⟩, ty, pos, af, gd⟩ N [.res (lb p T0 (pre ++ [AI k n l] ++ post))]
      (fun _ => [.slot d (Ab .i64 (min m2 m1 : Nat)), .res (lb p T0 (pre ++ [AI k n (l.take i ++ (l.drop j).take (min m2 m1) ++ l.drop (i + min m2 m1))] ++ post))]) := by
  intro Φ a w fN fC q1 q2 q3 q4 q5 q6 q7 K Q hK
  match fC, q4 with
  | [f], ⟨⟨b, cs, hp, hf, hb, hL, hn⟩, _⟩ =>
    subst hf
    obtain ⟨b1, hp1, hv1⟩ := hx Φ a w fN q2 q3
    obtain ⟨b2, hp2, hv2⟩ := hy Φ a w fN q2 q3
    obtain rfl : b1 = b := by rw [hp] at hp1; simpa using hp1.symm
    obtain rfl : b2 = b1 := by rw [hp] at hp2; simpa using hp2.symm
    obtain ⟨xs, ys, zs, rfl, r1, r2, r3⟩ := EZ hL
    obtain ⟨y1, y2, rfl, ⟨hl, rfl, hr⟩, hy2⟩ := r2
    have hy2 : y2 = [] := hy2
    subst hy2
    generalize hmm : min m2 m1 = m
    have hmle : m ≤ m1 ∧ m ≤ m2 := by omega
    have hlen : (((l.drop j).take m).map (Value.int k)).length = m := by simp; omega
    have hxs := r1.len
    have hsrc : ∀ (j' : Nat) (v : Value), (((l.drop j).take m).map (Value.int k))[j']? = some v → w.cell? ((⟨b2, k2, none⟩ : Addr).add j') = some v := fun j' v hj => by
      have hlt : j' < m := by
        rcases Nat.lt_or_ge j' m with q | q
        · exact q
        · rw [List.getElem?_eq_none (by omega)] at hj; cases hj
      rw [Addr.add_lit, cell_of hb, h2, ← hxs, List.append_nil, List.append_assoc, List.getElem?_append_right (by omega), show xs.length + j + j' - xs.length = j + j' by omega, List.getElem?_append_left (by rw [List.length_map]; omega)]
      rw [List.map_take, List.getElem?_take_of_lt hlt, List.map_drop, List.getElem?_drop] at hj
      exact hj
    have hrun := run_copy_row (P := P) w t1 t2 ty e b2 k1 m1 c1 ⟨b2, k2, none⟩ m2 c2 (xs ++ (l.map (Value.int k) ++ []) ++ zs).toArray T0 (((l.drop j).take m).map (Value.int k)) hu hs hb (by rw [hlen, ← hmm]) hsrc (by
      rw [hlen]; simp; omega) (fun v hv => by obtain ⟨u, _, rfl⟩ := List.mem_map.1 hv; rfl)
    rw [hlen] at hrun
    have hrow : ((xs ++ (l.map (Value.int k) ++ []) ++ zs).toArray.toList.take k1 ++ ((l.drop j).take m).map (Value.int k) ++ (xs ++ (l.map (Value.int k) ++ []) ++ zs).toArray.toList.drop (k1 + m)) = xs ++ ((l.take i ++ (l.drop j).take m ++ l.drop (i + m)).map (Value.int k) ++ []) ++ zs := by
      subst h1
      rw [← hxs]
      simp only [List.append_nil, List.append_assoc, List.map_append, List.map_take, List.map_drop]
      rw [List.take_length_add_append, Nat.add_assoc, List.drop_length_add_append, List.take_append_of_le_length (by simp; omega), List.drop_append_of_le_length (by simp; omega)]
      simp only [List.append_assoc]
    rw [hrow] at hrun
    have hexec : (execOp a.eval ⟨some d, .call ⟨.builtin .copy, #[x, y], #[t1, t2]⟩, ty, pos, af, gd⟩).run P w = .ok (.value (goInt m)) (w.setRow b2 (xs ++ ((l.take i ++ (l.drop j).take m ++ l.drop (i + m)).map (Value.int k) ++ []) ++ zs).toArray) := by
      simp only [execOp, resolve, List.map_toArray, List.map_cons, List.map_nil, hv1, hv2, Sem.run_bind, Sem.run_pure, Result.andThen_ok, invoke, builtin, hrun]
    unfold Oper.wp
    rw [hexec, Oper.upon_value]
    have hmid : B0 Φ ((l.take i ++ (l.drop j).take m ++ l.drop (i + m)).map (Value.int k) ++ []) [AI k n (l.take i ++ (l.drop j).take m ++ l.drop (i + m))] := ⟨_, [], rfl, ⟨by simp; omega, rfl, fun x hx => by
      rcases List.mem_append.1 hx with hx | hx
      · rcases List.mem_append.1 hx with hx | hx
        · exact hr x (List.mem_of_mem_take hx)
        · exact hr x (List.mem_of_mem_drop (List.mem_of_mem_take hx))
      · exact hr x (List.mem_of_mem_drop hx)⟩, rfl⟩
    have hnb := setRow_heap w b2 (xs ++ (l.map (Value.int k) ++ []) ++ zs).toArray (xs ++ ((l.take i ++ (l.drop j).take m ++ l.drop (i + m)).map (Value.int k) ++ []) ++ zs).toArray T0 _ hb
    refine hK _ _ Φ [[], [b2]] ⟨rfl, rfl, rfl, by simp, fun c hc' hne => setRow_other w b2 c _ (by simpa using hne), BR.le_refl _, fun _ _ _ => rfl⟩ ⟨fun c o v e' => by rw [setRow_size]; exact q1.lt c o v e', fun c o v e' => ?_⟩
      ⟨⟨rfl, _, C0 a _ d (q7 d rfl), by rw [hmm]; exact ⟨rfl, FY (by omega)⟩⟩, ⟨b2, _, hp, rfl, hnb, by rw [hmm]; exact (r1.append hmid).append r3, hn⟩, trivial⟩ (by simp) (fun c hc' => ?_)
    · have hne : c ≠ b2 := fun e'' => by rw [e'', hn o] at e'; cases e'
      exact (World.cell?_of_block (w := w) (setRow_other w b2 c _ hne)).trans (q1.cell c o v e')
    · simp at hc'
      subst hc'
      have := q6 c (by simp)
      exact ⟨by rw [setRow_size]; exact this, .inl (by simp)⟩
end ops

end
section
open Go Go.RowKit

def RP.sep (R S : RP) : RP := ⟨fun Φ f w => ∃ f1 f2, f = f1 ++ f2 ∧ R.p Φ f1 w ∧ S.p Φ f2 w, by
  rintro Φ Φ' f w w' hle hs hb ⟨f1, f2, rfl, h1, h2⟩
  exact ⟨f1, f2, rfl, R.loc hle (fun b hm => hs b (by simp [hm])) (fun b hm => hb b (by simp [hm])) h1, S.loc hle (fun b hm => hs b (by simp [hm])) (fun b hm => hb b (by simp [hm])) h2⟩⟩
def RP.ex {α : Type} (R : α → RP) : RP := ⟨fun Φ f w => ∃ x, (R x).p Φ f w, by
  rintro Φ Φ' f w w' hle hs hb ⟨x, h⟩
  exact ⟨x, (R x).loc hle hs hb h⟩⟩
def RP.is (q : Prop) : RP := ⟨fun _ f _ => f = [] ∧ q, fun _ _ _ h => h⟩
def RP.val (V : VP) (v : Value) : RP := ⟨fun Φ f _ => f = [] ∧ V.p Φ v, fun hle _ _ h => ⟨h.1, V.mono hle h.2⟩⟩
def RP.le (R S : RP) : Prop := ∀ Φ f w, R.p Φ f w → S.p Φ f w
theorem RP.le_refl (R : RP) : RP.le R R := fun _ _ _ h => h
theorem RP.le_trans {R S T : RP} (h : RP.le R S) (k : RP.le S T) : RP.le R T := fun Φ f w q => k Φ f w (h Φ f w q)

theorem Di (l : List B1) (i j : Nat) (e : B1) : Br .none (l.set i e) j = if i = j ∧ i < l.length then e else Br .none l j := by
  simp only [DI, List.getD, List.getElem?_set]
  by_cases h : i = j
  · subst h
    by_cases h2 : i < l.length
    · simp [h2]
    · simp [h2]
  · simp [h]

section moves
variable {c : Cx} {l : List B1} {a : Act} {w : World}
theorem Ar.conv {R R' : RP} (h : Ar c l a w) (i : Nat) (he : Br .none l i = .res R) (hR : RP.le R R') : Ar c (l.set i (.res R')) a w := by
  obtain ⟨Φ, fp, h⟩ := h
  refine ⟨Φ, fp, h.defers, h.size, h.I0, h.G3, h.step, fun j hj => ?_, fun j hj => h.own j (by simpa using hj), fun j k hj hk => h.apart j k (by simpa using hj) (by simpa using hk)⟩
  have hj : j < l.length := by simpa using hj
  rw [Di]
  split
  · rename_i hc
    have := h.holds j hj
    rw [← hc.1, he] at this
    rw [← hc.1]
    exact hR _ _ _ this
  · exact h.holds j hj
theorem Ar.ex {α : Type} {R : α → RP} (h : Ar c l a w) (i : Nat) (he : Br .none l i = .res (RP.ex R)) : ∃ x, Ar c (l.set i (.res (R x))) a w := by
  obtain ⟨Φ, fp, h⟩ := h
  have hi := Dv he (by simp)
  have hx := h.holds i hi
  rw [he] at hx
  obtain ⟨x, hx⟩ := hx
  refine ⟨x, Φ, fp, h.defers, h.size, h.I0, h.G3, h.step, fun j hj => ?_, fun j hj => h.own j (by simpa using hj), fun j k hj hk => h.apart j k (by simpa using hj) (by simpa using hk)⟩
  have hj : j < l.length := by simpa using hj
  rw [Di]
  split
  · rename_i hc
    rw [← hc.1]
    exact hx
  · exact h.holds j hj
theorem Ar.Hi {R : RP} {q : Prop} (h : Ar c l a w) (i : Nat) (he : Br .none l i = .res R) (hq : ∀ Φ f w, R.p Φ f w → q) : q := by
  obtain ⟨Φ, fp, h⟩ := h
  have hi := Dv he (by simp)
  have hx := h.holds i hi
  rw [he] at hx
  exact hq _ _ _ hx
theorem Ar.Pk {d : Nat} {V : VP} {q : Prop} (h : Ar c l a w) (i : Nat) (he : Br .none l i = .slot d V) (hq : ∀ Φ v, V.p Φ v → q) : q := by
  obtain ⟨Φ, fp, h⟩ := h
  have hi := Dv he (by simp)
  have hx := h.holds i hi
  rw [he] at hx
  obtain ⟨_, v, _, hv⟩ := hx
  exact hq _ _ hv
theorem Ar.B6 {d : Nat} {V V' : VP} (h : Ar c l a w) (i : Nat) (he : Br .none l i = .slot d V) (hV : ∀ Φ v, V.p Φ v → V'.p Φ v) : Ar c (l.set i (.slot d V')) a w := by
  obtain ⟨Φ, fp, h⟩ := h
  refine ⟨Φ, fp, h.defers, h.size, h.I0, h.G3, h.step, fun j hj => ?_, fun j hj => h.own j (by simpa using hj), fun j k hj hk => h.apart j k (by simpa using hj) (by simpa using hk)⟩
  have hj : j < l.length := by simpa using hj
  rw [Di]
  split
  · rename_i hc
    have := h.holds j hj
    rw [← hc.1, he] at this
    obtain ⟨q1, v, q2, q3⟩ := this
    rw [← hc.1]
    exact ⟨q1, v, q2, hV _ _ q3⟩
  · exact h.holds j hj
theorem Ar.sep {R S : RP} (h : Ar c l a w) (i : Nat) (he : Br .none l i = .res (RP.sep R S)) : Ar c (l.set i (.res R) ++ [.res S]) a w := by
  obtain ⟨Φ, fp, h⟩ := h
  have hi := Dv he (by simp)
  have hx := h.holds i hi
  rw [he] at hx
  obtain ⟨f1, f2, hf, h1, h2⟩ := hx
  obtain ⟨hnd, hown⟩ := h.own i hi
  rw [hf] at hnd hown
  have hsub : ∀ j b, j < l.length + 1 → b ∈ (if j = i then f1 else if j = l.length then f2 else fp j) → (j = i ∨ j = l.length) ∧ b ∈ fp i ∨ j < l.length ∧ j ≠ i ∧ b ∈ fp j := by
    intro j b hj hb
    by_cases q1 : j = i
    · rw [if_pos q1] at hb
      exact .inl ⟨.inl q1, by rw [hf]; simp [hb]⟩
    · rw [if_neg q1] at hb
      by_cases q2 : j = l.length
      · rw [if_pos q2] at hb
        exact .inl ⟨.inr q2, by rw [hf]; simp [hb]⟩
      · rw [if_neg q2] at hb
        exact .inr ⟨by omega, q1, hb⟩
  refine ⟨Φ, fun j => if j = i then f1 else if j = l.length then f2 else fp j, h.defers, h.size, h.I0, h.G3, h.step, fun j hj => ?_, fun j hj => ?_, fun j k hj hk hne b hb hb' => ?_⟩
  · have hj : j < l.length + 1 := by simpa using hj
    by_cases q1 : j = i
    · subst q1
      have e1 : Br .none (l.set j (.res R) ++ [.res S]) j = .res R := by rw [B8, if_pos (by simpa using hi), Di, if_pos ⟨rfl, hi⟩]
      rw [e1]
      simp only [if_true]
      exact h1
    · by_cases q2 : j = l.length
      · subst q2
        have e1 : Br .none (l.set i (.res R) ++ [.res S]) l.length = .res S := by rw [B8, if_neg (by simp)]; simp [Br]
        rw [e1]
        simp only [if_neg q1, if_true]
        exact h2
      · have e1 : Br .none (l.set i (.res R) ++ [.res S]) j = Br .none l j := by rw [B8, if_pos (by simp; omega), Di, if_neg (fun hc => q1 hc.1.symm)]
        rw [e1]
        simp only [if_neg q1, if_neg q2]
        exact h.holds j (by omega)
  · have hj : j < l.length + 1 := by simpa using hj
    refine ⟨?_, fun b hb => ?_⟩
    · show (if j = i then f1 else if j = l.length then f2 else fp j).Nodup
      by_cases q1 : j = i
      · rw [if_pos q1]; exact (List.nodup_append.1 hnd).1
      · rw [if_neg q1]
        by_cases q2 : j = l.length
        · rw [if_pos q2]; exact (List.nodup_append.1 hnd).2.1
        · rw [if_neg q2]; exact (h.own j (by omega)).1
    · rcases hsub j b hj hb with ⟨_, q⟩ | ⟨q1, _, q⟩
      · rw [hf] at q; exact hown b q
      · exact (h.own j q1).2 b q
  · have hj : j < l.length + 1 := by simpa using hj
    have hk : k < l.length + 1 := by simpa using hk
    have hdis : ∀ b, b ∈ f1 → b ∈ f2 → False := fun b x y => (List.nodup_append.1 hnd).2.2 b x b y rfl
    rcases hsub j b hj hb with ⟨q1, q2⟩ | ⟨q1, q2, q3⟩
    · rcases hsub k b hk hb' with ⟨r1, r2⟩ | ⟨r1, r2, r3⟩
      · have hli : ¬ l.length = i := by omega
        rcases q1 with rfl | rfl
        · rcases r1 with rfl | rfl
          · exact hne rfl
          · simp only [if_true] at hb
            simp only [if_neg hli, if_true] at hb'
            exact hdis b hb hb'
        · rcases r1 with rfl | rfl
          · simp only [if_true] at hb'
            simp only [if_neg hli, if_true] at hb
            exact hdis b hb' hb
          · exact hne rfl
      · exact h.apart i k hi r1 (fun e => r2 e.symm) b q2 r3
    · rcases hsub k b hk hb' with ⟨r1, r2⟩ | ⟨r1, r2, r3⟩
      · exact h.apart j i q1 hi q2 b q3 r2
      · exact h.apart j k q1 r1 hne b q3 r3
theorem Ar.EY {R S : RP} (h : Ar c l a w) (i j : Nat) (hi : Br .none l i = .res R) (hj : Br .none l j = .res S) (hne : i ≠ j) : Ar c ((l.set i (.res (RP.sep R S))).set j .none) a w := by
  obtain ⟨Φ, fp, h⟩ := h
  have hil := Dv hi (by simp)
  have hjl := Dv hj (by simp)
  have h1 := h.holds i hil
  rw [hi] at h1
  have h2 := h.holds j hjl
  rw [hj] at h2
  have hsub : ∀ k b, b ∈ (if k = i then fp i ++ fp j else if k = j then [] else fp k) → (k = i ∧ (b ∈ fp i ∨ b ∈ fp j)) ∨ (k ≠ i ∧ k ≠ j ∧ b ∈ fp k) := by
    intro k b hb
    by_cases q1 : k = i
    · rw [if_pos q1] at hb
      exact .inl ⟨q1, List.mem_append.1 hb⟩
    · rw [if_neg q1] at hb
      by_cases q2 : k = j
      · rw [if_pos q2] at hb; simp at hb
      · rw [if_neg q2] at hb; exact .inr ⟨q1, q2, hb⟩
  refine ⟨Φ, fun k => if k = i then fp i ++ fp j else if k = j then [] else fp k, h.defers, h.size, h.I0, h.G3, h.step, fun k hk => ?_, fun k hk => ?_, fun k m hk hm hkm b hb hb' => ?_⟩
  · have hk : k < l.length := by simpa using hk
    by_cases q2 : j = k
    · subst q2
      have e1 : Br .none ((l.set i (.res (RP.sep R S))).set j .none) j = .none := by rw [Di, if_pos ⟨rfl, by simpa using hjl⟩]
      rw [e1]
      simp only [if_neg (fun e : j = i => hne e.symm), if_true]
      rfl
    · by_cases q1 : i = k
      · subst q1
        have e1 : Br .none ((l.set i (.res (RP.sep R S))).set j .none) i = .res (RP.sep R S) := by rw [Di, if_neg (fun hc => q2 hc.1), Di, if_pos ⟨rfl, hil⟩]
        rw [e1]
        simp only [if_true]
        exact ⟨fp i, fp j, rfl, h1, h2⟩
      · have e1 : Br .none ((l.set i (.res (RP.sep R S))).set j .none) k = Br .none l k := by rw [Di, if_neg (fun hc => q2 hc.1), Di, if_neg (fun hc => q1 hc.1)]
        rw [e1]
        simp only [if_neg (fun e : k = i => q1 e.symm), if_neg (fun e : k = j => q2 e.symm)]
        exact h.holds k hk
  · have hk : k < l.length := by simpa using hk
    refine ⟨?_, fun b hb => ?_⟩
    · show (if k = i then fp i ++ fp j else if k = j then [] else fp k).Nodup
      by_cases q1 : k = i
      · rw [if_pos q1]
        refine List.nodup_append.2 ⟨(h.own i hil).1, (h.own j hjl).1, fun x hx y hy e => ?_⟩
        subst e
        exact h.apart i j hil hjl hne x hx hy
      · rw [if_neg q1]
        by_cases q2 : k = j
        · rw [if_pos q2]; exact List.nodup_nil
        · rw [if_neg q2]; exact (h.own k hk).1
    · rcases hsub k b hb with ⟨_, q | q⟩ | ⟨_, _, q⟩
      · exact (h.own i hil).2 b q
      · exact (h.own j hjl).2 b q
      · exact (h.own k hk).2 b q
  · have hk : k < l.length := by simpa using hk
    have hm : m < l.length := by simpa using hm
    rcases hsub k b hb with ⟨q0, q | q⟩ | ⟨q1, q2, q⟩ <;> rcases hsub m b hb' with ⟨r0, r | r⟩ | ⟨r1, r2, r⟩
    · exact hkm (q0.trans r0.symm)
    · exact hkm (q0.trans r0.symm)
    · exact h.apart i m hil hm (fun e => r1 e.symm) b q r
    · exact hkm (q0.trans r0.symm)
    · exact hkm (q0.trans r0.symm)
    · exact h.apart j m hjl hm (fun e => r2 e.symm) b q r
    · exact h.apart k i hk hil q1 b q r
    · exact h.apart k j hk hjl q2 b q r
    · exact h.apart k m hk hm hkm b q r
theorem Ar.snoc {R : RP} (h : Ar c l a w) (hR : ∀ Φ w, Cv Φ w → R.p Φ [] w) : Ar c (l ++ [.res R]) a w := by
  obtain ⟨Φ, fp, h⟩ := h
  refine ⟨Φ, fun j => if j = l.length then [] else fp j, h.defers, h.size, h.I0, h.G3, h.step, fun j hj => ?_, fun j hj => ?_, fun j k hj hk hne b hb hb' => ?_⟩
  · have hj : j < l.length + 1 := by simpa using hj
    by_cases q : j = l.length
    · subst q
      have e1 : Br .none (l ++ [.res R]) l.length = .res R := by rw [B8, if_neg (by simp)]; simp [Br]
      rw [e1]
      simp only [if_true]
      exact hR Φ w h.I0
    · have e1 : Br .none (l ++ [.res R]) j = Br .none l j := by rw [B8, if_pos (by omega)]
      rw [e1]
      simp only [if_neg q]
      exact h.holds j (by omega)
  · have hj : j < l.length + 1 := by simpa using hj
    by_cases q : j = l.length
    · simp only [if_pos q]; exact ⟨List.nodup_nil, by simp⟩
    · simp only [if_neg q]; exact h.own j (by omega)
  · have hj : j < l.length + 1 := by simpa using hj
    have hk : k < l.length + 1 := by simpa using hk
    by_cases q : j = l.length
    · simp [if_pos q] at hb
    · by_cases r : k = l.length
      · simp [if_pos r] at hb'
      · simp only [if_neg q] at hb
        simp only [if_neg r] at hb'
        exact h.apart j k (by omega) (by omega) hne b hb hb'
end moves

def LC : List B1 → List B1 → Prop
  | [], [] => True
  | e :: es, f :: fs => (∀ Φ t w g, e.holds Φ t w g → f.holds Φ t w g) ∧ LC es fs
  | _, _ => False
theorem LC.hold {Φ : BR} {t : Array Value} {w : World} : ∀ {C D : List B1} {f : List (List Nat)}, LC C D → BT Φ t w C f → BT Φ t w D f
  | [], [], _, _, h => h
  | _ :: _, _ :: _, [], _, h => h.elim
  | _ :: _, _ :: _, _ :: _, k, h => ⟨k.1 _ _ _ _ h.1, LC.hold k.2 h.2⟩
  | [], _ :: _, _, k, _ => k.elim
  | _ :: _, [], _, k, _ => k.elim
theorem Ba.conv {P : Program} {G : FP} {o : Oper} {N C C' : List B1} {Gv : Value → List B1} (hC : LC C' C) (h : Ba P G o N C Gv) : Ba P G o N C' Gv := by
  intro Φ a w fN fC h1 h2 h3 h4 h5 h6 h7 K Q hK
  exact h Φ a w fN fC h1 h2 h3 (hC.hold h4) h5 h6 h7 K Q hK
theorem Jo {P : Program} {G : FP} {N : List B1} {d : Nat} {ty : TypeId} {pos : String} {af : Array Edge} {gd : Option (Nat × Bool)} {f : FuncId} {xs : List Operand} {tys : Array TypeId} {args : List VP} {pre : List RP} {post : Value → List RP} {res : VP} (hcall : ∀ args w, (callFunc f args).run P w = .ok (.enter f args) w)
    (hc : Az P G f args pre post res) (hx : Fs G N xs args) :
    Ba P G ⟨some d, .call ⟨.value (.func f), xs.toArray, tys⟩, ty, pos, af, gd⟩ N (pre.map .res) (fun v => .slot d (Am v) :: (post v).map .res) := by
  intro Φ a w fN fC h1 h2 h3 h4 h5 h6 h7 K Q hK
  refine HN hcall hc hx Φ a w fN fC h1 h2 h3 h4 h5 h6 h7 K Q fun v w' Φ' fG q1 q2 q3 q4 q5 => hK v w' Φ' fG q1 q2 ?_ q4 q5
  match fG, q3 with
  | f :: fs, q3 =>
    obtain ⟨⟨r1, u, r2, r3⟩, r4⟩ := q3
    refine ⟨⟨r1, u, r2, ?_⟩, r4⟩
    have := C0 a v d (h7 d rfl)
    rw [this] at r2
    exact (Option.some.inj r2).symm
  | [], q3 => exact q3.elim

theorem GH.le {Φ : BR} {w : World} : ∀ {Rs Ss : List RP} {fs : List (List Nat)}, GH Φ w Rs fs → Rs.length = Ss.length → (∀ (i : Nat) (R S : RP), Rs[i]? = some R → Ss[i]? = some S → RP.le R S) → GH Φ w Ss fs
  | [], [], _, h, _, _ => h
  | R :: Rs, S :: Ss, f :: fs, h, hl, hk => ⟨hk 0 R S rfl rfl _ _ _ h.1, GH.le h.2 (by simpa using hl) fun i R S q1 q2 => hk (i + 1) R S (by simpa using q1) (by simpa using q2)⟩
  | _ :: _, _ :: _, [], h, _, _ => h.elim
  | [], _ :: _, _, _, hl, _ => by simp at hl
  | _ :: _, [], _, _, hl, _ => by simp at hl
theorem Az.ex {P : Program} {G : FP} {f : FuncId} {args : List VP} {α : Type} {R : α → RP} {R' : α → Value → RP} {pre : List RP} {post : Value → List RP} {res : VP} (h : ∀ x, Az P G f args (R x :: pre) (fun v => R' x v :: post v) res) :
    Az P G f args (RP.ex R :: pre) (fun v => RP.ex (fun x => R' x v) :: post v) res := by
  intro Φ w vs fs h1 h2 h3 h4 h5 h6
  match fs, h4 with
  | f0 :: fs, ⟨⟨x, hx⟩, h4⟩ =>
    refine (h x Φ w vs (f0 :: fs) h1 h2 h3 ⟨hx, h4⟩ h5 h6).mono fun e w' hq => ?_
    obtain ⟨v, Φ', fs', q0, q1, q2, q3, q4, q5, q6⟩ := hq
    match fs', q4 with
    | g :: gs, q4 => exact ⟨v, Φ', g :: gs, q0, q1, q2, q3, ⟨⟨x, q4.1⟩, q4.2⟩, q5, q6⟩
    | [], q4 => exact q4.elim
  | [], h4 => exact h4.elim

end
section
open Go Go.RowKit

def Dm {K V : Type} (Φ : BR) (w : World) (kV : K → Value) (eR : Value → V → RP) : List MapEntry → List (K × V) → List (List Nat) → Prop
  | [], [], [] => True
  | e :: es, x :: xs, f :: fs => e.key = kV x.1 ∧ (eR e.val x.2).p Φ f w ∧ Dm Φ w kV eR es xs fs
  | _, _, _ => False
theorem Dm.loc {K V : Type} {Φ Φ' : BR} {w w' : World} {kV : K → Value} {eR : Value → V → RP} (hle : BR.le Φ Φ') : ∀ {es : List MapEntry} {m : List (K × V)} {fs : List (List Nat)}, (∀ b ∈ fs.flatten, Φ' b = Φ b) → (∀ b ∈ fs.flatten, w'.heap[b]? = w.heap[b]?) → Dm Φ w kV eR es m fs → Dm Φ' w' kV eR es m fs
  | [], [], [], _, _, h => h
  | e :: es, x :: xs, f :: fs, hs, hb, h => ⟨h.1, (eR _ _).loc hle (fun b hm => hs b (by simp [hm])) (fun b hm => hb b (by simp [hm])) h.2.1, Dm.loc hle (fun b hm => hs b (by simp only [List.flatten_cons]; exact List.mem_append.2 (.inr hm))) (fun b hm => hb b (by simp only [List.flatten_cons]; exact List.mem_append.2 (.inr hm))) h.2.2⟩
  | [], [], _ :: _, _, _, h => h.elim
  | [], _ :: _, _, _, _, h => h.elim
  | _ :: _, [], _, _, _, h => h.elim
  | _ :: _, _ :: _, [], _, _, h => h.elim
theorem Dm.len {K V : Type} {Φ : BR} {w : World} {kV : K → Value} {eR : Value → V → RP} : ∀ {es : List MapEntry} {m : List (K × V)} {fs : List (List Nat)}, Dm Φ w kV eR es m fs → es.length = m.length ∧ fs.length = m.length
  | [], [], [], _ => ⟨rfl, rfl⟩
  | _ :: _, _ :: _, _ :: _, h => by have := Dm.len h.2.2; exact ⟨by simp [this.1], by simp [this.2]⟩
  | [], [], _ :: _, h => h.elim
  | [], _ :: _, _, h => h.elim
  | _ :: _, [], _, h => h.elim
  | _ :: _, _ :: _, [], h => h.elim
theorem Dm.keys {K V : Type} {Φ : BR} {w : World} {kV : K → Value} {eR : Value → V → RP} : ∀ {es : List MapEntry} {m : List (K × V)} {fs : List (List Nat)}, Dm Φ w kV eR es m fs → es.map (·.key) = (m.map (·.1)).map kV
  | [], [], [], _ => rfl
  | _ :: _, _ :: _, _ :: _, h => by simp [h.1, Dm.keys h.2.2]
  | [], [], _ :: _, h => h.elim
  | [], _ :: _, _, h => h.elim
  | _ :: _, [], _, h => h.elim
  | _ :: _, _ :: _, [], h => h.elim
theorem Dm.get {K V : Type} {Φ : BR} {w : World} {kV : K → Value} {eR : Value → V → RP} : ∀ {es : List MapEntry} {m : List (K × V)} {fs : List (List Nat)} (i : Nat) (x : K × V), Dm Φ w kV eR es m fs → m[i]? = some x → ∃ e f, es[i]? = some e ∧ fs[i]? = some f ∧ e.key = kV x.1 ∧ (eR e.val x.2).p Φ f w
  | e :: es, y :: m, f :: fs, 0, x, h, hx => by simp at hx; subst hx; exact ⟨e, f, rfl, rfl, h.1, h.2.1⟩
  | e :: es, y :: m, f :: fs, i + 1, x, h, hx => by simpa using Dm.get i x h.2.2 (by simpa using hx)
  | [], [], [], _, _, _, hx => by simp at hx
  | [], [], _ :: _, _, _, h, _ => h.elim
  | [], _ :: _, _, _, _, h, _ => h.elim
  | _ :: _, [], _, _, _, h, _ => h.elim
  | _ :: _, _ :: _, [], _, _, h, _ => h.elim
theorem Dm.append {K V : Type} {Φ : BR} {w : World} {kV : K → Value} {eR : Value → V → RP} : ∀ {es : List MapEntry} {m : List (K × V)} {fs : List (List Nat)} {es' : List MapEntry} {m' : List (K × V)} {fs' : List (List Nat)}, Dm Φ w kV eR es m fs → Dm Φ w kV eR es' m' fs' → Dm Φ w kV eR (es ++ es') (m ++ m') (fs ++ fs')
  | [], [], [], _, _, _, _, k => k
  | _ :: _, _ :: _, _ :: _, _, _, _, h, k => ⟨h.1, h.2.1, Dm.append h.2.2 k⟩
  | [], [], _ :: _, _, _, _, h, _ => h.elim
  | [], _ :: _, _, _, _, _, h, _ => h.elim
  | _ :: _, [], _, _, _, _, h, _ => h.elim
  | _ :: _, _ :: _, [], _, _, _, h, _ => h.elim
theorem Dm.set {K V : Type} {Φ : BR} {w : World} {kV : K → Value} {eR : Value → V → RP} : ∀ {es : List MapEntry} {m : List (K × V)} {fs : List (List Nat)} (i : Nat) {e : MapEntry} {x : K × V} {f : List Nat}, Dm Φ w kV eR es m fs → e.key = kV x.1 → (eR e.val x.2).p Φ f w → Dm Φ w kV eR (es.set i e) (m.set i x) (fs.set i f)
  | [], [], [], _, _, _, _, h, _, _ => by simpa using h
  | _ :: _, _ :: _, _ :: _, 0, _, _, _, h, h1, h2 => ⟨h1, h2, h.2.2⟩
  | _ :: _, _ :: _, _ :: _, i + 1, _, _, _, h, h1, h2 => ⟨h.1, h.2.1, Dm.set i h.2.2 h1 h2⟩
  | [], [], _ :: _, _, _, _, _, h, _, _ => h.elim
  | [], _ :: _, _, _, _, _, _, h, _, _ => h.elim
  | _ :: _, [], _, _, _, _, _, h, _, _ => h.elim
  | _ :: _, _ :: _, [], _, _, _, _, h, _, _ => h.elim

def JJ {K : Type} [DecidableEq K] (k : K) : List K → Option Nat
  | [] => none
  | x :: xs => if k = x then some 0 else (JJ k xs).map (· + 1)
def GM {K V : Type} [DecidableEq K] (k : K) : List (K × V) → Option V
  | [] => none
  | x :: xs => if k = x.1 then some x.2 else GM k xs
def Gw {K V : Type} [DecidableEq K] (k : K) (v : V) : List (K × V) → List (K × V)
  | [] => [(k, v)]
  | x :: xs => if k = x.1 then (k, v) :: xs else x :: Gw k v xs
theorem HS {K V : Type} [DecidableEq K] {k : K} : ∀ {m : List (K × V)}, JJ k (m.map (·.1)) = none → GM k m = none ∧ (∀ v, Gw k v m = m ++ [(k, v)]) ∧ k ∉ m.map (·.1)
  | [], _ => ⟨rfl, fun _ => rfl, by simp⟩
  | x :: m, h => by
    by_cases hk : k = x.1
    · simp [JJ, hk] at h
    · simp only [List.map_cons, JJ, if_neg hk, Option.map_eq_none_iff] at h
      obtain ⟨h1, h2, h3⟩ := HS h
      exact ⟨by simp [GM, hk, h1], fun v => by simp [Gw, hk, h2], by simp only [List.map_cons, List.mem_cons, not_or]; exact ⟨hk, h3⟩⟩
theorem HR {K V : Type} [DecidableEq K] {k : K} : ∀ {m : List (K × V)} {i : Nat}, JJ k (m.map (·.1)) = some i → ∃ v, m[i]? = some (k, v) ∧ GM k m = some v ∧ (∀ v', Gw k v' m = m.set i (k, v')) ∧ i < m.length
  | [], i, h => by simp [JJ] at h
  | x :: m, i, h => by
    by_cases hk : k = x.1
    · simp [JJ, hk] at h
      subst h
      exact ⟨x.2, by simp [hk], by simp [GM, hk], fun v' => by simp [Gw, hk], by simp⟩
    · simp only [List.map_cons, JJ, if_neg hk, Option.map_eq_some_iff] at h
      obtain ⟨j, h, rfl⟩ := h
      obtain ⟨v, h1, h2, h3, h4⟩ := HR h
      exact ⟨v, by simpa using h1, by simp [GM, hk, h2], fun v' => by simp [Gw, hk, h3], by simpa using h4⟩
theorem K0 {K V : Type} [DecidableEq K] (k : K) (v : V) : ∀ (m : List (K × V)), (m.map (·.1)).Nodup → ((Gw k v m).map (·.1)).Nodup
  | [], _ => by simp [Gw]
  | x :: m, h => by
    rw [List.map_cons, List.nodup_cons] at h
    by_cases hk : k = x.1
    · simp only [Gw, if_pos hk, List.map_cons, List.nodup_cons]
      rw [hk]; exact h
    · simp only [Gw, if_neg hk, List.map_cons, List.nodup_cons]
      refine ⟨fun hm => ?_, K0 k v m h.2⟩
      have : ∀ (m : List (K × V)) (y : K), y ∈ (Gw k v m).map (·.1) → y = k ∨ y ∈ m.map (·.1) := by
        intro m
        induction m with
        | nil => intro y hy; simpa [Gw] using hy
        | cons z m ih =>
          intro y hy
          simp only [Gw] at hy
          by_cases hz : k = z.1
          · rw [if_pos hz, List.map_cons, List.mem_cons] at hy
            rcases hy with hy | hy
            · exact .inl hy
            · exact .inr (by rw [List.map_cons]; exact List.mem_cons_of_mem _ hy)
          · rw [if_neg hz, List.map_cons, List.mem_cons] at hy
            rcases hy with hy | hy
            · exact .inr (by rw [List.map_cons, hy]; exact List.mem_cons_self)
            · rcases ih y hy with h' | h'
              · exact .inl h'
              · exact .inr (by rw [List.map_cons]; exact List.mem_cons_of_mem _ h')
      rcases this m x.1 hm with h' | h'
      · exact hk h'.symm
      · exact h.1 h'
theorem Ma {K V : Type} [DecidableEq K] {q : K → Prop} (k : K) (v : V) (hk : q k) : ∀ (m : List (K × V)), (∀ x ∈ m, q x.1) → ∀ x ∈ Gw k v m, q x.1
  | [], _, x, hx => by simp [Gw] at hx; subst hx; exact hk
  | y :: m, h, x, hx => by
    simp only [Gw] at hx
    split at hx
    · rcases List.mem_cons.1 hx with rfl | hx
      · exact hk
      · exact h x (List.mem_cons_of_mem _ hx)
    · rcases List.mem_cons.1 hx with rfl | hx
      · exact h _ List.mem_cons_self
      · exact Ma k v hk m (fun z hz => h z (List.mem_cons_of_mem _ hz)) x hx

structure Kf (P : Program) (kt : TypeId) {K : Type} [DecidableEq K] (kV : K → Value) (kOk : K → Prop) : Prop where
  check : ∀ b k w, kOk k → (Instr.checkKey b 10000 kt (kV k)).run P w = .ok () w
  find : ∀ (es : List MapEntry) (ks : List K) (k : K) (w : World), kOk k → es.map (·.key) = ks.map kV → (∀ x ∈ ks, kOk x) → (Instr.findKey kt (kV k) es).run P w = .ok ((JJ k ks).bind fun i => es[i]?.map fun e => (i, e.val)) w
  same : ∀ k, Instr.sameBits 10000 (kV k) (kV k) = true

theorem Oh (k x : List UInt8) : ((⟨k.toArray⟩ : ByteArray) == ⟨x.toArray⟩) = decide (k = x) := by
  show (k.toArray == x.toArray) = _
  rw [Bool.eq_iff_iff]
  simp
def HF (l : List UInt8) : Value := .string ⟨l.toArray⟩
def Ex (l : List UInt8) : Value := .agg (l.map B9).toArray
section keys
variable {P : Program} {kt : TypeId}
theorem Qc (hu : P.underlying kt = some .string) : Kf P kt HF (fun _ => True) where
  check b k w _ := by
    unfold Instr.checkKey
    simp [HF, run_underlying hu]
  find es ks k w _ hk _ := by
    have key : ∀ (es : List MapEntry) (ks : List (List UInt8)) (i : Nat), es.map (·.key) = ks.map HF → Instr.findNow .string (HF k) es i = some ((JJ k ks).bind fun j => es[j]?.map fun e => (i + j, e.val)) := by
      intro es
      induction es with
      | nil => intro ks i h; cases ks with
                             | nil => rfl
                             | cons x ks => simp at h
      | cons e es ih =>
        intro ks i h
        cases ks with
        | nil => simp at h
        | cons x ks =>
          simp only [List.map_cons, List.cons.injEq] at h
          have hs : Instr.sameNow .string (HF k) e.key = some (decide (k = x)) := by
            rw [h.1]
            simp only [Instr.sameNow, HF, Oh]
          unfold Instr.findNow
          rw [hs]
          by_cases hx : k = x
          · simp [hx, JJ]
          · simp only [hx, decide_false, JJ, if_neg hx]
            rw [ih ks (i + 1) h.2]
            cases JJ k ks with
            | none => rfl
            | some j => simp [Nat.add_comm, Nat.add_left_comm]
    have := key es ks 0 hk
    simp only [Nat.zero_add] at this
    simp only [Instr.findKey, Sem.run_bind, run_underlying hu, Result.andThen_ok]
    rw [this]
    rfl
  same k := by simp [Instr.sameBits, HF, Oh]
theorem GS {e : TypeId} (he : P.underlying e = some (.int .u8)) (hs : ∀ w, (sizeOf e).run P w = .ok 1 w) (ha : ∀ w, (isAgg e).run P w = .ok false w) (b : Bool) (n : Nat) (l : List UInt8) (w : World) : ∀ (m k : Nat), k + m ≤ l.length →
    (forIn (List.range' k m) PUnit.unit fun i _ => do Instr.checkKey b (n + 1) e (← part e (l.map B9).toArray (i * (← sizeOf e))); pure (ForInStep.yield PUnit.unit) : Sem PUnit).run P w = .ok PUnit.unit w
  | 0, k, _ => by simp
  | m + 1, k, h => by
    have ih := GS he hs ha b n l w m (k + 1) (by omega)
    have hp : (part e (l.map B9).toArray (k * 1)).run P w = .ok (B9 l[k]) w := by simp [part, ha, show k < l.length by omega]
    have hc : (Instr.checkKey b (n + 1) e (B9 l[k])).run P w = .ok () w := by
      unfold Instr.checkKey
      simp [run_underlying he, B9]
    simp only [List.range'_succ, List.forIn_cons, Sem.run_bind, hs, Result.andThen_ok, hp, hc, Sem.run_pure]
    exact ih
theorem Il {e : TypeId} {n : Nat} {i : TypeInfo} (hu : P.underlying kt = some (.array n e)) (he : P.underlying e = some (.int .u8)) (hi : P.info? e = some i) (hs : ∀ w, (sizeOf e).run P w = .ok 1 w) (ha : ∀ w, (isAgg e).run P w = .ok false w) :
    Kf P kt Ex (fun l => l.length = n) where
  check b k w hk := by
    unfold Instr.checkKey Ex
    simp only [Sem.run_bind, run_underlying hu, Result.andThen_ok]
    have := GS (P := P) he hs ha b 9998 k w n 0 (by omega)
    simp only [Std.Legacy.Range.forIn_eq_forIn_range', Std.Legacy.Range.size] at *
    simp at this ⊢
    rw [this]
    rfl
  find es ks k w hk hkeys hall := by
    have key : ∀ (es : List MapEntry) (ks : List (List UInt8)) (j : Nat), es.map (·.key) = ks.map Ex → (∀ x ∈ ks, x.length = n) → (Instr.findAsking kt (Ex k) es j).run P w = .ok ((JJ k ks).bind fun q => es[q]?.map fun e => (j + q, e.val)) w := by
      intro es
      induction es with
      | nil => intro ks j h _; cases ks with
                               | nil => rfl
                               | cons x ks => simp at h
      | cons e' es ih =>
        intro ks j h hall
        cases ks with
        | nil => simp at h
        | cons x ks =>
          simp only [List.map_cons, List.cons.injEq] at h
          have heq : (Op.equal kt (Ex k) e'.key).run P w = .ok (decide (k = x)) w := by
            rw [h.1]
            exact Gy hu he hi hs ha hk (hall x (by simp)) 9998 w
          unfold Instr.findAsking
          simp only [Sem.run_bind, heq, Result.andThen_ok]
          by_cases hx : k = x
          · simp [hx, JJ]
          · simp only [hx, decide_false, JJ, Bool.false_eq_true, if_false]
            rw [ih ks (j + 1) h.2 fun y hy => hall y (by simp [hy])]
            cases JJ k ks with
            | none => rfl
            | some q => simp [Nat.add_comm, Nat.add_left_comm]
    have hnow : ∀ (es : List MapEntry), es.map (·.key) = ks.map Ex → Instr.findNow (.array n e) (Ex k) es 0 = if es = [] then some none else none := by
      intro es h
      cases es with
      | nil => rfl
      | cons e' es =>
        cases ks with
        | nil => simp at h
        | cons x ks =>
          simp only [List.map_cons, List.cons.injEq] at h
          simp [Instr.findNow, Instr.sameNow]
    simp only [Instr.findKey, Sem.run_bind, run_underlying hu, Result.andThen_ok, hnow es hkeys]
    by_cases h0 : es = []
    · subst h0
      have : ks = [] := by cases ks with
                           | nil => rfl
                           | cons x ks => simp at hkeys
      subst this
      simp [JJ]
    · rw [if_neg h0]
      have := key es ks 0 hkeys hall
      simpa using this
  same k := by
    have : ∀ (l : List UInt8), ((l.map B9).zip (l.map B9)).all (fun (x, y) => Instr.sameBits 9999 x y) = true := by
      intro l
      induction l with
      | nil => rfl
      | cons x l ih => simp [Instr.sameBits, B9] at ih ⊢; exact ih
    simp [Instr.sameBits, Ex, this]
end keys

end
section
open Go Go.RowKit

def Et {K V : Type} (v : Value) (kV : K → Value) (kOk : K → Prop) (eR : Value → V → RP) (m : List (K × V)) : RP := ⟨fun Φ f w => ∃ b es clock fs, v = .map (some b) ∧ f = b :: List.flatten fs ∧ w.heap[b]? = some (.map es clock) ∧
    Dm Φ w kV eR es.toList m fs ∧ (es.toList.map (·.born)).Nodup ∧ (∀ e ∈ es.toList, e.born < clock) ∧ (m.map (·.1)).Nodup ∧ ∀ x ∈ m, kOk x.1, by
  rintro Φ Φ' f w w' hle hs hb ⟨b, es, clock, fs, h1, rfl, h3, h4, h5⟩
  exact ⟨b, es, clock, fs, h1, rfl, by rw [hb b (by simp)]; exact h3, h4.loc hle (fun c hc => hs c (by simp [hc])) (fun c hc => hb c (by simp [hc])), h5⟩⟩

theorem GQ {w : World} {b : Nat} {o o' : Obj} (h : w.heap[b]? = some o) : ({ w with heap := w.heap.setIfInBounds b o' } : World).heap[b]? = some o' := by
  have hlt : b < w.heap.size := (Array.getElem?_eq_some_iff.1 h).1
  simp [Array.getElem?_setIfInBounds, hlt]
theorem EG {w : World} {b c : Nat} {o' : Obj} (h : c ≠ b) : ({ w with heap := w.heap.setIfInBounds b o' } : World).heap[c]? = w.heap[c]? := by
  simp [Array.getElem?_setIfInBounds, Ne.symm h]
theorem OM {Φ : BR} {w : World} {b : Nat} {es : Array MapEntry} {clock : Nat} (hP : Cv Φ w) (h : w.heap[b]? = some (.map es clock)) (o : Nat) : Φ b o = none := by
  cases e : Φ b o with
  | none => rfl
  | some v =>
    have := hP.cell b o v e
    simp [World.cell?, h] at this
theorem Hu {Φ : BR} {w : World} {b : Nat} {es : Array MapEntry} {clock : Nat} {o' : Obj} (hP : Cv Φ w) (h : w.heap[b]? = some (.map es clock)) : Cv Φ { w with heap := w.heap.setIfInBounds b o' } :=
  ⟨fun c o v e => by simpa using hP.lt c o v e, fun c o v e => by
    have hne : c ≠ b := fun e' => by rw [e', OM hP h o] at e; cases e
    exact (World.cell?_of_block (w := w) (EG hne)).trans (hP.cell c o v e)⟩
theorem GP (w : World) (Φ : BR) (b : Nat) (o' : Obj) : Step w Φ [b] { w with heap := w.heap.setIfInBounds b o' } Φ :=
  ⟨rfl, rfl, rfl, by simp, fun c hc hne => EG (by simpa using hne), BR.le_refl _, fun _ _ _ => rfl⟩

section ops
variable {P : Program} {G : FP} {N : List B1} {d : Nat} {ty : TypeId} {pos : String} {af : Array Edge} {gd : Option (Nat × Bool)} {K V : Type} {kV : K → Value} {kOk : K → Prop} {eR : Value → V → RP}

theorem LX {t : TypeId} : Ba P G ⟨some d, .makeMap t none, ty, pos, af, gd⟩ N [] (fun v => [.slot d (Am v), .res (Et v kV kOk eR [])]) := by
  intro Φ a w fN fC h1 h2 h3 h4 h5 h6 h7 K Q hK
  match fC, h4 with
  | [], _ =>
    have hrun : (execOp a.eval ⟨some d, .makeMap t none, ty, pos, af, gd⟩).run P w = .ok (.value (.map (some w.heap.size))) (w.alloc (.map #[] 0)) := by
      simp [execOp, Instr.makeMap]
    unfold Oper.wp
    rw [hrun, Oper.upon_value]
    exact hK _ _ Φ [[], [w.heap.size]] (Gx w Φ _) (Ha h1 _) ⟨⟨rfl, _, C0 a _ d (h7 d rfl), rfl⟩, ⟨w.heap.size, #[], 0, [], rfl, rfl, heap_alloc_new _ _, trivial, by simp, by simp, by simp, by simp⟩, trivial⟩ (by simp) (by simp)

variable [DecidableEq K]
theorem Jx {kt : TypeId} (hk : Kf P kt kV kOk) {Φ : BR} {w : World} {es : List MapEntry} {m : List (K × V)} {fs : List (List Nat)} (h : Dm Φ w kV eR es m fs) (hall : ∀ x ∈ m, kOk x.1) {k : K} (hkk : kOk k) (w' : World) :
    (Instr.findKey kt (kV k) es).run P w' = .ok ((JJ k (m.map (·.1))).bind fun i => es[i]?.map fun e => (i, e.val)) w' :=
  hk.find es (m.map (·.1)) k w' hkk h.keys (fun x hx => by obtain ⟨y, hy, rfl⟩ := List.mem_map.1 hx; exact hall y hy)

theorem Ie {t kt e : TypeId} {x y : Operand} {c : Bool} {v z : Value} {m : List (K × V)} {k : K} {Vk : VP} {R0 : RP} (eV : V → VP) (dflt : V) (j : Nat) (hu : P.underlying t = some (.map kt e)) (hk : Kf P kt kV kOk) (hz : ∀ w, (zeroValue e).run P w = .ok z w)
    (hx : AM G N x (Am v)) (hy : AM G N y Vk) (hVk : ∀ Φ u, Vk.p Φ u → u = kV k ∧ kOk k) (hR : Br .none N j = .res R0) (hR0 : ∀ Φ f w, R0.p Φ f w → ∃ g, (Et v kV kOk eR m).p Φ g w)
    (hread : ∀ Φ f w u x, (eR u x).p Φ f w → (eV x).p Φ u) (hdf : ∀ Φ, (eV dflt).p Φ z) :
    Ba P G ⟨some d, .lookup t x y c, ty, pos, af, gd⟩ N [] (fun _ => [.slot d (if c then CV [eV ((GM k m).getD dflt), AE (GM k m).isSome] else eV ((GM k m).getD dflt))]) :=
  Ba.val fun Φ a w f _ hG hN => by
    have hv : a.eval x = v := hx Φ a w f hG hN
    obtain ⟨hkv, hkk⟩ := hVk Φ _ (hy Φ a w f hG hN)
    obtain ⟨f0, hf0⟩ := hN.res j hR
    obtain ⟨g, b, es, clock, fs, rfl, _, hb, hE, _, _, _, hall⟩ := hR0 _ _ _ hf0
    have hfind := Jx hk hE hall hkk w
    have hgo : (getObj b).run P w = .ok (.map es clock) w := by simp [getObj, Sem.run, hb]
    cases hi : JJ k (m.map (·.1)) with
    | none =>
      obtain ⟨h1, _, _⟩ := HS hi
      rw [hi] at hfind
      have hfind : (Instr.findKey kt (kV k) es.toList).run P w = .ok none w := hfind
      refine ⟨if c then .tuple #[z, .bool false] else z, ?_, ?_⟩
      · simp only [execOp, hv, hkv, Instr.lookup, Sem.run_bind, run_underlying hu, Result.andThen_ok, hgo, Sem.run_pure, hk.check _ _ _ hkk, hfind, hz]
      · rw [h1]
        cases c
        · exact hdf Φ
        · exact ⟨[z, .bool false], rfl, hdf Φ, rfl, trivial⟩
    | some i =>
      obtain ⟨x', h1, h2, _, h4⟩ := HR hi
      obtain ⟨en, f', h5, _, _, h6⟩ := hE.get i _ h1
      rw [hi] at hfind
      have hfind : (Instr.findKey kt (kV k) es.toList).run P w = .ok (some (i, en.val)) w := by rw [hfind]; simp only [Option.bind_some, h5, Option.map_some]
      refine ⟨if c then .tuple #[en.val, .bool true] else en.val, ?_, ?_⟩
      · simp only [execOp, hv, hkv, Instr.lookup, Sem.run_bind, run_underlying hu, Result.andThen_ok, hgo, Sem.run_pure, hk.check _ _ _ hkk, hfind]
      · rw [h2]
        have := hread _ _ _ _ _ h6
        cases c
        · exact this
        · exact ⟨[en.val, .bool true], rfl, this, rfl, trivial⟩
theorem Hz {α : Type _} {l : List α} {x : α} (h : l.Nodup) (hx : x ∉ l) : (l ++ [x]).Nodup :=
  List.nodup_append.2 ⟨h, by simp, fun a ha b hb e => by simp at hb; subst hb; subst e; exact hx ha⟩

theorem GC {t kt e : TypeId} {x y u : Operand} {v : Value} {m : List (K × V)} {k : K} {n : V} {Vk : VP} {eV : V → VP} (hu : P.underlying t = some (.map kt e)) (hk : Kf P kt kV kOk)
    (hx : AM G N x (Am v)) (hy : AM G N y Vk) (hVk : ∀ Φ u, Vk.p Φ u → u = kV k ∧ kOk k) (hn : AM G N u (eV n)) :
    Ba P G ⟨none, .mapUpdate t x y u, ty, pos, af, gd⟩ N [.res (Et v kV kOk (fun u y => RP.val (eV y) u) m)] (fun _ => [.res (Et v kV kOk (fun u y => RP.val (eV y) u) (Gw k n m))]) := by
  intro Φ a w fN fC h1 h2 h3 h4 h5 h6 h7 KK Q hK
  match fC, h4 with
  | [f], ⟨⟨b, es, clock, fs, hveq, hf, hb, hE, hbn, hbc, hkn, hall⟩, _⟩ =>
    subst hf
    have hv : a.eval x = v := hx Φ a w fN h2 h3
    obtain ⟨hkv, hkk⟩ := hVk Φ _ (hy Φ a w fN h2 h3)
    have hnv := hn Φ a w fN h2 h3
    have hfind := Jx hk hE hall hkk w
    have hgo : (getObj b).run P w = .ok (.map es clock) w := by simp [getObj, Sem.run, hb]
    have hso : ∀ o', (setObj b o').run P w = .ok () { w with heap := w.heap.setIfInBounds b o' } := fun o' => by simp [setObj, Sem.run, hb]
    have hfs0 : ∀ (es : List MapEntry) (m : List (K × V)) (fs : List (List Nat)), Dm Φ w kV (fun u y => RP.val (eV y) u) es m fs → fs.flatten = [] := by
      intro es
      induction es with
      | nil => intro m fs h; match m, fs, h with
                             | [], [], _ => rfl
                             | [], _ :: _, h => exact h.elim
                             | _ :: _, _, h => exact h.elim
      | cons e es ih => intro m fs h; match m, fs, h with
                                      | [], _, h => exact h.elim
                                      | _ :: _, [], h => exact h.elim
                                      | _ :: m, f :: fs, h => simp [h.2.1.1, ih m fs h.2.2]
    have hff := hfs0 _ _ _ hE
    rw [hff] at hK h5 h6
    have hdone : ∀ (es' : Array MapEntry) (clock' : Nat) (fs' : List (List Nat)), Dm Φ w kV (fun u y => RP.val (eV y) u) es'.toList (Gw k n m) fs' → (es'.toList.map (·.born)).Nodup → (∀ e ∈ es'.toList, e.born < clock') →
        (execOp a.eval ⟨none, .mapUpdate t x y u, ty, pos, af, gd⟩).run P w = .ok .skip { w with heap := w.heap.setIfInBounds b (.map es' clock') } → (Oper.mk none (.mapUpdate t x y u) ty pos af gd).wp P a w KK Q := by
      intro es' clock' fs' q1 q2 q3 q4
      have hff' := hfs0 _ _ _ q1
      unfold Oper.wp
      rw [q4, Oper.upon_skip]
      refine hK undef _ Φ [b :: fs'.flatten] (by simpa using GP w Φ b _) (Hu h1 hb) ⟨⟨b, es', clock', fs', hveq, rfl, GQ hb, q1.loc (BR.le_refl _) (fun _ _ => rfl) (fun c hc => by rw [hff'] at hc; simp at hc), q2, q3, K0 k n m hkn, Ma k n hkk m hall⟩, trivial⟩ (by simp [hff']) (fun c hc => ?_)
      simp [hff'] at hc
      subst hc
      have := h6 c (by simp)
      exact ⟨by simpa using this, .inl (by simp)⟩
    subst hveq
    cases hi : JJ k (m.map (·.1)) with
    | none =>
      obtain ⟨_, q2, _⟩ := HS hi
      rw [hi] at hfind
      have hfind : (Instr.findKey kt (kV k) es.toList).run P w = .ok none w := hfind
      refine hdone (es.push { key := kV k, val := a.eval u, born := clock }) (clock + 1) (fs ++ [[]]) ?_ ?_ ?_ ?_
      · rw [q2, Array.toList_push]
        exact hE.append ⟨rfl, ⟨rfl, hnv⟩, trivial⟩
      · rw [Array.toList_push, List.map_append]
        refine Hz hbn fun hm => ?_
        obtain ⟨e', he', hbe⟩ := List.mem_map.1 hm
        have := hbc e' he'
        simp at hbe
        omega
      · intro e' he'
        rw [Array.toList_push, List.mem_append] at he'
        rcases he' with he' | he'
        · have := hbc e' he'; omega
        · simp at he'; subst he'; simp
      · simp only [execOp, hv, hkv, Instr.mapUpdate, Sem.run_bind, run_underlying hu, Result.andThen_ok, hgo, hk.check _ _ _ hkk, hfind, hso]
        rfl
    | some i =>
      obtain ⟨x', q1, _, q3, q4⟩ := HR hi
      obtain ⟨en, f', q5, q6, q7, q8⟩ := hE.get i _ q1
      rw [hi] at hfind
      have hfind : (Instr.findKey kt (kV k) es.toList).run P w = .ok (some (i, en.val)) w := by rw [hfind]; simp only [Option.bind_some, q5, Option.map_some]
      have hest : es[i]? = some en := by simpa using q5
      have hil : i < es.size := (Array.getElem?_eq_some_iff.1 hest).1
      have hge : es[i] = en := (Array.getElem?_eq_some_iff.1 hest).2
      have hmod : (es.modify i fun e => { e with key := kV k, val := a.eval u }).toList = es.toList.set i { en with key := kV k, val := a.eval u } := by
        apply List.ext_getElem?
        intro j'
        rw [List.getElem?_set]
        simp only [Array.getElem?_toList, Array.getElem?_modify]
        by_cases hj : i = j'
        · subst hj
          simp [hil, hge]
        · simp [hj]
      refine hdone (es.modify i fun e => { e with key := kV k, val := a.eval u }) clock (fs.set i []) ?_ ?_ ?_ ?_
      · rw [q3, hmod]
        exact hE.set i rfl ⟨rfl, hnv⟩
      · rw [hmod, List.map_set]
        have : (es.toList.map (·.born)).set i en.born = es.toList.map (·.born) := by
          apply List.ext_getElem?
          intro j'
          rw [List.getElem?_set]
          by_cases hj : i = j'
          · subst hj; simp [hil, hge]
          · simp [hj]
        simp only [this]
        exact hbn
      · intro e' he'
        rw [hmod] at he'
        rcases List.mem_or_eq_of_mem_set he' with he' | he'
        · exact hbc e' he'
        · subst he'
          exact hbc en (List.mem_of_getElem? q5)
      · have hks : (Instr.keyThatStays (((es[i]?).map (·.key)).getD (kV k)) (kV k)).run P w = .ok (kV k) w := by
          simp only [hest, Option.map_some, Option.getD_some, q7, Instr.keyThatStays, hk.same, if_true, Sem.run_pure]
        simp only [execOp, hv, hkv, Instr.mapUpdate, Sem.run_bind, run_underlying hu, Result.andThen_ok, hgo, hk.check _ _ _ hkk, hfind, hks, hso]
        rfl
end ops

end
section
open Go Go.RowKit

theorem KE {G : FP} {N : List B1} {x : Operand} {p : Value} (h : AM G N x (Au p 0)) : AM G N x (J0 p true) := by
  intro Φ a w f hG hN
  obtain ⟨b, h1, h2⟩ := h Φ a w f hG hN
  exact ⟨h2.trans h1.symm, ⟨b, 0, none⟩, h1⟩
def D2 (p : Value) : VP := ⟨fun _ v => (v = .pointer none ∨ v = p) ∧ ∃ b, p = .pointer (some ⟨b, 0, none⟩), fun _ h => h⟩
section ops
variable {P : Program} {G : FP} {N : List B1} {d : Nat} {ty : TypeId} {pos : String} {af : Array Edge} {gd : Option (Nat × Bool)}
def RH : Value → Value
  | .slice a _ _ => .pointer a
  | v => v
theorem P6 {T t : TypeId} {x : Operand} {v : Value} {l : List UInt8} (j : Nat) (hx : AM G N x (Am v)) (hR : Br .none N j = .res (acc v T 1 bC l)) (hl : l ≠ []) :
    Ba P G ⟨some d, .call ⟨.builtin .unsafeSliceData, #[x], #[t]⟩, ty, pos, af, gd⟩ N [] (fun _ => [.slot d (Am (RH v))]) :=
  Ba.val fun Φ a w f _ hG hN => by
    have hv : a.eval x = v := hx Φ a w f hG hN
    obtain ⟨g, _, ⟨_, h1, _⟩ | ⟨b, cap, cs, zs, rfl, _, _, _, _, hc, _⟩⟩ := hN.res j hR
    · exact absurd h1 hl
    · refine ⟨.pointer (some ⟨b, 0, none⟩), ?_, rfl⟩
      have hpos : 0 < l.length := List.length_pos_iff.2 hl
      have := Lib.run_unsafeSliceData_row (P := P) (w := w) #[t] ty ⟨b, 0, none⟩ l.length cap (by omega)
      simp only [execOp, resolve, hv, invoke, builtin, List.map_toArray, List.map_cons, List.map_nil, Sem.run_bind, Sem.run_pure, Result.andThen_ok, this]
theorem HU {w : World} {a : Addr} {n c : Nat} (h : c ≠ a.block) : (w.freeze a n).heap[c]? = w.heap[c]? := by
  unfold World.freeze
  split
  · rfl
  · simp [Array.getElem?_modify, Ne.symm h]
theorem IE {w : World} {a : Addr} {n : Nat} : (w.freeze a n).heap.size = w.heap.size := by
  unfold World.freeze
  split <;> simp
theorem Lo {w : World} {a : Addr} {n : Nat} (x : Addr) : (w.freeze a n).cell? x = w.cell? x := by
  by_cases hb : x.block = a.block
  · unfold World.freeze
    split
    · rfl
    · unfold World.cell?
      simp only [hb, Array.getElem?_modify, if_true]
      cases h : w.heap[a.block]? with
      | none => simp
      | some o => cases o <;> simp
  · unfold World.cell?
    rw [HU hb]
theorem OR {T pt it : TypeId} {x y : Operand} {v : Value} {l : List UInt8} (hp : P.underlying pt = some (.pointer T)) (hc : P.cellsOf T = 1) (hx : AM G N x (Am (RH v))) (hy : AM G N y (Ab .i64 l.length)) (hl : l ≠ []) :
    Ba P G ⟨some d, .call ⟨.builtin .unsafeString, #[x, y], #[pt, it]⟩, ty, pos, af, gd⟩ N [.res (acc v T 1 bC l)] (fun _ => [.slot d (As l)]) := by
  intro Φ a w fN fC h1 h2 h3 h4 h5 h6 h7 K Q hK
  match fC, h4 with
  | [f], ⟨⟨hm, .inl ⟨_, e1, _⟩⟩, _⟩ => exact absurd e1 hl
  | [f], ⟨⟨hm, .inr ⟨b, cap, cs, zs, hveq, hf, hb, hA, hlen, hcap, hpub, hfree⟩⟩, _⟩ =>
    subst hf; subst hveq
    have hxv : a.eval x = .pointer (some ⟨b, 0, none⟩) := hx Φ a w fN h2 h3
    obtain ⟨hyv, _⟩ := hy Φ a w fN h2 h3
    have hcs := JF l cs hA
    have hlc : cs.length = l.length := by rw [hcs]; simp
    have hr := Lib.run_unsafeString_row (P := P) w pt it ty T hp hc b (cs ++ zs).length (by simp [World.shape?, hb]) l hl (by simp; omega) (by have := (FY hm).2; simp [IntKind.max, IntKind.bits, IntKind.signed] at this; omega) (fun j x' hj => by
      rw [Addr.add_lit, cell_of hb, Nat.zero_add, List.getElem?_append_left (by
        have : j < l.length := by
          rcases Nat.lt_or_ge j l.length with q | q
          · exact q
          · rw [List.getElem?_eq_none q] at hj; cases hj
        omega), hcs, List.getElem?_map, hj]
      rfl)
    have hrun : (execOp a.eval ⟨some d, .call ⟨.builtin .unsafeString, #[x, y], #[pt, it]⟩, ty, pos, af, gd⟩).run P w = .ok (.value (.string ⟨l.toArray⟩)) (w.freeze ⟨b, 0, none⟩ l.length) := by
      simp only [execOp, resolve, hxv, hyv, invoke, builtin, List.map_toArray, List.map_cons, List.map_nil, Sem.run_bind, Sem.run_pure, Result.andThen_ok, hr]
    unfold Oper.wp
    rw [hrun, Oper.upon_value]
    have hos : (w.freeze ⟨b, 0, none⟩ l.length).os = w.os ∧ (w.freeze ⟨b, 0, none⟩ l.length).tape = w.tape ∧ (w.freeze ⟨b, 0, none⟩ l.length).output = w.output := by
      unfold World.freeze
      split <;> exact ⟨rfl, rfl, rfl⟩
    exact hK _ _ Φ [[]] ⟨hos.1, hos.2.1, hos.2.2, by rw [IE]; exact Nat.le_refl _, fun c _ hne => HU (by simpa using hne), BR.le_refl _, fun _ _ _ => rfl⟩
      ⟨fun c o u e => by rw [IE]; exact h1.lt c o u e, fun c o u e => by rw [Lo]; exact h1.cell c o u e⟩ ⟨⟨rfl, _, C0 a _ d (h7 d rfl), rfl, hm⟩, trivial⟩ (by simp) (by simp)

end ops

theorem K4 {P : Program} {fn : Func} {r : ResultVar} {c : Cx} {l : List B1} {a : Act} {w : World} {p : Value} (h : Ar c l a w) (hr : fn.results = #[r]) (hV : Qu P c l r (Am p)) (js : List Nat) (post : Value → List RP) (hd : distinct js = true) (hlt : (js.all fun j => decide (j < l.length)) = true) (hR : (post p).map .res = js.map (Br .none l)) :
    CO P fn c Mz post a w := by
  obtain ⟨Φ, fp, h⟩ := h
  obtain ⟨v, h1, h2⟩ := hV a w Φ fp h
  obtain ⟨fs, q1, q2, q3⟩ := h.P4 js hd (fun j hj => by simpa using (List.all_eq_true.1 hlt) j hj) (post p) hR
  have h2 : v = p := h2
  subst h2
  refine ⟨h.defers, v, Φ, fs, ?_, h.step, h.I0, trivial, q1, q2, q3⟩
  rw [Gz, hr]
  simp [h1]
theorem Az.split {P : Program} {G : FP} {f : FuncId} {args : List VP} {R S : RP} {R' S' : Value → RP} {pre : List RP} {post : Value → List RP} {res : VP} (h : Az P G f args (RP.sep R S :: pre) (fun v => RP.sep (R' v) (S' v) :: post v) res) :
    Az P G f args (R :: S :: pre) (fun v => R' v :: S' v :: post v) res := by
  intro Φ w vs fs h1 h2 h3 h4 h5 h6
  match fs, h4 with
  | f1 :: f2 :: fs, ⟨q1, q2, q3⟩ =>
    have e : ((f1 ++ f2) :: fs).flatten = (f1 :: f2 :: fs).flatten := by simp
    have := h Φ w vs ((f1 ++ f2) :: fs) h1 h2 h3 ⟨⟨f1, f2, rfl, q1, q2⟩, q3⟩ (by rw [e]; exact h5) (by rw [e]; exact h6)
    rw [e] at this
    refine this.mono fun e' w' hq => ?_
    obtain ⟨v, Φ', fs', r0, r1, r2, r3, r4, r5, r6⟩ := hq
    match fs', r4 with
    | g :: gs, ⟨⟨g1, g2, hg, s1, s2⟩, s3⟩ =>
      subst hg
      have e2 : ((g1 ++ g2) :: gs).flatten = (g1 :: g2 :: gs).flatten := by simp
      rw [e2] at r5 r6
      exact ⟨v, Φ', g1 :: g2 :: gs, r0, r1, r2, r3, ⟨s1, s2, s3⟩, r5, r6⟩
    | [], r4 => exact r4.elim
  | [_], ⟨_, h4⟩ => exact h4.elim
  | [], h4 => exact h4.elim

theorem Ar.Mh {c : Cx} {l : List B1} {a : Act} {w : World} {p : Value} {T : TypeId} {L : List Ck} (h : Ar c l a w) (j : Nat) (hj : Br .none l j = .res (lb p T L)) : Ar c (l.set j (.fact (FB L) p)) a w := by
  obtain ⟨Φ, fp, h⟩ := h
  have hjl := Dv hj (by simp)
  have hx := h.holds j hjl
  rw [hj] at hx
  obtain ⟨b, cs, hp, hf, hb, hL, hn⟩ := hx
  have hown := (h.own j hjl).2 b (by rw [hf]; simp)
  let Φ' : BR := fun b' o => if b' = b then cs[o]? else Φ b' o
  have hle : BR.le Φ Φ' := fun b' o v e => by
    by_cases hbb : b' = b
    · rw [hbb, hn o] at e; cases e
    · simp only [Φ', if_neg hbb]; exact e
  have hap : ∀ i, i < l.length → i ≠ j → ∀ x ∈ fp i, x ≠ b := fun i hi hne x hx e => h.apart i j hi hjl hne x hx (by rw [hf, e]; simp)
  refine ⟨Φ', fun i => if i = j then [] else fp i, h.defers, h.size, ⟨fun b' o v e => ?_, fun b' o v e => ?_⟩, c.G.mono hle h.G3, h.step.trans (G := [b]) ⟨rfl, rfl, rfl, Nat.le_refl _, fun _ _ _ => rfl, hle, fun b' _ hne => by funext o; simp only [Φ', if_neg (by simpa using hne : ¬ b' = b)]⟩ (fun b' hb' hlt => by
      simp only [List.mem_singleton] at hb'
      subst hb'
      rcases hown.2 with q | q
      · exact q
      · omega), fun i hi => ?_, fun i hi => ?_, fun i k hi hk hne x hx hx' => ?_⟩
  · by_cases hbb : b' = b
    · rw [hbb]; exact hown.1
    · simp only [Φ', if_neg hbb] at e; exact h.I0.lt b' o v e
  · by_cases hbb : b' = b
    · subst hbb
      simp only [Φ', if_pos trivial] at e
      rw [cell_of hb]; exact e
    · simp only [Φ', if_neg hbb] at e; exact h.I0.cell b' o v e
  · have hi : i < l.length := by simpa using hi
    by_cases q : j = i
    · subst q
      have e1 : Br .none (l.set j (.fact (FB L) p)) j = .fact (FB L) p := by rw [Di, if_pos ⟨rfl, hjl⟩]
      rw [e1]
      simp only [if_true]
      exact ⟨rfl, b, 0, cs, hp, hL.mono hle, fun o v hv => by simp only [Φ', if_pos trivial, Nat.zero_add]; exact hv⟩
    · have e1 : Br .none (l.set j (.fact (FB L) p)) i = Br .none l i := by rw [Di, if_neg (fun hc => q hc.1)]
      rw [e1]
      simp only [if_neg (fun e : i = j => q e.symm)]
      exact B1.F1 (h.holds i hi) hle (fun x hx => by funext o; simp only [Φ', if_neg (hap i hi (fun e => q e.symm) x hx)]) (fun _ _ => rfl) (fun _ _ => rfl)
  · have hi : i < l.length := by simpa using hi
    by_cases q : i = j
    · simp only [if_pos q]; exact ⟨List.nodup_nil, by simp⟩
    · simp only [if_neg q]; exact h.own i hi
  · have hi : i < l.length := by simpa using hi
    have hk : k < l.length := by simpa using hk
    by_cases q : i = j
    · simp [if_pos q] at hx
    · by_cases r : k = j
      · simp [if_pos r] at hx'
      · simp only [if_neg q] at hx
        simp only [if_neg r] at hx'
        exact h.apart i k hi hk hne x hx hx'
theorem Ar.Lp {c : Cx} {l : List B1} {a : Act} {w : World} {d : Nat} {p : Value} {L : List Ck} (h : Ar c l a w) (i j : Nat) (hi : Br .none l i = .slot d (Au p 0)) (hj : Br .none l j = .fact (FB L) p) : Ar c (l.set i (.slot d (FB L))) a w := by
  obtain ⟨Φ, fp, h⟩ := h
  have hil := Dv hi (by simp)
  have hjl := Dv hj (by simp)
  have h1 := h.holds i hil
  rw [hi] at h1
  obtain ⟨q1, v, q2, b, q3, q4⟩ := h1
  have h2 := h.holds j hjl
  rw [hj] at h2
  refine ⟨Φ, fp, h.defers, h.size, h.I0, h.G3, h.step, fun k hk => ?_, fun k hk => h.own k (by simpa using hk), fun k m hk hm => h.apart k m (by simpa using hk) (by simpa using hm)⟩
  have hk : k < l.length := by simpa using hk
  rw [Di]
  by_cases q : i = k
  · subst q
    rw [if_pos ⟨rfl, hil⟩]
    refine ⟨q1, v, q2, ?_⟩
    rw [q4, ← q3]
    exact h2.2
  · rw [if_neg (fun hc => q hc.1)]
    exact h.holds k hk

theorem KM {P : Program} {G : FP} {f : FuncId} {T : TypeId} {p v : Value} (hfresh : ∀ (b : Nat) (w : World), w.cell? ⟨b, 0, none⟩ = some (.pointer none) → w.shape? b = some (T, 2) → w.frozen? ⟨b, 0, none⟩ = false → Calls P f #[.pointer (some ⟨b, 0, none⟩)] w fun e w' => e = .returned (.tuple #[]) ∧ w' = w.setCell ⟨b, 0, none⟩ (.pointer (some ⟨b, 0, none⟩)))
    (hused : ∀ (b : Nat) (w : World), w.cell? ⟨b, 0, none⟩ = some (.pointer (some ⟨b, 0, none⟩)) → Calls P f #[.pointer (some ⟨b, 0, none⟩)] w fun e w' => e = .returned (.tuple #[]) ∧ w' = w) :
    Az P G f [Am p] [lb p T [one (D2 p), one (Am v)]] (fun _ => [lb p T [one (D2 p), one (Am v)]]) (CV []) := by
  intro Φ w vs fs h1 h2 h3 h4 h5 h6
  match vs, h3, fs, h4 with
  | [u], ⟨hu, _⟩, [f], ⟨⟨b, cs, hp, hf, hb, hL, hn⟩, _⟩ =>
    have hu : u = p := hu
    subst hu; subst hp; subst hf
    obtain ⟨c1, c2, rfl, ⟨q, rfl, hq1, hq, _⟩, d1, d2, rfl, ⟨x, rfl, hx1, hx⟩, hd⟩ := hL
    have hd : d2 = [] := hd
    have hx : x = v := hx
    subst hd; subst hx
    have hpack : ∀ (w' : World) (q' : Value), Step w Φ [b] w' Φ → Cv Φ w' → w'.heap[b]? = some (.cells [q', x].toArray T (0, 0)) → (q' = .pointer none ∨ q' = .pointer (some ⟨b, 0, none⟩)) → w'.heap.size = w.heap.size →
        ∃ (v' : Value) (Φ' : BR) (fs' : List (List Nat)), Ending.returned (.tuple #[]) = .returned v' ∧ Step w Φ [[b]].flatten w' Φ' ∧ Cv Φ' w' ∧ (CV []).p Φ' v' ∧ GH Φ' w' [lb (.pointer (some ⟨b, 0, none⟩)) T [one (D2 (.pointer (some ⟨b, 0, none⟩))), one (Am x)]] fs' ∧ fs'.flatten.Nodup ∧ ∀ c ∈ fs'.flatten, c < w'.heap.size ∧ (c ∈ [[b]].flatten ∨ w.heap.size ≤ c) := by
      intro w' q' hs hP hblk hq' hsz
      refine ⟨.tuple #[], Φ, [[b]], rfl, by simpa using hs, hP, ⟨[], rfl, trivial⟩, ⟨⟨b, [q', x], rfl, rfl, hblk, ⟨[q'], [x], rfl, ⟨q', rfl, ?_, hq', b, rfl⟩, [x], [], rfl, ⟨x, rfl, hx1, rfl⟩, rfl⟩, hn⟩, trivial⟩, by simp, fun c hc => ?_⟩
      · rcases hq' with rfl | rfl <;> rfl
      · simp at hc
        subst hc
        have := h6 c (by simp)
        exact ⟨by rw [hsz]; exact this, .inl (by simp)⟩
    have c0 : w.cell? ⟨b, 0, none⟩ = some q := by rw [cell_of hb]; rfl
    rcases hq with rfl | rfl
    · refine (hfresh b w c0 (by simp [World.shape?, hb]) (by simp [World.frozen?, hb])).mono fun e w' hq => ?_
      obtain ⟨rfl, rfl⟩ := hq
      refine hpack _ (.pointer (some ⟨b, 0, none⟩)) ⟨rfl, rfl, rfl, by simp, fun c hc hne => Ge (by simpa using hne), BR.le_refl _, fun _ _ _ => rfl⟩ ⟨fun c o u e => by simpa using h1.lt c o u e, fun c o u e => ?_⟩ (Iz hb) (.inr rfl) (by simp)
      have hne : c ≠ b := fun e' => by rw [e', hn o] at e; cases e
      exact (World.cell?_of_block (w := w) (Ge hne)).trans (h1.cell c o u e)
    · refine (hused b w c0).mono fun e w' hq => ?_
      obtain ⟨rfl, rfl⟩ := hq
      exact hpack w' _ (Step.refl _ _ _) h1 hb (.inr rfl) rfl

theorem Az.OS {P : Program} {G : FP} {f : FuncId} {args : List VP} {res : VP} (h : ∀ (Φ : BR) (vs : List Value) (w : World), Ew Φ args vs → ∃ u, (∀ Φ', res.p Φ' u) ∧ Calls P f vs.toArray w fun e w' => e = .returned u ∧ Below w.heap.size w w') :
    Az P G f args [] (fun _ => []) res := by
  intro Φ w vs fs h1 h2 h3 h4 h5 h6
  match fs, h4 with
  | [], _ =>
    obtain ⟨u, hu, hc⟩ := h Φ vs w h3
    refine hc.mono fun e w' hq => ?_
    obtain ⟨rfl, hb⟩ := hq
    exact ⟨u, Φ, [], rfl, ⟨hb.os, hb.tape, hb.output, hb.size, fun b hlt _ => hb.block b hlt, BR.le_refl _, fun _ _ _ => rfl⟩, ⟨fun b o v e => Nat.lt_of_lt_of_le (h1.lt b o v e) hb.size, fun b o v e => (World.cell?_of_block (w := w) (hb.block b (h1.lt b o v e))).trans (h1.cell b o v e)⟩, hu Φ, trivial, by simp, by simp⟩
  | _ :: _, h4 => exact h4.elim

def RQ (v : Value) : VP := ⟨fun _ u => u = v ∧ v.oneCell' = true, fun _ h => h⟩
theorem Gc (v : Value) : Cells (RQ v) [one (Am v)] := by
  rintro Φ u ⟨rfl, h⟩
  have h2 : u.cells.toList = [u] := by cases u <;> first | rfl | (simp [Value.oneCell'] at h)
  rw [h2]
  exact ⟨[u], [], rfl, ⟨u, rfl, h, rfl⟩, rfl⟩
theorem H0 {α : Type} {v : Value} {T : TypeId} {sz : Nat} {c : α → List Ck} {xs : List α} : ∀ Φ f w, (acc v T sz c xs).p Φ f w → v.oneCell' = true := by
  rintro Φ f w ⟨_, ⟨rfl, _⟩ | ⟨b, cap, cs, zs, rfl, _⟩⟩ <;> rfl
theorem IB {G : FP} {N : List B1} {t : Nat} {v : Value} {R0 : RP} (i j : Nat) (he : Br .none N i = .slot t (Am v)) (hf : Br .none N j = .res R0) (h1 : ∀ Φ f w, R0.p Φ f w → v.oneCell' = true) : AM G N (.tmp t) (RQ v) := by
  intro Φ a w f hG hN
  obtain ⟨g, hr⟩ := hN.res j hf
  exact ⟨opt (G := G) i he Φ a w f hG hN, h1 _ _ _ hr⟩
theorem Qf {l : List UInt8} : ∀ Φ u, (As l).p Φ u → u = HF l ∧ True := fun _ _ h => ⟨h.1, trivial⟩
theorem Im {n : Nat} {l : List UInt8} : ∀ Φ u, (AG [Af n l]).p Φ u → u = Ex l ∧ l.length = n := by
  rintro Φ u ⟨cs, rfl, a1, b1, rfl, ⟨hl, rfl⟩, hb⟩
  have hb : b1 = [] := hb
  subst hb
  exact ⟨by simp [Ex], hl⟩
theorem LP {R : RP} : ∀ Φ f w, R.p Φ f w → ∃ g, R.p Φ g w := fun _ f _ h => ⟨f, h⟩
theorem DD {p v : Value} {Φ : BR} (h : (Au p 0).p Φ v) : (Am p).p Φ v := by
  obtain ⟨b, h1, h2⟩ := h
  exact h2.trans h1.symm
theorem DG {p v : Value} {Φ : BR} (h : (Am p).p Φ v) (hp : ∃ b, p = .pointer (some ⟨b, 0, none⟩)) : (Au p 0).p Φ v := by
  obtain ⟨b, hb⟩ := hp
  have h : v = p := h
  exact ⟨b, hb, h.trans hb⟩
theorem Aj {P : Program} {G : FP} {N : List B1} {d : Nat} {ty : TypeId} {pos : String} {af : Array Edge} {gd : Option (Nat × Bool)} {s : TypeId} {x : Operand} {p : Value} {fields : Array Field} {i n : Nat} {fd : Field} (k m : Nat) (hu : P.underlying s = some (.struct fields)) (hi : fields[i]? = some fd) (hs : ∀ w, (sizeOf fd.type).run P w = .ok n w) (hn : n ≠ 0)
    (hx : AM G N x (Au p k)) (hm : k + fd.offset = m) : Ba P G ⟨some d, .fieldAddr s x i, ty, pos, af, gd⟩ N [] (fun _ => [.slot d (Au p m)]) := by
  subst hm; exact IQ hu hi hs hn hx
theorem AV.AZ {P : Program} {G : FP} {ops : Array Oper} {o : Oper} {k d d' : Nat} {want b : Bool} {ok : Oper} (hb : b = !want) (hg : o.guard = some (k, want)) (hk : ops[k]? = some ok) (hd : ok.dst = some d) (hd' : o.dst = some d') :
    AV P G ops o [.slot d (AE b)] [] (fun _ => [.slot d' (Am undef)]) := by
  subst hb
  intro Φ a w fN fC h1 h2 h3 h4 h5 h6 h7 K Q hK
  match fN, h3 with
  | [f], h3 =>
    match fC, h4 with
    | [], _ =>
      obtain ⟨⟨rfl, v, hv, hb⟩, _⟩ := h3
      have hb : v = .bool !want := hb
      subst hb
      unfold Nj
      rw [if_neg (by cases want <;> simp [Region.wanted, hg, yielded, hk, hd, hv])]
      exact hK undef w Φ [[]] (Step.refl _ _ _) h1 ⟨⟨rfl, undef, by rw [hd']; exact C0 a undef d' (h7 d' hd'), rfl⟩, trivial⟩ (by simp) (by simp)
end
section
open Go Go.RowKit

def Gh (w : World) : BR := fun b o => w.cell? ⟨b, o, none⟩
theorem Ni (w : World) : Cv (Gh w) w := by
  refine ⟨fun b o v h => ?_, fun b o v h => h⟩
  unfold Gh World.cell? at h
  cases hb : w.heap[b]? with
  | none => simp [hb] at h
  | some x => exact (Array.getElem?_eq_some_iff.1 hb).1

def LB {α : Type} (P : Program) (t : TypeId) (c : α → List Ck) : Prop := ∀ {H : Type} (enc : TypeId × Value → H) (w : World) (base : Nat) (sp : Nat → Bool) (held : Bool) (fuel : Nat) (cs : List Value) (r : DataW H × List MemPlace),
  DataW.trod enc P w base sp held fuel t cs = some r → ∃ x : α, B0 (Gh w) cs (c x)

section
variable {P : Program} {t e : TypeId}
theorem J8 {k : IntKind} {n : Int} (h : (Lit.int k n).wf = true) : H5 k n := by
  simpa [Lit.wf, H5] using h
theorem J1 {k : IntKind} (ht : P.underlying t = some (.int k)) : LB P t (iC k) := by
  intro H enc w base sp held fuel cs r h
  obtain ⟨n, rfl, _, hw⟩ := DataW.trod_int ht h
  exact ⟨n, [_], [], rfl, ⟨_, rfl, rfl, rfl, J8 hw⟩, rfl⟩
theorem MT (ht : P.underlying t = some .string) : LB P t C9 := by
  intro H enc w base sp held fuel cs r h
  obtain ⟨s, rfl, _, hl⟩ := DataW.trod_string ht h
  refine ⟨s.data.toList, [_], [], rfl, ⟨_, rfl, rfl, rfl, ?_⟩, rfl⟩
  have e1 : s.data.toList.length = s.size := rfl
  unfold maxLen at hl
  unfold CG
  omega
theorem add_add (a : Addr) (i j : Nat) : (a.add i).add j = a.add (i + j) := by
  unfold Addr.add
  by_cases hi : i = 0
  · simp [hi]
  · by_cases hj : j = 0
    · simp [hi, hj]
    · simp [hi, hj, Nat.add_assoc]
theorem IC {α : Type} {sz : Nat} {c : α → List Ck} (ht : P.underlying t = some (.slice e)) (ho : LB P e c) (h1 : P.cellsOf e = sz) (hsz : ∀ x, lens (c x) = sz) (hpos : 0 < sz) : LB P t (RL c) := by
  intro H enc w base sp held fuel cs r h
  rcases DataW.trod_slice ht h with ⟨rfl, _⟩ | ⟨a, len, cap, elems, rest, m, _, rfl, _, hb, hlc, hcm, hel, hget, _⟩
  · exact ⟨[], [_], [], rfl, ⟨_, rfl, rfl, by simp [CG], .inl ⟨rfl, rfl⟩⟩, rfl⟩
  · rw [h1] at hget
    have hone : ∀ i, i < len → ∃ (us : List Value) (x : α), us.length = sz ∧ (∀ j, j < sz → w.cell? (a.add (i * sz + j)) = us[j]?) ∧ B0 (Gh w) us (c x) := fun i hi => by
      have h2 := hget i hi
      have hix : i < elems.length := by omega
      rw [List.getElem?_eq_getElem hix] at h2
      obtain ⟨us, hus, htr⟩ := Option.bind_eq_some_iff.1 h2
      obtain ⟨_, hul, hcell⟩ := World.cells?_some hus
      obtain ⟨x, hx⟩ := ho enc w base sp held m us _ htr
      exact ⟨us, x, hul, fun j hj => by rw [← add_add]; exact hcell j hj, hx⟩
    have key : ∀ n, n ≤ len → ∃ (xs : List α) (vs : List Value), xs.length = n ∧ vs.length = n * sz ∧ CS (Gh w) c vs xs ∧ ∀ j, j < n * sz → w.cell? (a.add j) = vs[j]? := by
      intro n
      induction n with
      | zero => exact fun _ => ⟨[], [], rfl, by simp, rfl, fun j hj => by simp at hj⟩
      | succ n ih =>
        intro hn
        obtain ⟨xs, vs, q1, q2, q3, q4⟩ := ih (by omega)
        obtain ⟨us, x, r1, r2, r3⟩ := hone n (by omega)
        refine ⟨xs ++ [x], vs ++ us, by simp [q1], by rw [List.length_append, q2, r1, Nat.add_mul, Nat.one_mul], q3.append ⟨us, [], by simp, r3, rfl⟩, fun j hj => ?_⟩
        rw [Nat.add_mul, Nat.one_mul] at hj
        by_cases hlt : j < n * sz
        · rw [q4 j hlt, List.getElem?_append_left (by omega)]
        · have := r2 (j - n * sz) (by omega)
          rw [show n * sz + (j - n * sz) = j by omega] at this
          rw [this, List.getElem?_append_right (by omega), q2]
    obtain ⟨xs, vs, q1, q2, q3, q4⟩ := key len (Nat.le_refl _)
    subst q1
    have hlen : xs.length ≤ CG := by simp only [maxLen] at hcm; simp only [CG]; omega
    by_cases h0 : xs = []
    · subst h0
      exact ⟨[], [_], [], rfl, ⟨_, rfl, rfl, by simp [CG], .inr (.inr ⟨rfl, a, cap, rfl⟩)⟩, rfl⟩
    · have hpl : 0 < xs.length * sz := Nat.mul_pos (List.length_pos_iff.2 h0) hpos
      have hspot : a.spot = none := by
        have h2 := q4 0 hpl
        have h3 : a.add 0 = a := rfl
        rw [h3, List.getElem?_eq_getElem (by omega : 0 < vs.length)] at h2
        cases hs : a.spot with
        | none => rfl
        | some s =>
          unfold World.cell? at h2
          split at h2 <;> simp [hs] at h2
      obtain ⟨b, o, s⟩ := a
      have hspot : s = none := hspot
      subst hspot
      refine ⟨xs, [_], [], rfl, ⟨_, rfl, rfl, hlen, .inr (.inl ⟨b, o, cap, vs, rfl, hlc, q3, fun j v hj => ?_⟩)⟩, rfl⟩
      have hjl : j < xs.length * sz := by
        rcases Nat.lt_or_ge j (xs.length * sz) with q | q
        · exact q
        · rw [List.getElem?_eq_none (by omega)] at hj; cases hj
      have := q4 j hjl
      rw [Addr.add_lit] at this
      exact this.trans hj
theorem Ic {α : Type} {H : Type} {enc : TypeId × Value → H} {w : World} {base : Nat} {sp : Nat → Bool} {held : Bool} {v : Value} {d : DataW H} {p : List MemPlace} {c : α → List Ck} (ho : LB P t c) (h : DataW.Trod enc P w base sp held t v d p) : ∃ x, B0 (Gh w) v.cells.toList (c x) := by
  obtain ⟨fuel, h⟩ := h
  exact ho enc w base sp held fuel _ _ h
end

end
section
open Go Go.RowKit

def MG : Value → Value
  | .tuple a => a.getD 0 undef
  | v => v
def MF : Value → Value
  | .tuple a => a.getD 1 undef
  | v => v
def Qa {K V : Type} (v st : Value) (kV : K → Value) (kOk : K → Prop) (eR : Value → V → RP) (k : K) (m : List (K × V)) : RP := ⟨fun Φ f w => ∃ b es clock pre post k0 x0 e0 fp fq, v = .map (some b) ∧ f = b :: (List.flatten fp ++ List.flatten fq) ∧ w.heap[b]? = some (.map es clock) ∧
    ∃ es1 es2 : List MapEntry, es.toList = es1 ++ e0 :: es2 ∧ m = pre ++ (k0, x0) :: post ∧ k0 = k ∧ e0.key = kV k ∧ st = .int .i64 e0.born ∧ Dm Φ w kV eR es1 pre fp ∧ Dm Φ w kV eR es2 post fq ∧
    (es.toList.map (·.born)).Nodup ∧ (∀ e ∈ es.toList, e.born < clock) ∧ (m.map (·.1)).Nodup ∧ ∀ x ∈ m, kOk x.1, by
  rintro Φ Φ' f w w' hle hs hb ⟨b, es, clock, pre, post, k0, x0, e0, fp, fq, h1, rfl, h3, es1, es2, h4, h5, h6, h7, h8, h9, h10, h11⟩
  exact ⟨b, es, clock, pre, post, k0, x0, e0, fp, fq, h1, rfl, by rw [hb b (by simp)]; exact h3, es1, es2, h4, h5, h6, h7, h8,
    h9.loc hle (fun c hc => hs c (by simp [hc])) (fun c hc => hb c (by simp [hc])), h10.loc hle (fun c hc => hs c (by simp [hc])) (fun c hc => hb c (by simp [hc])), h11⟩⟩
theorem Dm.cut {K V : Type} {Φ : BR} {w : World} {kV : K → Value} {eR : Value → V → RP} : ∀ {es : List MapEntry} {m : List (K × V)} {fs : List (List Nat)} (i : Nat) (x : K × V), Dm Φ w kV eR es m fs → m[i]? = some x →
    ∃ es1 e es2 m1 m2 f1 f f2, es = es1 ++ e :: es2 ∧ m = m1 ++ x :: m2 ∧ fs = f1 ++ f :: f2 ∧ m1.length = i ∧ es1.length = i ∧ Dm Φ w kV eR es1 m1 f1 ∧ Dm Φ w kV eR es2 m2 f2 ∧ e.key = kV x.1 ∧ (eR e.val x.2).p Φ f w
  | e :: es, y :: m, f :: fs, 0, x, h, hx => by simp at hx; subst hx; exact ⟨[], e, es, [], m, [], f, fs, rfl, rfl, rfl, rfl, rfl, trivial, h.2.2, h.1, h.2.1⟩
  | e :: es, y :: m, f :: fs, i + 1, x, h, hx => by
    obtain ⟨es1, e', es2, m1, m2, f1, f', f2, q1, q2, q3, q4, q5, q6, q7, q8, q9⟩ := Dm.cut i x h.2.2 (by simpa using hx)
    exact ⟨e :: es1, e', es2, y :: m1, m2, f :: f1, f', f2, by simp [q1], by simp [q2], by simp [q3], by simp [q4], by simp [q5], ⟨h.1, h.2.1, q6⟩, q7, q8, q9⟩
  | [], [], [], _, _, _, hx => by simp at hx
  | [], [], _ :: _, _, _, h, _ => h.elim
  | [], _ :: _, _, _, _, h, _ => h.elim
  | _ :: _, [], _, _, _, h, _ => h.elim
  | _ :: _, _ :: _, [], _, _, h, _ => h.elim
def Mt {K V : Type} [DecidableEq K] (k : K) (d : V) (m : List (K × V)) : List (K × V) := if (GM k m).isSome then m else m ++ [(k, d)]

section ops
variable {P : Program} {G : FP} {N : List B1} {d : Nat} {ty : TypeId} {pos : String} {af : Array Edge} {gd : Option (Nat × Bool)} {K V : Type} {kV : K → Value} {kOk : K → Prop} {eR : Value → V → RP} [DecidableEq K]
theorem K7 {t kt e : TypeId} {x y : Operand} {v z : Value} {m : List (K × V)} {k : K} {Vk : VP} (dflt : V) (hu : P.underlying t = some (.map kt e)) (hk : Kf P kt kV kOk) (hz : ∀ w, (zeroValue e).run P w = .ok z w)
    (hx : AM G N x (Am v)) (hy : AM G N y Vk) (hVk : ∀ Φ u, Vk.p Φ u → u = kV k ∧ kOk k) (hdf : ∀ Φ w, (eR z dflt).p Φ [] w) :
    Ba P G ⟨some d, .mapEntry t x y, ty, pos, af, gd⟩ N [.res (Et v kV kOk eR m)] (fun u => [.slot d (CV [Am (MG u), Am (MF u)]), .res (eR (MG u) ((GM k m).getD dflt)), .res (Qa v (MF u) kV kOk eR k (Mt k dflt m))]) := by
  intro Φ a w fN fC h1 h2 h3 h4 h5 h6 h7 KK Q hK
  match fC, h4 with
  | [f], ⟨⟨b, es, clock, fs, hveq, hf, hb, hE, hbn, hbc, hkn, hall⟩, _⟩ =>
    subst hf
    have hv : a.eval x = v := hx Φ a w fN h2 h3
    obtain ⟨hkv, hkk⟩ := hVk Φ _ (hy Φ a w fN h2 h3)
    have hfind := Jx hk hE hall hkk w
    have hgo : (getObj b).run P w = .ok (.map es clock) w := by simp [getObj, Sem.run, hb]
    have hso : ∀ o', (setObj b o').run P w = .ok () { w with heap := w.heap.setIfInBounds b o' } := fun o' => by simp [setObj, Sem.run, hb]
    have hnd : (b :: fs.flatten).Nodup := by
      have := (List.nodup_append.1 h5).2.1
      simpa using this
    have hbnot : b ∉ fs.flatten := (List.nodup_cons.1 hnd).1
    have hblt : ∀ c ∈ (b :: fs.flatten), c < w.heap.size := fun c hc => h6 c (List.mem_append.2 (.inr (by simpa using hc)))
    subst hveq
    cases hi : JJ k (m.map (·.1)) with
    | none =>
      obtain ⟨q1, q2, q3⟩ := HS hi
      rw [hi] at hfind
      have hfind : (Instr.findKey kt (kV k) es.toList).run P w = .ok none w := hfind
      have hrun : (execOp a.eval ⟨some d, .mapEntry t x y, ty, pos, af, gd⟩).run P w = .ok (.value (.tuple #[z, .int .i64 clock])) { w with heap := w.heap.setIfInBounds b (.map (es.push { key := kV k, val := z, born := clock }) (clock + 1)) } := by
        simp only [execOp, hv, hkv, Instr.mapEntry, Sem.run_bind, run_underlying hu, Result.andThen_ok, hgo, hk.check _ _ _ hkk, hfind, hz, hso]
        rfl
      unfold Oper.wp
      rw [hrun, Oper.upon_value]
      refine hK _ _ Φ [[], [], b :: (fs.flatten ++ List.flatten [])] ((GP w Φ b _).KY (fun c hc _ => by simp at hc; simp [hc])) (Hu h1 hb) ⟨⟨rfl, _, C0 a _ d (h7 d rfl), [z, .int .i64 clock], rfl, rfl, rfl, trivial⟩, ?_, ⟨b, _, clock + 1, m, [], k, dflt, { key := kV k, val := z, born := clock }, fs, [], rfl, rfl, GQ hb, es.toList, [], by simp, ?_, rfl, rfl, rfl, ?_, trivial, ?_, ?_, ?_, ?_⟩, trivial⟩ ?_ ?_
      · rw [q1]; exact hdf _ _
      · simp [Mt, q1]
      · exact hE.loc (BR.le_refl _) (fun _ _ => rfl) (fun c hc => EG (fun e => hbnot (e ▸ hc)))
      · rw [Array.toList_push, List.map_append]
        refine Hz hbn fun hm => ?_
        obtain ⟨e', he', hbe⟩ := List.mem_map.1 hm
        have := hbc e' he'
        simp at hbe
        omega
      · intro e' he'
        rw [Array.toList_push, List.mem_append] at he'
        rcases he' with he' | he'
        · have := hbc e' he'; omega
        · simp at he'; subst he'; simp
      · simp only [Mt, q1, Option.isSome_none, Bool.false_eq_true, if_false, List.map_append]
        exact Hz hkn q3
      · intro p hp
        simp only [Mt, q1, Option.isSome_none, Bool.false_eq_true, if_false, List.mem_append, List.mem_singleton] at hp
        rcases hp with hp | hp
        · exact hall p hp
        · subst hp; exact hkk
      · simpa using hnd
      · intro c hc
        have hc : c ∈ b :: fs.flatten := by simpa using hc
        exact ⟨by simpa using hblt c hc, .inl (by simpa using hc)⟩
    | some i =>
      obtain ⟨x', q1, q2, _, q4⟩ := HR hi
      obtain ⟨es1, en, es2, m1, m2, f1, f', f2, r1, r2, r3, r4, r5, r6, r7, r8, r9⟩ := hE.cut i _ q1
      rw [hi] at hfind
      have hget : es.toList[i]? = some en := by rw [r1, ← r5]; simp
      have hest : es[i]? = some en := by simpa using hget
      have hil : i < es.size := (Array.getElem?_eq_some_iff.1 hest).1
      have hge : es[i] = en := (Array.getElem?_eq_some_iff.1 hest).2
      have hfind : (Instr.findKey kt (kV k) es.toList).run P w = .ok (some (i, en.val)) w := by rw [hfind]; simp only [Option.bind_some, hget, Option.map_some]
      have hks : (Instr.keyThatStays (((es[i]?).map (·.key)).getD (kV k)) (kV k)).run P w = .ok (kV k) w := by
        simp only [hest, Option.map_some, Option.getD_some, r8, Instr.keyThatStays, hk.same, if_true, Sem.run_pure]
      have hmod : (es.modify i fun e => { e with key := kV k }) = es := by
        apply Array.ext'
        apply List.ext_getElem?
        intro j'
        simp only [Array.getElem?_toList, Array.getElem?_modify]
        by_cases hj : i = j'
        · subst hj
          have hkey : ({ en with key := kV k } : MapEntry) = en := by
            have : en.key = kV k := r8
            cases en; simp at this; simp [this]
          simp [hil, hge, hkey]
        · simp [hj]
      have hset : ({ w with heap := w.heap.setIfInBounds b (.map es clock) } : World) = w := by
        have hlt : b < w.heap.size := (Array.getElem?_eq_some_iff.1 hb).1
        have hbe : w.heap[b] = .map es clock := (Array.getElem?_eq_some_iff.1 hb).2
        have : w.heap.setIfInBounds b (.map es clock) = w.heap := by
          apply Array.ext_getElem?
          intro j
          rw [Array.getElem?_setIfInBounds]
          by_cases hj : b = j
          · subst hj
            rw [if_pos rfl, if_pos hlt, hb]
          · rw [if_neg hj]
        rw [this]
      have hrun : (execOp a.eval ⟨some d, .mapEntry t x y, ty, pos, af, gd⟩).run P w = .ok (.value (.tuple #[en.val, .int .i64 en.born])) w := by
        simp only [execOp, hv, hkv, Instr.mapEntry, Sem.run_bind, run_underlying hu, Result.andThen_ok, hgo, hk.check _ _ _ hkk, hfind, hks, hmod, hso, hset]
        simp [hest, goInt]
      have hperm : (f' ++ (b :: (f1.flatten ++ f2.flatten))).Perm (b :: fs.flatten) := by
        rw [r3]
        simp only [List.flatten_append, List.flatten_cons]
        refine (List.perm_middle).trans (.cons _ ?_)
        rw [← List.append_assoc, ← List.append_assoc]
        exact (List.perm_append_comm).append_right _
      unfold Oper.wp
      rw [hrun, Oper.upon_value]
      refine hK _ _ Φ [[], f', b :: (f1.flatten ++ f2.flatten)] (Step.refl _ _ _) h1 ⟨⟨rfl, _, C0 a _ d (h7 d rfl), [en.val, .int .i64 en.born], rfl, rfl, rfl, trivial⟩, ?_, ⟨b, es, clock, m1, m2, k, x', en, f1, f2, rfl, rfl, hb, es1, es2, r1, ?_, rfl, r8, rfl, r6, r7, hbn, hbc, ?_, ?_⟩, trivial⟩ ?_ ?_
      · rw [q2]; exact r9
      · simp only [Mt, q2, Option.isSome_some, if_true]; exact r2
      · simpa [Mt, q2] using hkn
      · simpa [Mt, q2] using hall
      · have := hperm.nodup_iff.2 hnd
        simpa using this
      · intro c hc
        have hc : c ∈ b :: fs.flatten := hperm.mem_iff.1 (by simpa using hc)
        exact ⟨hblt c hc, .inl (by simpa using hc)⟩
theorem JN {t : TypeId} {x s y : Operand} {v st u : Value} {m : List (K × V)} {k : K} {n : V} (hx : AM G N x (Am v)) (hs : AM G N s (Am st)) (hy : AM G N y (Am u)) :
    Ba P G ⟨none, .entryStore t x s y, ty, pos, af, gd⟩ N [.res (eR u n), .res (Qa v st kV kOk eR k m)] (fun _ => [.res (Et v kV kOk eR (Gw k n m))]) := by
  intro Φ a w fN fC h1 h2 h3 h4 h5 h6 h7 KK Q hK
  match fC, h4 with
  | [f0, f], ⟨hel, ⟨b, es, clock, pre, post, k0, x0, e0, fp, fq, hveq, hf, hb, es1, es2, r1, r2, r3, r4, r5, r6, r7, hbn, hbc, hkn, hall⟩, _⟩ =>
    subst hf; subst hveq; subst r3; subst r2; subst r5
    have hv : a.eval x = .map (some b) := hx Φ a w fN h2 h3
    have hsv : a.eval s = .int .i64 e0.born := hs Φ a w fN h2 h3
    have huv : a.eval y = u := hy Φ a w fN h2 h3
    have hnd : (f0 ++ (b :: (fp.flatten ++ fq.flatten))).Nodup := by
      have := (List.nodup_append.1 h5).2.1
      simpa using this
    have hblt : ∀ c ∈ (f0 ++ (b :: (fp.flatten ++ fq.flatten))), c < w.heap.size := fun c hc => h6 c (List.mem_append.2 (.inr (by simpa using hc)))
    have hgo : (getObj b).run P w = .ok (.map es clock) w := by simp [getObj, Sem.run, hb]
    have hso : ∀ o', (setObj b o').run P w = .ok () { w with heap := w.heap.setIfInBounds b o' } := fun o' => by simp [setObj, Sem.run, hb]
    have hes : es = (es1 ++ e0 :: es2).toArray := by apply Array.ext'; simpa using r1
    have hfi : es.findIdx? (fun e => (e.born : Int) == (e0.born : Int)) = some es1.length := by
      rw [hes]
      rw [List.findIdx?_toArray, List.findIdx?_append]
      have hn1 : es1.findIdx? (fun e => (e.born : Int) == (e0.born : Int)) = none := by
        rw [List.findIdx?_eq_none_iff]
        intro e he
        have hne : e.born ≠ e0.born := by
          intro hc
          rw [r1, List.map_append, List.map_cons] at hbn
          exact (List.nodup_append.1 hbn).2.2 e.born (List.mem_map.2 ⟨e, he, rfl⟩) e0.born (by simp) hc
        simp
        omega
      rw [hn1]
      simp [List.findIdx?_cons]
    have hmod : (es.modify es1.length fun e => { e with val := u }) = (es1 ++ { e0 with val := u } :: es2).toArray := by
      rw [hes]
      apply Array.ext'
      apply List.ext_getElem?
      intro j
      simp only [Array.getElem?_toList, Array.getElem?_modify, List.getElem?_toArray]
      by_cases hj : es1.length = j
      · subst hj; simp
      · rw [if_neg hj]
        rcases Nat.lt_or_ge j es1.length with q | q
        · rw [List.getElem?_append_left q, List.getElem?_append_left q]
        · rw [List.getElem?_append_right q, List.getElem?_append_right q]
          obtain ⟨i, hi⟩ : ∃ i, j - es1.length = i + 1 := ⟨j - es1.length - 1, by omega⟩
          rw [hi]; rfl
    have hrun : (execOp a.eval ⟨none, .entryStore t x s y, ty, pos, af, gd⟩).run P w = .ok .skip { w with heap := w.heap.setIfInBounds b (.map (es1 ++ { e0 with val := u } :: es2).toArray clock) } := by
      simp only [execOp, hv, hsv, huv, Instr.entryStore, Sem.run_bind, Result.andThen_ok, hgo, asInt, asIntOf, Sem.run_pure, hfi, hmod, hso]
    have hupd : Gw k0 n (pre ++ (k0, x0) :: post) = pre ++ (k0, n) :: post := by
      have hnk : k0 ∉ pre.map (·.1) := by
        rw [List.map_append, List.map_cons] at hkn
        exact fun hm => (List.nodup_append.1 hkn).2.2 k0 hm k0 (by simp) rfl
      have : ∀ (pre : List (K × V)), k0 ∉ pre.map (·.1) → Gw k0 n (pre ++ (k0, x0) :: post) = pre ++ (k0, n) :: post := by
        intro pre
        induction pre with
        | nil => intro _; simp [Gw]
        | cons p pre ih =>
          intro hp
          simp only [List.map_cons, List.mem_cons, not_or] at hp
          simp only [List.cons_append, Gw, if_neg hp.1, ih hp.2]
      exact this pre hnk
    have hpn : (b :: (fp ++ f0 :: fq).flatten).Perm (f0 ++ (b :: (fp.flatten ++ fq.flatten))) := by
      simp only [List.flatten_append, List.flatten_cons]
      refine List.Perm.trans (.cons _ ?_) (List.perm_middle).symm
      rw [← List.append_assoc, ← List.append_assoc]
      exact (List.perm_append_comm).append_right _
    have hother : ∀ c, c ∈ f0 ++ (fp.flatten ++ fq.flatten) → c ≠ b := fun c hc e => by
      subst e
      have := (List.perm_middle.nodup_iff.1 hnd)
      exact (List.nodup_cons.1 this).1 hc
    unfold Oper.wp
    rw [hrun, Oper.upon_skip]
    refine hK undef _ Φ [b :: (fp ++ f0 :: fq).flatten] ((GP w Φ b _).KY (fun c hc _ => by simp at hc; simp [hc])) (Hu h1 hb) ⟨⟨b, _, clock, fp ++ f0 :: fq, rfl, rfl, GQ hb, ?_, ?_, ?_, ?_, ?_⟩, trivial⟩ ?_ ?_
    · rw [hupd]
      refine (r6.loc (BR.le_refl _) (fun _ _ => rfl) (fun c hc => EG (hother c (by simp [hc])))).append ⟨r4, ?_, r7.loc (BR.le_refl _) (fun _ _ => rfl) (fun c hc => EG (hother c (by simp [hc])))⟩
      exact (eR u n).loc (BR.le_refl _) (fun _ _ => rfl) (fun c hc => EG (hother c (by simp [hc]))) hel
    · rw [r1] at hbn
      simpa using hbn
    · intro e he
      have he : e ∈ es1 ++ { e0 with val := u } :: es2 := by simpa using he
      rcases List.mem_append.1 he with he | he
      · exact hbc e (by rw [r1]; simp [he])
      · rcases List.mem_cons.1 he with he | he
        · subst he; exact hbc e0 (by rw [r1]; simp)
        · exact hbc e (by rw [r1]; simp [he])
    · rw [hupd]
      simpa using hkn
    · rw [hupd]
      intro p hp
      rcases List.mem_append.1 hp with hp | hp
      · exact hall p (by simp [hp])
      · rcases List.mem_cons.1 hp with hp | hp
        · subst hp; exact hall (k0, x0) (by simp)
        · exact hall p (by simp [hp])
    · have := hpn.nodup_iff.2 hnd
      simpa using this
    · intro c hc
      have hc : c ∈ f0 ++ (b :: (fp.flatten ++ fq.flatten)) := hpn.mem_iff.1 (by simpa using hc)
      exact ⟨by simpa using hblt c hc, .inl (by simpa using hc)⟩
end ops

end
section
open Go Go.RowKit Go.Proofs Go.WideShapes
set_option linter.unusedVariables false
def Wf {α : Type} (c : α → List Ck) (p : α → Prop) : Prop := ∀ Φ cs x, B0 Φ cs (c x) → p x
theorem Ns {k : IntKind} : Wf (iC k) (H5 k) := fun _ _ _ ⟨_, _, _, ⟨_, _, _, h⟩, _⟩ => h.2
theorem PL : Wf C9 (fun s => s.length ≤ CG) := fun _ _ _ ⟨_, _, _, ⟨_, _, _, h⟩, _⟩ => h.2
theorem CS.wf {α : Type} {c : α → List Ck} {p : α → Prop} (h : Wf c p) {Φ : BR} : ∀ {l : List α} {cs : List Value}, CS Φ c cs l → ∀ y ∈ l, p y
  | [], _, _, y, hy => by cases hy
  | x :: l, cs, ⟨u, v, _, h1, h2⟩, y, hy => by
    rcases List.mem_cons.1 hy with rfl | hy
    · exact h _ _ _ h1
    · exact CS.wf h h2 y hy
theorem KZ {α : Type} {c : α → List Ck} {p : α → Prop} (h : Wf c p) : Wf (RL c) (fun l => l.length ≤ CG ∧ ∀ y ∈ l, p y) := by
  rintro Φ cs x ⟨_, _, _, ⟨_, _, _, h1⟩, _⟩
  refine ⟨h1.1, ?_⟩
  rcases h1.2 with ⟨_, rfl⟩ | ⟨_, _, _, _, _, _, h2, _⟩ | ⟨rfl, _⟩
  · intro y hy; cases hy
  · exact CS.wf h h2
  · intro y hy; cases hy
theorem NP {Φ : BR} {v : Value} {V : VP} (hn : ∀ cs, v ≠ .agg cs) (h : B0 Φ v.cells.toList [one V]) : V.p Φ v := by
  obtain ⟨u, r, h1, ⟨y, rfl, _, h2⟩, rfl⟩ := h
  cases v
  case agg cs => exact absurd rfl (hn cs)
  all_goals (simp [Value.cells] at h1; subst h1; exact h2)
theorem JX {Φ : BR} {P : Program} {W : World} {base : Nat} {t e : TypeId} {v : Value} {V : VP} (hv : Value.okWide P W .any base t v) (ht : P.underlying t = some (.slice e)) (h : B0 Φ v.cells.toList [one V]) : V.p Φ v := by
  obtain ⟨_, _, _, rfl⟩ := okWide_slice ht hv
  exact NP (fun _ h => by cases h) h
theorem OC {Φ : BR} {P : Program} {W : World} {base : Nat} {t : TypeId} {k : IntKind} {v : Value} {V : VP} (hv : Value.okWide P W .any base t v) (ht : P.underlying t = some (.int k)) (h : B0 Φ v.cells.toList [one V]) : V.p Φ v := by
  obtain ⟨_, rfl⟩ := okWide_int ht hv
  exact NP (fun _ h => by cases h) h
end
section
open Go Go.RowKit Go.Proofs
set_option linter.unusedVariables false
set_option linter.unusedSimpArgs false
theorem QG {α : Type} {c : α → List Ck} {z : α} {zs : List Value} (h : ∀ Φ, B0 Φ zs (c z)) (Φ : BR) : ∀ n, CS Φ c (List.replicate n zs).flatten (List.replicate n z)
  | 0 => rfl
  | n + 1 => ⟨zs, (List.replicate n zs).flatten, rfl, h Φ, QG h Φ n⟩
theorem QF {α : Type} {n sz : Nat} {c : α → List Ck} {hsz : ∀ x, lens (c x) = sz} {z : α} {zs cs : List Value} (e : cs = (List.replicate n zs).flatten) (h : ∀ Φ, B0 Φ zs (c z)) : ∀ Φ, B0 Φ cs [Ee n sz c hsz (List.replicate n z)] :=
  fun Φ => ⟨cs, [], by simp, ⟨by simp, by rw [e]; exact QG h Φ n⟩, rfl⟩

end
end Go.Proofs.YteboiefnflipjaaGreatDoor
