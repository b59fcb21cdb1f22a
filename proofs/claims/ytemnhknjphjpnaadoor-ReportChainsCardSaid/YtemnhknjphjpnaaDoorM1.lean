/- The program logic, as far as this claim leans on it: part 1. -/
import Derived.Orders
import Derived.Below
import Derived.KernelRfl
import Derived.Laws.Entries
import Derived.Laws.Cells
import Derived.Laws.Rows
import Derived.LoopTactic
import Derived.StepT
import Derived.Laws.Strings
import Derived.Laws.StructEq
import Derived.Laws.BytesString
import Derived.ChangeKeysEq
import Derived.Laws.Pointers
import Derived.Laws.AppendOwn
import Derived.Lib.AppendStr
import Derived.Laws.CopyRow
import Derived.Laws.IdiomStrings
import Derived.Laws.Tables
import Derived.MapKept
import Derived.Lib.UnsafeStr
import Derived.OpenShut
import Derived.ChangeArms
import Derived.DataReads
import Derived.WideShapes
import Derived.Maps.RangeRun
import Derived.WalkSpells
import Derived.Lib.BufferWrite
import Derived.Laws.Externs
import Derived.Laws.RangeAny
import Derived.Lib.Join
namespace Go.Proofs.YtemnhknjphjpnaaDoor
section
open Go Go.RowKit

abbrev BW := Nat → Nat → Option Value

def BW.le (Φ Φ' : BW) : Prop := ∀ b o v, Φ b o = some v → Φ' b o = some v
theorem BW.le_refl (Φ : BW) : BW.le Φ Φ := fun _ _ _ h => h
theorem BW.le_trans {Φ Φ' Φ'' : BW} (h : BW.le Φ Φ') (k : BW.le Φ' Φ'') : BW.le Φ Φ'' := fun b o v e => k b o v (h b o v e)

structure Du (Φ : BW) (w : World) : Prop where
  lt : ∀ b o v, Φ b o = some v → b < w.heap.size
  cell : ∀ b o v, Φ b o = some v → w.cell? ⟨b, o, none⟩ = some v

structure VP where
  p : BW → Value → Prop
  mono : ∀ {Φ Φ' : BW} {v : Value}, BW.le Φ Φ' → p Φ v → p Φ' v

structure FP where
  p : BW → Prop
  mono : ∀ {Φ Φ' : BW}, BW.le Φ Φ' → p Φ → p Φ'

structure RP where
  p : BW → List Nat → World → Prop
  loc : ∀ {Φ Φ' : BW} {f : List Nat} {w w' : World}, BW.le Φ Φ' → (∀ b ∈ f, Φ' b = Φ b) → (∀ b ∈ f, w'.heap[b]? = w.heap[b]?) → p Φ f w → p Φ' f w'

inductive Cp where
  | slot (d : Nat) (V : VP)
  | res (R : RP)
  | fact (V : VP) (v : Value)
  | none

def Cp.HS : Cp → Option Nat
  | .slot d _ => some d
  | _ => Option.none

structure Step (w : World) (Φ : BW) (F : List Nat) (w' : World) (Φ' : BW) : Prop where
  os : w'.os = w.os
  tape : w'.tape = w.tape
  output : w'.output = w.output
  size : w.heap.size ≤ w'.heap.size
  block : ∀ b, b < w.heap.size → b ∉ F → w'.heap[b]? = w.heap[b]?
  le : BW.le Φ Φ'
  same : ∀ b, b < w.heap.size → b ∉ F → Φ' b = Φ b

theorem Step.refl (w : World) (Φ : BW) (F : List Nat) : Step w Φ F w Φ := ⟨rfl, rfl, rfl, Nat.le_refl _, fun _ _ _ => rfl, BW.le_refl _, fun _ _ _ => rfl⟩

theorem Step.MQ {w w' : World} {Φ Φ' : BW} {F F' : List Nat} (h : Step w Φ F w' Φ') (hf : ∀ b ∈ F, b < w.heap.size → b ∈ F') : Step w Φ F' w' Φ' :=
  ⟨h.os, h.tape, h.output, h.size, fun b hb hn => h.block b hb (fun hm => hn (hf b hm hb)), h.le, fun b hb hn => h.same b hb (fun hm => hn (hf b hm hb))⟩

theorem Step.trans {w w' w'' : World} {Φ Φ' Φ'' : BW} {F G : List Nat} (h : Step w Φ F w' Φ') (k : Step w' Φ' G w'' Φ'')
    (hg : ∀ b ∈ G, b < w.heap.size → b ∈ F) : Step w Φ F w'' Φ'' :=
  ⟨k.os.trans h.os, k.tape.trans h.tape, k.output.trans h.output, Nat.le_trans h.size k.size,
   fun b hb hn => (k.block b (Nat.lt_of_lt_of_le hb h.size) (fun hm => hn (hg b hm hb))).trans (h.block b hb hn),
   BW.le_trans h.le k.le,
   fun b hb hn => (k.same b (Nat.lt_of_lt_of_le hb h.size) (fun hm => hn (hg b hm hb))).trans (h.same b hb hn)⟩

theorem Step.drew (w : World) (Φ : BW) (F : List Nat) : Step w Φ F { w with drawn := w.drawn + 1 } Φ := ⟨rfl, rfl, rfl, Nat.le_refl _, fun _ _ _ => rfl, BW.le_refl _, fun _ _ _ => rfl⟩
theorem Du.drew {Φ : BW} {w : World} (h : Du Φ w) : Du Φ { w with drawn := w.drawn + 1 } := ⟨h.lt, h.cell⟩

def Cp.holds (Φ : BW) (tmps : Array Value) (w : World) (f : List Nat) : Cp → Prop
  | .slot d V => f = [] ∧ ∃ v, tmps[d]? = some v ∧ V.p Φ v
  | .res R => R.p Φ f w
  | .fact V v => f = [] ∧ V.p Φ v
  | .none => f = []

theorem Cp.Gg {Φ Φ' : BW} {tmps tmps' : Array Value} {w w' : World} {f : List Nat} {e : Cp} (h : e.holds Φ tmps w f)
    (hle : BW.le Φ Φ') (hsame : ∀ b ∈ f, Φ' b = Φ b) (hblk : ∀ b ∈ f, w'.heap[b]? = w.heap[b]?) (ht : ∀ d, e.HS = some d → tmps'[d]? = tmps[d]?) : e.holds Φ' tmps' w' f := by
  cases e with
  | slot d V => obtain ⟨rfl, v, h1, h2⟩ := h; exact ⟨rfl, v, by rw [ht d rfl]; exact h1, V.mono hle h2⟩
  | res R => exact R.loc hle hsame hblk h
  | fact V v => exact ⟨h.1, V.mono hle h.2⟩
  | none => exact h

structure Cx where
  w0 : World
  Φ0 : BW
  F0 : List Nat
  n : Nat
  G : FP

structure I0 (c : Cx) (E : Nat → Cp) (al : Nat → Prop) (a : Act) (w : World) (Φ : BW) (fp : Nat → List Nat) : Prop where
  defers : a.defers = []
  size : a.tmps.size = c.n
  Iw : Du Φ w
  GL : c.G.p Φ
  step : Step c.w0 c.Φ0 c.F0 w Φ
  holds : ∀ i, al i → (E i).holds Φ a.tmps w (fp i)
  own : ∀ i, al i → (fp i).Nodup ∧ ∀ b ∈ fp i, b < w.heap.size ∧ (b ∈ c.F0 ∨ c.w0.heap.size ≤ b)
  apart : ∀ i j, al i → al j → i ≠ j → ∀ b ∈ fp i, b ∉ fp j

def Sat (c : Cx) (E : Nat → Cp) (al : Nat → Prop) (a : Act) (w : World) : Prop := ∃ Φ fp, I0 c E al a w Φ fp

theorem Sat.pick {c : Cx} {E E' : Nat → Cp} {al al' : Nat → Prop} {a : Act} {w : World} (h : Sat c E al a w) (r : Nat → Nat)
    (hal : ∀ i, al' i → al (r i)) (hE : ∀ i, al' i → E' i = E (r i)) (hinj : ∀ i j, al' i → al' j → i ≠ j → r i ≠ r j) : Sat c E' al' a w := by
  obtain ⟨Φ, fp, h⟩ := h
  refine ⟨Φ, fun i => fp (r i), h.defers, h.size, h.Iw, h.GL, h.step, fun i hi => ?_, fun i hi => h.own _ (hal i hi), fun i j hi hj hne => h.apart _ _ (hal i hi) (hal j hj) (hinj i j hi hj hne)⟩
  rw [hE i hi]; exact h.holds _ (hal i hi)

theorem Sat.drew {c : Cx} {E : Nat → Cp} {al : Nat → Prop} {a : Act} {w : World} (h : Sat c E al a w) : Sat c E al a { w with drawn := w.drawn + 1 } := by
  obtain ⟨Φ, fp, h⟩ := h
  exact ⟨Φ, fp, h.defers, h.size, h.Iw.drew, h.GL, h.step.trans (Step.drew w Φ []) (by simp),
    fun i hi => Cp.Gg (h.holds i hi) (BW.le_refl _) (fun _ _ => rfl) (fun _ _ => rfl) (fun _ _ => rfl), h.own, h.apart⟩

def Cn (Φ : BW) (tmps : Array Value) (w : World) : List Cp → List (List Nat) → Prop
  | [], [] => True
  | e :: es, f :: fs => e.holds Φ tmps w f ∧ Cn Φ tmps w es fs
  | _, _ => False

theorem Cn.of_map {Φ : BW} {tmps : Array Value} {w : World} (E : Nat → Cp) (fp : Nat → List Nat) : ∀ (l : List Nat), (∀ r ∈ l, (E r).holds Φ tmps w (fp r)) → Cn Φ tmps w (l.map E) (l.map fp)
  | [], _ => trivial
  | r :: l, h => ⟨h r (by simp), Cn.of_map E fp l fun x hx => h x (by simp [hx])⟩

theorem Cn.get {Φ : BW} {tmps : Array Value} {w : World} : ∀ {es : List Cp} {fs : List (List Nat)}, Cn Φ tmps w es fs → es.length = fs.length ∧ ∀ (i : Nat) (e : Cp), es[i]? = some e → ∃ f, fs[i]? = some f ∧ e.holds Φ tmps w f
  | [], [], _ => ⟨rfl, fun i e h => by simp at h⟩
  | e :: es, f :: fs, h => by
    obtain ⟨h1, h2⟩ := Cn.get h.2
    refine ⟨by simp [h1], fun i x hx => ?_⟩
    cases i with
    | zero => simp at hx; subst hx; exact ⟨f, rfl, h.1⟩
    | succ i => simp at hx; simpa using h2 i x hx
  | [], _ :: _, h => h.elim
  | _ :: _, [], h => h.elim

def BJ (P : Program) (G : FP) (o : Oper) (N C : List Cp) (Gv : Value → List Cp) : Prop :=
  ∀ (Φ : BW) (a : Act) (w : World) (fN fC : List (List Nat)),
    Du Φ w → G.p Φ → Cn Φ a.tmps w N fN → Cn Φ a.tmps w C fC → (fN.flatten ++ fC.flatten).Nodup → (∀ b ∈ fN.flatten ++ fC.flatten, b < w.heap.size) →
    (∀ d, o.dst = some d → d < a.tmps.size) →
    ∀ (K : Act → World → Prop) (Q : Exit → Act → World → Prop),
      (∀ (v : Value) (w' : World) (Φ' : BW) (fG : List (List Nat)), Step w Φ fC.flatten w' Φ' → Du Φ' w' →
        Cn Φ' (a.put o.dst v).tmps w' (Gv v) fG → fG.flatten.Nodup → (∀ b ∈ fG.flatten, b < w'.heap.size ∧ (b ∈ fC.flatten ∨ w.heap.size ≤ b)) → K (a.put o.dst v) w') →
      o.wp P a w K Q

def Jp (P : Program) (ops : Array Oper) (Q : Exit → Act → World → Prop) (o : Oper) (K : Act → World → Prop) (a : Act) (w : World) : Prop :=
  if Region.wanted o (yielded ops a.tmps) then o.wp P a w K Q ∨ (o.asks P a w ∧ LetsOut Q) else K (a.put o.dst undef) w

def A4 (P : Program) (G : FP) (ops : Array Oper) (o : Oper) (N C : List Cp) (Gv : Value → List Cp) : Prop :=
  ∀ (Φ : BW) (a : Act) (w : World) (fN fC : List (List Nat)),
    Du Φ w → G.p Φ → Cn Φ a.tmps w N fN → Cn Φ a.tmps w C fC → (fN.flatten ++ fC.flatten).Nodup → (∀ b ∈ fN.flatten ++ fC.flatten, b < w.heap.size) →
    (∀ d, o.dst = some d → d < a.tmps.size) →
    ∀ (K : Act → World → Prop) (Q : Exit → Act → World → Prop),
      (∀ (v : Value) (w' : World) (Φ' : BW) (fG : List (List Nat)), Step w Φ fC.flatten w' Φ' → Du Φ' w' →
        Cn Φ' (a.put o.dst v).tmps w' (Gv v) fG → fG.flatten.Nodup → (∀ b ∈ fG.flatten, b < w'.heap.size ∧ (b ∈ fC.flatten ∨ w.heap.size ≤ b)) → K (a.put o.dst v) w') →
      Jp P ops Q o K a w

theorem A4.plain {P : Program} {G : FP} {ops : Array Oper} {o : Oper} {N C : List Cp} {Gv : Value → List Cp} (h : BJ P G o N C Gv) (hg : o.guard = none) : A4 P G ops o N C Gv := by
  intro Φ a w fN fC h1 h2 h3 h4 h5 h6 h7 K Q hK
  unfold Jp
  rw [if_pos (by simp [Region.wanted, hg])]
  exact .inl (h Φ a w fN fC h1 h2 h3 h4 h5 h6 h7 K Q hK)

def An (b : Bool) : VP := ⟨fun _ v => v = .bool b, fun _ h => h⟩

theorem A4.on {P : Program} {G : FP} {ops : Array Oper} {o : Oper} {N C : List Cp} {Gv : Value → List Cp} {k d : Nat} {want : Bool} {ok : Oper} (hg : o.guard = some (k, want)) (hk : ops[k]? = some ok) (hd : ok.dst = some d)
    (h : BJ P G o N C Gv) : A4 P G ops o (.slot d (An want) :: N) C Gv := by
  intro Φ a w fN fC h1 h2 h3 h4 h5 h6 h7 K Q hK
  cases fN with
  | nil => exact h3.elim
  | cons f fN =>
    obtain ⟨⟨rfl, v, hv, hb⟩, h3⟩ := h3
    have hb : v = .bool want := hb
    subst hb
    unfold Jp
    rw [if_pos (by simp [Region.wanted, hg, yielded, hk, hd, hv])]
    exact .inl (h Φ a w fN fC h1 h2 h3 h4 (by simpa using h5) (by simpa using h6) h7 K Q hK)

theorem A4.off {P : Program} {G : FP} {ops : Array Oper} {o : Oper} {k d : Nat} {want : Bool} {ok : Oper} (hg : o.guard = some (k, want)) (hk : ops[k]? = some ok) (hd : ok.dst = some d) :
    A4 P G ops o [.slot d (An !want)] [] (fun _ => []) := by
  intro Φ a w fN fC h1 h2 h3 h4 h5 h6 h7 K Q hK
  match fN, h3 with
  | [f], h3 =>
    match fC, h4 with
    | [], _ =>
      obtain ⟨⟨rfl, v, hv, hb⟩, _⟩ := h3
      have hb : v = .bool !want := hb
      subst hb
      unfold Jp
      rw [if_neg (by cases want <;> simp [Region.wanted, hg, yielded, hk, hd, hv])]
      exact hK undef w Φ [] (Step.refl _ _ _) h1 trivial List.nodup_nil (by simp)

inductive GE where
  | slot (d : Nat) (i j : Nat) (V : Value → Value → VP)
  | res (i j : Nat) (R : Value → Value → RP)
  | fact (i j : Nat) (V : Value → Value → VP) (v : Value → Value → Value)
  | slot3 (d : Nat) (i j k : Nat) (V : Value → Value → Value → VP)
  | res3 (i j k : Nat) (R : Value → Value → Value → RP)
  | base (e : Cp)

def GE.at (β : Nat → Value) : GE → Cp
  | .slot d i j V => .slot d (V (β i) (β j))
  | .res i j R => .res (R (β i) (β j))
  | .fact i j V v => .fact (V (β i) (β j)) (v (β i) (β j))
  | .slot3 d i j k V => .slot d (V (β i) (β j) (β k))
  | .res3 i j k R => .res (R (β i) (β j) (β k))
  | .base e => e
def GE.HS : GE → Option Nat
  | .slot d _ _ _ => some d
  | .slot3 d _ _ _ _ => some d
  | .base e => e.HS
  | _ => none
def GE.Mx : GE → List Nat
  | .slot _ i j _ => [i, j]
  | .res i j _ => [i, j]
  | .fact i j _ _ => [i, j]
  | .slot3 _ i j k _ => [i, j, k]
  | .res3 i j k _ => [i, j, k]
  | .base _ => []
theorem GE.Ks (β : Nat → Value) (g : GE) : (g.at β).HS = g.HS := by cases g <;> rfl
theorem GE.K9 {β β' : Nat → Value} {g : GE} (h : ∀ k ∈ g.Mx, β k = β' k) : g.at β = g.at β' := by
  cases g <;> simp_all [GE.at, GE.Mx]

def BR {α : Type _} (d : α) : List α → Nat → α
  | [], _ => d
  | x :: _, 0 => x
  | _ :: l, k + 1 => BR d l k
theorem Dt {α : Type _} (d : α) : ∀ (l : List α) (k : Nat), BR d l k = l.getD k d
  | [], k => by simp [BR]
  | x :: l, 0 => by simp [BR]
  | x :: l, k + 1 => by simp [BR, Dt d l k]

structure GR where
  Cf : List Nat
  cons : List Nat
  Cw : List Nat
  bf : List Nat
  dst : Option Nat

def GR.none : GR := ⟨[], [], [], [], Option.none⟩

structure C1 where
  n : Nat
  FT : List GE
  own : List (Option Nat)
  ops : List GR

def C1.E (p : C1) (β : Nat → Value) (r : Nat) : Cp := (BR (.base .none) p.FT r).at β
def C1.op (p : C1) (i : Nat) : GR := BR GR.none p.ops i
def C1.owner (p : C1) (r : Nat) : Option Nat := BR none p.own r
def C1.Hu (p : C1) (r : Nat) : Option Nat := (BR (.base .none) p.FT r).HS
def C1.HH (p : C1) (r : Nat) : List Nat := (BR (.base .none) p.FT r).Mx

def distinct : List Nat → Bool
  | [] => true
  | x :: l => !l.contains x && distinct l
theorem DM : ∀ {l : List Nat}, distinct l = true → l.Nodup
  | [], _ => List.nodup_nil
  | x :: l, h => by
    simp [distinct] at h
    exact List.nodup_cons.2 ⟨by simpa using h.1, DM h.2⟩

def C1.JP (p : C1) (i : Nat) : Bool :=
  let s := p.op i
  ((s.Cf ++ s.cons).all fun r => decide (r < p.FT.length) && (match p.owner r with | none => true | some j => s.bf.contains j) &&
    (List.range p.ops.length).all fun k => k == i || !(p.op k).cons.contains r || (p.op k).bf.contains i) &&
  distinct (s.Cf ++ s.cons) &&
  distinct s.Cw &&
  (s.Cw.all fun r => p.owner r == some i && decide (r < p.FT.length) && (match p.Hu r with | none => true | some d => s.dst == some d) &&
    (p.HH r).all fun k => decide (p.ops.length ≤ k) || k == i || s.bf.contains k) &&
  ((List.range p.FT.length).all fun r => (p.owner r != some i || s.Cw.contains r) &&
    (match p.Hu r with
     | none => true
     | some d => s.dst != some d || p.owner r == some i || s.cons.contains r || (match p.owner r with | none => false | some k => (p.op k).bf.contains i) ||
        (List.range p.ops.length).any fun k => (p.op k).cons.contains r && s.bf.contains k)) &&
  (match s.dst with | none => true | some d => decide (d < p.n))

def C1.check (p : C1) : Bool := (List.range p.ops.length).all p.JP && (List.range p.FT.length).all fun r =>
  match p.owner r with | none => (p.HH r).all fun k => decide (p.ops.length ≤ k) | some j => decide (j < p.ops.length)

def C1.alive (p : C1) (listed : Nat → Prop) (r : Nat) : Prop :=
  r < p.FT.length ∧ (∀ j, p.owner r = some j → listed j) ∧ ∀ k, listed k → r ∉ (p.op k).cons

structure C1.Good (p : C1) (i : Nat) : Prop where
  K8 : ∀ r ∈ (p.op i).Cf ++ (p.op i).cons, r < p.FT.length ∧ (∀ j, p.owner r = some j → j ∈ (p.op i).bf) ∧ ∀ k, k < p.ops.length → k ≠ i → r ∈ (p.op k).cons → i ∈ (p.op k).bf
  nd : ((p.op i).Cf ++ (p.op i).cons).Nodup
  ndg : (p.op i).Cw.Nodup
  giv : ∀ r ∈ (p.op i).Cw, p.owner r = some i ∧ r < p.FT.length ∧ (∀ d, p.Hu r = some d → (p.op i).dst = some d) ∧ ∀ k ∈ p.HH r, p.ops.length ≤ k ∨ k = i ∨ k ∈ (p.op i).bf
  all : ∀ r, r < p.FT.length → p.owner r = some i → r ∈ (p.op i).Cw
  dst : ∀ r d, r < p.FT.length → p.Hu r = some d → (p.op i).dst = some d → p.owner r = some i ∨ r ∈ (p.op i).cons ∨ (∃ k, p.owner r = some k ∧ i ∈ (p.op k).bf) ∨ ∃ k, k < p.ops.length ∧ r ∈ (p.op k).cons ∧ k ∈ (p.op i).bf
  dlt : ∀ d, (p.op i).dst = some d → d < p.n

theorem C1.EV {p : C1} (h : p.check = true) {r : Nat} (hr : r < p.FT.length) :
    (p.owner r = none → ∀ k ∈ p.HH r, p.ops.length ≤ k) ∧ ∀ j, p.owner r = some j → j < p.ops.length := by
  simp only [C1.check, Bool.and_eq_true] at h
  have h := (List.all_eq_true.1 h.2) r (List.mem_range.2 hr)
  refine ⟨fun ho k hk => ?_, fun j hj => by simpa [hj] using h⟩
  simp only [ho, List.all_eq_true, decide_eq_true_eq] at h
  exact h k hk

theorem C1.F8 {p : C1} (h : p.check = true) {i : Nat} (hi : i < p.ops.length) : p.Good i := by
  simp only [C1.check, Bool.and_eq_true] at h
  have h := (List.all_eq_true.1 h.1) i (List.mem_range.2 hi)
  simp only [C1.JP, Bool.and_eq_true] at h
  obtain ⟨⟨⟨⟨⟨h1, h2⟩, h3⟩, h4⟩, h5⟩, h6⟩ := h
  rw [List.all_eq_true] at h1 h4 h5
  refine ⟨fun r hr => ?_, DM h2, DM h3, fun r hr => ?_, fun r hr ho => ?_, fun r d hr hs hd => ?_, fun d hd => ?_⟩
  · have := h1 r hr
    simp only [Bool.and_eq_true, decide_eq_true_eq, List.all_eq_true] at this
    obtain ⟨⟨a1, a2⟩, a3⟩ := this
    refine ⟨a1, fun j hj => by simpa [hj] using a2, fun k hk hne hm => ?_⟩
    have := a3 k (List.mem_range.2 hk)
    simpa [hne, hm] using this
  · have := h4 r hr
    simp only [Bool.and_eq_true, decide_eq_true_eq, List.all_eq_true] at this
    obtain ⟨⟨⟨a1, a2⟩, a3⟩, a4⟩ := this
    refine ⟨by simpa using a1, a2, fun d hd => by simpa [hd] using a3, fun k hk => ?_⟩
    have := a4 k hk
    simp only [Bool.or_eq_true, decide_eq_true_eq, beq_iff_eq] at this
    rcases this with (h | h) | h
    · exact .inl h
    · exact .inr (.inl h)
    · exact .inr (.inr (by simpa using h))
  · have := (h5 r (List.mem_range.2 hr))
    simp only [Bool.and_eq_true] at this
    have := this.1
    simpa [ho] using this
  · have := (h5 r (List.mem_range.2 hr))
    simp only [Bool.and_eq_true] at this
    have := this.2
    simp only [hs, hd, bne_self_eq_false, Bool.false_or, Bool.or_eq_true] at this
    rcases this with ((h | h) | h) | h
    · exact .inl (by simpa using h)
    · exact .inr (.inl (by simpa using h))
    · refine .inr (.inr (.inl ?_))
      cases ho : p.owner r with
      | none => simp [ho] at h
      | some k => exact ⟨k, rfl, by simpa [ho] using h⟩
    · refine .inr (.inr (.inr ?_))
      rw [List.any_eq_true] at h
      obtain ⟨k, hk, h⟩ := h
      simp only [Bool.and_eq_true] at h
      exact ⟨k, List.mem_range.1 hk, by simpa using h.1, by simpa using h.2⟩
  · simpa [hd] using h6

theorem Et {fp : Nat → List Nat} : ∀ {l : List Nat}, l.Nodup → (∀ r ∈ l, (fp r).Nodup) → (∀ r ∈ l, ∀ s ∈ l, r ≠ s → ∀ b ∈ fp r, b ∉ fp s) → (l.map fp).flatten.Nodup
  | [], _, _, _ => List.nodup_nil
  | r :: l, hn, h1, h2 => by
    have hn' := List.nodup_cons.1 hn
    simp only [List.map_cons, List.flatten_cons]
    rw [List.nodup_append]
    refine ⟨h1 r (by simp), Et hn'.2 (fun s hs => h1 s (by simp [hs])) (fun s hs t ht => h2 s (by simp [hs]) t (by simp [ht])), fun x hx y hy hxy => ?_⟩
    subst hxy
    obtain ⟨s, hs, hys⟩ := List.mem_flatten.1 hy
    obtain ⟨t, ht, rfl⟩ := List.mem_map.1 hs
    exact h2 r (by simp) t (by simp [ht]) (fun e => hn'.1 (e ▸ ht)) _ hx hys

theorem Jd (a : Act) (dst : Option Nat) (v : Value) (d : Nat) (h : dst ≠ some d) : (a.put dst v).tmps[d]? = a.tmps[d]? := by
  cases dst with
  | none => rfl
  | some e => simp only [Act.put]; exact Array.getElem?_setIfInBounds_ne (fun he => h (by rw [he]))
theorem DH (a : Act) (v : Value) (d : Nat) (h : d < a.tmps.size) : (a.put (some d) v).tmps[d]? = some v := by
  simp [Act.put, h]
theorem KA (a : Act) (dst : Option Nat) (v : Value) : (a.put dst v).tmps.size = a.tmps.size := by cases dst <;> simp [Act.put]
theorem put_defers (a : Act) (dst : Option Nat) (v : Value) : (a.put dst v).defers = a.defers := by cases dst <;> rfl

theorem G2 : ∀ {l : List Nat} {r : Nat}, r ∈ l → l[l.idxOf r]? = some r
  | x :: l, r, h => by
    by_cases e : x = r
    · subst e; simp
    · have hr : r ∈ l := (List.mem_cons.1 h).resolve_left (fun q => e q.symm)
      have hb : (x == r) = false := by simpa using e
      rw [List.idxOf_cons, hb]
      simpa using G2 hr
theorem Ji {l : List Nat} {r s : Nat} (hr : r ∈ l) (hs : s ∈ l) (e : l.idxOf r = l.idxOf s) : r = s := by
  have h1 := G2 hr
  have h2 := G2 hs
  rw [e, h2] at h1
  exact (Option.some.inj h1).symm
theorem Es : ∀ {l : List (List Nat)}, l.flatten.Nodup → ∀ f ∈ l, f.Nodup
  | [], _, f, hf => by cases hf
  | g :: l, h, f, hf => by
    simp only [List.flatten_cons] at h
    rw [List.nodup_append] at h
    rcases List.mem_cons.1 hf with rfl | hf
    · exact h.1
    · exact Es h.2.1 f hf
theorem Ev : ∀ {l : List (List Nat)}, l.flatten.Nodup → ∀ (i j : Nat) (f g : List Nat), l[i]? = some f → l[j]? = some g → i ≠ j → ∀ b ∈ f, b ∉ g
  | [], _, i, j, f, g, hi, _, _ => by simp at hi
  | x :: l, h, i, j, f, g, hi, hj, hne => by
    simp only [List.flatten_cons] at h
    rw [List.nodup_append] at h
    intro b hb hg
    cases i with
    | zero =>
      cases j with
      | zero => exact hne rfl
      | succ j => simp at hi hj; subst hi; exact h.2.2 b hb b (List.mem_flatten.2 ⟨g, List.mem_of_getElem? hj, hg⟩) rfl
    | succ i =>
      cases j with
      | zero => simp at hi hj; subst hj; exact h.2.2 b hg b (List.mem_flatten.2 ⟨f, List.mem_of_getElem? hi, hb⟩) rfl
      | succ j => simp at hi hj; exact Ev h.2.1 i j f g hi hj (fun e => hne (by rw [e])) b hb hg

theorem C1.step {P : Program} {ops : Array Oper} {c : Cx} {p : C1} (hn : p.n = c.n) {listed : Nat → Prop} {β : Nat → Value} {a : Act} {w : World} {o : Oper} {i : Nat}
    (hc : p.check = true) (hi : i < p.ops.length) (hnl : ¬ listed i) (hbf : ∀ j ∈ (p.op i).bf, listed j) (hdown : ∀ j k, listed k → j ∈ (p.op k).bf → listed j) (hlt : ∀ j, listed j → j < p.ops.length)
    (hod : o.dst = (p.op i).dst)
    (hop : ∀ β, A4 P c.G ops o ((p.op i).Cf.map (p.E β)) ((p.op i).cons.map (p.E β)) (fun v => (p.op i).Cw.map (p.E fun k => if k = i then v else β k)))
    (hs : Sat c (p.E β) (p.alive listed) a w) (K : Act → World → Prop) (Q : Exit → Act → World → Prop)
    (hK : ∀ a' w' β', Sat c (p.E β') (p.alive fun k => listed k ∨ k = i) a' w' → K a' w') : Jp P ops Q o K a w := by
  obtain ⟨Φ, fp, h⟩ := hs
  have hg := C1.F8 hc hi
  have hali : ∀ r ∈ (p.op i).Cf ++ (p.op i).cons, p.alive listed r := fun r hr =>
    ⟨(hg.K8 r hr).1, fun j hj => hbf j ((hg.K8 r hr).2.1 j hj), fun k hk hm => by
      by_cases hki : k = i
      · exact hnl (hki ▸ hk)
      · exact hnl (hdown i k hk ((hg.K8 r hr).2.2 k (hlt k hk) hki hm))⟩
  have hnd := hg.nd
  have hflat : (((p.op i).Cf.map fp).flatten ++ ((p.op i).cons.map fp).flatten) = (((p.op i).Cf ++ (p.op i).cons).map fp).flatten := by simp
  refine hop β Φ a w ((p.op i).Cf.map fp) ((p.op i).cons.map fp) h.Iw h.GL
    (Cn.of_map _ _ _ fun r hr => h.holds r (hali r (by simp [hr]))) (Cn.of_map _ _ _ fun r hr => h.holds r (hali r (by simp [hr]))) ?_ ?_ ?_ K Q ?_
  · rw [hflat]
    exact Et hnd (fun r hr => (h.own r (hali r hr)).1) (fun r hr s hs hne => h.apart r s (hali r hr) (hali s hs) hne)
  · rw [hflat]
    intro b hb
    obtain ⟨s, hs, hbs⟩ := List.mem_flatten.1 hb
    obtain ⟨r, hr, rfl⟩ := List.mem_map.1 hs
    exact ((h.own r (hali r hr)).2 b hbs).1
  · intro d hd
    rw [h.size, ← hn]
    exact hg.dlt d (by rw [← hod]; exact hd)
  · intro v w' Φ' fG hstep hpub hG hGn hGb
    refine hK _ w' (fun k => if k = i then v else β k) ?_
    -- the blocks of each entry behind the operation
    have hlen := (Cn.get hG).1
    have hget := (Cn.get hG).2
    let fp' : Nat → List Nat := fun r => if r ∈ (p.op i).Cw then fG.getD ((p.op i).Cw.idxOf r) [] else fp r
    have hfpG : ∀ r ∈ (p.op i).Cw, ∃ f, fG[(p.op i).Cw.idxOf r]? = some f ∧ fp' r = f ∧ (p.E (fun k => if k = i then v else β k) r).holds Φ' (a.put o.dst v).tmps w' f := by
      intro r hr
      have hx : (p.op i).Cw.idxOf r < (p.op i).Cw.length := List.idxOf_lt_length_of_mem hr
      obtain ⟨f, hf, hh⟩ := hget ((p.op i).Cw.idxOf r) (p.E (fun k => if k = i then v else β k) r) (by simp [List.getElem?_eq_getElem hx])
      exact ⟨f, hf, by simp [fp', hr, List.getD, hf], hh⟩
    have hold : ∀ r, p.alive (fun k => listed k ∨ k = i) r → r ∉ (p.op i).Cw → p.alive listed r ∧ r ∉ (p.op i).cons := by
      intro r hr hng
      refine ⟨⟨hr.1, fun j hj => ?_, fun k hk => hr.2.2 k (.inl hk)⟩, hr.2.2 i (.inr rfl)⟩
      rcases hr.2.1 j hj with hl | rfl
      · exact hl
      · exact absurd (hg.all r hr.1 hj) hng
    -- an entry that is not used up shares no block with what is
    have hfar : ∀ r, p.alive listed r → r ∉ (p.op i).cons → ∀ b ∈ fp r, b ∉ ((p.op i).cons.map fp).flatten := by
      intro r hr hnc b hb hm
      obtain ⟨s, hs, hbs⟩ := List.mem_flatten.1 hm
      obtain ⟨t, ht, rfl⟩ := List.mem_map.1 hs
      exact h.apart r t hr (hali t (by simp [ht])) (fun e => hnc (e ▸ ht)) b hb hbs
    have hslot : ∀ r, p.alive listed r → r ∉ (p.op i).cons → ∀ d, p.Hu r = some d → o.dst ≠ some d := by
      intro r hr hnc d hd he
      rcases hg.dst r d hr.1 hd (by rw [← hod]; exact he) with h1 | h1 | ⟨k, hk, hik⟩ | ⟨k, hk, hrk, hki⟩
      · exact hnl (hr.2.1 i h1)
      · exact hnc h1
      · exact hnl (hdown i k (hr.2.1 k hk) hik)
      · exact hr.2.2 k (hbf k hki) hrk
    refine ⟨Φ', fp', by rw [put_defers]; exact h.defers, by rw [KA]; exact h.size, hpub, c.G.mono hstep.le h.GL, ?_, ?_, ?_, ?_⟩
    · refine h.step.trans hstep fun b hb hlt' => ?_
      obtain ⟨s, hs, hbs⟩ := List.mem_flatten.1 hb
      obtain ⟨r, hr, rfl⟩ := List.mem_map.1 hs
      rcases ((h.own r (hali r (by simp [hr]))).2 b hbs).2 with h1 | h1
      · exact h1
      · omega
    · intro r hr
      by_cases hrg : r ∈ (p.op i).Cw
      · obtain ⟨f, _, hf, hh⟩ := hfpG r hrg
        rw [hf]; exact hh
      · obtain ⟨hal, hnc⟩ := hold r hr hrg
        have hfr : fp' r = fp r := by simp [fp', hrg]
        rw [hfr]
        have hE : p.E (fun k => if k = i then v else β k) r = p.E β r := by
          refine GE.K9 fun k hk => ?_
          by_cases hki : k = i
          · exfalso
            subst hki
            have hmem : k ∈ p.HH r := hk
            cases ho : p.owner r with
            | none => have := (C1.EV hc hal.1).1 ho k hmem; omega
            | some j =>
              have hlj := hal.2.1 j ho
              have hgj := C1.F8 hc ((C1.EV hc hal.1).2 j ho)
              rcases (hgj.giv r (hgj.all r hal.1 ho)).2.2.2 k hmem with h1 | h1 | h1
              · omega
              · exact hnl (h1 ▸ hlj)
              · exact hnl (hdown k j hlj h1)
          · simp [hki]
        rw [hE]
        exact Cp.Gg (h.holds r hal) hstep.le (fun b hb => hstep.same b ((h.own r hal).2 b hb).1 (hfar r hal hnc b hb)) (fun b hb => hstep.block b ((h.own r hal).2 b hb).1 (hfar r hal hnc b hb))
          (fun d hd => Jd _ _ _ _ (hslot r hal hnc d (by rw [← hd]; exact (GE.Ks β _).symm)))
    · intro r hr
      by_cases hrg : r ∈ (p.op i).Cw
      · obtain ⟨f, hf, hfe, _⟩ := hfpG r hrg
        rw [hfe]
        have hfm : f ∈ fG := List.mem_of_getElem? hf
        refine ⟨Es hGn f hfm, fun b hb => ?_⟩
        have := hGb b (List.mem_flatten.2 ⟨f, hfm, hb⟩)
        refine ⟨this.1, ?_⟩
        rcases this.2 with h1 | h1
        · obtain ⟨s, hs, hbs⟩ := List.mem_flatten.1 h1
          obtain ⟨t, ht, rfl⟩ := List.mem_map.1 hs
          exact ((h.own t (hali t (by simp [ht]))).2 b hbs).2
        · exact .inr (Nat.le_trans h.step.size h1)
      · obtain ⟨hal, hnc⟩ := hold r hr hrg
        have hfr : fp' r = fp r := by simp [fp', hrg]
        rw [hfr]
        exact ⟨(h.own r hal).1, fun b hb => ⟨Nat.lt_of_lt_of_le ((h.own r hal).2 b hb).1 hstep.size, ((h.own r hal).2 b hb).2⟩⟩
    · intro r s hr hs hne b hb
      by_cases hrg : r ∈ (p.op i).Cw
      · obtain ⟨f, hf, hfe, _⟩ := hfpG r hrg
        rw [hfe] at hb
        by_cases hsg : s ∈ (p.op i).Cw
        · obtain ⟨f2, hf2, hfe2, _⟩ := hfpG s hsg
          rw [hfe2]
          refine Ev hGn _ _ f f2 hf hf2 (fun e => hne ?_) b hb
          exact Ji hrg hsg e
        · obtain ⟨hals, hncs⟩ := hold s hs hsg
          have hfs : fp' s = fp s := by simp [fp', hsg]
          rw [hfs]
          intro hbs
          rcases (hGb b (List.mem_flatten.2 ⟨f, List.mem_of_getElem? hf, hb⟩)).2 with h1 | h1
          · exact hfar s hals hncs b hbs h1
          · have := ((h.own s hals).2 b hbs).1; omega
      · obtain ⟨hal, hnc⟩ := hold r hr hrg
        have hfr : fp' r = fp r := by simp [fp', hrg]
        rw [hfr] at hb
        by_cases hsg : s ∈ (p.op i).Cw
        · obtain ⟨f2, hf2, hfe2, _⟩ := hfpG s hsg
          rw [hfe2]
          intro hbs
          rcases (hGb b (List.mem_flatten.2 ⟨f2, List.mem_of_getElem? hf2, hbs⟩)).2 with h1 | h1
          · exact hfar r hal hnc b hb h1
          · have := ((h.own r hal).2 b hb).1; omega
        · obtain ⟨hals, hncs⟩ := hold s hs hsg
          have hfs : fp' s = fp s := by simp [fp', hsg]
          rw [hfs]
          exact h.apart r s hal hals hne b hb

end
section
open Go Go.RowKit

section region
variable {P : Program} {ops : Array Oper} {c : Cx} {p : C1} {Q : Exit → Act → World → Prop}

def C1.Ok (P : Program) (G : FP) (ops : Array Oper) (p : C1) : List Oper → Nat → Prop
  | [], _ => True
  | o :: l, i => (o.dst = (p.op i).dst ∧ ∀ β, A4 P G ops o ((p.op i).Cf.map (p.E β)) ((p.op i).cons.map (p.E β)) (fun v => (p.op i).Cw.map (p.E fun k => if k = i then v else β k))) ∧ p.Ok P G ops l (i + 1)

theorem C1.Ok.get {G : FP} : ∀ {l : List Oper} {i : Nat}, p.Ok P G ops l i → ∀ (j : Nat) (o : Oper), l[j]? = some o →
    o.dst = (p.op (i + j)).dst ∧ ∀ β, A4 P G ops o ((p.op (i + j)).Cf.map (p.E β)) ((p.op (i + j)).cons.map (p.E β)) (fun v => (p.op (i + j)).Cw.map (p.E fun k => if k = i + j then v else β k))
  | [], _, _, j, o, h => by simp at h
  | x :: l, i, h, 0, o, ho => by simp at ho; subst ho; exact h.1
  | x :: l, i, h, j + 1, o, ho => by
    simp at ho
    have := C1.Ok.get h.2 j o ho
    rwa [show i + 1 + j = i + (j + 1) by omega] at this

def C1.checkSeq (p : C1) : Bool := (List.range p.ops.length).all fun i => (p.op i).bf.all fun j => decide (j < i)

theorem Hr (hn : p.n = c.n) (hc : p.check = true) (hseq : p.checkSeq = true) (hlen : p.ops.length = ops.size) (hops : p.Ok P c.G ops ops.toList 0)
    (hQ : ∀ a w β, Sat c (p.E β) (p.alive fun k => k < p.ops.length) a w → Q .normal a w) :
    ∀ (m k : Nat), k + m = ops.size → ∀ (a : Act) (w : World) (β : Nat → Value), Sat c (p.E β) (p.alive fun j => j < k) a w → wpOps P ops Q (List.range' k m) a w
  | 0, k, hk, a, w, β, hs => by
    have : k = p.ops.length := by omega
    subst this
    exact hQ a w β hs
  | m + 1, k, hk, a, w, β, hs => by
    have hkl : k < ops.size := by omega
    have ho : ops[k]? = some ops[k] := Array.getElem?_eq_getElem hkl
    have hbf : ∀ i, i < p.ops.length → ∀ j ∈ (p.op i).bf, j < i := fun i hi j hj => by
      have := (List.all_eq_true.1 ((List.all_eq_true.1 hseq) i (List.mem_range.2 hi))) j hj
      simpa using this
    obtain ⟨hd, hg⟩ := hops.get k ops[k] (by simp)
    rw [Nat.zero_add] at hd hg
    simp only [List.range'_succ, wpOps, ho]
    refine C1.step (P := P) (ops := ops) (listed := fun j => j < k) (i := k) hn hc (by omega) (by simp) (fun j hj => hbf k (by omega) j hj)
      (fun j k' hk' hj => by have := hbf k' (by omega) j hj; omega) (fun j hj => by omega) hd hg hs _ _ fun a' w' β' h' => ?_
    refine Hr hn hc hseq hlen hops hQ m (k + 1) (by omega) a' w' β' ?_
    have e : (fun j => j < k ∨ j = k) = (fun j => j < k + 1) := by funext j; exact propext (by omega)
    rwa [e] at h'

theorem Jb {id : Nat} {a : Act} {w : World} (p : C1) (hn : p.n = c.n) (hc : p.check = true) (hseq : p.checkSeq = true) (hlen : p.ops.length = ops.size) (hops : p.Ok P c.G ops ops.toList 0)
    (hs : Sat c (p.E fun _ => undef) (p.alive fun _ => False) a w)
    (hQ : ∀ a w β, Sat c (p.E β) (p.alive fun k => k < p.ops.length) a w → Q .normal a w) : (Code.region id ops false).wp P Q a w := by
  refine wp_region ?_
  rw [List.range_eq_range']
  refine Hr hn hc hseq hlen hops hQ ops.size 0 (by omega) a w (fun _ => undef) ?_
  have e : (fun j : Nat => j < 0) = (fun _ => False) := by funext j; exact propext ⟨fun h => by omega, False.elim⟩
  rw [e]; exact hs

def direct (ops : Array Oper) (i : Nat) : List Nat := ((ops[i]?).map fun o => (o.after.toList.filter fun e => Region.binds .any e).map (·.on)).getD []

def C1.HI (p : C1) (ops : Array Oper) : Bool := (List.range p.ops.length).all fun i =>
  ((p.op i).bf.all fun x => (direct ops i).contains x || (direct ops i).any fun e => (p.op e).bf.contains x) && (direct ops i).all fun x => decide (x < i)

theorem Hz {listed : Array Bool} {i : Nat} (h : i ∈ Region.ready .any ops listed) :
    i < ops.size ∧ listed.getD i true = false ∧ ∀ x ∈ direct ops i, listed.getD x false = true := by
  obtain ⟨h1, h2⟩ := List.mem_filter.1 h
  have hi := List.mem_range.1 h1
  have ho : ops[i]? = some ops[i] := Array.getElem?_eq_getElem hi
  simp only [ho, Option.map_some, Option.getD_some, Bool.and_eq_true] at h2
  refine ⟨hi, by simpa using h2.1, fun x hx => ?_⟩
  simp only [direct, ho, Option.map_some, Option.getD_some] at hx
  obtain ⟨e, he, rfl⟩ := List.mem_map.1 hx
  obtain ⟨he1, he2⟩ := List.mem_filter.1 he
  have := (Array.all_eq_true_iff_forall_mem.1 h2.2) e (Array.mem_toList_iff.1 he1)
  simpa [he2] using this

theorem Kw {listed : Array Bool} {i : Nat} (hi : i < ops.size) (hl : listed.getD i true = false) (h : ∀ x ∈ direct ops i, listed.getD x false = true) : i ∈ Region.ready .any ops listed := by
  have ho : ops[i]? = some ops[i] := Array.getElem?_eq_getElem hi
  refine List.mem_filter.2 ⟨List.mem_range.2 hi, ?_⟩
  simp only [ho, Option.map_some, Option.getD_some, Bool.and_eq_true, hl, Bool.not_false, true_and]
  refine Array.all_eq_true_iff_forall_mem.2 fun e he => ?_
  by_cases hb : Region.binds .any e = true
  · simp only [hb, Bool.not_true, Bool.false_or]
    refine h e.on ?_
    simp only [direct, ho, Option.map_some, Option.getD_some]
    exact List.mem_map.2 ⟨e, List.mem_filter.2 ⟨Array.mem_toList_iff.2 he, hb⟩, rfl⟩
  · simp [hb]

def open_ (listed : Array Bool) : Nat := (listed.toList.filter (!·)).length

theorem KD {listed : Array Bool} {i : Nat} (h : listed[i]? = some false) : open_ (listed.setIfInBounds i true) + 1 = open_ listed := by
  obtain ⟨l⟩ := listed
  simp only [open_, List.setIfInBounds_toArray]
  simp only [List.getElem?_toArray] at h
  induction l generalizing i with
  | nil => simp at h
  | cons x l ih =>
    cases i with
    | zero => simp at h; subst h; simp
    | succ i =>
      simp at h
      have := ih h
      cases x <;> simp_all <;> omega

theorem J6 {listed : Array Bool} (h : open_ listed = 0) (i : Nat) (hi : i < listed.size) : listed[i]? = some true := by
  obtain ⟨l⟩ := listed
  simp only [open_, List.length_eq_zero_iff, List.filter_eq_nil_iff] at h
  have := h l[i] (List.getElem_mem (by simpa using hi))
  simp at hi
  simp [hi] at this ⊢
  exact this

theorem I4 (hn : p.n = c.n) (hc : p.check = true) (hany : p.HI ops = true) (hlen : p.ops.length = ops.size) (hops : p.Ok P c.G ops ops.toList 0)
    (hQ : ∀ a w β, Sat c (p.E β) (p.alive fun k => k < p.ops.length) a w → Q .normal a w) :
    ∀ (fuel : Nat) (listed : Array Bool), listed.size = ops.size → open_ listed = fuel → (∀ k, listed[k]? = some true → ∀ j ∈ (p.op k).bf, listed[j]? = some true) →
      ∀ (a : Act) (w : World) (β : Nat → Value), Sat c (p.E β) (p.alive fun j => listed[j]? = some true) a w → wpAny P .any ops Q fuel listed a w := by
  have hbf : ∀ i, i < p.ops.length → (∀ x ∈ (p.op i).bf, x ∈ direct ops i ∨ ∃ e ∈ direct ops i, x ∈ (p.op e).bf) ∧ ∀ x ∈ direct ops i, x < i := fun i hi => by
    have := (List.all_eq_true.1 hany) i (List.mem_range.2 hi)
    simp only [Bool.and_eq_true, List.all_eq_true, decide_eq_true_eq] at this
    refine ⟨fun x hx => ?_, this.2⟩
    have h := this.1 x hx
    simp only [Bool.or_eq_true] at h
    rcases h with h | h
    · exact .inl (by simpa using h)
    · obtain ⟨e, he, hx⟩ := List.any_eq_true.1 h
      exact .inr ⟨e, he, by simpa using hx⟩
  -- if nothing is ready, all is done
  have hdone : ∀ (listed : Array Bool), listed.size = ops.size → Region.ready .any ops listed = [] → ∀ k, k < ops.size → listed[k]? = some true := by
    intro listed hsz hr k
    induction k using Nat.strongRecOn with
    | _ k ih =>
      intro hk
      have hk' : k < listed.size := by omega
      cases hl : listed[k] with
      | true => simp [Array.getElem?_eq_getElem hk', hl]
      | false =>
        exfalso
        have hm : k ∈ Region.ready .any ops listed := Kw hk (by simp [Array.getD, hk', hl]) fun x hx => by
          have hx' := (hbf k (by omega)).2 x hx
          have := ih x hx' (by omega)
          rw [Array.getD_eq_getD_getElem?, this]; rfl
        rw [hr] at hm
        cases hm
  have hall : ∀ (listed : Array Bool), listed.size = ops.size → (∀ k, k < ops.size → listed[k]? = some true) → (fun j => listed[j]? = some true) = fun j => j < p.ops.length := by
    intro listed hsz h
    funext j
    refine propext ⟨fun hj => ?_, fun hj => h j (by omega)⟩
    rcases Nat.lt_or_ge j listed.size with h1 | h1
    · omega
    · simp [Array.getElem?_eq_none h1] at hj
  intro fuel
  induction fuel with
  | zero =>
    intro listed hsz hop _ a w β hs
    have hfull : ∀ k, k < ops.size → listed[k]? = some true := fun k hk => J6 hop k (by omega)
    refine ⟨?_, hQ a w β (by rw [← hall listed hsz hfull]; exact hs)⟩
    cases hr : Region.ready .any ops listed with
    | nil => rfl
    | cons x xs =>
      have hx := Hz (ops := ops) (listed := listed) (i := x) (by rw [hr]; simp)
      have := hfull x hx.1
      have h2 := hx.2.1
      rw [Array.getD_eq_getD_getElem?, this] at h2
      simp at h2
  | succ fuel ih =>
    intro listed hsz hop hdown a w β hs
    refine ⟨fun hr => hQ a w β (by rw [← hall listed hsz (hdone listed hsz hr)]; exact hs), fun i hi => ?_⟩
    obtain ⟨hi1, hi2, hi3⟩ := Hz hi
    have hil : listed[i]? = some false := by
      have : i < listed.size := by omega
      simp [Array.getD, this] at hi2
      simp [Array.getElem?_eq_getElem this, hi2]
    have hi3' : ∀ x ∈ direct ops i, listed[x]? = some true := fun x hx => by
      have := hi3 x hx
      rw [Array.getD_eq_getD_getElem?] at this
      cases h : listed[x]? with
      | none => simp [h] at this
      | some b => simp [h] at this; rw [this]
    have ho : ops[i]? = some ops[i] := Array.getElem?_eq_getElem hi1
    obtain ⟨hd, hg⟩ := hops.get i ops[i] (by simp)
    rw [Nat.zero_add] at hd hg
    unfold wpOp
    simp only [ho]
    refine C1.step (P := P) (ops := ops) (listed := fun j => listed[j]? = some true) hn hc (by omega) (by simp [hil]) (fun j hj => ?_) (fun j k hk hj => hdown k hk j hj) (fun j hj => ?_) hd hg hs _ _ fun a' w' β' h' => ?_
    · rcases (hbf i (by omega)).1 j hj with h | ⟨e, he, h⟩
      · exact hi3' j h
      · exact hdown e (hi3' e he) j h
    · rcases Nat.lt_or_ge j listed.size with h1 | h1
      · omega
      · simp [Array.getElem?_eq_none h1] at hj
    · have hset : ∀ j, (listed.setIfInBounds i true)[j]? = some true ↔ listed[j]? = some true ∨ j = i := fun j => by
        by_cases hji : i = j
        · subst hji
          have : i < listed.size := by omega
          simp [this]
        · rw [Array.getElem?_setIfInBounds_ne hji]
          exact ⟨.inl, fun h => h.resolve_right (fun e => hji e.symm)⟩
      refine ih (listed.setIfInBounds i true) (by simpa using hsz) (by have := KD hil; omega) (fun k hk j hj => ?_) a' w' β' ?_
      · rcases (hset k).1 hk with h | h
        · exact (hset j).2 (.inl (hdown k h j hj))
        · subst h
          refine (hset j).2 (.inl ?_)
          rcases (hbf k (by omega)).1 j hj with h | ⟨e, he, h⟩
          · exact hi3' j h
          · exact hdown e (hi3' e he) j h
      · have e : (fun j => (listed.setIfInBounds i true)[j]? = some true) = fun j => listed[j]? = some true ∨ j = i := by funext j; exact propext (hset j)
        rw [e]; exact h'

theorem Jc {id : Nat} {a : Act} {w : World} (p : C1) (hm : P.follows .mixedOrders = true) (hn : p.n = c.n) (hc : p.check = true) (hany : p.HI ops = true) (hlen : p.ops.length = ops.size) (hops : p.Ok P c.G ops ops.toList 0)
    (hs : Sat c (p.E fun _ => undef) (p.alive fun _ => False) a w)
    (hQ : ∀ a w β, Sat c (p.E β) (p.alive fun k => k < p.ops.length) a w → Q .normal a w) : (Code.region id ops true).wp P Q a w := by
  refine wp_region_any hm ?_
  have hnone : ∀ j, ¬ (Array.replicate ops.size false)[j]? = some true := fun j h => by
    rw [Array.getElem?_replicate] at h
    split at h <;> simp at h
  refine I4 hn hc hany hlen hops hQ ops.size (Array.replicate ops.size false) (by simp) (by simp [open_]) (fun k hk => absurd hk (hnone k)) a _ (fun _ => undef) ?_
  have e : (fun j : Nat => (Array.replicate ops.size false)[j]? = some true) = fun _ => False := by funext j; exact propext ⟨hnone j, False.elim⟩
  rw [e]
  exact Sat.drew hs
end region

def A0 (c : Cx) (l : List Cp) (a : Act) (w : World) : Prop := Sat c (BR .none l) (fun i => i < l.length) a w

theorem A0.NV {c : Cx} {p : C1} {l : List Cp} {a : Act} {w : World} (h : A0 c l a w) (β : Nat → Value) (hown : ∀ r, r < p.FT.length → p.owner r = none → r < l.length)
    (hE : ∀ r, r < l.length → p.E β r = BR .none l r) : Sat c (p.E β) (p.alive fun _ => False) a w := by
  have hr : ∀ i, p.alive (fun _ => False) i → i < l.length := fun i hi => hown i hi.1 (by
    cases ho : p.owner i with
    | none => rfl
    | some j => exact (hi.2.1 j ho).elim)
  exact Sat.pick h id (fun i hi => hr i hi) (fun i hi => hE i (hr i hi)) (fun i j _ _ hne => hne)

theorem Sat.Mp {c : Cx} {p : C1} {β : Nat → Value} {a : Act} {w : World} (h : Sat c (p.E β) (p.alive fun k => k < p.ops.length) a w) (hc : p.check = true) (ks : List Nat) (hd : distinct ks = true)
    (hk : (ks.all fun r => decide (r < p.FT.length) && (List.range p.ops.length).all fun k => !(p.op k).cons.contains r) = true) : A0 c (ks.map (p.E β)) a w := by
  have hnd := DM hd
  refine Sat.pick h (fun i => BR 0 ks i) (fun i hi => ?_) (fun i hi => ?_) (fun i j hi hj hne e => ?_)
  · have hi : i < ks.length := by simpa using hi
    have hm : BR 0 ks i ∈ ks := by rw [Dt]; simp [List.getD, List.getElem?_eq_getElem hi]
    have h1 := (List.all_eq_true.1 hk) _ hm
    simp only [Bool.and_eq_true, decide_eq_true_eq, List.all_eq_true, List.mem_range] at h1
    refine ⟨h1.1, fun j hj => (C1.EV hc h1.1).2 j hj, fun k hk' hm' => ?_⟩
    have := h1.2 k hk'
    simp at this
    exact this hm'
  · have hi : i < ks.length := by simpa using hi
    rw [Dt, Dt]
    simp [List.getD, List.getElem?_eq_getElem hi]
  · have hi : i < ks.length := by simpa using hi
    have hj : j < ks.length := by simpa using hj
    rw [Dt, Dt] at e
    simp only [List.getD, List.getElem?_eq_getElem hi, List.getElem?_eq_getElem hj, Option.getD_some] at e
    exact hne ((List.getElem_inj hnd).1 e)


end
section
open Go Go.RowKit

def D8 (Φ : BW) : List VP → List Value → Prop
  | [], [] => True
  | V :: Vs, v :: vs => V.p Φ v ∧ D8 Φ Vs vs
  | _, _ => False

def Fu (Φ : BW) (w : World) : List RP → List (List Nat) → Prop
  | [], [] => True
  | R :: Rs, f :: fs => R.p Φ f w ∧ Fu Φ w Rs fs
  | _, _ => False

def DF (P : Program) (fn : Func) (c : Cx) (res : VP) (post : Value → List RP) (a : Act) (w : World) : Prop :=
  a.defers = [] ∧ ∃ (v : Value) (Φ : BW) (fs : List (List Nat)), (results fn a.tmps).run P w = .ok v w ∧ Step c.w0 c.Φ0 c.F0 w Φ ∧ Du Φ w ∧ res.p Φ v ∧ Fu Φ w (post v) fs ∧
    fs.flatten.Nodup ∧ ∀ b ∈ fs.flatten, b < w.heap.size ∧ (b ∈ c.F0 ∨ c.w0.heap.size ≤ b)

def AX (P : Program) (G : FP) (f : FuncId) (args : List VP) (pre : List RP) (post : Value → List RP) (res : VP) : Prop :=
  ∀ (Φ : BW) (w : World) (vs : List Value) (fs : List (List Nat)), Du Φ w → G.p Φ → D8 Φ args vs → Fu Φ w pre fs → fs.flatten.Nodup → (∀ b ∈ fs.flatten, b < w.heap.size) →
    Calls P f vs.toArray w fun e w' => ∃ (v : Value) (Φ' : BW) (fs' : List (List Nat)), e = .returned v ∧ Step w Φ fs.flatten w' Φ' ∧ Du Φ' w' ∧ res.p Φ' v ∧ Fu Φ' w' (post v) fs' ∧
      fs'.flatten.Nodup ∧ ∀ b ∈ fs'.flatten, b < w'.heap.size ∧ (b ∈ fs.flatten ∨ w.heap.size ≤ b)

def IZ : Nat → List VP → List Cp
  | _, [] => []
  | i, V :: Vs => .slot i V :: IZ (i + 1) Vs

theorem He : ∀ (l : List VP) (i : Nat), (IZ i l).length = l.length
  | [], _ => rfl
  | V :: l, i => by simp [IZ, He l]

theorem D8.length {Φ : BW} : ∀ {Vs : List VP} {vs : List Value}, D8 Φ Vs vs → vs.length = Vs.length
  | [], [], _ => rfl
  | V :: Vs, v :: vs, h => by simp [D8.length h.2]
  | [], _ :: _, h => h.elim
  | _ :: _, [], h => h.elim

theorem IY {Φ : BW} : ∀ {Vs : List VP} {vs : List Value} (i k : Nat), D8 Φ Vs vs → k < Vs.length → ∃ V v, BR .none (IZ i Vs) k = .slot (i + k) V ∧ vs[k]? = some v ∧ V.p Φ v
  | V :: Vs, v :: vs, i, 0, h, _ => ⟨V, v, rfl, rfl, h.1⟩
  | V :: Vs, v :: vs, i, k + 1, h, hk => by
    obtain ⟨V', v', h1, h2, h3⟩ := IY (i + 1) k h.2 (by simpa using hk)
    exact ⟨V', v', by rw [show i + (k + 1) = i + 1 + k by omega]; exact h1, by simpa using h2, h3⟩
  | [], _, _, k, _, hk => by simp at hk
  | _ :: _, [], _, _, h, _ => h.elim

theorem Fu.length {Φ : BW} {w : World} : ∀ {Rs : List RP} {fs : List (List Nat)}, Fu Φ w Rs fs → fs.length = Rs.length
  | [], [], _ => rfl
  | R :: Rs, f :: fs, h => by simp [Fu.length h.2]
  | [], _ :: _, h => h.elim
  | _ :: _, [], h => h.elim

theorem Fu.get {Φ : BW} {w : World} : ∀ {Rs : List RP} {fs : List (List Nat)} (k : Nat), Fu Φ w Rs fs → k < Rs.length → ∃ R f, Rs[k]? = some R ∧ fs[k]? = some f ∧ R.p Φ f w
  | R :: Rs, f :: fs, 0, h, _ => ⟨R, f, rfl, rfl, h.1⟩
  | R :: Rs, f :: fs, k + 1, h, hk => by simpa using Fu.get k h.2 (by simpa using hk)
  | [], _, k, _, hk => by simp at hk
  | _ :: _, [], _, h, _ => h.elim

theorem Ce {α : Type _} (d : α) (l m : List α) (i : Nat) : BR d (l ++ m) i = if i < l.length then BR d l i else BR d m (i - l.length) := by
  simp only [Dt, List.getD]
  split
  · rename_i h; rw [List.getElem?_append_left h]
  · rename_i h; rw [List.getElem?_append_right (by omega)]

theorem GI {α β : Type _} (d : α) (e : β) (f : α → β) (l : List α) (i : Nat) (h : i < l.length) : BR e (l.map f) i = f (BR d l i) := by
  simp only [Dt, List.getD, List.getElem?_map, List.getElem?_eq_getElem h]
  rfl

theorem AX.intro {P : Program} {G : FP} {f : FuncId} {fn : Func} {code : Code} {args : List VP} {pre : List RP} {post : Value → List RP} {res : VP} (n : Nat)
    (hf : P.funcs[f]? = some fn) (hb : fn.body = some code) (hn : fn.ntmps = n) (hle : args.length ≤ n)
    (h : ∀ (c : Cx) (a : Act) (w : World), c.G = G → c.n = n → A0 c (IZ 0 args ++ pre.map .res) a w → code.wp P (fun e a w => (e = .ret ∨ e = .normal) ∧ DF P fn c res post a w) a w) :
    AX P G f args pre post res := by
  intro Φ w vs fs h1 h2 h3 h4 h5 h6
  have hvl := h3.length
  have hfl := h4.length
  have hsat : A0 ⟨w, Φ, fs.flatten, n, G⟩ (IZ 0 args ++ pre.map .res) { tmps := vs.toArray ++ Array.replicate (fn.ntmps - vs.toArray.size) undef, defers := [] } w := by
    have hal := He args 0
    have hgetR : ∀ i, ¬ i < args.length → i < (IZ 0 args ++ pre.map Cp.res).length → ∃ R f, BR .none (IZ 0 args ++ pre.map .res) i = .res R ∧ fs[i - args.length]? = some f ∧ R.p Φ f w := by
      intro i hi hlt
      have hlt' : i - args.length < pre.length := by simp [hal] at hlt; omega
      obtain ⟨R, f, e1, e2, e3⟩ := Fu.get (i - args.length) h4 hlt'
      refine ⟨R, f, ?_, e2, e3⟩
      rw [Ce, if_neg (by rw [hal]; exact hi), hal, Dt]
      simp [List.getD, e1]
    refine ⟨Φ, fun i => if i < args.length then [] else fs.getD (i - args.length) [], rfl, by simp [hvl, hn]; omega, h1, h2, Step.refl _ _ _, fun i hi => ?_, fun i hi => ?_, fun i j hi hj hne => ?_⟩
    · by_cases hlt : i < args.length
      · obtain ⟨V, v, e1, e2, e3⟩ := IY 0 i h3 hlt
        rw [if_pos hlt, Ce, if_pos (by rw [hal]; exact hlt), e1]
        refine ⟨rfl, v, ?_, e3⟩
        have hiv : i < vs.length := by omega
        simp only [Nat.zero_add]
        rw [Array.getElem?_append_left (by simpa using hiv)]
        simpa using e2
      · obtain ⟨R, f, e1, e2, e3⟩ := hgetR i hlt hi
        rw [e1, if_neg hlt]
        simp only [List.getD, e2, Option.getD_some]
        exact e3
    · by_cases hlt : i < args.length
      · simp [hlt]
      · obtain ⟨R, f, e1, e2, e3⟩ := hgetR i hlt hi
        simp only [if_neg hlt, List.getD, e2, Option.getD_some]
        have hm := List.mem_of_getElem? e2
        exact ⟨Es h5 f hm, fun b hb => ⟨h6 b (List.mem_flatten.2 ⟨f, hm, hb⟩), .inl (List.mem_flatten.2 ⟨f, hm, hb⟩)⟩⟩
    · by_cases hlt : i < args.length
      · simp [hlt]
      · by_cases hlt2 : j < args.length
        · simp [hlt2]
        · obtain ⟨R, f, e1, e2, e3⟩ := hgetR i hlt hi
          obtain ⟨R', f', e1', e2', e3'⟩ := hgetR j hlt2 hj
          simp only [if_neg hlt, if_neg hlt2, List.getD, e2, e2', Option.getD_some]
          exact Ev h5 _ _ f f' e2 e2' (by omega)
  have hwp := h ⟨w, Φ, fs.flatten, n, G⟩ _ w rfl rfl hsat
  refine calls_of_wp hf hb (wp_mono hwp fun e a w' hq => ?_)
  obtain ⟨he, hd, v, Φ', fs', hr, q1, q2, q3, q4, q5, q6⟩ := hq
  rcases he with rfl | rfl
  · exact ⟨hd, v, hr, v, Φ', fs', rfl, q1, q2, q3, q4, q5, q6⟩
  · exact ⟨hd, v, hr, v, Φ', fs', rfl, q1, q2, q3, q4, q5, q6⟩

theorem Jl {P : Program} {c : Cx} {l : List Cp} {a : Act} {w : World} {Q : Exit → Act → World → Prop} {t : Nat} {b : Bool} {x y : Code} (h : A0 c l a w) (i : Nat) (he : BR .none l i = .slot t (An b))
    (ht : b = true → x.wp P Q a w) (hf : b = false → y.wp P Q a w) : (Code.cond (.tmp t) x y).wp P Q a w := by
  obtain ⟨Φ, fp, hs⟩ := h
  have hi : i < l.length := by
    rcases Nat.lt_or_ge i l.length with q | q
    · exact q
    · rw [Dt, List.getD, List.getElem?_eq_none q] at he
      cases he
  have := hs.holds i hi
  rw [he] at this
  obtain ⟨_, v, hv, hb⟩ := this
  have hb : v = .bool b := hb
  subst hb
  refine wp_cond_split (t := b) ?_ ht hf
  simp [Act.eval, hv]

inductive Ds (R S : Type) where
  | ret (r : R)
  | brk (s : S)
  | cont (s : S)
inductive MN (R S : Type) where
  | ret (r : R)
  | next (s : S)

def Cs {R S : Type} (body : S → Option (Ds R S)) : Nat → S → Option (MN R S)
  | 0, _ => none
  | k + 1, s =>
    match body s with
    | none => none
    | some (.ret r) => some (.ret r)
    | some (.brk s') => some (.next s')
    | some (.cont s') => Cs body k s'

theorem Ci {P : Program} {R S : Type} {body : S → Option (Ds R S)} {code : Code} (I : S → Act → World → Prop) (Qo : MN R S → Exit → Act → World → Prop)
    (hbody : ∀ s a w o, I s a w → body s = some o → code.wp P (fun e a' w' => match o with
      | .cont s' => e = .normal ∧ I s' a' w'
      | .brk s' => e ≠ .normal ∧ Qo (.next s') e a' w'
      | .ret r => e ≠ .normal ∧ Qo (.ret r) e a' w') a w) :
    ∀ (k : Nat) (s : S) (a : Act) (w : World) (r : MN R S), I s a w → Cs body k s = some r → (Code.loop code).wp P (Qo r) a w := by
  intro k s a w r hI hl b kk cs
  have key : ∀ (k : Nat) (s : S) (a : Act) (w : World), I s a w → Cs body k s = some r →
      ∃ e a' w', Qo r e a' w' ∧ Arrives P (lone (b.at a (.code code :: .inLoop code :: kk)) cs w) b kk cs e a' w' := by
    intro k
    induction k with
    | zero => intro s a w _ hl; simp [Cs] at hl
    | succ k ih =>
      intro s a w hI hl
      cases hb : body s with
      | none => simp [Cs, hb] at hl
      | some o =>
        obtain ⟨e, a₁, w₁, hq, harr⟩ := hbody s a w o hI hb b (.inLoop code :: kk) cs
        cases o with
        | cont s' =>
          obtain ⟨rfl, hI'⟩ := hq
          simp only [Cs, hb] at hl
          obtain ⟨e₂, a₂, w₂, hq₂, harr₂⟩ := ih s' a₁ w₁ hI' hl
          exact ⟨e₂, a₂, w₂, hq₂, .of_steps (Steps.trans harr (.one step_inLoop)) harr₂⟩
        | brk s' =>
          simp only [Cs, hb, Option.some.injEq] at hl
          subst hl
          exact ⟨e, a₁, w₁, hq.2, .pass (x := .inLoop code) rfl (fun _ _ => .inl hq.1) harr⟩
        | ret x =>
          simp only [Cs, hb, Option.some.injEq] at hl
          subst hl
          exact ⟨e, a₁, w₁, hq.2, .pass (x := .inLoop code) rfl (fun _ _ => .inl hq.1) harr⟩
  obtain ⟨e, a', w', hq, harr⟩ := key k s a w hI hl
  exact ⟨e, a', w', hq, .of_steps (.one step_loop) harr⟩


end
section
open Go Go.RowKit

def Db (k : IntKind) (x : Int) : Prop := k.min ≤ x ∧ x ≤ k.max
theorem EY (k : IntKind) (x : Int) : Db k (k.wrap x) := by
  cases k <;> simp only [Db, IntKind.wrap, IntKind.min, IntKind.max, IntKind.bits, IntKind.signed] <;> simp <;> (try split) <;> constructor <;> omega

def Ab (k : IntKind) (x : Int) : VP := ⟨fun _ v => v = .int k x ∧ Db k x, fun _ h => h⟩
def Bw : Nat := 9223372036854775807
theorem Fp {n : Nat} (h : n ≤ Bw) : Db .i64 n := by
  unfold Bw at h
  simp only [Db, IntKind.min, IntKind.max, IntKind.bits, IntKind.signed]
  simp
  omega
def AF (l : List UInt8) : VP := ⟨fun _ v => v = .string ⟨l.toArray⟩ ∧ l.length ≤ Bw, fun _ h => h⟩
def Bf (u : Value) : VP := ⟨fun _ v => v = u, fun _ h => h⟩
def L5 : VP := ⟨fun _ _ => True, fun _ h => h⟩
theorem D8.mono {Φ Φ' : BW} (hle : BW.le Φ Φ') : ∀ {l : List VP} {vs : List Value}, D8 Φ l vs → D8 Φ' l vs
  | [], [], _ => trivial
  | V :: _, _ :: _, h => ⟨V.mono hle h.1, D8.mono hle h.2⟩
  | [], _ :: _, h => h.elim
  | _ :: _, [], h => h.elim
def DJ (l : List VP) : VP := ⟨fun Φ v => ∃ vs, v = .tuple vs.toArray ∧ D8 Φ l vs, by rintro Φ Φ' v hle ⟨vs, h1, h2⟩; exact ⟨vs, h1, h2.mono hle⟩⟩

structure Ck where
  n : Nat
  rel : BW → List Value → Prop
  len : ∀ {Φ cs}, rel Φ cs → cs.length = n
  cell : ∀ {Φ cs}, rel Φ cs → ∀ v ∈ cs, v.oneCell' = true
  mono : ∀ {Φ Φ' : BW} {cs}, BW.le Φ Φ' → rel Φ cs → rel Φ' cs

def Bs (Φ : BW) : List Value → List Ck → Prop
  | cs, [] => cs = []
  | cs, c :: L => ∃ xs ys, cs = xs ++ ys ∧ c.rel Φ xs ∧ Bs Φ ys L

def lens : List Ck → Nat
  | [] => 0
  | c :: L => c.n + lens L

theorem Bs.len {Φ : BW} : ∀ {L : List Ck} {cs : List Value}, Bs Φ cs L → cs.length = lens L
  | [], cs, h => by have : cs = [] := h; simp [this, lens]
  | c :: L, cs, h => by
    obtain ⟨xs, ys, rfl, h1, h2⟩ := h
    simp [lens, c.len h1, Bs.len h2]
theorem Bs.cell {Φ : BW} : ∀ {L : List Ck} {cs : List Value}, Bs Φ cs L → ∀ v ∈ cs, v.oneCell' = true
  | [], cs, h, v, hv => by have : cs = [] := h; simp [this] at hv
  | c :: L, cs, h, v, hv => by
    obtain ⟨xs, ys, rfl, h1, h2⟩ := h
    rcases List.mem_append.1 hv with hv | hv
    · exact c.cell h1 v hv
    · exact Bs.cell h2 v hv
theorem Bs.mono {Φ Φ' : BW} (hle : BW.le Φ Φ') : ∀ {L : List Ck} {cs : List Value}, Bs Φ cs L → Bs Φ' cs L
  | [], _, h => h
  | c :: L, cs, h => by
    obtain ⟨xs, ys, rfl, h1, h2⟩ := h
    exact ⟨xs, ys, rfl, c.mono hle h1, Bs.mono hle h2⟩
theorem Bs.append {Φ : BW} : ∀ {L M : List Ck} {xs ys : List Value}, Bs Φ xs L → Bs Φ ys M → Bs Φ (xs ++ ys) (L ++ M)
  | [], M, xs, ys, h, k => by have : xs = [] := h; subst this; exact k
  | c :: L, M, xs, ys, h, k => by
    obtain ⟨x1, x2, rfl, h1, h2⟩ := h
    exact ⟨x1, x2 ++ ys, by simp, h1, Bs.append h2 k⟩
theorem Bs.split {Φ : BW} : ∀ {L M : List Ck} {cs : List Value}, Bs Φ cs (L ++ M) → ∃ xs ys, cs = xs ++ ys ∧ Bs Φ xs L ∧ Bs Φ ys M
  | [], M, cs, h => ⟨[], cs, rfl, rfl, h⟩
  | c :: L, M, cs, h => by
    obtain ⟨x1, x2, rfl, h1, h2⟩ := h
    obtain ⟨xs, ys, rfl, h3, h4⟩ := Bs.split h2
    exact ⟨x1 ++ xs, ys, by simp, ⟨x1, xs, rfl, h1, h3⟩, h4⟩
def one (V : VP) : Ck := ⟨1, fun Φ cs => ∃ v, cs = [v] ∧ v.oneCell' = true ∧ V.p Φ v, fun ⟨v, h, _⟩ => by simp [h], fun ⟨v, h, h1, _⟩ u hu => by simp [h] at hu; rw [hu]; exact h1,
  fun hle ⟨v, h, h1, h2⟩ => ⟨v, h, h1, V.mono hle h2⟩⟩
def DE (b : UInt8) : Value := .int .u8 b.toNat
theorem FY (b : UInt8) : Db .u8 b.toNat := by
  have := b.toNat_lt
  simp only [Db, IntKind.min, IntKind.max, IntKind.bits, IntKind.signed]
  simp
  omega
def Af (n : Nat) (l : List UInt8) : Ck := ⟨n, fun _ cs => l.length = n ∧ cs = l.map DE, fun ⟨h, e⟩ => by simp [e, h], fun ⟨_, e⟩ v hv => by
  subst e; obtain ⟨b, _, rfl⟩ := List.mem_map.1 hv; rfl, fun _ h => h⟩
def B1 (k : IntKind) (n : Nat) (l : List Int) : Ck := ⟨n, fun _ cs => l.length = n ∧ cs = l.map (Value.int k) ∧ ∀ x ∈ l, Db k x, fun ⟨h, e, _⟩ => by simp [e, h], fun ⟨_, e, _⟩ v hv => by
  subst e; obtain ⟨b, _, rfl⟩ := List.mem_map.1 hv; rfl, fun _ h => h⟩

def CY {α : Type} (Φ : BW) (c : α → List Ck) : List Value → List α → Prop
  | cs, [] => cs = []
  | cs, x :: xs => ∃ us vs, cs = us ++ vs ∧ Bs Φ us (c x) ∧ CY Φ c vs xs
theorem CY.len {α : Type} {Φ : BW} {c : α → List Ck} {sz : Nat} (hsz : ∀ x, lens (c x) = sz) : ∀ {xs : List α} {cs : List Value}, CY Φ c cs xs → cs.length = xs.length * sz
  | [], cs, h => by have : cs = [] := h; simp [this]
  | x :: xs, cs, h => by
    obtain ⟨us, vs, rfl, h1, h2⟩ := h
    simp [h1.len, hsz, CY.len hsz h2, Nat.succ_mul]; omega
theorem CY.cell {α : Type} {Φ : BW} {c : α → List Ck} : ∀ {xs : List α} {cs : List Value}, CY Φ c cs xs → ∀ v ∈ cs, v.oneCell' = true
  | [], cs, h, v, hv => by have : cs = [] := h; simp [this] at hv
  | x :: xs, cs, h, v, hv => by
    obtain ⟨us, vs, rfl, h1, h2⟩ := h
    rcases List.mem_append.1 hv with hv | hv
    · exact h1.cell v hv
    · exact CY.cell h2 v hv
theorem CY.mono {α : Type} {Φ Φ' : BW} {c : α → List Ck} (hle : BW.le Φ Φ') : ∀ {xs : List α} {cs : List Value}, CY Φ c cs xs → CY Φ' c cs xs
  | [], _, h => h
  | x :: xs, cs, h => by
    obtain ⟨us, vs, rfl, h1, h2⟩ := h
    exact ⟨us, vs, rfl, h1.mono hle, CY.mono hle h2⟩
theorem CY.append {α : Type} {Φ : BW} {c : α → List Ck} : ∀ {xs ys : List α} {us vs : List Value}, CY Φ c us xs → CY Φ c vs ys → CY Φ c (us ++ vs) (xs ++ ys)
  | [], ys, us, vs, h, k => by have : us = [] := h; subst this; exact k
  | x :: xs, ys, us, vs, h, k => by
    obtain ⟨u1, u2, rfl, h1, h2⟩ := h
    exact ⟨u1, u2 ++ vs, by simp, h1, CY.append h2 k⟩
theorem CY.split {α : Type} {Φ : BW} {c : α → List Ck} : ∀ {xs ys : List α} {cs : List Value}, CY Φ c cs (xs ++ ys) → ∃ us vs, cs = us ++ vs ∧ CY Φ c us xs ∧ CY Φ c vs ys
  | [], ys, cs, h => ⟨[], cs, rfl, rfl, h⟩
  | x :: xs, ys, cs, h => by
    obtain ⟨u1, u2, rfl, h1, h2⟩ := h
    obtain ⟨us, vs, rfl, h3, h4⟩ := CY.split h2
    exact ⟨u1 ++ us, vs, by simp, ⟨u1, us, rfl, h1, h3⟩, h4⟩
def A5 {α : Type} (n sz : Nat) (c : α → List Ck) (hsz : ∀ x, lens (c x) = sz) (xs : List α) : Ck := ⟨n * sz, fun Φ cs => xs.length = n ∧ CY Φ c cs xs, fun ⟨h, k⟩ => by rw [k.len hsz, h], fun ⟨_, k⟩ => k.cell, fun hle ⟨h, k⟩ => ⟨h, k.mono hle⟩⟩

def Co (L : List Ck) : VP := ⟨fun Φ v => ∃ cs, v = .agg cs.toArray ∧ Bs Φ cs L, by rintro Φ Φ' v hle ⟨cs, h, k⟩; exact ⟨cs, h, k.mono hle⟩⟩

def Eg (Φ : BW) (b o : Nat) (cs : List Value) : Prop := ∀ j v, cs[j]? = some v → Φ b (o + j) = some v
theorem Eg.mono {Φ Φ' : BW} {b o : Nat} {cs : List Value} (hle : BW.le Φ Φ') (h : Eg Φ b o cs) : Eg Φ' b o cs := fun j v hj => hle _ _ _ (h j v hj)
theorem Eg.left {Φ : BW} {b o : Nat} {xs ys : List Value} (h : Eg Φ b o (xs ++ ys)) : Eg Φ b o xs := fun j v hj => h j v (by
  have : j < xs.length := by rcases Nat.lt_or_ge j xs.length with h1 | h1
                             · exact h1
                             · simp [List.getElem?_eq_none h1] at hj
  rw [List.getElem?_append_left this]; exact hj)
theorem Eg.right {Φ : BW} {b o : Nat} {xs ys : List Value} (h : Eg Φ b o (xs ++ ys)) : Eg Φ b (o + xs.length) ys := fun j v hj => by
  have := h (xs.length + j) v (by rw [List.getElem?_append_right (by omega)]; simpa using hj)
  rwa [← Nat.add_assoc] at this
theorem Eg.append {Φ : BW} {b o : Nat} {xs ys : List Value} (h : Eg Φ b o xs) (k : Eg Φ b (o + xs.length) ys) : Eg Φ b o (xs ++ ys) := fun j v hj => by
  rcases Nat.lt_or_ge j xs.length with h1 | h1
  · exact h j v (by rwa [List.getElem?_append_left h1] at hj)
  · rw [List.getElem?_append_right h1] at hj
    have := k (j - xs.length) v hj
    rwa [show o + xs.length + (j - xs.length) = o + j by omega] at this

def EI (L : List Ck) : VP := ⟨fun Φ v => ∃ b o cs, v = .pointer (some ⟨b, o, none⟩) ∧ Bs Φ cs L ∧ Eg Φ b o cs, fun hle ⟨b, o, cs, h, k, m⟩ => ⟨b, o, cs, h, k.mono hle, m.mono hle⟩⟩

def Ai {α : Type} (c : α → List Ck) (xs : List α) : VP := ⟨fun Φ v => xs.length ≤ Bw ∧ ((v = .slice none 0 0 ∧ xs = []) ∨
    (∃ b o cap cs, v = .slice (some ⟨b, o, none⟩) xs.length cap ∧ xs.length ≤ cap ∧ CY Φ c cs xs ∧ Eg Φ b o cs) ∨ (xs = [] ∧ ∃ a cap, v = .slice (some a) 0 cap)),
  fun hle h => ⟨h.1, h.2.imp id fun h => h.imp (fun ⟨b, o, cap, cs, h1, h2, h3, h4⟩ => ⟨b, o, cap, cs, h1, h2, h3.mono hle, h4.mono hle⟩) id⟩⟩

def Bk (G : FP) (N : List Cp) (x : Operand) (V : VP) : Prop := ∀ (Φ : BW) (a : Act) (w : World) (f : List (List Nat)), G.p Φ → Cn Φ a.tmps w N f → V.p Φ (a.eval x)
theorem Cn.nth {Φ : BW} {tmps : Array Value} {w : World} : ∀ {es : List Cp} {fs : List (List Nat)} (i : Nat), Cn Φ tmps w es fs → i < es.length → ∃ f, (BR .none es i).holds Φ tmps w f ∧ f ∈ fs
  | e :: es, f :: fs, 0, h, _ => ⟨f, h.1, by simp⟩
  | e :: es, f :: fs, i + 1, h, hi => by
    obtain ⟨g, h1, h2⟩ := Cn.nth i h.2 (by simpa using hi)
    exact ⟨g, h1, by simp [h2]⟩
  | [], _, i, _, hi => by simp at hi
  | _ :: _, [], _, h, _ => h.elim
theorem DP {N : List Cp} {i : Nat} {e : Cp} (h : BR .none N i = e) (hne : e ≠ .none) : i < N.length := by
  rcases Nat.lt_or_ge i N.length with q | q
  · exact q
  · rw [Dt, List.getD, List.getElem?_eq_none q] at h
    exact absurd h.symm hne
theorem opt {G : FP} {N : List Cp} {t : Nat} {V : VP} (i : Nat) (h : BR .none N i = .slot t V) : Bk G N (.tmp t) V := by
  intro Φ a w f _ hN
  have hi := DP h (by simp)
  obtain ⟨g, hg, _⟩ := hN.nth i hi
  rw [h] at hg
  obtain ⟨_, v, hv, hV⟩ := hg
  simpa [Act.eval, hv] using hV
theorem B9 {G : FP} {N : List Cp} {v : Value} {V : VP} (h : ∀ Φ, V.p Φ v) : Bk G N (.const v) V := fun Φ _ _ _ _ _ => h Φ
theorem Nu {G : FP} {N : List Cp} {g : Nat} {V : VP} (h : ∀ Φ, G.p Φ → V.p Φ (.pointer (some ⟨g, 0, none⟩))) : Bk G N (.global g) V := fun Φ _ _ _ hG _ => h Φ hG
theorem ic {k : IntKind} {x : Int} (h : Db k x) : ∀ Φ, (Ab k x).p Φ (.int k x) := fun _ => ⟨rfl, h⟩
theorem bc (b : Bool) : ∀ Φ, (An b).p Φ (.bool b) := fun _ => rfl
theorem sc (l : List UInt8) (h : l.length ≤ Bw) : ∀ Φ, (AF l).p Φ (.string ⟨l.toArray⟩) := fun _ => ⟨rfl, h⟩
theorem ec (v : Value) : ∀ Φ, (Bf v).p Φ v := fun _ => rfl

section ops
variable {P : Program} {G : FP} {N : List Cp} {d : Nat} {ty : TypeId} {pos : String} {af : Array Edge} {gd : Option (Nat × Bool)}

theorem BJ.val {op : Op} {V : Value → VP}
    (h : ∀ (Φ : BW) (a : Act) (w : World) (f : List (List Nat)), Du Φ w → G.p Φ → Cn Φ a.tmps w N f → ∃ v, (execOp a.eval ⟨some d, op, ty, pos, af, gd⟩).run P w = .ok (.value v) w ∧ (V v).p Φ v) :
    BJ P G ⟨some d, op, ty, pos, af, gd⟩ N [] (fun v => [.slot d (V v)]) := by
  intro Φ a w fN fC h1 h2 h3 h4 h5 h6 h7 K Q hK
  obtain ⟨v, hr, hv⟩ := h Φ a w fN h1 h2 h3
  match fC, h4 with
  | [], _ =>
    unfold Oper.wp
    rw [hr, Oper.upon_value]
    refine hK v w Φ [[]] (Step.refl _ _ _) h1 ⟨⟨rfl, v, DH a v d (h7 d rfl), hv⟩, trivial⟩ (by simp) (by simp)

theorem Ag {x : Operand} {V : VP} (hx : Bk G N x V) : BJ P G ⟨some d, .move x, ty, pos, af, gd⟩ N [] (fun _ => [.slot d V]) :=
  BJ.val fun Φ a w f _ hG hN => ⟨a.eval x, rfl, hx Φ a w f hG hN⟩
theorem Ak {x : Operand} {V : VP} (hx : Bk G N x V) : BJ P G ⟨some d, .assign x, ty, pos, af, gd⟩ N [] (fun _ => [.slot d V]) :=
  BJ.val fun Φ a w f _ hG hN => ⟨a.eval x, rfl, hx Φ a w f hG hN⟩
theorem JA {c x y : Operand} {b : Bool} {V : VP} (hc : Bk G N c (An b)) (hx : Bk G N (if b then x else y) V) : BJ P G ⟨some d, .pick c x y, ty, pos, af, gd⟩ N [] (fun _ => [.slot d V]) :=
  BJ.val fun Φ a w f _ hG hN => ⟨a.eval (if b then x else y), by
    have hb : a.eval c = .bool b := hc Φ a w f hG hN
    cases b <;> simp [execOp, hb, asBool], hx Φ a w f hG hN⟩
theorem CH {x : Operand} {i : Nat} {l : List VP} {V : VP} (hx : Bk G N x (DJ l)) (hi : l[i]? = some V) : BJ P G ⟨some d, .extract x i, ty, pos, af, gd⟩ N [] (fun _ => [.slot d V]) :=
  BJ.val fun Φ a w f _ hG hN => by
    obtain ⟨vs, hv, hl⟩ := hx Φ a w f hG hN
    have key : ∀ (l : List VP) (vs : List Value) (i : Nat), D8 Φ l vs → l[i]? = some V → ∃ v, vs[i]? = some v ∧ V.p Φ v := by
      intro l
      induction l with
      | nil => intro vs i _ h; simp at h
      | cons W l ih =>
        intro vs i hl h
        cases vs with
        | nil => exact hl.elim
        | cons v vs =>
          cases i with
          | zero => simp at h; subst h; exact ⟨v, rfl, hl.1⟩
          | succ i => simpa using ih vs i hl.2 (by simpa using h)
    obtain ⟨v, h1, h2⟩ := key l vs i hl hi
    exact ⟨v, by simp [execOp, hv, Instr.extract, h1], h2⟩

def Iv (P : Program) (op : BinOp) (t : TypeId) (X Y Z : VP) : Prop := ∀ (Φ : BW) (u v : Value) (w : World) (x y : Operand), X.p Φ u → Y.p Φ v → ∃ r, (do eqGuard op t x y u v; binOp op t u v : Sem Value).run P w = .ok r w ∧ Z.p Φ r
theorem Ax {op : BinOp} {t t' : TypeId} {x y : Operand} {X Y Z : VP} (hb : Iv P op t X Y Z) (hx : Bk G N x X) (hy : Bk G N y Y) : BJ P G ⟨some d, .binOp op t x y t', ty, pos, af, gd⟩ N [] (fun _ => [.slot d Z]) :=
  BJ.val fun Φ a w f _ hG hN => by
    obtain ⟨r, hr, hz⟩ := hb Φ _ _ w x y (hx Φ a w f hG hN) (hy Φ a w f hG hN)
    refine ⟨r, ?_, hz⟩
    simp only [execOp, Sem.run_bind, Sem.run_pure] at hr ⊢
    cases h1 : (eqGuard op t x y (a.eval x) (a.eval y)).run P w with
    | ok _ w1 => simp only [h1, Result.andThen_ok] at hr ⊢; rw [hr]; rfl
    | halt _ w1 => simp [h1] at hr

section bins
variable {t : TypeId} {k : IntKind} {m n : Int}
theorem BC : Iv P .add t (Ab k m) (Ab k n) (Ab k (k.wrap (m + n))) := by rintro Φ u v w x y ⟨rfl, _⟩ ⟨rfl, _⟩; exact ⟨_, by simp [eqGuard_add, binOp_add, Op.intArith] <;> rfl, rfl, EY _ _⟩
theorem DR : Iv P .sub t (Ab k m) (Ab k n) (Ab k (k.wrap (m - n))) := by rintro Φ u v w x y ⟨rfl, _⟩ ⟨rfl, _⟩; exact ⟨_, by simp [eqGuard_sub, binOp_sub, Op.intArith] <;> rfl, rfl, EY _ _⟩
theorem FZ : Iv P .mul t (Ab k m) (Ab k n) (Ab k (k.wrap (m * n))) := by rintro Φ u v w x y ⟨rfl, _⟩ ⟨rfl, _⟩; exact ⟨_, by simp [eqGuard_mul, binOp_mul, Op.intArith] <;> rfl, rfl, EY _ _⟩
theorem GQ (h : n ≠ 0) : Iv P .quo t (Ab k m) (Ab k n) (Ab k (k.wrap (m.tdiv n))) := by rintro Φ u v w x y ⟨rfl, _⟩ ⟨rfl, _⟩; exact ⟨_, by simp [eqGuard_quo, binOp_quo, Op.intDiv, h] <;> rfl, rfl, EY _ _⟩
theorem LJ (op : BinOp) (k : IntKind) (m n : Int) : Db k (bits op k m n) := EY _ _
theorem Ho : Iv P .and t (Ab k m) (Ab k n) (Ab k (bits .and k m n)) := by rintro Φ u v w x y ⟨rfl, _⟩ ⟨rfl, _⟩; exact ⟨_, by simp [eqGuard_and, binOp_and, intBits_and] <;> rfl, rfl, LJ _ _ _ _⟩
theorem B6 : Iv P .lss t (Ab k m) (Ab k n) (An (decide (m < n))) := by rintro Φ u v w x y ⟨rfl, _⟩ ⟨rfl, _⟩; exact ⟨_, by simp [eqGuard_lss, binOp_lss] <;> rfl, rfl⟩
theorem Cj : Iv P .leq t (Ab k m) (Ab k n) (An (decide (m ≤ n))) := by rintro Φ u v w x y ⟨rfl, _⟩ ⟨rfl, _⟩; exact ⟨_, by simp [eqGuard_leq, binOp_leq] <;> rfl, rfl⟩
theorem CD : Iv P .gtr t (Ab k m) (Ab k n) (An (decide (n < m))) := by rintro Φ u v w x y ⟨rfl, _⟩ ⟨rfl, _⟩; exact ⟨_, by simp [eqGuard_gtr, binOp_gtr] <;> rfl, rfl⟩
theorem CW : Iv P .geq t (Ab k m) (Ab k n) (An (decide (n ≤ m))) := by rintro Φ u v w x y ⟨rfl, _⟩ ⟨rfl, _⟩; exact ⟨_, by simp [eqGuard_geq, binOp_geq] <;> rfl, rfl⟩
theorem B4 : Iv P .eql t (Ab k m) (Ab k n) (An (decide (m = n))) := by rintro Φ u v w x y ⟨rfl, _⟩ ⟨rfl, _⟩; exact ⟨_, by simp [eqGuard_at_int, binOp_eql] <;> rfl, by rfl⟩
theorem LL : Iv P .neq t (Ab k m) (Ab k n) (An (!decide (m = n))) := by rintro Φ u v w x y ⟨rfl, _⟩ ⟨rfl, _⟩; exact ⟨_, by simp [eqGuard_at_int, binOp_neq] <;> rfl, by rfl⟩
end bins
end ops

end
section
open Go Go.RowKit

def BG (p : Value) (k : Nat) : VP := ⟨fun _ v => ∃ b, p = .pointer (some ⟨b, 0, none⟩) ∧ v = .pointer (some ⟨b, k, none⟩), fun _ h => h⟩

def lb (p : Value) (T : TypeId) (L : List Ck) : RP := ⟨fun Φ f w => ∃ b cs, p = .pointer (some ⟨b, 0, none⟩) ∧ f = [b] ∧ w.heap[b]? = some (.cells cs.toArray T (0, 0)) ∧ Bs Φ cs L ∧ ∀ o, Φ b o = none, by
  rintro Φ Φ' f w w' hle hs hb ⟨b, cs, rfl, rfl, h1, h2, h3⟩
  exact ⟨b, cs, rfl, rfl, by rw [hb b (by simp)]; exact h1, h2.mono hle, fun o => by rw [hs b (by simp)]; exact h3 o⟩⟩

def Cells (V : VP) (L : List Ck) : Prop := ∀ Φ v, V.p Φ v → Bs Φ v.cells.toList L
def ME (V : VP) : Prop := ∀ Φ v, V.p Φ v → v.oneCell' = true
theorem BD (L : List Ck) : Cells (Co L) L := by rintro Φ v ⟨cs, rfl, h⟩; simpa [Value.cells] using h
theorem Bc {V : VP} (h : ME V) : Cells V [one V] := fun Φ v hv => by
  have h1 := h Φ v hv
  have h2 : v.cells.toList = [v] := by cases v <;> first | rfl | (simp [Value.oneCell'] at h1)
  rw [h2]
  exact ⟨[v], [], rfl, ⟨v, rfl, h1, hv⟩, rfl⟩
theorem Lr (k : IntKind) (x : Int) : ME (Ab k x) := by rintro Φ v ⟨rfl, _⟩; rfl
theorem Bt (l : List UInt8) : ME (AF l) := by rintro Φ v ⟨rfl, _⟩; rfl
section runs
variable {P : Program} {w : World}
theorem cell_of {b j : Nat} {cs : List Value} {T : TypeId} {fr : Nat × Nat} (h : w.heap[b]? = some (.cells cs.toArray T fr)) : w.cell? ⟨b, j, none⟩ = cs[j]? := by
  simp [World.cell?, h]
theorem FI {T : TypeId} {n b k : Nat} {cs : List Value} (ha : ∀ w, (isAgg T).run P w = .ok true w) (hs : ∀ w, (sizeOf T).run P w = .ok n w) (hl : cs.length = n) (h : ∀ j v, cs[j]? = some v → w.cell? ⟨b, k + j, none⟩ = some v) :
    (Instr.loadAt T (.pointer (some ⟨b, k, none⟩))).run P w = .ok (.agg cs.toArray) w := by
  have hc := run_loadCells_list (P := P) w ⟨b, k, none⟩ cs (fun j v hj => by rw [Addr.add_lit]; exact h j v hj)
  rw [hl] at hc
  simp [Instr.loadAt, Instr.sureAddr, loadVar, ha, hs, hc]
theorem EP {T : TypeId} {b k : Nat} {v : Value} (ha : ∀ w, (isAgg T).run P w = .ok false w) (h : w.cell? ⟨b, k, none⟩ = some v) :
    (Instr.loadAt T (.pointer (some ⟨b, k, none⟩))).run P w = .ok v w := by
  simp [Instr.loadAt, Instr.sureAddr, loadVar, ha, h]

theorem Ha {b j : Nat} {cs : List Value} {T : TypeId} {v : Value} (h : w.heap[b]? = some (.cells cs.toArray T (0, 0))) :
    (w.setCell ⟨b, j, none⟩ v).heap[b]? = some (.cells (cs.set j v).toArray T (0, 0)) := by
  simp [World.setCell, Array.getElem?_modify, h]
theorem E4 {b j b' : Nat} {v : Value} (h : b' ≠ b) : (w.setCell ⟨b, j, none⟩ v).heap[b']? = w.heap[b']? := Below.heap_setCell _ _ _ _ h

theorem EO {b k : Nat} {T : TypeId} : ∀ (vs : List Value) (i : Nat) (w : World) (cs : List Value), w.heap[b]? = some (.cells cs.toArray T (0, 0)) → k + i + vs.length ≤ cs.length → (∀ v ∈ vs, v.oneCell' = true) →
    ∃ w', (storeCells ⟨b, k, none⟩ vs i).run P w = .ok () w' ∧ w'.heap[b]? = some (.cells (cs.take (k + i) ++ vs ++ cs.drop (k + i + vs.length)).toArray T (0, 0)) ∧ (∀ b', b' ≠ b → w'.heap[b']? = w.heap[b']?) ∧
      w'.heap.size = w.heap.size ∧ w'.os = w.os ∧ w'.tape = w.tape ∧ w'.output = w.output
  | [], i, w, cs, h, hl, _ => ⟨w, rfl, by simpa using h, fun _ _ => rfl, rfl, rfl, rfl, rfl⟩
  | v :: vs, i, w, cs, h, hl, hv => by
    simp only [List.length_cons] at hl
    have hst : (store (Addr.add ⟨b, k, none⟩ i) v).run P w = .ok () (w.setCell ⟨b, k + i, none⟩ v) := by
      rw [run_store P w _ v .plain (hv v (by simp)), Addr.add_lit]
      have hc : w.cell? ⟨b, k + i, none⟩ = some cs[k + i] := by rw [cell_of h]; simp [show k + i < cs.length by omega]
      simp only [hc]
      have hf : w.frozen? ⟨b, k + i, none⟩ = false := by simp [World.frozen?, h]
      simp [hf]
    obtain ⟨w', h1, h2, h3, h4, h5, h6, h7⟩ := EO (b := b) (k := k) vs (i + 1) (w.setCell ⟨b, k + i, none⟩ v) (cs.set (k + i) v) (Ha h) (by simp; omega) (fun u hu => hv u (by simp [hu]))
    refine ⟨w', ?_, ?_, fun b' hb' => (h3 b' hb').trans (E4 hb'), by rw [h4]; simp, h5, h6, h7⟩
    · simp only [storeCells, Sem.run_bind, hst, Result.andThen_ok]; exact h1
    · rw [h2]
      congr 3
      have e1 : (cs.set (k + i) v).take (k + (i + 1)) = cs.take (k + i) ++ [v] := by
        rw [← Nat.add_assoc, List.take_add_one, List.take_set_of_le (by omega)]
        simp [show k + i < cs.length by omega]
      have e2 : (cs.set (k + i) v).drop (k + (i + 1) + vs.length) = cs.drop (k + i + (vs.length + 1)) := by
        rw [List.drop_set_of_lt (by omega)]
        congr 1; omega
      rw [e1, e2]
      simp
end runs

section ops
variable {P : Program} {G : FP} {N : List Cp} {d : Nat} {ty : TypeId} {pos : String} {af : Array Edge} {gd : Option (Nat × Bool)}

theorem KB {Φ : BW} {w : World} (h : Du Φ w) (o : Nat) : Φ w.heap.size o = none := by
  cases e : Φ w.heap.size o with
  | none => rfl
  | some v => exact absurd (h.lt _ _ _ e) (Nat.lt_irrefl _)
theorem GW {Φ : BW} {w : World} (h : Du Φ w) (o : Obj) : Du Φ (w.alloc o) :=
  ⟨fun b o' v e => by have := h.lt b o' v e; simp; omega, fun b o' v e => by rw [World.cell?_alloc_lt _ _ _ (h.lt b o' v e)]; exact h.cell b o' v e⟩
theorem Ht (w : World) (Φ : BW) (o : Obj) : Step w Φ [] (w.alloc o) Φ :=
  ⟨rfl, rfl, rfl, by simp, fun b hb _ => @Go.heap_alloc_old w o b hb, BW.le_refl _, fun _ _ _ => rfl⟩

theorem BJ.new {op : Op} {T : TypeId} {L : List Ck}
    (h : ∀ (Φ : BW) (a : Act) (w : World) (f : List (List Nat)), Du Φ w → G.p Φ → Cn Φ a.tmps w N f → ∃ cs : List Value, (execOp a.eval ⟨some d, op, ty, pos, af, gd⟩).run P w = .ok (.value (.pointer (some ⟨w.heap.size, 0, none⟩))) (w.alloc (.cells cs.toArray T)) ∧ Bs Φ cs L) :
    BJ P G ⟨some d, op, ty, pos, af, gd⟩ N [] (fun v => [.slot d (BG v 0), .res (lb v T L)]) := by
  intro Φ a w fN fC h1 h2 h3 h4 h5 h6 h7 K Q hK
  obtain ⟨cs, hr, hL⟩ := h Φ a w fN h1 h2 h3
  match fC, h4 with
  | [], _ =>
    unfold Oper.wp
    rw [hr, Oper.upon_value]
    refine hK _ _ Φ [[], [w.heap.size]] (Ht w Φ _) (GW h1 _) ⟨⟨rfl, _, DH a _ d (h7 d rfl), w.heap.size, rfl, rfl⟩, ⟨w.heap.size, cs, rfl, rfl, heap_alloc_new _ _, hL, KB h1⟩, trivial⟩ (by simp) (by simp)

theorem CJ {T : TypeId} {z : Value} {L : List Ck} (hz : ∀ w, (zeroValue T).run P w = .ok z w) (hL : ∀ Φ, Bs Φ z.cells.toList L) :
    BJ P G ⟨some d, .alloc T, ty, pos, af, gd⟩ N [] (fun v => [.slot d (BG v 0), .res (lb v T L)]) :=
  BJ.new fun Φ a w f _ _ _ => ⟨z.cells.toList, by simp [execOp, Instr.alloc, hz, newVar, newRow], hL Φ⟩
theorem DL {T : TypeId} {x : Operand} {V : VP} {L : List Ck} (hx : Bk G N x V) (hc : Cells V L) :
    BJ P G ⟨some d, .box T x, ty, pos, af, gd⟩ N [] (fun v => [.slot d (BG v 0), .res (lb v T L)]) :=
  BJ.new fun Φ a w f _ hG hN => ⟨(a.eval x).cells.toList, by simp [execOp, Instr.box, newVar, newRow], hc Φ _ (hx Φ a w f hG hN)⟩

theorem Cn.res {Φ : BW} {tmps : Array Value} {w : World} {es : List Cp} {fs : List (List Nat)} {R : RP} (j : Nat) (h : Cn Φ tmps w es fs) (he : BR .none es j = .res R) : ∃ f, R.p Φ f w := by
  have hj := DP he (by simp)
  obtain ⟨f, hf, _⟩ := h.nth j hj
  rw [he] at hf
  exact ⟨f, hf⟩

theorem E8 {pre mid post : List Ck} {Φ : BW} {cs : List Value} (h : Bs Φ cs (pre ++ mid ++ post)) : ∃ xs ys zs, cs = xs ++ ys ++ zs ∧ Bs Φ xs pre ∧ Bs Φ ys mid ∧ Bs Φ zs post := by
  obtain ⟨u, zs, rfl, h1, h2⟩ := h.split
  obtain ⟨xs, ys, rfl, h3, h4⟩ := h1.split
  exact ⟨xs, ys, zs, rfl, h3, h4, h2⟩

theorem B0 {T T0 : TypeId} {x : Operand} {p : Value} {k n : Nat} (pre mid post : List Ck) (j : Nat) (ha : ∀ w, (isAgg T).run P w = .ok true w) (hs : ∀ w, (sizeOf T).run P w = .ok n w)
    (hx : Bk G N x (BG p k)) (he : BR .none N j = .res (lb p T0 (pre ++ mid ++ post))) (hk : lens pre = k) (hn : lens mid = n) :
    BJ P G ⟨some d, .load T x, ty, pos, af, gd⟩ N [] (fun _ => [.slot d (Co mid)]) :=
  BJ.val fun Φ a w f _ hG hN => by
    obtain ⟨b, hp, hv⟩ := hx Φ a w f hG hN
    obtain ⟨g, b', cs, hp', _, hb, hL, _⟩ := hN.res j he
    have : b' = b := by rw [hp] at hp'; simpa using hp'.symm
    subst this
    obtain ⟨xs, ys, zs, rfl, h1, h2, h3⟩ := E8 hL
    refine ⟨.agg ys.toArray, ?_, ys, rfl, h2⟩
    simp only [execOp, hv]
    rw [Sem.run_bind, FI (cs := ys) ha hs (by rw [h2.len, hn]) (fun i v hi => by
      rw [cell_of hb, ← hk, ← h1.len, List.append_assoc, List.getElem?_append_right (by omega)]
      have : i < ys.length := by rcases Nat.lt_or_ge i ys.length with q | q
                                 · exact q
                                 · simp [List.getElem?_eq_none q] at hi
      rw [show xs.length + i - xs.length = i by omega, List.getElem?_append_left this]; exact hi)]
    rfl
theorem AE {T T0 : TypeId} {x : Operand} {p : Value} {k : Nat} {V : VP} (pre post : List Ck) (j : Nat) (ha : ∀ w, (isAgg T).run P w = .ok false w)
    (hx : Bk G N x (BG p k)) (he : BR .none N j = .res (lb p T0 (pre ++ [one V] ++ post))) (hk : lens pre = k) :
    BJ P G ⟨some d, .load T x, ty, pos, af, gd⟩ N [] (fun _ => [.slot d V]) :=
  BJ.val fun Φ a w f _ hG hN => by
    obtain ⟨b, hp, hv⟩ := hx Φ a w f hG hN
    obtain ⟨g, b', cs, hp', _, hb, hL, _⟩ := hN.res j he
    have : b' = b := by rw [hp] at hp'; simpa using hp'.symm
    subst this
    obtain ⟨xs, ys, zs, rfl, h1, h2, h3⟩ := E8 hL
    obtain ⟨y1, y2, rfl, ⟨v, rfl, _, hV⟩, h4⟩ := h2
    refine ⟨v, ?_, hV⟩
    simp only [execOp, hv]
    rw [Sem.run_bind, EP ha (v := v) (by rw [cell_of hb, ← hk, ← h1.len]; simp)]
    rfl
theorem CT {T : TypeId} {x : Operand} {n : Nat} (mid post : List Ck) (ha : ∀ w, (isAgg T).run P w = .ok true w) (hs : ∀ w, (sizeOf T).run P w = .ok n w)
    (hx : Bk G N x (EI (mid ++ post))) (hn : lens mid = n) : BJ P G ⟨some d, .load T x, ty, pos, af, gd⟩ N [] (fun _ => [.slot d (Co mid)]) :=
  BJ.val fun Φ a w f hP hG hN => by
    obtain ⟨b, o, cs, hv, hL, hp⟩ := hx Φ a w f hG hN
    obtain ⟨ys, zs, rfl, h1, h2⟩ := hL.split
    refine ⟨.agg ys.toArray, ?_, ys, rfl, h1⟩
    simp only [execOp, hv]
    rw [Sem.run_bind, FI (cs := ys) ha hs (by rw [h1.len, hn]) (fun i v hi => hP.cell _ _ _ (hp.left i v hi))]
    rfl
theorem Ef {T : TypeId} {x : Operand} {V : VP} (post : List Ck) (ha : ∀ w, (isAgg T).run P w = .ok false w)
    (hx : Bk G N x (EI (one V :: post))) : BJ P G ⟨some d, .load T x, ty, pos, af, gd⟩ N [] (fun _ => [.slot d V]) :=
  BJ.val fun Φ a w f hP hG hN => by
    obtain ⟨b, o, cs, hv, ⟨ys, zs, rfl, ⟨v, rfl, _, hV⟩, h2⟩, hp⟩ := hx Φ a w f hG hN
    refine ⟨v, ?_, hV⟩
    simp only [execOp, hv]
    rw [Sem.run_bind, EP ha (v := v) (hP.cell _ _ _ (by simpa using hp 0 v (by simp)))]
    rfl

theorem EA {T T0 : TypeId} {x y : Operand} {p : Value} {k n : Nat} {V : VP} (pre mid post M : List Ck) (hs : ∀ w, (sizeOf T).run P w = .ok n w)
    (hx : Bk G N x (BG p k)) (hy : Bk G N y V) (hc : Cells V M) (hk : lens pre = k) (hm : lens mid = n) (hM : lens M = n) :
    BJ P G ⟨none, .store T x y, ty, pos, af, gd⟩ N [.res (lb p T0 (pre ++ mid ++ post))] (fun _ => [.res (lb p T0 (pre ++ M ++ post))]) := by
  intro Φ a w fN fC h1 h2 h3 h4 h5 h6 h7 K Q hK
  match fC, h4 with
  | [f], ⟨⟨b, cs, hp, hf, hb, hL, hn⟩, _⟩ =>
    subst hf
    obtain ⟨b', hp', hv⟩ := hx Φ a w fN h2 h3
    have : b' = b := by rw [hp] at hp'; simpa using hp'.symm
    subst this
    obtain ⟨xs, ys, zs, rfl, q1, q2, q3⟩ := E8 hL
    have hVL := hc Φ _ (hy Φ a w fN h2 h3)
    have hlen := hVL.len
    obtain ⟨w', r1, r2, r3, r4, r5, r6, r7⟩ := EO (P := P) (b := b') (k := k) (a.eval y).cells.toList 0 w (xs ++ ys ++ zs) hb (by
      simp only [List.length_append, q1.len, q2.len, q3.len] at *; omega) (fun v hv => hVL.cell v hv)
    have hblk : w'.heap[b']? = some (.cells (xs ++ (a.eval y).cells.toList ++ zs).toArray T0 (0, 0)) := by
      rw [r2]
      congr 3
      have e1 : (xs ++ ys ++ zs).take (k + 0) = xs := by rw [Nat.add_zero, ← hk, ← q1.len, List.append_assoc, List.take_left]
      have e2 : (xs ++ ys ++ zs).drop (k + 0 + (a.eval y).cells.toList.length) = zs := by
        have : k + 0 + (a.eval y).cells.toList.length = (xs ++ ys).length := by simp only [List.length_append, q1.len, q2.len]; omega
        rw [this, List.drop_left]
      rw [e1, e2]
    have hrun : (execOp a.eval ⟨none, .store T x y, ty, pos, af, gd⟩).run P w = .ok .skip w' := by
      have hsz : ¬ (a.eval y).cells.size ≠ n := by have : (a.eval y).cells.size = (a.eval y).cells.toList.length := by simp
                                                   rw [this, hlen, hM]; simp
      simp only [execOp, hv, Instr.storeAt, Instr.sureAddr, storeVar, Sem.run_bind, Sem.run_pure, Result.andThen_ok, hs]
      simp only [if_neg hsz]
      simp [r1]
    unfold Oper.wp
    rw [hrun, Oper.upon_skip]
    refine hK undef w' Φ [[b']] ⟨r5, r6, r7, Nat.le_of_eq r4.symm, fun c hc' hne => r3 c (fun e => hne (by simp [e])), BW.le_refl _, fun _ _ _ => rfl⟩
      ⟨fun c o v e => by rw [r4]; exact h1.lt c o v e, fun c o v e => ?_⟩ ⟨⟨b', xs ++ (a.eval y).cells.toList ++ zs, hp, rfl, hblk, (q1.append hVL).append q3, hn⟩, trivial⟩ (by simp) (fun c hc' => ?_)
    · have hne : c ≠ b' := fun e' => by rw [e', hn o] at e; cases e
      exact (World.cell?_of_block (w := w) (r3 c hne)).trans (h1.cell c o v e)
    · simp at hc'
      subst hc'
      have := h6 c (by simp)
      exact ⟨by rw [r4]; exact this, .inl (by simp)⟩

theorem Hb {s : TypeId} {fields : Array Field} {i : Nat} {fd : Field} {n b k : Nat} {w : World} (hu : P.underlying s = some (.struct fields)) (hi : fields[i]? = some fd) (hs : ∀ w, (sizeOf fd.type).run P w = .ok n w) (hn : n ≠ 0) :
    (Instr.fieldAt s (.pointer (some ⟨b, k, none⟩)) i).run P w = .ok (.pointer (some ⟨b, k + fd.offset, none⟩)) w := by
  simp [Instr.fieldAt, run_underlying hu, hi, Instr.sureAddr, fieldPlace, hs, hn, Addr.add_lit]
theorem Hi {s : TypeId} {x : Operand} {p : Value} {fields : Array Field} {i k n : Nat} {fd : Field} (hu : P.underlying s = some (.struct fields)) (hi : fields[i]? = some fd) (hs : ∀ w, (sizeOf fd.type).run P w = .ok n w) (hn : n ≠ 0)
    (hx : Bk G N x (BG p k)) : BJ P G ⟨some d, .fieldAddr s x i, ty, pos, af, gd⟩ N [] (fun _ => [.slot d (BG p (k + fd.offset))]) :=
  BJ.val fun Φ a w f _ hG hN => by
    obtain ⟨b, hp, hv⟩ := hx Φ a w f hG hN
    refine ⟨_, ?_, b, hp, rfl⟩
    simp only [execOp, hv]
    rw [Sem.run_bind, Hb hu hi hs hn]
    rfl
def Ns (V : VP) : Prop := ∀ Φ v, V.p Φ v → ∃ a, v = .pointer (some a)
theorem Ek (p : Value) (k : Nat) : Ns (BG p k) := by rintro Φ v ⟨b, _, rfl⟩; exact ⟨_, rfl⟩
theorem CI {x : Operand} {V : VP} (hx : Bk G N x V) (hp : Ns V) : BJ P G ⟨some d, .nilCheck x, ty, pos, af, gd⟩ N [] (fun _ => [.slot d V]) :=
  BJ.val fun Φ a w f _ hG hN => by
    obtain ⟨q, hq⟩ := hp Φ _ (hx Φ a w f hG hN)
    exact ⟨a.eval x, by simp [execOp, hq], hx Φ a w f hG hN⟩

theorem CY.at {α : Type} {Φ : BW} {c : α → List Ck} {sz : Nat} (hsz : ∀ x, lens (c x) = sz) {xs : List α} {cs : List Value} (h : CY Φ c cs xs) (i : Nat) (hi : i < xs.length) :
    ∃ us vs ws, cs = us ++ vs ++ ws ∧ us.length = i * sz ∧ Bs Φ vs (c xs[i]) ∧ CY Φ c us (xs.take i) ∧ CY Φ c ws (xs.drop (i + 1)) := by
  have e : xs = xs.take i ++ (xs[i] :: xs.drop (i + 1)) := by simp
  rw [e] at h
  obtain ⟨us, rs, rfl, h1, h2⟩ := h.split
  obtain ⟨vs, ws, rfl, h3, h4⟩ := h2
  exact ⟨us, vs, ws, by simp, by rw [h1.len hsz, List.length_take, Nat.min_eq_left (by omega)], h3, h1, h4⟩

theorem BL {α : Type} [Inhabited α] {t e : TypeId} {x y : Operand} {c : α → List Ck} {xs : List α} {k : IntKind} {i : Int} {sz : Nat} (hu : P.underlying t = some (.slice e)) (hs : ∀ w, (sizeOf e).run P w = .ok sz w) (hsz : ∀ x, lens (c x) = sz)
    (hx : Bk G N x (Ai c xs)) (hy : Bk G N y (Ab k i)) (hi : 0 ≤ i ∧ i < xs.length) : BJ P G ⟨some d, .indexAddr t x y, ty, pos, af, gd⟩ N [] (fun _ => [.slot d (EI (c (xs.getD i.toNat default)))]) :=
  BJ.val fun Φ a w f _ hG hN => by
    obtain ⟨hy1, _⟩ := hy Φ a w f hG hN
    rcases (hx Φ a w f hG hN).2 with ⟨_, rfl⟩ | ⟨b, o, cap, cs, hv, _, hA, hp⟩ | ⟨rfl, _⟩
    · simp at hi; omega
    rotate_left
    · simp at hi; omega
    · have hit : i.toNat < xs.length := by omega
      obtain ⟨us, vs, ws, rfl, h1, h2, _⟩ := hA.at hsz i.toNat hit
      refine ⟨.pointer (some ⟨b, o + i.toNat * sz, none⟩), ?_, b, o + i.toNat * sz, vs, rfl, ?_, ?_⟩
      · simp only [execOp, hv, hy1]
        simp [Instr.indexAt, run_underlying hu, asIntOf, hi, hs, Addr.add_lit]
      · simpa [List.getD, hit] using h2
      · rw [← h1]; exact (hp.left).right
theorem Cu {t e : TypeId} {x y : Operand} {p : Value} {k : Nat} {kk : IntKind} {i : Int} {n sz : Nat} (hu : P.underlying t = some (.array n e)) (hs : ∀ w, (sizeOf e).run P w = .ok sz w)
    (hx : Bk G N x (BG p k)) (hy : Bk G N y (Ab kk i)) (hi : 0 ≤ i ∧ i < n) : BJ P G ⟨some d, .indexAddr t x y, ty, pos, af, gd⟩ N [] (fun _ => [.slot d (BG p (k + i.toNat * sz))]) :=
  BJ.val fun Φ a w f _ hG hN => by
    obtain ⟨hy1, _⟩ := hy Φ a w f hG hN
    obtain ⟨b, hp, hv⟩ := hx Φ a w f hG hN
    refine ⟨_, ?_, b, hp, rfl⟩
    simp only [execOp, hv, hy1]
    simp [Instr.indexAt, run_underlying hu, asIntOf, Instr.sureAddr, hi, hs, Addr.add_lit]
theorem E2 {T T0 : TypeId} {x : Operand} {p : Value} {k n : Nat} {l : List UInt8} {i : Int} (pre post : List Ck) (j : Nat) (ha : ∀ w, (isAgg T).run P w = .ok false w)
    (hx : Bk G N x (BG p k)) (he : BR .none N j = .res (lb p T0 (pre ++ [Af n l] ++ post))) (hk : k = lens pre + i.toNat * 1) (hi : 0 ≤ i ∧ i < n) :
    BJ P G ⟨some d, .load T x, ty, pos, af, gd⟩ N [] (fun _ => [.slot d (Ab .u8 (l.getD i.toNat 0).toNat)]) :=
  BJ.val fun Φ a w f _ hG hN => by
    obtain ⟨b, hp, hv⟩ := hx Φ a w f hG hN
    obtain ⟨g, b', cs, hp', _, hb, hL, _⟩ := hN.res j he
    have : b' = b := by rw [hp] at hp'; simpa using hp'.symm
    subst this
    obtain ⟨xs, ys, zs, rfl, h1, h2, h3⟩ := E8 hL
    obtain ⟨y1, y2, rfl, ⟨hl, rfl⟩, h4⟩ := h2
    have h4 : y2 = [] := h4
    subst h4
    have hit : i.toNat < l.length := by omega
    refine ⟨DE (l.getD i.toNat 0), ?_, rfl, FY _⟩
    simp only [execOp, hv]
    rw [Sem.run_bind, EP ha (v := DE (l.getD i.toNat 0)) (by
      rw [cell_of hb, hk, ← h1.len, Nat.mul_one, List.append_assoc, List.getElem?_append_right (by omega), show xs.length + i.toNat - xs.length = i.toNat by omega, List.append_nil, List.getElem?_append_left (by simpa using hit)]
      simp [hit, List.getD])]
    rfl

end ops

end
section
open Go Go.RowKit

theorem I6 (l : List UInt8) : (⟨l.toArray⟩ : ByteArray).toList = l := by rw [ByteArray.toList_eq]
theorem C6 (l : List UInt8) : (⟨l.toArray⟩ : ByteArray).size = l.length := by simp [ByteArray.size]
theorem I7 (l m : List UInt8) : (⟨l.toArray⟩ ++ ⟨m.toArray⟩ : ByteArray) = ⟨(l ++ m).toArray⟩ := by ext1; simp
theorem Iz (l : List UInt8) (a b : Nat) : (⟨l.toArray⟩ : ByteArray).extract a b = ⟨((l.take b).drop a).toArray⟩ := by
  ext1
  simp [List.drop_take]
theorem Lj (l : List UInt8) (i : Nat) (h : i < l.length) : (⟨l.toArray⟩ : ByteArray)[i]? = some (l.getD i 0) := by
  rw [ByteArray.getElem?_lt' _ _ (by rw [C6]; exact h)]
  simp [List.getD, h]
  rfl

section ops
variable {P : Program} {G : FP} {N : List Cp} {d : Nat} {ty : TypeId} {pos : String} {af : Array Edge} {gd : Option (Nat × Bool)}

def Un (op : UnOp) (X Z : VP) : Prop := ∀ (P : Program) (Φ : BW) (u : Value) (w : World), X.p Φ u → ∃ r, (Op.unary op u).run P w = .ok r w ∧ Z.p Φ r
theorem Ez {op : UnOp} {t : TypeId} {x : Operand} {X Z : VP} (hb : Un op X Z) (hx : Bk G N x X) : BJ P G ⟨some d, .unOp op t x, ty, pos, af, gd⟩ N [] (fun _ => [.slot d Z]) :=
  BJ.val fun Φ a w f _ hG hN => by
    obtain ⟨r, hr, hz⟩ := hb P Φ _ w (hx Φ a w f hG hN)
    exact ⟨r, by simp [execOp, hr], hz⟩
theorem Ei (b : Bool) : Un .not (An b) (An (!b)) := by
  intro P Φ u w h
  have h : u = .bool b := h
  subst h
  exact ⟨.bool !b, rfl, rfl⟩
theorem I5 (k : IntKind) (n : Int) : Un .neg (Ab k n) (Ab k (k.wrap (0 - n))) := by
  rintro P Φ u w ⟨rfl, _⟩
  exact ⟨_, rfl, rfl, EY _ _⟩

theorem Bi {s t : TypeId} {x : Operand} {k k' : IntKind} {n : Int} {ds : TypeDesc} (hs : P.underlying s = some ds) (ht : P.underlying t = some (.int k')) (hx : Bk G N x (Ab k n)) :
    BJ P G ⟨some d, .convert s t x, ty, pos, af, gd⟩ N [] (fun _ => [.slot d (Ab k' (k'.wrap n))]) :=
  BJ.val fun Φ a w f _ hG hN => by
    obtain ⟨hv, _⟩ := hx Φ a w f hG hN
    exact ⟨.int k' (k'.wrap n), by simp [execOp, hv, convert, run_underlying hs, run_underlying ht, Conv.intToInt], rfl, EY _ _⟩
theorem CU {t : TypeId} {x : Operand} {l : List UInt8} (ht : P.underlying t = some .string) (hx : Bk G N x (AF l)) :
    BJ P G ⟨some d, .call ⟨.builtin .len, #[x], #[t]⟩, ty, pos, af, gd⟩ N [] (fun _ => [.slot d (Ab .i64 l.length)]) :=
  BJ.val fun Φ a w f _ hG hN => by
    obtain ⟨hv, hl⟩ := hx Φ a w f hG hN
    exact ⟨goInt l.length, by simp [execOp, hv, resolve, invoke, builtin, Builtin.len_, run_underlying ht, C6], rfl, Fp hl⟩
theorem Bm {α : Type} {c : α → List Ck} {xs : List α} {t e : TypeId} {x : Operand} (ht : P.underlying t = some (.slice e)) (hx : Bk G N x (Ai c xs)) :
    BJ P G ⟨some d, .call ⟨.builtin .len, #[x], #[t]⟩, ty, pos, af, gd⟩ N [] (fun _ => [.slot d (Ab .i64 xs.length)]) :=
  BJ.val fun Φ a w f _ hG hN => by
    obtain ⟨hl, h⟩ := hx Φ a w f hG hN
    rcases h with ⟨hv, rfl⟩ | ⟨b, o, cap, cs, hv, _⟩ | ⟨rfl, b, cap, hv⟩
    · exact ⟨goInt 0, by simp [execOp, hv, resolve, invoke, builtin, Builtin.len_, run_underlying ht], rfl, Fp hl⟩
    · exact ⟨goInt xs.length, by simp [execOp, hv, resolve, invoke, builtin, Builtin.len_, run_underlying ht], rfl, Fp hl⟩
    · exact ⟨goInt 0, by simp [execOp, hv, resolve, invoke, builtin, Builtin.len_, run_underlying ht], rfl, Fp hl⟩

section strs
variable {t : TypeId} {l m : List UInt8}
theorem A3 (h : l.length + m.length ≤ Bw) : Iv P .add t (AF l) (AF m) (AF (l ++ m)) := by
  rintro Φ u v w x y ⟨rfl, _⟩ ⟨rfl, _⟩
  have hb : ¬ (((l.length + m.length : Nat) : Int) > IntKind.i64.max) := by
    have := (Fp h).2
    omega
  refine ⟨.string ⟨(l ++ m).toArray⟩, ?_, rfl, by simpa using h⟩
  simp only [eqGuard_add, binOp, Op.stringOp, C6, if_neg hb, I7]
  rfl
theorem GP : Iv P .eql t (AF l) (AF m) (An (decide (l = m))) := by
  rintro Φ u v w x y ⟨rfl, _⟩ ⟨rfl, _⟩
  refine ⟨.bool (decide (l = m)), ?_, rfl⟩
  simp only [eqGuard_at_string, binOp, Op.stringOp, I6]
  rw [show (l == m) = decide (l = m) from by rw [Bool.eq_iff_iff]; simp]
  rfl
end strs
def shr (k : IntKind) (m n : Int) : Int := m.fdiv (2 ^ (min n.toNat k.bits))
theorem Mf {k : IntKind} {m n : Int} (h : Db k m) : Db k (shr k m n) := by
  have hp : (1 : Int) ≤ 2 ^ (min n.toNat k.bits) := by
    have : (1 : Int) ≤ ((2 ^ (min n.toNat k.bits) : Nat) : Int) := by
      have := Nat.one_le_two_pow (n := min n.toNat k.bits); omega
    simpa using this
  have h0 : k.min ≤ 0 ∧ 0 ≤ k.max := by cases k <;> decide
  unfold shr Db at *
  rw [Int.fdiv_eq_ediv_of_nonneg _ (by omega)]
  constructor
  · rcases Int.lt_or_le m 0 with hm | hm
    · have := Int.ediv_nonneg_iff_of_pos (a := m) (b := 2 ^ (min n.toNat k.bits)) (by omega)
      have h2 : m ≤ m / 2 ^ (min n.toNat k.bits) := by
        rw [Int.le_ediv_iff_mul_le (by omega)]
        have := Int.mul_le_mul_of_nonpos_left (a := m) (b := 2 ^ (min n.toNat k.bits)) (c := 1) (by omega) hp
        omega
      omega
    · have := Int.ediv_nonneg hm (by omega : (0 : Int) ≤ 2 ^ (min n.toNat k.bits)); omega
  · rcases Int.lt_or_le m 0 with hm | hm
    · have := Int.ediv_neg_of_neg_of_pos hm (by omega : (0 : Int) < 2 ^ (min n.toNat k.bits)); omega
    · have := Int.ediv_le_self (2 ^ (min n.toNat k.bits)) hm; omega
theorem LK {t : TypeId} {k k' : IntKind} {m n : Int} (hn : 0 ≤ n) : Iv P .shr t (Ab k m) (Ab k' n) (Ab k (shr k m n)) := by
  rintro Φ u v w x y ⟨rfl, hm⟩ ⟨rfl, _⟩
  exact ⟨.int k (shr k m n), by simp [eqGuard_shr, binOp_shr, Op.shift, show ¬ n < 0 by omega, shr], rfl, Mf hm⟩
theorem uns {k : IntKind} {n : Int} (hk : k.signed = false) (h : Db k n) : 0 ≤ n := by
  have := h.1
  simp [IntKind.min, hk] at this
  exact this
theorem EW {t : TypeId} {k k' : IntKind} {m n : Int} (hk : k'.signed = false) : Iv P .shr t (Ab k m) (Ab k' n) (Ab k (shr k m n)) := by
  rintro Φ u v w x y h1 ⟨h2, h3⟩
  exact LK (uns hk h3) Φ u v w x y h1 ⟨h2, h3⟩
theorem En {t : TypeId} {k : IntKind} {m n : Int} (hn : n ≠ 0) : Iv P .rem t (Ab k m) (Ab k n) (Ab k (m.tmod n)) := by
  rintro Φ u v w x y ⟨rfl, hm⟩ ⟨rfl, _⟩
  refine ⟨.int k (m.tmod n), by simp [eqGuard_rem, binOp_rem, Op.intDiv, hn], rfl, ?_⟩
  have h0 : k.min ≤ 0 ∧ 0 ≤ k.max := by cases k <;> decide
  have h1 := Int.natAbs_tmod m n
  have h2 := Nat.mod_le m.natAbs n.natAbs
  unfold Db at *
  rcases Int.lt_or_le m 0 with h | h
  · have h3 := Int.tmod_nonneg n (by omega : 0 ≤ -m)
    rw [Int.neg_tmod] at h3
    omega
  · have h3 := Int.tmod_nonneg n h
    omega
end ops

end
section
open Go Go.RowKit

section ops
variable {P : Program} {G : FP} {N : List Cp} {d : Nat} {ty : TypeId} {pos : String} {af : Array Edge} {gd : Option (Nat × Bool)}

def Fv (G : FP) (N : List Cp) : List Operand → List VP → Prop
  | [], [] => True
  | x :: xs, V :: Vs => Bk G N x V ∧ Fv G N xs Vs
  | _, _ => False
theorem Fv.eval {Φ : BW} {a : Act} {w : World} {f : List (List Nat)} (hG : G.p Φ) (hN : Cn Φ a.tmps w N f) : ∀ {xs : List Operand} {Vs : List VP}, Fv G N xs Vs → D8 Φ Vs (xs.map a.eval)
  | [], [], _ => trivial
  | _ :: _, _ :: _, h => ⟨h.1 Φ a w f hG hN, Fv.eval hG hN h.2⟩
  | [], _ :: _, h => h.elim
  | _ :: _, [], h => h.elim
theorem Cn.Ja {Φ : BW} {tmps : Array Value} {w : World} : ∀ {Rs : List RP} {fs : List (List Nat)}, Cn Φ tmps w (Rs.map .res) fs → Fu Φ w Rs fs
  | [], [], _ => trivial
  | _ :: _, _ :: _, h => ⟨h.1, Cn.Ja h.2⟩
  | [], _ :: _, h => h.elim
  | _ :: _, [], h => h.elim
theorem Cn.KI {Φ : BW} {tmps : Array Value} {w : World} : ∀ {Rs : List RP} {fs : List (List Nat)}, Fu Φ w Rs fs → Cn Φ tmps w (Rs.map .res) fs
  | [], [], _ => trivial
  | _ :: _, _ :: _, h => ⟨h.1, Cn.KI h.2⟩
  | [], _ :: _, h => h.elim
  | _ :: _, [], h => h.elim

theorem CL {f : FuncId} {xs : List Operand} {tys : Array TypeId} {args : List VP} {pre : List RP} {post : Value → List RP} {res : VP} (hcall : ∀ args w, (callFunc f args).run P w = .ok (.enter f args) w)
    (hc : AX P G f args pre post res) (hx : Fv G N xs args) :
    BJ P G ⟨some d, .call ⟨.value (.func f), xs.toArray, tys⟩, ty, pos, af, gd⟩ N (pre.map .res) (fun v => .slot d res :: (post v).map .res) := by
  intro Φ a w fN fC h1 h2 h3 h4 h5 h6 h7 K Q hK
  have hargs := hx.eval h2 h3
  have hres := Cn.Ja h4
  rw [List.nodup_append] at h5
  have hcl := hc Φ w _ fC h1 h2 hargs hres h5.2.1 (fun b hb => h6 b (by simp [hb]))
  have hrun : (execOp a.eval ⟨some d, .call ⟨.value (.func f), xs.toArray, tys⟩, ty, pos, af, gd⟩).run P w = .ok (.enter f (xs.map a.eval).toArray) w := by
    simp [execOp, resolve, Act.eval, Deferred.ofValue, invoke, hcall]
  unfold Oper.wp
  rw [hrun, Oper.upon_enter]
  refine hcl.mono fun e w' hq => ?_
  obtain ⟨v, Φ', fs', rfl, q1, q2, q3, q4, q5, q6⟩ := hq
  exact hK v w' Φ' ([] :: fs') q1 q2 ⟨⟨rfl, v, DH a v d (h7 d rfl), q3⟩, Cn.KI q4⟩ (by simpa using q5) (by simpa using q6)

theorem HN {α : Type} {t e : TypeId} {n sz : Nat} {parts : Array (Nat × Operand)} {c : α → List Ck} {xs : List α} (h : ∀ (Φ : BW) (a : Act) (w : World) (f : List (List Nat)), Du Φ w → G.p Φ → Cn Φ a.tmps w N f →
      ∃ cs : List Value, (Instr.buildSlice t n (parts.map fun (i, x) => (i, a.eval x))).run P w = .ok (.slice (some ⟨w.heap.size, 0, none⟩) n n) (w.alloc (.cells cs.toArray e)) ∧ CY Φ c cs xs) (hn : xs.length = n) (hm : n ≤ Bw) (_hsz : ∀ x, lens (c x) = sz) :
    BJ P G ⟨some d, .buildSlice t n parts, ty, pos, af, gd⟩ N [] (fun _ => [.slot d (Ai c xs)]) := by
  intro Φ a w fN fC h1 h2 h3 h4 h5 h6 h7 K Q hK
  obtain ⟨cs, hr, hA⟩ := h Φ a w fN h1 h2 h3
  match fC, h4 with
  | [], _ =>
    have hrun : (execOp a.eval ⟨some d, .buildSlice t n parts, ty, pos, af, gd⟩).run P w = .ok (.value (.slice (some ⟨w.heap.size, 0, none⟩) n n)) (w.alloc (.cells cs.toArray e)) := by
      simp only [execOp, Sem.run_bind, hr]
      rfl
    unfold Oper.wp
    rw [hrun, Oper.upon_value]
    let Φ' : BW := fun b o => if b = w.heap.size then cs[o]? else Φ b o
    have hle : BW.le Φ Φ' := fun b o v e => by
      have := h1.lt b o v e
      simp only [Φ', if_neg (by omega : ¬ b = w.heap.size)]
      exact e
    refine hK _ _ Φ' [[]] ⟨rfl, rfl, rfl, by simp, fun b hb _ => @Go.heap_alloc_old w _ b hb, hle, fun b hb _ => by funext o; simp only [Φ', if_neg (by omega : ¬ b = w.heap.size)]⟩ ⟨fun b o v e => ?_, fun b o v e => ?_⟩
      ⟨⟨rfl, _, DH a _ d (h7 d rfl), by rw [hn]; exact hm, .inr (.inl ⟨w.heap.size, 0, n, cs, by rw [hn], by omega, hA.mono hle, fun j v hj => by simp only [Φ', if_pos trivial, Nat.zero_add]; exact hj⟩)⟩, trivial⟩ (by simp) (by simp)
    · by_cases hb : b = w.heap.size
      · simp [hb]
      · simp only [Φ', if_neg hb] at e
        have := h1.lt b o v e
        simp; omega
    · by_cases hb : b = w.heap.size
      · subst hb
        simp only [Φ', if_pos trivial] at e
        rw [World.cell?_alloc_new]
        simpa using e
      · simp only [Φ', if_neg hb] at e
        rw [World.cell?_alloc_lt _ _ _ (h1.lt b o v e)]
        exact h1.cell b o v e

def JR (v : Option Value) (dflt r : Nat) : Prop :=
  match v with
  | none => r = dflt
  | some u => ∃ k i, u = .int k i ∧ 0 ≤ i ∧ i.toNat = r
theorem Ep {w : World} (isS : Bool) (len cap : Nat) {lo hi : Option Value} {a b : Nat} (hlo : JR lo 0 a) (hhi : JR hi len b) (hab : a ≤ b) (hb : b ≤ cap) :
    (Instr.sliceBounds isS len cap lo hi none).run P w = .ok (a, b, cap) w := by
  have sb : ∀ (k : IntKind) (i : Int) (y : Nat) (code : BoundsCode), 0 ≤ i → i.toNat ≤ y → (Instr.sliceBound (.int k i) y code).run P w = .ok i.toNat w := by
    intro k i y code h0 h1
    simp [Instr.sliceBound, asIntOf, show 0 ≤ i ∧ i ≤ (y : Int) by omega]
  unfold Instr.sliceBounds
  cases hi with
  | none =>
    have hhi : b = len := hhi
    subst hhi
    cases lo with
    | none =>
      have hlo : a = 0 := hlo
      subst hlo
      simp
    | some u =>
      obtain ⟨k, i, rfl, h0, rfl⟩ := hlo
      simp [sb k i b _ h0 hab]
  | some u' =>
    obtain ⟨k', i', rfl, h0', rfl⟩ := hhi
    cases lo with
    | none =>
      have hlo : a = 0 := hlo
      subst hlo
      cases isS <;> simp [sb k' i' cap _ h0' hb]
    | some u =>
      obtain ⟨k, i, rfl, h0, rfl⟩ := hlo
      cases isS <;> simp [sb k' i' cap _ h0' hb, sb k i i'.toNat _ h0 hab]

def HR (G : FP) (N : List Cp) (x : Option Operand) (dflt : Nat) (i : Int) : Prop :=
  match x with
  | none => i = dflt
  | some y => ∃ k, Bk G N y (Ab k i)
theorem HR.ok {Φ : BW} {a : Act} {w : World} {f : List (List Nat)} (hG : G.p Φ) (hN : Cn Φ a.tmps w N f) {x : Option Operand} {dflt : Nat} {i : Int} (h : HR G N x dflt i) (h0 : 0 ≤ i) : JR (x.map a.eval) dflt i.toNat := by
  cases x with
  | none => have h : i = dflt := h; subst h; simp [JR]
  | some y =>
    obtain ⟨k, hk⟩ := h
    exact ⟨k, i, (hk Φ a w f hG hN).1, h0, rfl⟩

theorem Dg {t : TypeId} {x : Operand} {l : List UInt8} {lo hi : Option Operand} {a b : Int} (hu : P.underlying t = some .string) (hx : Bk G N x (AF l))
    (hlo : HR G N lo 0 a) (hhi : HR G N hi l.length b) (h : 0 ≤ a ∧ a ≤ b ∧ b ≤ l.length) :
    BJ P G ⟨some d, .slice t x lo hi none, ty, pos, af, gd⟩ N [] (fun _ => [.slot d (AF ((l.take b.toNat).drop a.toNat))]) :=
  BJ.val fun Φ ac w f _ hG hN => by
    obtain ⟨hv, hl⟩ := hx Φ ac w f hG hN
    refine ⟨.string ⟨((l.take b.toNat).drop a.toNat).toArray⟩, ?_, rfl, by simp; omega⟩
    have hsb := Ep (P := P) (w := w) false l.length l.length (hlo.ok hG hN h.1) (hhi.ok hG hN (by omega)) (by omega) (by omega)
    simp only [execOp, hv, Instr.sliceAt, Sem.run_bind, run_underlying hu, Result.andThen_ok, Instr.slice, Option.map_none, Option.isSome_none, Bool.false_eq_true, if_false, C6]
    simp [hsb, Iz]
theorem CB {t : TypeId} {x y : Operand} {l : List UInt8} {k : IntKind} {i : Int} (hu : P.underlying t = some .string) (hx : Bk G N x (AF l)) (hy : Bk G N y (Ab k i)) (h : 0 ≤ i ∧ i < l.length) :
    BJ P G ⟨some d, .index t x y, ty, pos, af, gd⟩ N [] (fun _ => [.slot d (Ab .u8 (l.getD i.toNat 0).toNat)]) :=
  BJ.val fun Φ ac w f _ hG hN => by
    obtain ⟨hv, hl⟩ := hx Φ ac w f hG hN
    obtain ⟨hy, _⟩ := hy Φ ac w f hG hN
    refine ⟨.int .u8 (l.getD i.toNat 0).toNat, ?_, rfl, FY _⟩
    have hg := Lj l i.toNat (by omega)
    simp only [execOp, hv, hy, Instr.index, Sem.run_bind, asIntOf, Sem.run_pure, Result.andThen_ok, run_underlying hu, if_pos h.1, hg]

def JF (p : Value) (k len cap : Nat) : VP := ⟨fun _ v => ∃ b, p = .pointer (some ⟨b, 0, none⟩) ∧ v = .slice (some ⟨b, k, none⟩) len cap, fun _ h => h⟩
theorem E1 {t e : TypeId} {x : Operand} {p : Value} {n k sz : Nat} {lo hi : Option Operand} {a b : Int} (hu : P.underlying t = some (.array n e)) (hs : ∀ w, (sizeOf e).run P w = .ok sz w) (hx : Bk G N x (BG p k))
    (hlo : HR G N lo 0 a) (hhi : HR G N hi n b) (h : 0 ≤ a ∧ a ≤ b ∧ b ≤ n ∧ a < n) :
    BJ P G ⟨some d, .slice t x lo hi none, ty, pos, af, gd⟩ N [] (fun _ => [.slot d (JF p (k + a.toNat * sz) (b.toNat - a.toNat) (n - a.toNat))]) :=
  BJ.val fun Φ ac w f _ hG hN => by
    obtain ⟨bb, hp, hv⟩ := hx Φ ac w f hG hN
    refine ⟨.slice (some ⟨bb, k + a.toNat * sz, none⟩) (b.toNat - a.toNat) (n - a.toNat), ?_, bb, hp, rfl⟩
    have hsb := Ep (P := P) (w := w) false n n (hlo.ok hG hN h.1) (hhi.ok hG hN (by omega)) (by omega) (by omega)
    have hne : ¬ n = a.toNat := by omega
    simp [execOp, hv, Instr.sliceAt, run_underlying hu, Instr.sureAddr, hsb, hs, hne, Addr.add_lit]

theorem run_bytesToString {b k : Nat} {l : List UInt8} {cap : Nat} {w : World} (h : ∀ j v, (l.map DE)[j]? = some v → w.cell? ⟨b, k + j, none⟩ = some v) :
    (Conv.bytesToString (.slice (some ⟨b, k, none⟩) l.length cap)).run P w = .ok (.string ⟨l.toArray⟩) w := by
  have hc := run_loadCells_list (P := P) w ⟨b, k, none⟩ (l.map DE) (fun j v hj => by rw [Addr.add_lit]; exact h j v hj)
  rw [List.length_map] at hc
  have e1 : l.map DE = (l.map fun x => (x.toNat : Int)).map (Value.int .u8) := by simp [DE, Function.comp_def]
  rw [e1] at hc
  rw [Go.run_bytesToString (P := P) w ⟨b, k, none⟩ l.length cap _ hc]
  have key : ∀ (l : List UInt8) (acc : ByteArray), (l.map fun x => (x.toNat : Int)).foldl (fun r n => r.push (UInt8.ofNat n.toNat)) acc = ⟨(acc.data.toList ++ l).toArray⟩ := by
    intro l
    induction l with
    | nil => intro acc; simp
    | cons x l ih => intro acc; simp only [List.map_cons, List.foldl_cons, ih]; simp [ByteArray.push]
  rw [key l ByteArray.empty]
  rfl

theorem HA {s t e : TypeId} {x : Operand} {p : Value} {T0 : TypeId} {k n m cap : Nat} {l : List UInt8} (pre post : List Ck) (j : Nat) (hs : P.underlying s = some (.slice e)) (he : P.underlying e = some (.int .u8)) (ht : P.underlying t = some .string)
    (hx : Bk G N x (JF p k m cap)) (hR : BR .none N j = .res (lb p T0 (pre ++ [Af n l] ++ post))) (hk : lens pre = k) (hm : m ≤ n) (hn : n ≤ Bw) :
    BJ P G ⟨some d, .convert s t x, ty, pos, af, gd⟩ N [] (fun _ => [.slot d (AF (l.take m))]) :=
  BJ.val fun Φ ac w f _ hG hN => by
    obtain ⟨b, hp, hv⟩ := hx Φ ac w f hG hN
    obtain ⟨g, b', cs, hp', _, hb, hL, _⟩ := hN.res j hR
    have : b' = b := by rw [hp] at hp'; simpa using hp'.symm
    subst this
    obtain ⟨xs, ys, zs, rfl, h1, h2, h3⟩ := E8 hL
    obtain ⟨y1, y2, rfl, ⟨hl, rfl⟩, h4⟩ := h2
    have h4 : y2 = [] := h4
    subst h4
    refine ⟨.string ⟨(l.take m).toArray⟩, ?_, rfl, by simp; omega⟩
    have hlen : (l.take m).length = m := by simp; omega
    have hr := run_bytesToString (P := P) (b := b') (k := k) (l := l.take m) (cap := cap) (w := w) (fun i v hi => by
      have hi' : i < m := by
        rcases Nat.lt_or_ge i (l.take m).length with q | q
        · omega
        · rw [List.getElem?_eq_none (by simpa using q)] at hi; cases hi
      rw [cell_of hb, ← hk, ← h1.len, List.append_assoc, List.getElem?_append_right (by omega), show xs.length + i - xs.length = i by omega, List.append_nil, List.getElem?_append_left (by simp; omega)]
      rw [List.map_take, List.getElem?_take_of_lt hi'] at hi
      exact hi)
    rw [hlen] at hr
    simp only [execOp, hv, Sem.run_bind, run_convert_bytes_string w s t e _ _ _ hs he ht, hr]
    rfl

end ops

end
section
open Go Go.RowKit

section ops
variable {P : Program} {G : FP} {N : List Cp} {d : Nat} {ty : TypeId} {pos : String} {af : Array Edge} {gd : Option (Nat × Bool)}

theorem Lv {pre post : List Ck} {ck : Ck} {Φ : BW} {cs : List Value} (h : Bs Φ cs (pre ++ [ck] ++ post)) : ∃ xs ys zs, cs = xs ++ ys ++ zs ∧ xs.length = lens pre ∧ ck.rel Φ ys ∧ Bs Φ xs pre ∧ Bs Φ zs post := by
  obtain ⟨xs, ys, zs, rfl, h1, h2, h3⟩ := E8 h
  obtain ⟨y1, y2, rfl, hr, h4⟩ := h2
  have h4 : y2 = [] := h4
  subst h4
  exact ⟨xs, y1, zs, by simp, h1.len, hr, h1, h3⟩
theorem GX {t e : TypeId} {x y : Operand} {kk ki : IntKind} {l : List Int} {n : Nat} {i : Int} {post : List Ck} (hu : P.underlying t = some (.array n e)) (hs : ∀ w, (sizeOf e).run P w = .ok 1 w)
    (hx : Bk G N x (EI (B1 kk n l :: post))) (hy : Bk G N y (Ab ki i)) (hi : 0 ≤ i ∧ i < n) : BJ P G ⟨some d, .indexAddr t x y, ty, pos, af, gd⟩ N [] (fun _ => [.slot d (EI [one (Ab kk (l.getD i.toNat 0))])]) :=
  BJ.val fun Φ a w f _ hG hN => by
    obtain ⟨hy1, _⟩ := hy Φ a w f hG hN
    obtain ⟨b, o, cs, hv, ⟨ys, zs, rfl, ⟨hl, rfl, hin⟩, h2⟩, hp⟩ := hx Φ a w f hG hN
    have hit : i.toNat < l.length := by omega
    refine ⟨.pointer (some ⟨b, o + i.toNat * 1, none⟩), ?_, b, o + i.toNat * 1, [.int kk (l.getD i.toNat 0)], rfl, ⟨[_], [], rfl, ⟨_, rfl, rfl, rfl, hin _ (by simp [List.getD, hit])⟩, rfl⟩, fun j v hj => ?_⟩
    · simp only [execOp, hv, hy1]
      simp [Instr.indexAt, run_underlying hu, asIntOf, Instr.sureAddr, hi, hs, Addr.add_lit]
    · cases j with
      | zero =>
        simp at hj
        subst hj
        have := hp (i.toNat) (.int kk (l.getD i.toNat 0)) (by rw [List.getElem?_append_left (by simpa using hit)]; simp [List.getD, hit])
        simpa using this
      | succ j => simp at hj
theorem Jt {α : Type _} (l : List α) (i : Nat) (v : α) (h : i < l.length) : l.set i v = l.take i ++ v :: l.drop (i + 1) := by
  rw [List.set_eq_take_append_cons_drop, if_pos h]

theorem I8 {T T0 : TypeId} {x y : Operand} {p : Value} {k n : Nat} {V : VP} (pre post : List Ck) (ck ck' : Ck) (off : Nat) (hs : ∀ w, (sizeOf T).run P w = .ok n w)
    (hx : Bk G N x (BG p k)) (hy : Bk G N y V) (hk : k = lens pre + off)
    (hv : ∀ Φ cs v, ck.rel Φ cs → V.p Φ v → v.cells.size = n ∧ (∀ u ∈ v.cells.toList, u.oneCell' = true) ∧ off + n ≤ cs.length ∧ ck'.rel Φ (cs.take off ++ v.cells.toList ++ cs.drop (off + n))) :
    BJ P G ⟨none, .store T x y, ty, pos, af, gd⟩ N [.res (lb p T0 (pre ++ [ck] ++ post))] (fun _ => [.res (lb p T0 (pre ++ [ck'] ++ post))]) := by
  intro Φ a w fN fC h1 h2 h3 h4 h5 h6 h7 K Q hK
  match fC, h4 with
  | [f], ⟨⟨b, cs, hp, hf, hb, hL, hn⟩, _⟩ =>
    subst hf
    obtain ⟨b', hp', hv'⟩ := hx Φ a w fN h2 h3
    have : b' = b := by rw [hp] at hp'; simpa using hp'.symm
    subst this
    obtain ⟨xs, ys, zs, rfl, q1, q2, q3, q4⟩ := Lv hL
    obtain ⟨s1, s2, s3, s4⟩ := hv Φ ys _ q2 (hy Φ a w fN h2 h3)
    have hlen : (a.eval y).cells.toList.length = n := by simpa using s1
    obtain ⟨w', r1, r2, r3, r4, r5, r6, r7⟩ := EO (P := P) (b := b') (k := k) (a.eval y).cells.toList 0 w (xs ++ ys ++ zs) hb (by
      simp only [List.length_append] at *; omega) s2
    have hblk : w'.heap[b']? = some (.cells (xs ++ (ys.take off ++ (a.eval y).cells.toList ++ ys.drop (off + n)) ++ zs).toArray T0 (0, 0)) := by
      rw [r2]
      congr 3
      have e1 : (xs ++ ys ++ zs).take (k + 0) = xs ++ ys.take off := by
        rw [Nat.add_zero, hk, ← q1, List.append_assoc, List.take_length_add_append, List.take_append_of_le_length (by omega)]
      have e2 : (xs ++ ys ++ zs).drop (k + 0 + (a.eval y).cells.toList.length) = ys.drop (off + n) ++ zs := by
        rw [Nat.add_zero, hk, ← q1, hlen, Nat.add_assoc, List.append_assoc, List.drop_length_add_append, List.drop_append_of_le_length (by omega)]
      rw [e1, e2]
      simp
    have hrun : (execOp a.eval ⟨none, .store T x y, ty, pos, af, gd⟩).run P w = .ok .skip w' := by
      have hsz : ¬ (a.eval y).cells.size ≠ n := by simp [s1]
      simp only [execOp, hv', Instr.storeAt, Instr.sureAddr, storeVar, Sem.run_bind, Sem.run_pure, Result.andThen_ok, hs]
      simp only [if_neg hsz]
      simp [r1]
    unfold Oper.wp
    rw [hrun, Oper.upon_skip]
    refine hK undef w' Φ [[b']] ⟨r5, r6, r7, Nat.le_of_eq r4.symm, fun c hc' hne => r3 c (fun e => hne (by simp [e])), BW.le_refl _, fun _ _ _ => rfl⟩
      ⟨fun c o v e => by rw [r4]; exact h1.lt c o v e, fun c o v e => ?_⟩ ⟨⟨b', _, hp, rfl, hblk, (q3.append (M := [ck']) ⟨_, [], (List.append_nil _).symm, s4, rfl⟩).append q4, hn⟩, trivial⟩ (by simp) (fun c hc' => ?_)
    · have hne : c ≠ b' := fun e' => by rw [e', hn o] at e; cases e
      exact (World.cell?_of_block (w := w) (r3 c hne)).trans (h1.cell c o v e)
    · simp at hc'
      subst hc'
      have := h6 c (by simp)
      exact ⟨by rw [r4]; exact this, .inl (by simp)⟩
def Dn (m : Int) : UInt8 := UInt8.ofNat m.toNat
theorem Jm {m : Int} (h : Db .u8 m) : DE (Dn m) = .int .u8 m := by
  simp only [Db, IntKind.min, IntKind.max, IntKind.bits, IntKind.signed] at h
  simp at h
  unfold DE Dn
  congr 1
  have h1 : m.toNat < 256 := by omega
  have h2 : (UInt8.ofNat m.toNat).toNat = m.toNat := by simp; omega
  omega
theorem D4 {T T0 : TypeId} {x y : Operand} {p : Value} {k n : Nat} {l : List UInt8} {i m : Int} (pre post : List Ck) (hs : ∀ w, (sizeOf T).run P w = .ok 1 w)
    (hx : Bk G N x (BG p k)) (hy : Bk G N y (Ab .u8 m)) (hk : k = lens pre + i.toNat * 1) (hi : 0 ≤ i ∧ i < n) :
    BJ P G ⟨none, .store T x y, ty, pos, af, gd⟩ N [.res (lb p T0 (pre ++ [Af n l] ++ post))] (fun _ => [.res (lb p T0 (pre ++ [Af n (l.set i.toNat (Dn m))] ++ post))]) :=
  I8 pre post _ _ (i.toNat * 1) hs hx hy hk (by
    rintro Φ cs v ⟨hl, rfl⟩ ⟨rfl, hm⟩
    have hit : i.toNat < l.length := by omega
    refine ⟨rfl, by simp [Value.cells, Value.oneCell'], by rw [List.length_map]; omega, by simpa using hl, ?_⟩
    rw [Jt _ _ _ hit]
    simp [Value.cells, Jm hm])
theorem HM {t e : TypeId} {x y : Operand} {ki : IntKind} {l : List UInt8} {n : Nat} {i : Int} (hu : P.underlying t = some (.array n e)) (hs : ∀ w, (sizeOf e).run P w = .ok 1 w) (ha : ∀ w, (isAgg e).run P w = .ok false w)
    (hx : Bk G N x (Co [Af n l])) (hy : Bk G N y (Ab ki i)) (hi : 0 ≤ i ∧ i < n) : BJ P G ⟨some d, .index t x y, ty, pos, af, gd⟩ N [] (fun _ => [.slot d (Ab .u8 (l.getD i.toNat 0).toNat)]) :=
  BJ.val fun Φ a w f _ hG hN => by
    obtain ⟨hy1, _⟩ := hy Φ a w f hG hN
    obtain ⟨cs, hv, ys, zs, rfl, ⟨hl, rfl⟩, hz⟩ := hx Φ a w f hG hN
    have hz : zs = [] := hz
    subst hz
    have hit : i.toNat < l.length := by omega
    refine ⟨DE (l.getD i.toNat 0), ?_, rfl, FY _⟩
    simp only [execOp, hv, hy1]
    simp [Instr.index, asIntOf, run_underlying hu, hi, hs, part, ha, hit]

def NP (p : Value) (nn : Bool) : Prop := if nn then ∃ a, p = .pointer (some a) else p = .pointer none
def LW (p : Value) (nn : Bool) : VP := ⟨fun _ v => v = p ∧ NP p nn, fun _ h => h⟩
theorem K7 {t e : TypeId} {p : Value} {nn : Bool} (hu : P.underlying t = some (.pointer e)) : Iv P .eql t (LW p nn) (Bf (.pointer none)) (An (!nn)) := by
  rintro Φ u v w x y ⟨rfl, hp⟩ hv
  have hv : v = .pointer none := hv
  subst hv
  refine ⟨.bool (!nn), ?_, rfl⟩
  have hu' : P.underlying t = some (.pointer (P.pointee t)) := by rw [hu]; simp [Program.pointee, hu]
  cases nn with
  | true => obtain ⟨q, rfl⟩ := hp; simp [eqGuard_at_pointer, run_eql_pointer_nil w t (some q) hu']
  | false =>
    have hp : u = .pointer none := hp
    subst hp
    simp [eqGuard_at_pointer, run_eql_pointer_nil w t none hu']
end ops

end
section
open Go Go.RowKit

section rets
variable {P : Program} {c : Cx} {l : List Cp} {a : Act} {w : World}

def Kt (tmps : Array Value) : ResultVar → Sem Value
  | .tmp t => pure (tmps.getD t undef)
  | .cell x t => do loadVar t (← asAddr (tmps.getD x undef))
theorem Fi (fn : Func) (tmps : Array Value) : results fn tmps = (fn.results.mapM (Kt tmps) >>= fun vs => pure (if h : vs.size = 1 then vs[0] else .tuple vs)) := rfl
def ML (P : Program) (c : Cx) (l : List Cp) (r : ResultVar) (V : VP) : Prop := ∀ (a : Act) (w : World) (Φ : BW) (fp : Nat → List Nat), I0 c (BR .none l) (fun i => i < l.length) a w Φ fp →
  ∃ v, (Kt a.tmps r).run P w = .ok v w ∧ V.p Φ v
theorem By {t : Nat} {V : VP} (i : Nat) (he : BR .none l i = .slot t V) : ML P c l (.tmp t) V := by
  intro a w Φ fp h
  have hi := DP he (by simp)
  have := h.holds i hi
  rw [he] at this
  obtain ⟨_, v, hv, hV⟩ := this
  exact ⟨v, by simp [Kt, hv], hV⟩
def Ld (P : Program) (c : Cx) (l : List Cp) : List ResultVar → List VP → Prop
  | [], [] => True
  | r :: rs, V :: Vs => ML P c l r V ∧ Ld P c l rs Vs
  | _, _ => False

theorem Ku {Φ : BW} {fp : Nat → List Nat} (h : I0 c (BR .none l) (fun i => i < l.length) a w Φ fp) : ∀ {rs : List ResultVar} {Vs : List VP}, Ld P c l rs Vs →
    ∃ vs : List Value, (rs.mapM (Kt a.tmps)).run P w = .ok vs w ∧ D8 Φ Vs vs
  | [], [], _ => ⟨[], rfl, trivial⟩
  | r :: rs, V :: Vs, hr => by
    obtain ⟨v, h1, h2⟩ := hr.1 a w Φ fp h
    obtain ⟨vs, h3, h4⟩ := Ku h hr.2
    refine ⟨v :: vs, ?_, h2, h4⟩
    simp only [List.mapM_cons, Sem.run_bind, h1, Result.andThen_ok, h3]
    rfl
  | [], _ :: _, h => h.elim
  | _ :: _, [], h => h.elim

theorem I0.Mi {Φ : BW} {fp : Nat → List Nat} (h : I0 c (BR .none l) (fun i => i < l.length) a w Φ fp) (js : List Nat) (hd : distinct js = true) (hlt : ∀ j ∈ js, j < l.length) (Rs : List RP) (hR : Rs.map .res = js.map (BR .none l)) :
    ∃ fs, Fu Φ w Rs fs ∧ fs.flatten.Nodup ∧ ∀ b ∈ fs.flatten, b < w.heap.size ∧ (b ∈ c.F0 ∨ c.w0.heap.size ≤ b) := by
  have hnd := DM hd
  refine ⟨js.map fp, ?_, Et hnd (fun r hr => (h.own r (hlt r hr)).1) (fun r hr s hs hne => h.apart r s (hlt r hr) (hlt s hs) hne), fun b hb => ?_⟩
  · have h1 : Cn Φ a.tmps w (js.map (BR .none l)) (js.map fp) := Cn.of_map _ _ _ fun r hr => h.holds r (hlt r hr)
    rw [← hR] at h1
    exact h1.Ja
  · obtain ⟨s, hs, hbs⟩ := List.mem_flatten.1 hb
    obtain ⟨r, hr, rfl⟩ := List.mem_map.1 hs
    exact (h.own r (hlt r hr)).2 b hbs

theorem Cv {fn : Func} {r : ResultVar} {V : VP} (h : A0 c l a w) (hr : fn.results = #[r]) (hV : ML P c l r V) (js : List Nat) (Rs : List RP) (hd : distinct js = true) (hlt : (js.all fun j => decide (j < l.length)) = true) (hR : Rs.map .res = js.map (BR .none l)) :
    DF P fn c V (fun _ => Rs) a w := by
  obtain ⟨Φ, fp, h⟩ := h
  obtain ⟨v, h1, h2⟩ := hV a w Φ fp h
  obtain ⟨fs, q1, q2, q3⟩ := h.Mi js hd (fun j hj => by simpa using (List.all_eq_true.1 hlt) j hj) Rs hR
  refine ⟨h.defers, v, Φ, fs, ?_, h.step, h.Iw, h2, q1, q2, q3⟩
  rw [Fi, hr]
  simp [h1]
theorem Gw {fn : Func} {rs : List ResultVar} {Vs : List VP} (h : A0 c l a w) (hr : fn.results = rs.toArray) (hn : rs.length ≠ 1) (hV : Ld P c l rs Vs) (js : List Nat) (Rs : List RP) (hd : distinct js = true) (hlt : (js.all fun j => decide (j < l.length)) = true) (hR : Rs.map .res = js.map (BR .none l)) :
    DF P fn c (DJ Vs) (fun _ => Rs) a w := by
  obtain ⟨Φ, fp, h⟩ := h
  obtain ⟨vs, h1, h2⟩ := Ku h hV
  obtain ⟨fs, q1, q2, q3⟩ := h.Mi js hd (fun j hj => by simpa using (List.all_eq_true.1 hlt) j hj) Rs hR
  have hlen : vs.length = rs.length := by
    have e1 := h2.length
    have e2 : ∀ {rs : List ResultVar} {Vs : List VP}, Ld P c l rs Vs → rs.length = Vs.length := by
      intro rs
      induction rs with
      | nil => intro Vs h; cases Vs <;> simp_all [Ld]
      | cons r rs ih => intro Vs h; cases Vs with
                                    | nil => exact h.elim
                                    | cons V Vs => simp [ih h.2]
    rw [e1, e2 hV]
  refine ⟨h.defers, .tuple vs.toArray, Φ, fs, ?_, h.step, h.Iw, ⟨vs, rfl, h2⟩, q1, q2, q3⟩
  rw [Fi, hr]
  simp only [List.mapM_toArray, Sem.run_bind, Sem.run_map, h1, Result.andThen_ok]
  rw [dif_neg (by simp [hlen, hn])]
  rfl
end rets

def acc {α : Type} (v : Value) (T : TypeId) (sz : Nat) (c : α → List Ck) (xs : List α) : RP := ⟨fun Φ f w => xs.length ≤ Bw ∧ ((v = .slice none 0 0 ∧ xs = [] ∧ f = []) ∨
    ∃ b cap cs zs, v = .slice (some ⟨b, 0, none⟩) xs.length cap ∧ f = [b] ∧ w.heap[b]? = some (.cells (cs ++ zs).toArray T (0, 0)) ∧ CY Φ c cs xs ∧ (cs ++ zs).length = cap * sz ∧ xs.length ≤ cap ∧ Eg Φ b 0 cs ∧ ∀ o, cs.length ≤ o → Φ b o = none), by
  rintro Φ Φ' f w w' hle hs hb ⟨hm, ⟨h1, h2, h3⟩ | ⟨b, cap, cs, zs, h1, h2, h3, h4, h5, h6, h7, h8⟩⟩
  · exact ⟨hm, .inl ⟨h1, h2, h3⟩⟩
  · refine ⟨hm, .inr ⟨b, cap, cs, zs, h1, h2, ?_, h4.mono hle, h5, h6, h7.mono hle, fun o ho => ?_⟩⟩
    · rw [hb b (by simp [h2])]; exact h3
    · rw [hs b (by simp [h2])]; exact h8 o ho⟩

theorem HK (z : Array Value) (n : Nat) : (Builtin.zeroCells z n).toList.length = n * z.size := by simp [Builtin.zeroCells]

section ops
variable {P : Program} {G : FP} {N : List Cp} {d : Nat} {ty : TypeId} {pos : String} {af : Array Edge} {gd : Option (Nat × Bool)}

theorem Jn {α : Type} {v : Value} {T : TypeId} {sz : Nat} {c : α → List Ck} {xs : List α} {Φ : BW} {f : List Nat} {w : World} (h : (acc v T sz c xs).p Φ f w) : (Ai c xs).p Φ v := by
  obtain ⟨hm, ⟨h1, h2, _⟩ | ⟨b, cap, cs, zs, h1, _, _, h4, _, h6, h7, _⟩⟩ := h
  · exact ⟨hm, .inl ⟨h1, h2⟩⟩
  · exact ⟨hm, .inr (.inl ⟨b, 0, cap, cs, h1, h6, h4, h7⟩)⟩
theorem Jy {α : Type} {v : Value} {T : TypeId} {sz : Nat} {c : α → List Ck} {xs : List α} {t : Nat} (i j : Nat) (he : BR .none N i = .slot t (Bf v)) (hf : BR .none N j = .res (acc v T sz c xs)) : Bk G N (.tmp t) (Ai c xs) := by
  intro Φ a w f _ hN
  have hi := DP he (by simp)
  obtain ⟨g, hg, _⟩ := hN.nth i hi
  rw [he] at hg
  obtain ⟨_, u, hu, hV⟩ := hg
  have hV : u = v := hV
  subst hV
  obtain ⟨g', hr⟩ := hN.res j hf
  have := Jn hr
  simpa [Act.eval, hu] using this
end ops

theorem MX {P : Program} {c : Cx} {l : List Cp} {α : Type} {v : Value} {T : TypeId} {sz : Nat} {ck : α → List Ck} {xs : List α} {t : Nat} (i j : Nat) (he : BR .none l i = .slot t (Bf v)) (hf : BR .none l j = .res (acc v T sz ck xs)) :
    ML P c l (.tmp t) (Ai ck xs) := by
  intro a w Φ fp h
  have hi := DP he (by simp)
  have hj := DP hf (by simp)
  have h1 := h.holds i hi
  rw [he] at h1
  obtain ⟨_, u, hu, hV⟩ := h1
  have hV : u = v := hV
  subst hV
  have h2 := h.holds j hj
  rw [hf] at h2
  exact ⟨u, by simp [Kt, hu], Jn h2⟩

theorem A0.Mn {c : Cx} {l : List Cp} {a : Act} {w : World} {α : Type} (T : TypeId) (sz : Nat) (ck : α → List Ck) (h : A0 c l a w) : A0 c (l ++ [.res (acc (.slice none 0 0) T sz ck ([] : List α))]) a w := by
  obtain ⟨Φ, fp, h⟩ := h
  have hx : ∀ i, i < l.length → BR Cp.none (l ++ [.res (acc (.slice none 0 0) T sz ck ([] : List α))]) i = BR .none l i := fun i hi => by rw [Ce, if_pos hi]
  refine ⟨Φ, fun i => if i < l.length then fp i else [], h.defers, h.size, h.Iw, h.GL, h.step, fun i hi => ?_, fun i hi => ?_, fun i j hi hj hne => ?_⟩
  · by_cases hlt : i < l.length
    · rw [hx i hlt]; simp only [if_pos hlt]; exact h.holds i hlt
    · have : i = l.length := by simp at hi; omega
      subst this
      rw [Ce, if_neg hlt]
      simp only [if_neg hlt]
      simp only [Nat.sub_self]
      exact ⟨by simp [Bw], .inl ⟨rfl, rfl, rfl⟩⟩
  · by_cases hlt : i < l.length
    · simp only [if_pos hlt]; exact h.own i hlt
    · simp [hlt]
  · by_cases hlt : i < l.length
    · by_cases hlt2 : j < l.length
      · simp only [if_pos hlt, if_pos hlt2]; exact h.apart i j hlt hlt2 hne
      · simp [hlt2]
    · simp [hlt]

end
section
open Go Go.RowKit

structure Src (P : Program) (w : World) (sT xT ty e : TypeId) (i : TypeInfo) (z : Value) (u : Value) (n : Nat) (ds : List Value) : Prop where
  room : ∀ (g sLen sCap : Nat) (cur : Array Value), w.heap[g]? = some (.cells cur e (0, 0)) → sLen + n ≤ sCap → sLen * i.size + ds.length ≤ cur.size →
    (Builtin.append_ #[sT, xT] ty #[.slice (some ⟨g, 0, none⟩) sLen sCap, u]).run P w = .ok (.slice (some ⟨g, 0, none⟩) (sLen + n) sCap) (w.setRow g (cur.toList.take (sLen * i.size) ++ ds ++ cur.toList.drop (sLen * i.size + ds.length)).toArray)
  grow : ∀ (b : Addr) (sLen sCap : Nat) (olds : List Value), olds.length = sLen * i.size → (∀ j v, olds[j]? = some v → w.cell? (b.add j) = some v) → sLen ≤ sCap → sCap < sLen + n → ((sLen + n : Nat) : Int) ≤ 9223372036854775807 → Builtin.nextslicecap (sLen + n) sCap * i.bytes ≤ 281474976710656 →
    (Builtin.append_ #[sT, xT] ty #[.slice (some b) sLen sCap, u]).run P w = .ok (.slice (some ⟨w.heap.size, 0, none⟩) (sLen + n) (grownCap w (sLen + n) sCap e)) (w.drew.alloc (.cells (olds.toArray ++ ds.toArray ++ Builtin.zeroCells z.cells (grownCap w (sLen + n) sCap e - (sLen + n))) e))
  fresh : 0 < n → (n : Int) ≤ 9223372036854775807 → n * i.bytes ≤ 281474976710656 →
    (Builtin.append_ #[sT, xT] ty #[.slice none 0 0, u]).run P w = .ok (.slice (some ⟨w.heap.size, 0, none⟩) n (grownCap w n 0 e)) (w.drew.alloc (.cells (ds.toArray ++ Builtin.zeroCells z.cells (grownCap w n 0 e - n)) e))
  idle : n = 0 → (Builtin.append_ #[sT, xT] ty #[.slice none 0 0, u]).run P w = .ok (.slice none 0 0) w

section
variable {P : Program} {w : World} {sT xT ty e : TypeId} {i : TypeInfo} {z : Value}
theorem Src.slice {a : Addr} {n cap : Nat} {ds : List Value} (ht : P.underlying sT = some (.slice e)) (hi : P.info? e = some i) (hz : i.zero = some z) (hl : ds.length = n * i.size) (hd : ∀ j v, ds[j]? = some v → w.cell? (a.add j) = some v) (h1 : ∀ v ∈ ds, v.oneCell' = true) :
    Src P w sT sT ty e i z (.slice (some a) n cap) n ds where
  room g sLen sCap cur hg hr hf := run_append_room w sT ty e i ht hi g sLen sCap cur hg a n cap ds hl hd h1 hr hf
  grow b sLen sCap olds ho hoc _ hc h63 hfit := run_append_grow w sT ty e i z ht hi hz b sLen sCap olds ho hoc a n cap ds hl hd hc h63 hfit
  fresh h0 h63 h48 := run_append_nil w sT ty e i z ht hi hz a n cap ds hl hd h0 h63 h48
  idle h0 := by
    subst h0
    simp [Builtin.append_, run_underlying ht, sizeOf, typeInfo, hi, Builtin.lenOf, Builtin.firstCells, loadCells, loadCellsFrom]
theorem Src.nil (ht : P.underlying sT = some (.slice e)) (hi : P.info? e = some i) : Src P w sT sT ty e i z (.slice none 0 0) 0 [] where
  room g sLen sCap cur hg hr hf := by
    simp only [Nat.add_zero] at hr ⊢
    have hrow : w.setRow g (cur.toList.take (sLen * i.size) ++ [] ++ cur.toList.drop (sLen * i.size + ([] : List Value).length)).toArray = w := by
      have e1 : (cur.toList.take (sLen * i.size) ++ [] ++ cur.toList.drop (sLen * i.size + ([] : List Value).length)).toArray = cur := by simp
      rw [e1]
      exact setRow_self w g cur e _ hg
    rw [hrow]
    simp [Builtin.append_, run_underlying ht, sizeOf, typeInfo, hi, Builtin.lenOf, Builtin.firstCells, hr, storeCells]
  grow b sLen sCap olds _ _ h1 h2 := by omega
  fresh h0 := by omega
  idle _ := by simp [Builtin.append_, run_underlying ht, sizeOf, typeInfo, hi, Builtin.lenOf, Builtin.firstCells]
theorem Src.string {l : List UInt8} (ht : P.underlying sT = some (.slice e)) (hx : P.underlying xT = some .string) (hi : P.info? e = some i) (hz : i.zero = some z) (h1 : i.size = 1) (hb : i.bytes = 1) : Src P w sT xT ty e i z (.string ⟨l.toArray⟩) l.length (l.map DE) where
  room g sLen sCap cur hg hr hf := by
    have := Lib.run_append_room_string (P := P) w sT xT ty e i ht hx hi h1 g sLen sCap cur hg ⟨l.toArray⟩ (by rw [C6]; exact hr) (by rw [C6]; rw [h1, Nat.mul_one, List.length_map] at hf; exact hf)
    rw [C6] at this
    rw [this, h1]
    simp [Lib.strCells, DE, Function.comp_def]
    rfl
  grow b sLen sCap olds ho hoc _ hc h63 hfit := by
    have := Lib.run_append_grow_string (P := P) w sT xT ty e i z ht hx hi hz b sLen sCap olds ho hoc ⟨l.toArray⟩ (by rw [C6]; exact hc) (by rw [C6]; exact h63) (by rw [C6]; exact hfit)
    rw [C6] at this
    rw [this]
    simp [Lib.strCells, DE, Function.comp_def]
    rfl
  fresh h0 h63 h48 := by
    have := run_append_nil_string (P := P) w sT xT ty e i z ht hx hi hz ⟨l.toArray⟩ (by rw [C6]; exact h0) (by rw [C6]; exact h63) (by rw [C6]; exact h48)
    rw [C6] at this
    rw [this]
    simp [DE, Function.comp_def]
    rfl
  idle h0 := by
    have : l = [] := List.eq_nil_of_length_eq_zero h0
    subst this
    simp [Builtin.append_, run_underlying ht, run_underlying hx, sizeOf, typeInfo, hi, Builtin.lenOf, Builtin.firstCells, C6]
end

theorem Jo {α : Type} {P : Program} {w : World} {sT xT ty e : TypeId} {i : TypeInfo} {z : Value} {u v : Value} {c : α → List Ck} {xs ys : List α} {ds : List Value} {Φ : BW} {f : List Nat} (hS : Src P w sT xT ty e i z u ys.length ds) (hsz : ∀ x, lens (c x) = i.size) (hpos : 0 < i.size) (hzs : z.cells.size = i.size)
    (hP : Du Φ w) (hf : ∀ b ∈ f, b < w.heap.size) (h : (acc v e i.size c xs).p Φ f w) (hA : CY Φ c ds ys) (hm : xs.length + ys.length ≤ Bw) (hb : (xs.length + ys.length) * i.bytes ≤ 140737488355328) :
    ∃ (v' : Value) (w' : World) (Φ' : BW) (f' : List Nat), (Builtin.append_ #[sT, xT] ty #[v, u]).run P w = .ok v' w' ∧ (acc v' e i.size c (xs ++ ys)).p Φ' f' w' ∧ Step w Φ f w' Φ' ∧ Du Φ' w' ∧ f'.Nodup ∧ ∀ b ∈ f', b < w'.heap.size ∧ (b ∈ f ∨ w.heap.size ≤ b) := by
  have hdl : ds.length = ys.length * i.size := hA.len hsz
  have h63 : ((xs.length + ys.length : Nat) : Int) ≤ 9223372036854775807 := by have := (Fp hm).2; simp [IntKind.max, IntKind.bits, IntKind.signed] at this; omega
  -- a new block
  have hnew : ∀ (cs : List Value) (cap : Nat) (v0 : Value), CY Φ c cs xs → xs.length + ys.length ≤ cap → v0 = .slice (some ⟨w.heap.size, 0, none⟩) (xs.length + ys.length) cap →
      ∀ w', w' = w.drew.alloc (.cells (cs.toArray ++ ds.toArray ++ Builtin.zeroCells z.cells (cap - (xs.length + ys.length))) e) →
      (Builtin.append_ #[sT, xT] ty #[v, u]).run P w = .ok v0 w' →
      ∃ (v' : Value) (w' : World) (Φ' : BW) (f' : List Nat), (Builtin.append_ #[sT, xT] ty #[v, u]).run P w = .ok v' w' ∧ (acc v' e i.size c (xs ++ ys)).p Φ' f' w' ∧ Step w Φ f w' Φ' ∧ Du Φ' w' ∧ f'.Nodup ∧ ∀ b ∈ f', b < w'.heap.size ∧ (b ∈ f ∨ w.heap.size ≤ b) := by
    intro cs cap v0 hcs hcap hv w' hw hr
    subst hw
    let Φ' : BW := fun b o => if b = w.heap.size then (cs ++ ds)[o]? else Φ b o
    have hle : BW.le Φ Φ' := fun b o v e => by
      have := hP.lt b o v e
      simp only [Φ', if_neg (by omega : ¬ b = w.heap.size)]
      exact e
    refine ⟨v0, _, Φ', [w.heap.size], hr, ⟨by simpa using hm, .inr ⟨w.heap.size, cap, cs ++ ds, (Builtin.zeroCells z.cells (cap - (xs.length + ys.length))).toList, by rw [hv]; simp, rfl, ?_, (hcs.append hA).mono hle, ?_, by simpa using hcap, fun j v hj => ?_, fun o ho => ?_⟩⟩, ?_, ⟨fun b o v e => ?_, fun b o v e => ?_⟩, by simp, by simp⟩
    · rw [show w.heap.size = w.drew.heap.size from rfl, heap_alloc_new]
      congr 2
      apply Array.ext'
      simp
    · have h1 := hcs.len hsz
      simp only [List.length_append, h1, hdl, HK, hzs]
      rw [← Nat.add_mul, ← Nat.add_mul]
      congr 1
      omega
    · simp only [Φ', if_pos trivial, Nat.zero_add]; exact hj
    · simp only [Φ', if_pos trivial]
      exact List.getElem?_eq_none ho
    · exact ⟨rfl, rfl, rfl, by simp, fun b hb _ => @Go.heap_alloc_old w.drew _ b hb, hle, fun b hb _ => by funext o; simp only [Φ', if_neg (by omega : ¬ b = w.heap.size)]⟩
    · by_cases hbb : b = w.heap.size
      · simp [hbb]
      · simp only [Φ', if_neg hbb] at e
        have := hP.lt b o v e
        simp; omega
    · by_cases hbb : b = w.heap.size
      · subst hbb
        simp only [Φ', if_pos trivial] at e
        rw [show w.heap.size = w.drew.heap.size from rfl, World.cell?_alloc_new]
        have hlt : o < (cs ++ ds).length := by
          rcases Nat.lt_or_ge o (cs ++ ds).length with q | q
          · exact q
          · rw [List.getElem?_eq_none q] at e; cases e
        rw [Array.getElem?_append_left (by simpa using hlt)]
        simpa using e
      · simp only [Φ', if_neg hbb] at e
        rw [World.cell?_alloc_lt _ _ _ (show b < w.drew.heap.size from hP.lt b o v e)]
        exact hP.cell b o v e
  obtain ⟨hm0, ⟨rfl, rfl, rfl⟩ | ⟨b, cap, cs, zs, rfl, rfl, hblk, hcs, hlen, hcap, hpub, hfree⟩⟩ := h
  · by_cases h0 : ys.length = 0
    · have hy : ys = [] := List.eq_nil_of_length_eq_zero h0
      subst hy
      exact ⟨.slice none 0 0, w, Φ, [], hS.idle rfl, ⟨by simp [Bw], .inl ⟨rfl, rfl, rfl⟩⟩, Step.refl _ _ _, hP, List.nodup_nil, by simp⟩
    · have hr := hS.fresh (by omega) (by simpa using h63) (by simp at hb; omega)
      refine hnew [] (grownCap w ys.length 0 e) _ rfl ?_ (by simp) _ ?_ hr
      · have := grownCap_ge w ys.length 0 e; simpa using this
      · simp
  · have hcl := hcs.len hsz
    by_cases hroom : xs.length + ys.length ≤ cap
    · have hfit : xs.length * i.size + ds.length ≤ (cs ++ zs).toArray.size := by
        simp only [List.size_toArray, hlen, hdl, ← Nat.add_mul]
        exact Nat.mul_le_mul_right _ hroom
      have hr := hS.room b xs.length cap (cs ++ zs).toArray hblk hroom hfit
      have hrow : ((cs ++ zs).toArray.toList.take (xs.length * i.size) ++ ds ++ (cs ++ zs).toArray.toList.drop (xs.length * i.size + ds.length)) = cs ++ ds ++ zs.drop ds.length := by
        simp only [← hcl]
        rw [List.take_left, List.drop_length_add_append]
      rw [hrow] at hr
      let Φ' : BW := fun b' o => if b' = b then (cs ++ ds)[o]? else Φ b' o
      have hle : BW.le Φ Φ' := fun b' o v' e' => by
        by_cases hbb : b' = b
        · subst hbb
          simp only [Φ', if_pos trivial]
          rcases Nat.lt_or_ge o cs.length with q | q
          · have := hpub o cs[o] (by simp [q])
            rw [Nat.zero_add, e'] at this
            rw [List.getElem?_append_left q, List.getElem?_eq_getElem q]
            exact this.symm
          · rw [hfree o q] at e'; cases e'
        · simp only [Φ', if_neg hbb]; exact e'
      have hb0 := hf b (by simp)
      have hnb : (w.setRow b (cs ++ ds ++ zs.drop ds.length).toArray).heap[b]? = some (.cells (cs ++ ds ++ zs.drop ds.length).toArray e (0, 0)) := setRow_heap w b _ _ e _ hblk
      refine ⟨_, _, Φ', [b], hr, ⟨by simpa using hm, .inr ⟨b, cap, cs ++ ds, zs.drop ds.length, by simp, rfl, hnb, (hcs.append hA).mono hle, ?_, by simpa using hroom, fun j v hj => ?_, fun o ho => ?_⟩⟩, ?_, ⟨fun b' o v' e' => ?_, fun b' o v' e' => ?_⟩, by simp, by simpa using hb0⟩
      · simp only [List.length_append, List.length_drop] at hlen ⊢
        have : (xs.length + ys.length) * i.size ≤ cap * i.size := Nat.mul_le_mul_right _ hroom
        rw [Nat.add_mul] at this
        omega
      · simp only [Φ', if_pos trivial, Nat.zero_add]; exact hj
      · simp only [Φ', if_pos trivial]
        exact List.getElem?_eq_none ho
      · exact ⟨rfl, rfl, rfl, by simp, fun b' hb' hne => setRow_other w b b' _ (by simpa using hne), hle, fun b' hb' hne => by funext o; simp only [Φ', if_neg (by simpa using hne : ¬ b' = b)]⟩
      · rw [setRow_size]
        by_cases hbb : b' = b
        · rw [hbb]; exact hb0
        · simp only [Φ', if_neg hbb] at e'
          exact hP.lt b' o v' e'
      · by_cases hbb : b' = b
        · subst hbb
          simp only [Φ', if_pos trivial] at e'
          rw [cell_of hnb]
          have hlt : o < (cs ++ ds).length := by
            rcases Nat.lt_or_ge o (cs ++ ds).length with q | q
            · exact q
            · rw [List.getElem?_eq_none q] at e'; cases e'
          rw [List.getElem?_append_left hlt]
          exact e'
        · simp only [Φ', if_neg hbb] at e'
          exact (World.cell?_of_block (w := w) (setRow_other w b b' _ hbb)).trans (hP.cell b' o v' e')
    · have hr := hS.grow ⟨b, 0, none⟩ xs.length cap cs hcl (fun j v hj => by rw [Addr.add_lit]; exact hP.cell _ _ _ (hpub j v hj)) hcap (by omega) h63 (growslice_fits (by omega) hb)
      refine hnew cs (grownCap w (xs.length + ys.length) cap e) _ hcs (grownCap_ge w _ _ e) rfl _ rfl hr

section ops
variable {P : Program} {G : FP} {N : List Cp} {d : Nat} {ty : TypeId} {pos : String} {af : Array Edge} {gd : Option (Nat × Bool)}

theorem GF {α : Type} {v : Value} {e sT xT : TypeId} {i : TypeInfo} {z : Value} {c : α → List Ck} {xs ys : List α} {s x : Operand} (hsz : ∀ x, lens (c x) = i.size) (hpos : 0 < i.size) (hzs : z.cells.size = i.size) (hs : Bk G N s (Bf v))
    (hx : ∀ (Φ : BW) (a : Act) (w : World) (f : List (List Nat)), Du Φ w → G.p Φ → Cn Φ a.tmps w N f → ∃ ds, Src P w sT xT ty e i z (a.eval x) ys.length ds ∧ CY Φ c ds ys) (hm : xs.length + ys.length ≤ Bw) (hb : (xs.length + ys.length) * i.bytes ≤ 140737488355328) :
    BJ P G ⟨some d, .call ⟨.builtin .append, #[s, x], #[sT, xT]⟩, ty, pos, af, gd⟩ N [.res (acc v e i.size c xs)] (fun v' => [.slot d (Bf v'), .res (acc v' e i.size c (xs ++ ys))]) := by
  intro Φ a w fN fC h1 h2 h3 h4 h5 h6 h7 K Q hK
  match fC, h4 with
  | [f], ⟨hacc, _⟩ =>
  obtain ⟨ds, hS, hA⟩ := hx Φ a w fN h1 h2 h3
  have hv : a.eval s = v := hs Φ a w fN h2 h3
  obtain ⟨v', w', Φ', f', hr, hacc', hst, hP', hnd, hfb⟩ := Jo hS hsz hpos hzs h1 (fun b hb => h6 b (by simp [hb])) hacc hA hm hb
  have hrun : (execOp a.eval ⟨some d, .call ⟨.builtin .append, #[s, x], #[sT, xT]⟩, ty, pos, af, gd⟩).run P w = .ok (.value v') w' := by
    simp only [execOp, resolve, List.map_toArray, List.map_cons, List.map_nil, hv, Sem.run_bind, Sem.run_pure, Result.andThen_ok, invoke, builtin, hr]
  unfold Oper.wp
  rw [hrun, Oper.upon_value]
  exact hK v' w' Φ' [[], f'] (by simpa using hst) hP' ⟨⟨rfl, v', DH a v' d (h7 d rfl), rfl⟩, hacc', trivial⟩ (by simpa using hnd) (by simpa using hfb)

theorem GZ {α : Type} {v : Value} {e sT : TypeId} {i : TypeInfo} {z : Value} {c : α → List Ck} {xs ys : List α} {s x : Operand} (ht : P.underlying sT = some (.slice e)) (hi : P.info? e = some i) (hz : i.zero = some z) (hsz : ∀ x, lens (c x) = i.size) (hpos : 0 < i.size) (hzs : z.cells.size = i.size)
    (hs : Bk G N s (Bf v)) (hx : Bk G N x (Ai c ys)) (hb : xs.length + ys.length ≤ Bw ∧ (xs.length + ys.length) * i.bytes ≤ 140737488355328) :
    BJ P G ⟨some d, .call ⟨.builtin .append, #[s, x], #[sT, sT]⟩, ty, pos, af, gd⟩ N [.res (acc v e i.size c xs)] (fun v' => [.slot d (Bf v'), .res (acc v' e i.size c (xs ++ ys))]) :=
  GF hsz hpos hzs hs (fun Φ a w f hP hG hN => by
    obtain ⟨_, ⟨hv, rfl⟩ | ⟨b, o, cap, ds, hv, _, hA, hp⟩ | ⟨rfl, b, cap, hv⟩⟩ := hx Φ a w f hG hN
    · rw [hv]; exact ⟨[], Src.nil ht hi, rfl⟩
    rotate_left
    · rw [hv]; exact ⟨[], Src.slice ht hi hz (by simp) (fun j v hj => by simp at hj) (by simp), rfl⟩
    · rw [hv]; exact ⟨ds, Src.slice ht hi hz (hA.len hsz) (fun j v hj => by rw [Addr.add_lit]; exact hP.cell _ _ _ (hp j v hj)) hA.cell, hA⟩) hb.1 hb.2
def bC (b : UInt8) : List Ck := [one (Ab .u8 b.toNat)]
theorem Fo (b : UInt8) : lens (bC b) = 1 := rfl
theorem Gj (Φ : BW) : ∀ (l : List UInt8), CY Φ bC (l.map DE) l
  | [] => rfl
  | b :: l => ⟨[DE b], l.map DE, rfl, ⟨[_], [], rfl, ⟨_, rfl, rfl, rfl, FY b⟩, rfl⟩, Gj Φ l⟩
theorem F6 {v : Value} {e sT xT : TypeId} {i : TypeInfo} {z : Value} {xs l : List UInt8} {s x : Operand} (ht : P.underlying sT = some (.slice e)) (hxt : P.underlying xT = some .string) (hi : P.info? e = some i) (hz : i.zero = some z) (h1 : i.size = 1) (hb1 : i.bytes = 1) (hzs : z.cells.size = i.size)
    (hs : Bk G N s (Bf v)) (hx : Bk G N x (AF l)) (hb : xs.length + l.length ≤ Bw ∧ (xs.length + l.length) * i.bytes ≤ 140737488355328) :
    BJ P G ⟨some d, .call ⟨.builtin .append, #[s, x], #[sT, xT]⟩, ty, pos, af, gd⟩ N [.res (acc v e i.size bC xs)] (fun v' => [.slot d (Bf v'), .res (acc v' e i.size bC (xs ++ l))]) :=
  GF (fun x => by rw [h1]; rfl) (by omega) hzs hs (fun Φ a w f hP hG hN => by
    obtain ⟨hv, _⟩ := hx Φ a w f hG hN
    rw [hv]; exact ⟨_, Src.string ht hxt hi hz h1 hb1, Gj Φ l⟩) hb.1 hb.2
end ops

end
section
open Go Go.RowKit

def Ec (n : Nat) (l : List Cp) (gs : List GE) (own : List Nat) (ops : List GR) : C1 :=
  ⟨n, l.map .base ++ gs, l.map (fun _ => none) ++ own.map some, ops⟩

def Hw (p : C1) (ops : Array Oper) (draw : Bool) (gl : Nat) (ol : Nat) (ks : List Nat) : Bool :=
  p.check && (if draw then p.HI ops else p.checkSeq) && decide (p.ops.length = ops.size) && decide (gl = ol) && distinct ks &&
    (ks.all fun r => decide (r < p.FT.length) && (List.range p.ops.length).all fun k => !(p.op k).cons.contains r)

theorem Fb {P : Program} {c : Cx} {id n : Nat} {ops : Array Oper} {draw : Bool} {Q : Exit → Act → World → Prop} {a : Act} {w : World} {l : List Cp} (gs : List GE) (own : List Nat) (refs : List GR) (ks : List Nat) {G : FP} (hm : P.follows .mixedOrders = true) (hn : c.n = n) (hG : c.G = G)
    (h : A0 c l a w) (hc : Hw (Ec n l gs own refs) ops draw gs.length own.length ks = true) (hops : (Ec n l gs own refs).Ok P G ops ops.toList 0)
    (hQ : ∀ (β : Nat → Value) (a : Act) (w : World), A0 c (ks.map ((Ec n l gs own refs).E β)) a w → Q .normal a w) : (Code.region id ops draw).wp P Q a w := by
  subst hG
  simp only [Hw, Bool.and_eq_true, decide_eq_true_eq] at hc
  obtain ⟨⟨⟨⟨⟨hc1, hc2⟩, hc3⟩, hc4⟩, hc5⟩, hc6⟩ := hc
  have hs : Sat c ((Ec n l gs own refs).E fun _ => undef) ((Ec n l gs own refs).alive fun _ => False) a w := by
    refine h.NV _ (fun r hr ho => ?_) (fun r hr => ?_)
    · rcases Nat.lt_or_ge r l.length with q | q
      · exact q
      · exfalso
        simp only [C1.owner, Ec] at ho
        rw [Ce] at ho
        simp only [List.length_map, if_neg (by omega : ¬ r < l.length)] at ho
        have hr' : r - l.length < own.length := by
          simp [Ec] at hr
          omega
        rw [GI 0 none some own _ hr'] at ho
        cases ho
    · simp only [C1.E, Ec]
      rw [Ce, if_pos (by simpa using hr), GI .none _ _ _ _ hr]
      rfl
  have hQ' : ∀ a w β, Sat c ((Ec n l gs own refs).E β) ((Ec n l gs own refs).alive fun k => k < (Ec n l gs own refs).ops.length) a w → Q .normal a w :=
    fun a w β hk => hQ β a w (Sat.Mp hk hc1 ks hc5 hc6)
  cases draw with
  | true => exact Jc _ hm hn.symm hc1 (by simpa using hc2) hc3 hops hs hQ'
  | false => exact Jb _ hn.symm hc1 (by simpa using hc2) hc3 hops hs hQ'

end
section
open Go Go.RowKit

theorem AH {α : Type} {c : Prop} [Decidable c] {x : Option α} {r : α} (h : (if c then x else none) = some r) : c ∧ x = some r := by
  by_cases hc : c
  · rw [if_pos hc] at h; exact ⟨hc, h⟩
  · rw [if_neg hc] at h; cases h
theorem bind_some {α β : Type} {x : Option α} {k : α → Option β} {r : β} (h : x.bind k = some r) : ∃ y, x = some y ∧ k y = some r := by
  cases x with
  | none => cases h
  | some y => exact ⟨y, rfl, h⟩
theorem CV (i : Nat) : Exit.exit i ≠ Exit.normal := by intro h; cases h
theorem Hv : Exit.ret ≠ Exit.normal := by intro h; cases h

theorem A0.sub {c : Cx} {l : List Cp} {a : Act} {w : World} (h : A0 c l a w) (ks : List Nat) (hk : (distinct ks && ks.all fun k => decide (k < l.length)) = true) : A0 c (ks.map (BR .none l)) a w := by
  simp only [Bool.and_eq_true] at hk
  have hnd := DM hk.1
  have hlt : ∀ k ∈ ks, k < l.length := fun k hm => by simpa using (List.all_eq_true.1 hk.2) k hm
  refine Sat.pick h (fun i => BR 0 ks i) (fun i hi => ?_) (fun i hi => ?_) (fun i j hi hj hne e => ?_)
  · have hi : i < ks.length := by simpa using hi
    rw [Dt]
    simp only [List.getD, List.getElem?_eq_getElem hi, Option.getD_some]
    exact hlt _ (List.getElem_mem hi)
  · have hi : i < ks.length := by simpa using hi
    rw [GI 0 Cp.none (BR .none l) ks i hi]
  · have hi : i < ks.length := by simpa using hi
    have hj : j < ks.length := by simpa using hj
    rw [Dt, Dt] at e
    simp only [List.getD, List.getElem?_eq_getElem hi, List.getElem?_eq_getElem hj, Option.getD_some] at e
    exact hne ((List.getElem_inj hnd).1 e)

theorem Cn.snoc {Φ : BW} {tmps : Array Value} {w : World} : ∀ {C : List Cp} {e : Cp} {fC : List (List Nat)}, Cn Φ tmps w (C ++ [e]) fC → ∃ gC f, fC = gC ++ [f] ∧ Cn Φ tmps w C gC
  | [], e, [f], h => ⟨[], f, rfl, trivial⟩
  | [], e, [], h => h.elim
  | [], e, _ :: _ :: _, h => h.2.elim
  | c :: C, e, f :: fC, h => by
    obtain ⟨gC, g, rfl, h2⟩ := Cn.snoc h.2
    exact ⟨f :: gC, g, rfl, h.1, h2⟩
  | _ :: _, _, [], h => h.elim
theorem A4.drop {P : Program} {G : FP} {ops : Array Oper} {o : Oper} {N C : List Cp} {Gv : Value → List Cp} (e : Cp) (h : A4 P G ops o N C Gv) : A4 P G ops o N (C ++ [e]) Gv := by
  intro Φ a w fN fC h1 h2 h3 h4 h5 h6 h7 K Q hK
  obtain ⟨gC, g, rfl, h4'⟩ := h4.snoc
  refine h Φ a w fN gC h1 h2 h3 h4' ?_ (fun b hb => h6 b ?_) h7 K Q fun v w' Φ' fG q1 q2 q3 q4 q5 => hK v w' Φ' fG (q1.MQ fun b hb _ => by simp only [List.flatten_append]; exact List.mem_append.2 (.inl hb)) q2 q3 q4 fun b hb => ⟨(q5 b hb).1, (q5 b hb).2.imp (fun hm => by simp only [List.flatten_append]; exact List.mem_append.2 (.inl hm)) id⟩
  · simp only [List.flatten_append, ← List.append_assoc] at h5
    exact (List.nodup_append.1 h5).1
  · simp only [List.mem_append, List.flatten_append] at hb ⊢
    rcases hb with hb | hb
    · exact .inl hb
    · exact .inr (.inl hb)
theorem JD {G : FP} {N : List Cp} {α : Type} {c : α → List Ck} : Bk G N (.const (.slice none 0 0)) (Ai c []) := fun _ _ _ _ _ _ => ⟨by simp [Bw], .inl ⟨rfl, rfl⟩⟩
theorem LV {P : Program} {cx : Cx} {l : List Cp} {α : Type} {c : α → List Ck} {t : Nat} (i : Nat) (h : BR .none l i = .slot t (Bf (.slice none 0 0))) : ML P cx l (.tmp t) (Ai c []) := by
  intro a w Φ fp hs
  obtain ⟨v, h1, h2⟩ := By (P := P) (c := cx) i h a w Φ fp hs
  exact ⟨v, h1, by simp [Bw], .inl ⟨h2, rfl⟩⟩
def F1 (s : List UInt8) : List Ck := [one (AF s)]
theorem DU (s : List UInt8) : lens (F1 s) = 1 := rfl

theorem Fs (off : Nat) : ∀ (l : List Value) (k : Nat) (r : List Value), off + k + l.length ≤ r.length →
    (l.zipIdx k).foldl (fun (cs : Array Value) (p : Value × Nat) => cs.setIfInBounds (off + p.2) p.1) r.toArray = (r.take (off + k) ++ l ++ r.drop (off + k + l.length)).toArray
  | [], k, r, _ => by simp
  | v :: l, k, r, h => by
    simp only [List.length_cons] at h
    simp only [List.zipIdx_cons, List.foldl_cons, List.setIfInBounds_toArray]
    rw [Fs off l (k + 1) (r.set (off + k) v) (by simp; omega)]
    congr 1
    rw [Jt _ _ _ (by omega)]
    have hk : (r.take (off + k)).length = off + k := by rw [List.length_take]; omega
    have e1 : (r.take (off + k) ++ v :: r.drop (off + k + 1)).take (off + (k + 1)) = r.take (off + k) ++ [v] := by
      rw [List.take_append, hk, List.take_of_length_le (by omega), show off + (k + 1) - (off + k) = 1 by omega]
      rfl
    have e2 : (r.take (off + k) ++ v :: r.drop (off + k + 1)).drop (off + (k + 1) + l.length) = r.drop (off + k + (l.length + 1)) := by
      rw [List.drop_append, hk, List.drop_eq_nil_of_le (by omega), show off + (k + 1) + l.length - (off + k) = l.length + 1 by omega]
      simp only [List.nil_append, List.drop_succ_cons, List.drop_drop]
      congr 1; omega
    rw [e1, e2]
    simp

theorem IS (sz : Nat) : ∀ (vs : List Value) (k : Nat) (r : List Value), (∀ v ∈ vs, v.cells.size = sz) → (k + vs.length) * sz ≤ r.length →
    Instr.fill (fun i => some (i * sz, sz)) r.toArray ((vs.zipIdx k).map fun p => (p.2, p.1)) = some (r.take (k * sz) ++ vs.flatMap (·.cells.toList) ++ r.drop ((k + vs.length) * sz)).toArray
  | [], k, r, _, _ => by simp [Instr.fill]
  | v :: vs, k, r, hv, h => by
    have h1 := hv v (by simp)
    have h2 : k * sz + sz ≤ r.length := by
      have : (k + 1) * sz ≤ (k + (v :: vs).length) * sz := Nat.mul_le_mul_right _ (by simp)
      rw [Nat.add_mul, Nat.one_mul] at this
      omega
    have hl : v.cells.toList.length = sz := by simpa using h1
    have hf := Fs (k * sz) v.cells.toList 0 r (by omega)
    have hf' : v.cells.zipIdx.foldl (fun (cs : Array Value) (p : Value × Nat) => cs.setIfInBounds (k * sz + p.2) p.1) r.toArray = (r.take (k * sz) ++ v.cells.toList ++ r.drop (k * sz + sz)).toArray := by
      rw [← Array.foldl_toList, Array.toList_zipIdx, hf]
      simp [h1]
    simp only [List.zipIdx_cons, List.map_cons, Instr.fill]
    have hc : (decide (v.cells.size ≠ sz) || decide (k * sz + v.cells.size > r.toArray.size)) = false := by
      simp [h1]; omega
    rw [if_neg (by rw [hc]; simp)]
    have hf2 : v.cells.zipIdx.foldl (fun cs (x : Value × Nat) => match x with | (c, j) => cs.setIfInBounds (k * sz + j) c) r.toArray = (r.take (k * sz) ++ v.cells.toList ++ r.drop (k * sz + sz)).toArray := hf'
    rw [hf2, IS sz vs (k + 1) _ (fun u hu => hv u (by simp [hu])) (by
      simp only [List.length_append, List.length_take, List.length_drop, hl]
      have : (k + 1 + vs.length) * sz = (k + (v :: vs).length) * sz := by congr 1; simp; omega
      rw [this]; omega)]
    congr 2
    have ht : (r.take (k * sz)).length = k * sz := by rw [List.length_take]; omega
    have e1 : (r.take (k * sz) ++ v.cells.toList ++ r.drop (k * sz + sz)).take ((k + 1) * sz) = r.take (k * sz) ++ v.cells.toList := by
      rw [show (k + 1) * sz = (r.take (k * sz) ++ v.cells.toList).length by rw [List.length_append, ht, hl, Nat.add_mul, Nat.one_mul], List.take_left]
    have e2 : (r.take (k * sz) ++ v.cells.toList ++ r.drop (k * sz + sz)).drop ((k + 1 + vs.length) * sz) = r.drop ((k + (v :: vs).length) * sz) := by
      have hA : (r.take (k * sz) ++ v.cells.toList).length = k * sz + sz := by rw [List.length_append, ht, hl]
      rw [show (k + 1 + vs.length) * sz = (r.take (k * sz) ++ v.cells.toList).length + vs.length * sz by rw [hA, Nat.add_mul, Nat.add_mul, Nat.one_mul], List.drop_length_add_append, List.drop_drop]
      congr 1
      simp only [List.length_cons, Nat.add_mul, Nat.one_mul]
      omega
    rw [e1, e2]
    simp [List.append_assoc]

def H3 {α : Type} (G : FP) (N : List Cp) (c : α → List Ck) : List Operand → List α → Prop
  | [], [] => True
  | x :: xs, y :: ys => (∃ V, Bk G N x V ∧ Cells V (c y)) ∧ H3 G N c xs ys
  | _, _ => False
theorem H3.run {α : Type} {G : FP} {N : List Cp} {c : α → List Ck} {Φ : BW} {a : Act} {w : World} {f : List (List Nat)} (hG : G.p Φ) (hN : Cn Φ a.tmps w N f) : ∀ {xs : List Operand} {ys : List α}, H3 G N c xs ys →
    xs.length = ys.length ∧ CY Φ c ((xs.map a.eval).flatMap (·.cells.toList)) ys ∧ ∀ v ∈ xs.map a.eval, ∃ y, Bs Φ v.cells.toList (c y)
  | [], [], _ => ⟨rfl, rfl, fun v hv => by simp at hv⟩
  | x :: xs, y :: ys, h => by
    obtain ⟨⟨V, hV, hc⟩, h2⟩ := h
    obtain ⟨h3, h4, h5⟩ := H3.run hG hN h2
    have h6 := hc Φ _ (hV Φ a w f hG hN)
    refine ⟨by simp [h3], ⟨(a.eval x).cells.toList, (xs.map a.eval).flatMap (·.cells.toList), by simp, h6, h4⟩, fun v hv => ?_⟩
    simp only [List.map_cons, List.mem_cons] at hv
    rcases hv with rfl | hv
    · exact ⟨y, h6⟩
    · exact h5 v hv
  | [], _ :: _, h => h.elim
  | _ :: _, [], h => h.elim
theorem El {P : Program} {G : FP} {N : List Cp} {d : Nat} {ty : TypeId} {pos : String} {af : Array Edge} {gd : Option (Nat × Bool)} {α : Type} {t e : TypeId} {n sz : Nat} {xs : List Operand} {c : α → List Ck} {ys : List α} (parts : Array (Nat × Operand)) (hparts : parts = (xs.zipIdx.map fun p => (p.2, p.1)).toArray)
    (hu : P.underlying t = some (.slice e)) (hs : ∀ w, (sizeOf e).run P w = .ok sz w) {z : Value} (hz : ∀ w, (zeroValue e).run P w = .ok z w) (hz1 : z.cells.size = sz) (hn : xs.length = n) (hle : n * sz ≤ 16777216) (hm : n ≤ Bw)
    (hx : H3 G N c xs ys) (hsz : ∀ x, lens (c x) = sz) : BJ P G ⟨some d, .buildSlice t n parts, ty, pos, af, gd⟩ N [] (fun _ => [.slot d (Ai c ys)]) := by
  subst hparts
  have hxl : ∀ (Φ : BW) (a : Act) (w : World) (f : List (List Nat)), Du Φ w → G.p Φ → Cn Φ a.tmps w N f → xs.length = ys.length := fun Φ a w f _ hG hN => (hx.run hG hN).1
  have hyl : ys.length = n := by
    have : ∀ {xs : List Operand} {ys : List α}, H3 G N c xs ys → xs.length = ys.length := by
      intro xs
      induction xs with
      | nil => intro ys h; cases ys with
                           | nil => rfl
                           | cons y ys => exact h.elim
      | cons x xs ih => intro ys h; cases ys with
                                    | nil => exact h.elim
                                    | cons y ys => simp [ih h.2]
    rw [← this hx, hn]
  refine HN (e := e) (sz := sz) (fun Φ a w f hP hG hN => ?_) hyl hm hsz
  obtain ⟨_, hA, hv⟩ := hx.run hG hN
  refine ⟨_, ?_, hA⟩
  have hsizes : ∀ v ∈ xs.map a.eval, v.cells.size = sz := fun v hm => by
    obtain ⟨y, hy⟩ := hv v hm
    have := hy.len
    rw [hsz] at this
    simpa using this
  have hbig : ¬ (n * sz > 2 ^ 24) := by omega
  have hfill := IS sz (xs.map a.eval) 0 ((List.range (n * sz)).map fun i => z.cells[i % z.cells.size]!) hsizes (by simp [hn])
  have hmap : ((xs.zipIdx.map fun p => (p.2, p.1)).toArray.map fun (i, x) => (i, a.eval x)).toList = ((xs.map a.eval).zipIdx 0).map fun p => (p.2, p.1) := by
    simp [List.zipIdx_map, Function.comp_def]
  have hpt : (((List.range (n * sz)).map fun i => z.cells[i % z.cells.size]!).take (0 * sz) ++ (xs.map a.eval).flatMap (·.cells.toList) ++ ((List.range (n * sz)).map fun i => z.cells[i % z.cells.size]!).drop ((0 + (xs.map a.eval).length) * sz)).toArray = ((xs.map a.eval).flatMap (·.cells.toList)).toArray := by
    rw [List.drop_eq_nil_of_le (by simp [hn])]
    simp
  rw [hpt] at hfill
  simp only [Instr.buildSlice, Sem.run_bind, run_underlying hu, Result.andThen_ok, hs, Sem.run_ite, if_neg hbig, Sem.run_pure]
  by_cases h0 : n * sz = 0
  · simp only [h0, if_true, hmap]
    have : (Array.range 0).map (fun i => (#[] : Array Value)[i % (#[] : Array Value).size]!) = ((List.range (n * sz)).map fun i => z.cells[i % z.cells.size]!).toArray := by
      rw [h0]; simp
    rw [this, hfill]
    simp [newRow]
  · simp only [if_neg h0, hz, Sem.run_bind, Sem.run_pure, Result.andThen_ok, hmap]
    have : (Array.range (n * sz)).map (fun i => z.cells[i % z.cells.size]!) = ((List.range (n * sz)).map fun i => z.cells[i % z.cells.size]!).toArray := by
      apply Array.ext'; simp
    rw [this, hfill]
    simp [newRow]

end
section
open Go Go.RowKit

instance (k : IntKind) (x : Int) : Decidable (Db k x) := by unfold Db; infer_instance
def dC (n : Nat) (l : List UInt8) : List Ck := [Af n l]
theorem AY (n : Nat) (l : List UInt8) : lens (dC n l) = n := rfl
def iC (k : IntKind) (x : Int) : List Ck := [one (Ab k x)]
theorem Ii (k : IntKind) (x : Int) : lens (iC k x) = 1 := rfl
def Nz (x : Bool) : List Ck := [one (An x)]
def Kh {α : Type} (c : α → List Ck) (x : List α) : List Ck := [one (Ai c x)]
theorem CZ {α : Type} {b : Bool} {x y : Option α} {r : Option α} (hb : b = true) (h : (if b = true then x else y) = r) : x = r := by rw [if_pos hb] at h; exact h
theorem C0 {α : Type} {b : Bool} {x y : Option α} {r : Option α} (hb : b = false) (h : (if b = true then x else y) = r) : y = r := by rw [if_neg (by rw [hb]; exact Bool.false_ne_true)] at h; exact h

section
variable {P : Program} {G : FP} {ops : Array Oper} {o : Oper} {N C : List Cp} {Gv : Value → List Cp}
theorem A4.AN {k d : Nat} {want b : Bool} {ok : Oper} (hb : b = want) (hg : o.guard = some (k, want)) (hk : ops[k]? = some ok) (hd : ok.dst = some d) (h : BJ P G o N C Gv) : A4 P G ops o (.slot d (An b) :: N) C Gv := by
  subst hb; exact A4.on hg hk hd h
variable {d : Nat} {ty : TypeId} {pos : String} {af : Array Edge} {gd : Option (Nat × Bool)}
theorem Bj {c x y : Operand} {b : Bool} {V : VP} (hb : b = true) (hc : Bk G N c (An b)) (hx : Bk G N x V) : BJ P G ⟨some d, .pick c x y, ty, pos, af, gd⟩ N [] (fun _ => [.slot d V]) := by
  subst hb; exact JA hc hx
theorem Bd {c x y : Operand} {b : Bool} {V : VP} (hb : b = false) (hc : Bk G N c (An b)) (hy : Bk G N y V) : BJ P G ⟨some d, .pick c x y, ty, pos, af, gd⟩ N [] (fun _ => [.slot d V]) := by
  subst hb; exact JA hc hy
end

end
section
open Go Go.RowKit
theorem BT {id : Nat} {Q : Exit → Act → World → Prop} {a : Act} {w : World} (h : Q .normal a w) : Exit.inBlock id Q (.exit id) a w := by
  simp only [Exit.inBlock, if_true]; exact h
theorem BY {P : Program} {x : Code} {Q : Exit → Act → World → Prop} {a : Act} {w : World} (J : Act → World → Prop) (hx : x.wp P (Exit.then J Q) a w) (hy : ∀ a w, J a w → Q .normal a w) : x.wp P Q a w :=
  wp_mono hx fun e a w q => by cases e <;> first | exact hy _ _ q | exact q
theorem Ih {G : FP} {N : List Cp} {t : Nat} {p : Value} (i : Nat) (h : BR .none N i = .slot t (BG p 0)) : Bk G N (.tmp t) (Bf p) := by
  intro Φ a w f hG hN
  obtain ⟨b, h1, h2⟩ := opt (G := G) i h Φ a w f hG hN
  exact h2.trans h1.symm
end
section
open Go Go.RowKit

theorem CY.take {α : Type} {Φ : BW} {c : α → List Ck} {sz : Nat} (hsz : ∀ x, lens (c x) = sz) {xs : List α} {cs : List Value} (h : CY Φ c cs xs) (n : Nat) : CY Φ c (cs.take (min n xs.length * sz)) (xs.take n) := by
  have h1 : CY Φ c cs (xs.take n ++ xs.drop n) := by rw [List.take_append_drop]; exact h
  obtain ⟨us, vs, rfl, h2, h3⟩ := h1.split
  have hl := h2.len hsz
  rw [List.length_take] at hl
  rw [← hl, List.take_left]
  exact h2
theorem CY.drop {α : Type} {Φ : BW} {c : α → List Ck} {sz : Nat} (hsz : ∀ x, lens (c x) = sz) {xs : List α} {cs : List Value} (h : CY Φ c cs xs) (n : Nat) : CY Φ c (cs.drop (min n xs.length * sz)) (xs.drop n) := by
  have h1 : CY Φ c cs (xs.take n ++ xs.drop n) := by rw [List.take_append_drop]; exact h
  obtain ⟨us, vs, rfl, h2, h3⟩ := h1.split
  have hl := h2.len hsz
  rw [List.length_take] at hl
  rw [← hl, List.drop_left]
  exact h3
theorem Eg.sub {Φ : BW} {b o : Nat} {cs : List Value} (h : Eg Φ b o cs) (k n : Nat) : Eg Φ b (o + k) ((cs.drop k).take n) := fun j v hj => by
  have hj' : j < n := by
    rcases Nat.lt_or_ge j n with q | q
    · exact q
    · rw [List.getElem?_eq_none (by simp; omega)] at hj; cases hj
  rw [List.getElem?_take_of_lt hj', List.getElem?_drop] at hj
  have := h (k + j) v hj
  rwa [← Nat.add_assoc] at this

section ops
variable {P : Program} {G : FP} {N : List Cp} {d : Nat} {ty : TypeId} {pos : String} {af : Array Edge} {gd : Option (Nat × Bool)}

theorem IF {α : Type} {t e : TypeId} {x : Operand} {c : α → List Ck} {xs : List α} {sz : Nat} {lo hi : Option Operand} {a b : Int} (hu : P.underlying t = some (.slice e)) (hs : ∀ w, (sizeOf e).run P w = .ok sz w) (hsz : ∀ x, lens (c x) = sz) (hx : Bk G N x (Ai c xs))
    (hlo : HR G N lo 0 a) (hhi : HR G N hi xs.length b) (h : 0 ≤ a ∧ a ≤ b ∧ b ≤ xs.length) :
    BJ P G ⟨some d, .slice t x lo hi none, ty, pos, af, gd⟩ N [] (fun _ => [.slot d (Ai c ((xs.take b.toNat).drop a.toNat))]) :=
  BJ.val fun Φ ac w f _ hG hN => by
    obtain ⟨hm, ⟨hv, rfl⟩ | ⟨bb, o, cap, cs, hv, hcap, hA, hp⟩ | ⟨rfl, b0, cap, hv⟩⟩ := hx Φ ac w f hG hN
    rotate_left 2
    · have ha : a = 0 := by simp at h; omega
      have hb : b = 0 := by simp at h; omega
      subst ha; subst hb
      have hsb := Ep (P := P) (w := w) true 0 cap (lo := lo.map ac.eval) (hi := hi.map ac.eval) (a := 0) (b := 0) (hlo.ok hG hN (by omega)) (hhi.ok hG hN (by omega)) (by omega) (by omega)
      refine ⟨.slice (some b0) 0 cap, ?_, by simp, .inr (.inr ⟨by simp, b0, cap, rfl⟩)⟩
      simp [execOp, hv, Instr.sliceAt, Instr.slice, run_underlying hu, hsb, hs, Addr.add]
    · have ha : a = 0 := by simp at h; omega
      have hb : b = 0 := by simp at h; omega
      subst ha; subst hb
      have hsb := Ep (P := P) (w := w) true 0 0 (lo := lo.map ac.eval) (hi := hi.map ac.eval) (a := 0) (b := 0) (hlo.ok hG hN (by omega)) (hhi.ok hG hN (by omega)) (by omega) (by omega)
      refine ⟨.slice none 0 0, ?_, by simp [Bw], .inl ⟨rfl, by simp⟩⟩
      simp [execOp, hv, Instr.sliceAt, Instr.slice, run_underlying hu, hsb, hs]
    · have hsb := Ep (P := P) (w := w) true xs.length cap (lo := lo.map ac.eval) (hi := hi.map ac.eval) (a := a.toNat) (b := b.toNat) (hlo.ok hG hN h.1) (hhi.ok hG hN (by omega)) (by omega) (by omega)
      have hlen : ((xs.take b.toNat).drop a.toNat).length = b.toNat - a.toNat := by simp; omega
      have hA2 : CY Φ c ((cs.drop (a.toNat * sz)).take ((b.toNat - a.toNat) * sz)) ((xs.take b.toNat).drop a.toNat) := by
        have h1 := hA.drop hsz a.toNat
        rw [Nat.min_eq_left (by omega)] at h1
        have h2 := h1.take hsz (b.toNat - a.toNat)
        rw [Nat.min_eq_left (by simp; omega)] at h2
        rw [List.drop_take]
        exact h2
      by_cases hc : cap = a.toNat
      · refine ⟨.slice (some ⟨bb, o, none⟩) (b.toNat - a.toNat) (cap - a.toNat), ?_, by rw [hlen]; omega, .inr (.inl ⟨bb, o, cap - a.toNat, [], by rw [hlen], by rw [hlen]; omega, ?_, fun j v hj => by simp at hj⟩)⟩
        · subst hc
          simp [execOp, hv, Instr.sliceAt, Instr.slice, run_underlying hu, hsb, hs]
        · have h0 : (xs.take b.toNat).drop a.toNat = [] := List.eq_nil_of_length_eq_zero (by omega)
          rw [h0]; rfl
      · refine ⟨.slice (some ⟨bb, o + a.toNat * sz, none⟩) (b.toNat - a.toNat) (cap - a.toNat), ?_, by rw [hlen]; omega, .inr (.inl ⟨bb, o + a.toNat * sz, cap - a.toNat, _, by rw [hlen], by rw [hlen]; omega, hA2, hp.sub _ _⟩)⟩
        simp [execOp, hv, Instr.sliceAt, Instr.slice, run_underlying hu, hsb, hs, hc, Addr.add_lit]

theorem D1 {s t e : TypeId} {x : Operand} {l : List UInt8} (hs : P.underlying s = some (.slice e)) (he : P.underlying e = some (.int .u8)) (ht : P.underlying t = some .string)
    (hx : Bk G N x (Ai bC l)) : BJ P G ⟨some d, .convert s t x, ty, pos, af, gd⟩ N [] (fun _ => [.slot d (AF l)]) :=
  BJ.val fun Φ ac w f hP hG hN => by
    obtain ⟨hm, ⟨hv, rfl⟩ | ⟨b, o, cap, cs, hv, hcap, hA, hp⟩ | ⟨rfl, b0, cap, hv⟩⟩ := hx Φ ac w f hG hN
    rotate_left 2
    · refine ⟨.string ⟨#[]⟩, ?_, rfl, by simp⟩
      have hl : (loadCells b0 0).run P w = .ok #[] w := by simpa using run_loadCells_list (P := P) w b0 [] (by simp)
      simp only [execOp, hv, Sem.run_bind, run_convert_bytes_string w s t e _ _ _ hs he ht, Go.run_bytesToString (P := P) w b0 0 cap [] (by simpa using hl)]
      rfl
    · refine ⟨.string ⟨#[]⟩, ?_, rfl, by simp [Bw]⟩
      simp only [execOp, hv, Sem.run_bind, run_convert_bytes_string w s t e _ _ _ hs he ht]
      rfl
    · have hcs : cs = l.map DE := by
        have : ∀ (l : List UInt8) (cs : List Value), CY Φ bC cs l → cs = l.map DE := by
          intro l
          induction l with
          | nil => intro cs h; exact h
          | cons y l ih =>
            intro cs h
            obtain ⟨us, vs, rfl, ⟨y1, y2, rfl, ⟨v, rfl, _, hv, _⟩, hn⟩, h2⟩ := h
            have hn : y2 = [] := hn
            subst hn
            rw [ih vs h2, hv]
            rfl
        exact this l cs hA
      subst hcs
      refine ⟨.string ⟨l.toArray⟩, ?_, rfl, hm⟩
      have hr := run_bytesToString (P := P) (b := b) (k := o) (l := l) (cap := cap) (w := w) fun j v hj => hP.cell _ _ _ (hp j v hj)
      simp only [execOp, hv, Sem.run_bind, run_convert_bytes_string w s t e _ _ _ hs he ht, hr]
      rfl

def G6 (G : FP) (N : List Cp) (place : Nat → Option (Nat × Nat)) : List Ck → List (Nat × Operand) → List Ck → Prop
  | L, [], L' => L = L'
  | L, (i, x) :: rest, L' => ∃ pre mid post M V, L = pre ++ (mid ++ post) ∧ place i = some (lens pre, lens mid) ∧ lens M = lens mid ∧ Bk G N x V ∧ Cells V M ∧ G6 G N place (pre ++ (M ++ post)) rest L'
theorem G6.run {G : FP} {N : List Cp} {place : Nat → Option (Nat × Nat)} {Φ : BW} {a : Act} {w : World} {f : List (List Nat)} (hG : G.p Φ) (hN : Cn Φ a.tmps w N f) : ∀ (parts : List (Nat × Operand)) (L L' : List Ck) (cs : List Value), G6 G N place L parts L' → Bs Φ cs L →
    ∃ cs' : List Value, Instr.fill place cs.toArray (parts.map fun (i, x) => (i, a.eval x)) = some cs'.toArray ∧ Bs Φ cs' L'
  | [], L, L', cs, h, hL => by have h : L = L' := h; subst h; exact ⟨cs, rfl, hL⟩
  | (i, x) :: rest, L, L', cs, ⟨pre, mid, post, M, V, hLe, hp, hM, hx, hV, hr⟩, hL => by
    subst hLe
    obtain ⟨xs, yz, rfl, h1, h23⟩ := hL.split
    obtain ⟨ys, zs, rfl, h2, h3⟩ := h23.split
    have hv := hV Φ _ (hx Φ a w f hG hN)
    have hvl := hv.len
    obtain ⟨cs', h4, h5⟩ := G6.run hG hN rest (pre ++ (M ++ post)) L' (xs ++ ((a.eval x).cells.toList ++ zs)) hr (h1.append (hv.append h3))
    refine ⟨cs', ?_, h5⟩
    simp only [List.map_cons, Instr.fill, hp]
    have hsz : (a.eval x).cells.size = lens mid := by rw [← hM, ← hvl]; simp
    rw [if_neg (by simp [hsz, h1.len, h2.len, h3.len])]
    have hf := Fs (lens pre) (a.eval x).cells.toList 0 (xs ++ (ys ++ zs)) (by simp only [List.length_append, h1.len, h2.len, h3.len, hvl]; omega)
    rw [← Array.toList_zipIdx, Array.foldl_toList] at hf
    have hf2 : (a.eval x).cells.zipIdx.foldl (fun cs (x : Value × Nat) => match x with | (c, j) => cs.setIfInBounds (lens pre + j) c) (xs ++ (ys ++ zs)).toArray = (xs ++ ((a.eval x).cells.toList ++ zs)).toArray := by
      refine Eq.trans hf ?_
      congr 1
      have e1 : (xs ++ (ys ++ zs)).take (lens pre + 0) = xs := by rw [Nat.add_zero, ← h1.len, List.take_left]
      have e2 : (xs ++ (ys ++ zs)).drop (lens pre + 0 + (a.eval x).cells.toList.length) = zs := by
        rw [hvl, hM, Nat.add_zero, ← h1.len, ← h2.len, ← List.length_append, ← List.append_assoc, List.drop_left]
      rw [e1, e2, List.append_assoc]
    rw [hf2]
    exact h4
theorem HB {T : TypeId} {parts : Array (Nat × Operand)} {z : List Value} {place : Nat → Option (Nat × Nat)} {L L' : List Ck} (ps : List (Nat × Operand)) (hps : parts = ps.toArray) (hB : ∀ p, P.built T p = Instr.fill place z.toArray p) (hz : ∀ Φ, Bs Φ z L) (hf : G6 G N place L ps L') :
    BJ P G ⟨some d, .build T parts, ty, pos, af, gd⟩ N [] (fun _ => [.slot d (Co L')]) :=
  BJ.val fun Φ a w f _ hG hN => by
    subst hps
    obtain ⟨cs', h1, h2⟩ := G6.run hG hN ps L L' z hf (hz Φ)
    refine ⟨.agg cs'.toArray, ?_, cs', rfl, h2⟩
    have := run_build (P := P) w T (ps.toArray.map fun (i, x) => (i, a.eval x)) cs'.toArray (by rw [hB, Array.toList_map]; exact h1)
    simp only [execOp, Sem.run_bind, this]
    rfl

theorem Gk {Φ : BW} : ∀ (l : List UInt8) (cs : List Value), CY Φ bC cs l → cs = l.map DE
  | [], cs, h => h
  | y :: l, cs, h => by
    obtain ⟨us, vs, rfl, ⟨y1, y2, rfl, ⟨v, rfl, _, hv, hr⟩, hn⟩, h2⟩ := h
    have hn : y2 = [] := hn
    subst hn
    rw [Gk l vs h2, hv]
    rfl
theorem Fg (x : Int) : Cells (Ab .u8 x) (bC (Dn x)) := by
  rintro Φ v ⟨rfl, hr⟩
  have hx : ((Dn x).toNat : Int) = x := by
    have h1 := hr.1
    have h2 := hr.2
    simp [IntKind.min, IntKind.max, IntKind.bits, IntKind.signed] at h1 h2
    simp only [Dn]
    simp
    omega
  refine ⟨[.int .u8 x], [], rfl, ⟨_, rfl, rfl, ?_, FY _⟩, rfl⟩
  rw [hx]

end ops

end
section
open Go Go.RowKit

def RP.sep (R S : RP) : RP := ⟨fun Φ f w => ∃ f1 f2, f = f1 ++ f2 ∧ R.p Φ f1 w ∧ S.p Φ f2 w, by
  rintro Φ Φ' f w w' hle hs hb ⟨f1, f2, rfl, h1, h2⟩
  exact ⟨f1, f2, rfl, R.loc hle (fun b hm => hs b (by simp [hm])) (fun b hm => hb b (by simp [hm])) h1, S.loc hle (fun b hm => hs b (by simp [hm])) (fun b hm => hb b (by simp [hm])) h2⟩⟩
def RP.ex {α : Type} (R : α → RP) : RP := ⟨fun Φ f w => ∃ x, (R x).p Φ f w, by
  rintro Φ Φ' f w w' hle hs hb ⟨x, h⟩
  exact ⟨x, (R x).loc hle hs hb h⟩⟩
def RP.is (q : Prop) : RP := ⟨fun _ f _ => f = [] ∧ q, fun _ _ _ h => h⟩
def RP.val (V : VP) (v : Value) : RP := ⟨fun Φ f _ => f = [] ∧ V.p Φ v, fun hle _ _ h => ⟨h.1, V.mono hle h.2⟩⟩
def RP.le (R S : RP) : Prop := ∀ Φ f w, R.p Φ f w → S.p Φ f w
theorem RP.le_refl (R : RP) : RP.le R R := fun _ _ _ h => h
theorem RP.le_trans {R S T : RP} (h : RP.le R S) (k : RP.le S T) : RP.le R T := fun Φ f w q => k Φ f w (h Φ f w q)

theorem Dp (l : List Cp) (i j : Nat) (e : Cp) : BR .none (l.set i e) j = if i = j ∧ i < l.length then e else BR .none l j := by
  simp only [Dt, List.getD, List.getElem?_set]
  by_cases h : i = j
  · subst h
    by_cases h2 : i < l.length
    · simp [h2]
    · simp [h2]
  · simp [h]

section moves
variable {c : Cx} {l : List Cp} {a : Act} {w : World}
theorem A0.conv {R R' : RP} (h : A0 c l a w) (i : Nat) (he : BR .none l i = .res R) (hR : RP.le R R') : A0 c (l.set i (.res R')) a w := by
  obtain ⟨Φ, fp, h⟩ := h
  refine ⟨Φ, fp, h.defers, h.size, h.Iw, h.GL, h.step, fun j hj => ?_, fun j hj => h.own j (by simpa using hj), fun j k hj hk => h.apart j k (by simpa using hj) (by simpa using hk)⟩
  have hj : j < l.length := by simpa using hj
  rw [Dp]
  split
  · rename_i hc
    have := h.holds j hj
    rw [← hc.1, he] at this
    rw [← hc.1]
    exact hR _ _ _ this
  · exact h.holds j hj
theorem A0.ex {α : Type} {R : α → RP} (h : A0 c l a w) (i : Nat) (he : BR .none l i = .res (RP.ex R)) : ∃ x, A0 c (l.set i (.res (R x))) a w := by
  obtain ⟨Φ, fp, h⟩ := h
  have hi := DP he (by simp)
  have hx := h.holds i hi
  rw [he] at hx
  obtain ⟨x, hx⟩ := hx
  refine ⟨x, Φ, fp, h.defers, h.size, h.Iw, h.GL, h.step, fun j hj => ?_, fun j hj => h.own j (by simpa using hj), fun j k hj hk => h.apart j k (by simpa using hj) (by simpa using hk)⟩
  have hj : j < l.length := by simpa using hj
  rw [Dp]
  split
  · rename_i hc
    rw [← hc.1]
    exact hx
  · exact h.holds j hj
theorem A0.MH {R : RP} {q : Prop} (h : A0 c l a w) (i : Nat) (he : BR .none l i = .res R) (hq : ∀ Φ f w, R.p Φ f w → q) : q := by
  obtain ⟨Φ, fp, h⟩ := h
  have hi := DP he (by simp)
  have hx := h.holds i hi
  rw [he] at hx
  exact hq _ _ _ hx
theorem A0.Gq {d : Nat} {V V' : VP} (h : A0 c l a w) (i : Nat) (he : BR .none l i = .slot d V) (hV : ∀ Φ v, V.p Φ v → V'.p Φ v) : A0 c (l.set i (.slot d V')) a w := by
  obtain ⟨Φ, fp, h⟩ := h
  refine ⟨Φ, fp, h.defers, h.size, h.Iw, h.GL, h.step, fun j hj => ?_, fun j hj => h.own j (by simpa using hj), fun j k hj hk => h.apart j k (by simpa using hj) (by simpa using hk)⟩
  have hj : j < l.length := by simpa using hj
  rw [Dp]
  split
  · rename_i hc
    have := h.holds j hj
    rw [← hc.1, he] at this
    obtain ⟨q1, v, q2, q3⟩ := this
    rw [← hc.1]
    exact ⟨q1, v, q2, hV _ _ q3⟩
  · exact h.holds j hj
theorem A0.sep {R S : RP} (h : A0 c l a w) (i : Nat) (he : BR .none l i = .res (RP.sep R S)) : A0 c (l.set i (.res R) ++ [.res S]) a w := by
  obtain ⟨Φ, fp, h⟩ := h
  have hi := DP he (by simp)
  have hx := h.holds i hi
  rw [he] at hx
  obtain ⟨f1, f2, hf, h1, h2⟩ := hx
  obtain ⟨hnd, hown⟩ := h.own i hi
  rw [hf] at hnd hown
  have hsub : ∀ j b, j < l.length + 1 → b ∈ (if j = i then f1 else if j = l.length then f2 else fp j) → (j = i ∨ j = l.length) ∧ b ∈ fp i ∨ j < l.length ∧ j ≠ i ∧ b ∈ fp j := by
    intro j b hj hb
    by_cases q1 : j = i
    · rw [if_pos q1] at hb
      exact .inl ⟨.inl q1, by rw [hf]; simp [hb]⟩
    · rw [if_neg q1] at hb
      by_cases q2 : j = l.length
      · rw [if_pos q2] at hb
        exact .inl ⟨.inr q2, by rw [hf]; simp [hb]⟩
      · rw [if_neg q2] at hb
        exact .inr ⟨by omega, q1, hb⟩
  refine ⟨Φ, fun j => if j = i then f1 else if j = l.length then f2 else fp j, h.defers, h.size, h.Iw, h.GL, h.step, fun j hj => ?_, fun j hj => ?_, fun j k hj hk hne b hb hb' => ?_⟩
  · have hj : j < l.length + 1 := by simpa using hj
    by_cases q1 : j = i
    · subst q1
      have e1 : BR .none (l.set j (.res R) ++ [.res S]) j = .res R := by rw [Ce, if_pos (by simpa using hi), Dp, if_pos ⟨rfl, hi⟩]
      rw [e1]
      simp only [if_true]
      exact h1
    · by_cases q2 : j = l.length
      · subst q2
        have e1 : BR .none (l.set i (.res R) ++ [.res S]) l.length = .res S := by rw [Ce, if_neg (by simp)]; simp [BR]
        rw [e1]
        simp only [if_neg q1, if_true]
        exact h2
      · have e1 : BR .none (l.set i (.res R) ++ [.res S]) j = BR .none l j := by rw [Ce, if_pos (by simp; omega), Dp, if_neg (fun hc => q1 hc.1.symm)]
        rw [e1]
        simp only [if_neg q1, if_neg q2]
        exact h.holds j (by omega)
  · have hj : j < l.length + 1 := by simpa using hj
    refine ⟨?_, fun b hb => ?_⟩
    · show (if j = i then f1 else if j = l.length then f2 else fp j).Nodup
      by_cases q1 : j = i
      · rw [if_pos q1]; exact (List.nodup_append.1 hnd).1
      · rw [if_neg q1]
        by_cases q2 : j = l.length
        · rw [if_pos q2]; exact (List.nodup_append.1 hnd).2.1
        · rw [if_neg q2]; exact (h.own j (by omega)).1
    · rcases hsub j b hj hb with ⟨_, q⟩ | ⟨q1, _, q⟩
      · rw [hf] at q; exact hown b q
      · exact (h.own j q1).2 b q
  · have hj : j < l.length + 1 := by simpa using hj
    have hk : k < l.length + 1 := by simpa using hk
    have hdis : ∀ b, b ∈ f1 → b ∈ f2 → False := fun b x y => (List.nodup_append.1 hnd).2.2 b x b y rfl
    rcases hsub j b hj hb with ⟨q1, q2⟩ | ⟨q1, q2, q3⟩
    · rcases hsub k b hk hb' with ⟨r1, r2⟩ | ⟨r1, r2, r3⟩
      · have hli : ¬ l.length = i := by omega
        rcases q1 with rfl | rfl
        · rcases r1 with rfl | rfl
          · exact hne rfl
          · simp only [if_true] at hb
            simp only [if_neg hli, if_true] at hb'
            exact hdis b hb hb'
        · rcases r1 with rfl | rfl
          · simp only [if_true] at hb'
            simp only [if_neg hli, if_true] at hb
            exact hdis b hb' hb
          · exact hne rfl
      · exact h.apart i k hi r1 (fun e => r2 e.symm) b q2 r3
    · rcases hsub k b hk hb' with ⟨r1, r2⟩ | ⟨r1, r2, r3⟩
      · exact h.apart j i q1 hi q2 b q3 r2
      · exact h.apart j k q1 r1 hne b q3 r3
theorem A0.Jq {R S : RP} (h : A0 c l a w) (i j : Nat) (hi : BR .none l i = .res R) (hj : BR .none l j = .res S) (hne : i ≠ j) : A0 c ((l.set i (.res (RP.sep R S))).set j .none) a w := by
  obtain ⟨Φ, fp, h⟩ := h
  have hil := DP hi (by simp)
  have hjl := DP hj (by simp)
  have h1 := h.holds i hil
  rw [hi] at h1
  have h2 := h.holds j hjl
  rw [hj] at h2
  have hsub : ∀ k b, b ∈ (if k = i then fp i ++ fp j else if k = j then [] else fp k) → (k = i ∧ (b ∈ fp i ∨ b ∈ fp j)) ∨ (k ≠ i ∧ k ≠ j ∧ b ∈ fp k) := by
    intro k b hb
    by_cases q1 : k = i
    · rw [if_pos q1] at hb
      exact .inl ⟨q1, List.mem_append.1 hb⟩
    · rw [if_neg q1] at hb
      by_cases q2 : k = j
      · rw [if_pos q2] at hb; simp at hb
      · rw [if_neg q2] at hb; exact .inr ⟨q1, q2, hb⟩
  refine ⟨Φ, fun k => if k = i then fp i ++ fp j else if k = j then [] else fp k, h.defers, h.size, h.Iw, h.GL, h.step, fun k hk => ?_, fun k hk => ?_, fun k m hk hm hkm b hb hb' => ?_⟩
  · have hk : k < l.length := by simpa using hk
    by_cases q2 : j = k
    · subst q2
      have e1 : BR .none ((l.set i (.res (RP.sep R S))).set j .none) j = .none := by rw [Dp, if_pos ⟨rfl, by simpa using hjl⟩]
      rw [e1]
      simp only [if_neg (fun e : j = i => hne e.symm), if_true]
      rfl
    · by_cases q1 : i = k
      · subst q1
        have e1 : BR .none ((l.set i (.res (RP.sep R S))).set j .none) i = .res (RP.sep R S) := by rw [Dp, if_neg (fun hc => q2 hc.1), Dp, if_pos ⟨rfl, hil⟩]
        rw [e1]
        simp only [if_true]
        exact ⟨fp i, fp j, rfl, h1, h2⟩
      · have e1 : BR .none ((l.set i (.res (RP.sep R S))).set j .none) k = BR .none l k := by rw [Dp, if_neg (fun hc => q2 hc.1), Dp, if_neg (fun hc => q1 hc.1)]
        rw [e1]
        simp only [if_neg (fun e : k = i => q1 e.symm), if_neg (fun e : k = j => q2 e.symm)]
        exact h.holds k hk
  · have hk : k < l.length := by simpa using hk
    refine ⟨?_, fun b hb => ?_⟩
    · show (if k = i then fp i ++ fp j else if k = j then [] else fp k).Nodup
      by_cases q1 : k = i
      · rw [if_pos q1]
        refine List.nodup_append.2 ⟨(h.own i hil).1, (h.own j hjl).1, fun x hx y hy e => ?_⟩
        subst e
        exact h.apart i j hil hjl hne x hx hy
      · rw [if_neg q1]
        by_cases q2 : k = j
        · rw [if_pos q2]; exact List.nodup_nil
        · rw [if_neg q2]; exact (h.own k hk).1
    · rcases hsub k b hb with ⟨_, q | q⟩ | ⟨_, _, q⟩
      · exact (h.own i hil).2 b q
      · exact (h.own j hjl).2 b q
      · exact (h.own k hk).2 b q
  · have hk : k < l.length := by simpa using hk
    have hm : m < l.length := by simpa using hm
    rcases hsub k b hb with ⟨q0, q | q⟩ | ⟨q1, q2, q⟩ <;> rcases hsub m b hb' with ⟨r0, r | r⟩ | ⟨r1, r2, r⟩
    · exact hkm (q0.trans r0.symm)
    · exact hkm (q0.trans r0.symm)
    · exact h.apart i m hil hm (fun e => r1 e.symm) b q r
    · exact hkm (q0.trans r0.symm)
    · exact hkm (q0.trans r0.symm)
    · exact h.apart j m hjl hm (fun e => r2 e.symm) b q r
    · exact h.apart k i hk hil q1 b q r
    · exact h.apart k j hk hjl q2 b q r
    · exact h.apart k m hk hm hkm b q r
theorem A0.snoc {R : RP} (h : A0 c l a w) (hR : ∀ Φ w, Du Φ w → R.p Φ [] w) : A0 c (l ++ [.res R]) a w := by
  obtain ⟨Φ, fp, h⟩ := h
  refine ⟨Φ, fun j => if j = l.length then [] else fp j, h.defers, h.size, h.Iw, h.GL, h.step, fun j hj => ?_, fun j hj => ?_, fun j k hj hk hne b hb hb' => ?_⟩
  · have hj : j < l.length + 1 := by simpa using hj
    by_cases q : j = l.length
    · subst q
      have e1 : BR .none (l ++ [.res R]) l.length = .res R := by rw [Ce, if_neg (by simp)]; simp [BR]
      rw [e1]
      simp only [if_true]
      exact hR Φ w h.Iw
    · have e1 : BR .none (l ++ [.res R]) j = BR .none l j := by rw [Ce, if_pos (by omega)]
      rw [e1]
      simp only [if_neg q]
      exact h.holds j (by omega)
  · have hj : j < l.length + 1 := by simpa using hj
    by_cases q : j = l.length
    · simp only [if_pos q]; exact ⟨List.nodup_nil, by simp⟩
    · simp only [if_neg q]; exact h.own j (by omega)
  · have hj : j < l.length + 1 := by simpa using hj
    have hk : k < l.length + 1 := by simpa using hk
    by_cases q : j = l.length
    · simp [if_pos q] at hb
    · by_cases r : k = l.length
      · simp [if_pos r] at hb'
      · simp only [if_neg q] at hb
        simp only [if_neg r] at hb'
        exact h.apart j k (by omega) (by omega) hne b hb hb'
end moves

def I2 : List Cp → List Cp → Prop
  | [], [] => True
  | e :: es, f :: fs => (∀ Φ t w g, e.holds Φ t w g → f.holds Φ t w g) ∧ I2 es fs
  | _, _ => False
theorem I2.hold {Φ : BW} {t : Array Value} {w : World} : ∀ {C D : List Cp} {f : List (List Nat)}, I2 C D → Cn Φ t w C f → Cn Φ t w D f
  | [], [], _, _, h => h
  | _ :: _, _ :: _, [], _, h => h.elim
  | _ :: _, _ :: _, _ :: _, k, h => ⟨k.1 _ _ _ _ h.1, I2.hold k.2 h.2⟩
  | [], _ :: _, _, k, _ => k.elim
  | _ :: _, [], _, k, _ => k.elim
theorem BJ.conv {P : Program} {G : FP} {o : Oper} {N C C' : List Cp} {Gv : Value → List Cp} (hC : I2 C' C) (h : BJ P G o N C Gv) : BJ P G o N C' Gv := by
  intro Φ a w fN fC h1 h2 h3 h4 h5 h6 h7 K Q hK
  exact h Φ a w fN fC h1 h2 h3 (hC.hold h4) h5 h6 h7 K Q hK
theorem KH {P : Program} {G : FP} {N : List Cp} {d : Nat} {ty : TypeId} {pos : String} {af : Array Edge} {gd : Option (Nat × Bool)} {f : FuncId} {xs : List Operand} {tys : Array TypeId} {args : List VP} {pre : List RP} {post : Value → List RP} {res : VP} (hcall : ∀ args w, (callFunc f args).run P w = .ok (.enter f args) w)
    (hc : AX P G f args pre post res) (hx : Fv G N xs args) :
    BJ P G ⟨some d, .call ⟨.value (.func f), xs.toArray, tys⟩, ty, pos, af, gd⟩ N (pre.map .res) (fun v => .slot d (Bf v) :: (post v).map .res) := by
  intro Φ a w fN fC h1 h2 h3 h4 h5 h6 h7 K Q hK
  refine CL hcall hc hx Φ a w fN fC h1 h2 h3 h4 h5 h6 h7 K Q fun v w' Φ' fG q1 q2 q3 q4 q5 => hK v w' Φ' fG q1 q2 ?_ q4 q5
  match fG, q3 with
  | f :: fs, q3 =>
    obtain ⟨⟨r1, u, r2, r3⟩, r4⟩ := q3
    refine ⟨⟨r1, u, r2, ?_⟩, r4⟩
    have := DH a v d (h7 d rfl)
    rw [this] at r2
    exact (Option.some.inj r2).symm
  | [], q3 => exact q3.elim

theorem Fu.le {Φ : BW} {w : World} : ∀ {Rs Ss : List RP} {fs : List (List Nat)}, Fu Φ w Rs fs → Rs.length = Ss.length → (∀ (i : Nat) (R S : RP), Rs[i]? = some R → Ss[i]? = some S → RP.le R S) → Fu Φ w Ss fs
  | [], [], _, h, _, _ => h
  | R :: Rs, S :: Ss, f :: fs, h, hl, hk => ⟨hk 0 R S rfl rfl _ _ _ h.1, Fu.le h.2 (by simpa using hl) fun i R S q1 q2 => hk (i + 1) R S (by simpa using q1) (by simpa using q2)⟩
  | _ :: _, _ :: _, [], h, _, _ => h.elim
  | [], _ :: _, _, _, hl, _ => by simp at hl
  | _ :: _, [], _, _, hl, _ => by simp at hl
theorem AX.ex {P : Program} {G : FP} {f : FuncId} {args : List VP} {α : Type} {R : α → RP} {R' : α → Value → RP} {pre : List RP} {post : Value → List RP} {res : VP} (h : ∀ x, AX P G f args (R x :: pre) (fun v => R' x v :: post v) res) :
    AX P G f args (RP.ex R :: pre) (fun v => RP.ex (fun x => R' x v) :: post v) res := by
  intro Φ w vs fs h1 h2 h3 h4 h5 h6
  match fs, h4 with
  | f0 :: fs, ⟨⟨x, hx⟩, h4⟩ =>
    refine (h x Φ w vs (f0 :: fs) h1 h2 h3 ⟨hx, h4⟩ h5 h6).mono fun e w' hq => ?_
    obtain ⟨v, Φ', fs', q0, q1, q2, q3, q4, q5, q6⟩ := hq
    match fs', q4 with
    | g :: gs, q4 => exact ⟨v, Φ', g :: gs, q0, q1, q2, q3, ⟨⟨x, q4.1⟩, q4.2⟩, q5, q6⟩
    | [], q4 => exact q4.elim
  | [], h4 => exact h4.elim

end
section
open Go Go.RowKit

def DZ {K V : Type} (Φ : BW) (w : World) (kV : K → Value) (eR : Value → V → RP) : List MapEntry → List (K × V) → List (List Nat) → Prop
  | [], [], [] => True
  | e :: es, x :: xs, f :: fs => e.key = kV x.1 ∧ (eR e.val x.2).p Φ f w ∧ DZ Φ w kV eR es xs fs
  | _, _, _ => False
theorem DZ.loc {K V : Type} {Φ Φ' : BW} {w w' : World} {kV : K → Value} {eR : Value → V → RP} (hle : BW.le Φ Φ') : ∀ {es : List MapEntry} {m : List (K × V)} {fs : List (List Nat)}, (∀ b ∈ fs.flatten, Φ' b = Φ b) → (∀ b ∈ fs.flatten, w'.heap[b]? = w.heap[b]?) → DZ Φ w kV eR es m fs → DZ Φ' w' kV eR es m fs
  | [], [], [], _, _, h => h
  | e :: es, x :: xs, f :: fs, hs, hb, h => ⟨h.1, (eR _ _).loc hle (fun b hm => hs b (by simp [hm])) (fun b hm => hb b (by simp [hm])) h.2.1, DZ.loc hle (fun b hm => hs b (by simp only [List.flatten_cons]; exact List.mem_append.2 (.inr hm))) (fun b hm => hb b (by simp only [List.flatten_cons]; exact List.mem_append.2 (.inr hm))) h.2.2⟩
  | [], [], _ :: _, _, _, h => h.elim
  | [], _ :: _, _, _, _, h => h.elim
  | _ :: _, [], _, _, _, h => h.elim
  | _ :: _, _ :: _, [], _, _, h => h.elim
theorem DZ.len {K V : Type} {Φ : BW} {w : World} {kV : K → Value} {eR : Value → V → RP} : ∀ {es : List MapEntry} {m : List (K × V)} {fs : List (List Nat)}, DZ Φ w kV eR es m fs → es.length = m.length ∧ fs.length = m.length
  | [], [], [], _ => ⟨rfl, rfl⟩
  | _ :: _, _ :: _, _ :: _, h => by have := DZ.len h.2.2; exact ⟨by simp [this.1], by simp [this.2]⟩
  | [], [], _ :: _, h => h.elim
  | [], _ :: _, _, h => h.elim
  | _ :: _, [], _, h => h.elim
  | _ :: _, _ :: _, [], h => h.elim
theorem DZ.keys {K V : Type} {Φ : BW} {w : World} {kV : K → Value} {eR : Value → V → RP} : ∀ {es : List MapEntry} {m : List (K × V)} {fs : List (List Nat)}, DZ Φ w kV eR es m fs → es.map (·.key) = (m.map (·.1)).map kV
  | [], [], [], _ => rfl
  | _ :: _, _ :: _, _ :: _, h => by simp [h.1, DZ.keys h.2.2]
  | [], [], _ :: _, h => h.elim
  | [], _ :: _, _, h => h.elim
  | _ :: _, [], _, h => h.elim
  | _ :: _, _ :: _, [], h => h.elim
theorem DZ.get {K V : Type} {Φ : BW} {w : World} {kV : K → Value} {eR : Value → V → RP} : ∀ {es : List MapEntry} {m : List (K × V)} {fs : List (List Nat)} (i : Nat) (x : K × V), DZ Φ w kV eR es m fs → m[i]? = some x → ∃ e f, es[i]? = some e ∧ fs[i]? = some f ∧ e.key = kV x.1 ∧ (eR e.val x.2).p Φ f w
  | e :: es, y :: m, f :: fs, 0, x, h, hx => by simp at hx; subst hx; exact ⟨e, f, rfl, rfl, h.1, h.2.1⟩
  | e :: es, y :: m, f :: fs, i + 1, x, h, hx => by simpa using DZ.get i x h.2.2 (by simpa using hx)
  | [], [], [], _, _, _, hx => by simp at hx
  | [], [], _ :: _, _, _, h, _ => h.elim
  | [], _ :: _, _, _, _, h, _ => h.elim
  | _ :: _, [], _, _, _, h, _ => h.elim
  | _ :: _, _ :: _, [], _, _, h, _ => h.elim
theorem DZ.append {K V : Type} {Φ : BW} {w : World} {kV : K → Value} {eR : Value → V → RP} : ∀ {es : List MapEntry} {m : List (K × V)} {fs : List (List Nat)} {es' : List MapEntry} {m' : List (K × V)} {fs' : List (List Nat)}, DZ Φ w kV eR es m fs → DZ Φ w kV eR es' m' fs' → DZ Φ w kV eR (es ++ es') (m ++ m') (fs ++ fs')
  | [], [], [], _, _, _, _, k => k
  | _ :: _, _ :: _, _ :: _, _, _, _, h, k => ⟨h.1, h.2.1, DZ.append h.2.2 k⟩
  | [], [], _ :: _, _, _, _, h, _ => h.elim
  | [], _ :: _, _, _, _, _, h, _ => h.elim
  | _ :: _, [], _, _, _, _, h, _ => h.elim
  | _ :: _, _ :: _, [], _, _, _, h, _ => h.elim
theorem DZ.set {K V : Type} {Φ : BW} {w : World} {kV : K → Value} {eR : Value → V → RP} : ∀ {es : List MapEntry} {m : List (K × V)} {fs : List (List Nat)} (i : Nat) {e : MapEntry} {x : K × V} {f : List Nat}, DZ Φ w kV eR es m fs → e.key = kV x.1 → (eR e.val x.2).p Φ f w → DZ Φ w kV eR (es.set i e) (m.set i x) (fs.set i f)
  | [], [], [], _, _, _, _, h, _, _ => by simpa using h
  | _ :: _, _ :: _, _ :: _, 0, _, _, _, h, h1, h2 => ⟨h1, h2, h.2.2⟩
  | _ :: _, _ :: _, _ :: _, i + 1, _, _, _, h, h1, h2 => ⟨h.1, h.2.1, DZ.set i h.2.2 h1 h2⟩
  | [], [], _ :: _, _, _, _, _, h, _, _ => h.elim
  | [], _ :: _, _, _, _, _, _, h, _, _ => h.elim
  | _ :: _, [], _, _, _, _, _, h, _, _ => h.elim
  | _ :: _, _ :: _, [], _, _, _, _, h, _, _ => h.elim

def NL (l : List UInt8) : Value := .string ⟨l.toArray⟩
def Oi (l : List UInt8) : Value := .agg (l.map DE).toArray
end
section
open Go Go.RowKit

def MZ {K V : Type} (v : Value) (kV : K → Value) (kOk : K → Prop) (eR : Value → V → RP) (m : List (K × V)) : RP := ⟨fun Φ f w => ∃ b es clock fs, v = .map (some b) ∧ f = b :: List.flatten fs ∧ w.heap[b]? = some (.map es clock) ∧
    DZ Φ w kV eR es.toList m fs ∧ (es.toList.map (·.born)).Nodup ∧ (∀ e ∈ es.toList, e.born < clock) ∧ (m.map (·.1)).Nodup ∧ ∀ x ∈ m, kOk x.1, by
  rintro Φ Φ' f w w' hle hs hb ⟨b, es, clock, fs, h1, rfl, h3, h4, h5⟩
  exact ⟨b, es, clock, fs, h1, rfl, by rw [hb b (by simp)]; exact h3, h4.loc hle (fun c hc => hs c (by simp [hc])) (fun c hc => hb c (by simp [hc])), h5⟩⟩

end
section
open Go Go.RowKit

def B8 (p : Value) : VP := ⟨fun _ v => (v = .pointer none ∨ v = p) ∧ ∃ b, p = .pointer (some ⟨b, 0, none⟩), fun _ h => h⟩
section ops
variable {P : Program} {G : FP} {N : List Cp} {d : Nat} {ty : TypeId} {pos : String} {af : Array Edge} {gd : Option (Nat × Bool)}
def Om : Value → Value
  | .slice a _ _ => .pointer a
  | v => v
theorem KE {T t : TypeId} {x : Operand} {v : Value} {l : List UInt8} (j : Nat) (hx : Bk G N x (Bf v)) (hR : BR .none N j = .res (acc v T 1 bC l)) (hl : l ≠ []) :
    BJ P G ⟨some d, .call ⟨.builtin .unsafeSliceData, #[x], #[t]⟩, ty, pos, af, gd⟩ N [] (fun _ => [.slot d (Bf (Om v))]) :=
  BJ.val fun Φ a w f _ hG hN => by
    have hv : a.eval x = v := hx Φ a w f hG hN
    obtain ⟨g, _, ⟨_, h1, _⟩ | ⟨b, cap, cs, zs, rfl, _, _, _, _, hc, _⟩⟩ := hN.res j hR
    · exact absurd h1 hl
    · refine ⟨.pointer (some ⟨b, 0, none⟩), ?_, rfl⟩
      have hpos : 0 < l.length := List.length_pos_iff.2 hl
      have := Lib.run_unsafeSliceData_row (P := P) (w := w) #[t] ty ⟨b, 0, none⟩ l.length cap (by omega)
      simp only [execOp, resolve, hv, invoke, builtin, List.map_toArray, List.map_cons, List.map_nil, Sem.run_bind, Sem.run_pure, Result.andThen_ok, this]
theorem GM {w : World} {a : Addr} {n c : Nat} (h : c ≠ a.block) : (w.freeze a n).heap[c]? = w.heap[c]? := by
  unfold World.freeze
  split
  · rfl
  · simp [Array.getElem?_modify, Ne.symm h]
theorem Hd {w : World} {a : Addr} {n : Nat} : (w.freeze a n).heap.size = w.heap.size := by
  unfold World.freeze
  split <;> simp
theorem IQ {w : World} {a : Addr} {n : Nat} (x : Addr) : (w.freeze a n).cell? x = w.cell? x := by
  by_cases hb : x.block = a.block
  · unfold World.freeze
    split
    · rfl
    · unfold World.cell?
      simp only [hb, Array.getElem?_modify, if_true]
      cases h : w.heap[a.block]? with
      | none => simp
      | some o => cases o <;> simp
  · unfold World.cell?
    rw [GM hb]
theorem Jz {T pt it : TypeId} {x y : Operand} {v : Value} {l : List UInt8} (hp : P.underlying pt = some (.pointer T)) (hc : P.cellsOf T = 1) (hx : Bk G N x (Bf (Om v))) (hy : Bk G N y (Ab .i64 l.length)) (hl : l ≠ []) :
    BJ P G ⟨some d, .call ⟨.builtin .unsafeString, #[x, y], #[pt, it]⟩, ty, pos, af, gd⟩ N [.res (acc v T 1 bC l)] (fun _ => [.slot d (AF l)]) := by
  intro Φ a w fN fC h1 h2 h3 h4 h5 h6 h7 K Q hK
  match fC, h4 with
  | [f], ⟨⟨hm, .inl ⟨_, e1, _⟩⟩, _⟩ => exact absurd e1 hl
  | [f], ⟨⟨hm, .inr ⟨b, cap, cs, zs, hveq, hf, hb, hA, hlen, hcap, hpub, hfree⟩⟩, _⟩ =>
    subst hf; subst hveq
    have hxv : a.eval x = .pointer (some ⟨b, 0, none⟩) := hx Φ a w fN h2 h3
    obtain ⟨hyv, _⟩ := hy Φ a w fN h2 h3
    have hcs := Gk l cs hA
    have hlc : cs.length = l.length := by rw [hcs]; simp
    have hr := Lib.run_unsafeString_row (P := P) w pt it ty T hp hc b (cs ++ zs).length (by simp [World.shape?, hb]) l hl (by simp; omega) (by have := (Fp hm).2; simp [IntKind.max, IntKind.bits, IntKind.signed] at this; omega) (fun j x' hj => by
      rw [Addr.add_lit, cell_of hb, Nat.zero_add, List.getElem?_append_left (by
        have : j < l.length := by
          rcases Nat.lt_or_ge j l.length with q | q
          · exact q
          · rw [List.getElem?_eq_none q] at hj; cases hj
        omega), hcs, List.getElem?_map, hj]
      rfl)
    have hrun : (execOp a.eval ⟨some d, .call ⟨.builtin .unsafeString, #[x, y], #[pt, it]⟩, ty, pos, af, gd⟩).run P w = .ok (.value (.string ⟨l.toArray⟩)) (w.freeze ⟨b, 0, none⟩ l.length) := by
      simp only [execOp, resolve, hxv, hyv, invoke, builtin, List.map_toArray, List.map_cons, List.map_nil, Sem.run_bind, Sem.run_pure, Result.andThen_ok, hr]
    unfold Oper.wp
    rw [hrun, Oper.upon_value]
    have hos : (w.freeze ⟨b, 0, none⟩ l.length).os = w.os ∧ (w.freeze ⟨b, 0, none⟩ l.length).tape = w.tape ∧ (w.freeze ⟨b, 0, none⟩ l.length).output = w.output := by
      unfold World.freeze
      split <;> exact ⟨rfl, rfl, rfl⟩
    exact hK _ _ Φ [[]] ⟨hos.1, hos.2.1, hos.2.2, by rw [Hd]; exact Nat.le_refl _, fun c _ hne => GM (by simpa using hne), BW.le_refl _, fun _ _ _ => rfl⟩
      ⟨fun c o u e => by rw [Hd]; exact h1.lt c o u e, fun c o u e => by rw [IQ]; exact h1.cell c o u e⟩ ⟨⟨rfl, _, DH a _ d (h7 d rfl), rfl, hm⟩, trivial⟩ (by simp) (by simp)

theorem GC {t e : TypeId} {x : Operand} {n : Nat} {l : List UInt8} {post : List Ck} {lo hi : Option Operand} {a b : Int} (hu : P.underlying t = some (.array n e)) (hs : ∀ w, (sizeOf e).run P w = .ok 1 w) (hx : Bk G N x (EI (Af n l :: post)))
    (hlo : HR G N lo 0 a) (hhi : HR G N hi n b) (h : 0 ≤ a ∧ a ≤ b ∧ b ≤ n ∧ n ≤ Bw) :
    BJ P G ⟨some d, .slice t x lo hi none, ty, pos, af, gd⟩ N [] (fun _ => [.slot d (Ai bC ((l.take b.toNat).drop a.toNat))]) :=
  BJ.val fun Φ ac w f _ hG hN => by
    obtain ⟨bb, o, cs, hv, ⟨ys, zs, rfl, ⟨hl, rfl⟩, hz⟩, hp⟩ := hx Φ ac w f hG hN
    have hsb := Ep (P := P) (w := w) false n n (lo := lo.map ac.eval) (hi := hi.map ac.eval) (a := a.toNat) (b := b.toNat) (hlo.ok hG hN h.1) (hhi.ok hG hN (by omega)) (by omega) (by omega)
    have hlen : ((l.take b.toNat).drop a.toNat).length = b.toNat - a.toNat := by simp; omega
    have hp2 : Eg Φ bb (o + a.toNat) (((l.take b.toNat).drop a.toNat).map DE) := fun j v hj => by
      have hj' : j < b.toNat - a.toNat := by
        rcases Nat.lt_or_ge j (b.toNat - a.toNat) with q | q
        · exact q
        · rw [List.getElem?_eq_none (by rw [List.length_map, hlen]; exact q)] at hj; cases hj
      have := hp (a.toNat + j) v (by
        rw [List.getElem?_append_left (by simp; omega)]
        rw [List.getElem?_map, List.getElem?_drop, List.getElem?_take_of_lt (by omega)] at hj
        rw [List.getElem?_map]; exact hj)
      rwa [← Nat.add_assoc] at this
    by_cases hc : n = a.toNat
    · have h0 : (l.take b.toNat).drop a.toNat = [] := List.eq_nil_of_length_eq_zero (by omega)
      refine ⟨.slice (some ⟨bb, o, none⟩) (b.toNat - a.toNat) (n - a.toNat), ?_, by rw [hlen]; omega, .inr (.inl ⟨bb, o, n - a.toNat, [], by rw [hlen], by rw [hlen]; omega, by rw [h0]; rfl, fun j v hj => by simp at hj⟩)⟩
      simp [execOp, hv, Instr.sliceAt, run_underlying hu, Instr.sureAddr, hsb, hs, ← hc]
    · refine ⟨.slice (some ⟨bb, o + a.toNat, none⟩) (b.toNat - a.toNat) (n - a.toNat), ?_, by rw [hlen]; omega, .inr (.inl ⟨bb, o + a.toNat, n - a.toNat, _, by rw [hlen], by rw [hlen]; omega, Gj Φ _, hp2⟩)⟩
      simp [execOp, hv, Instr.sliceAt, run_underlying hu, Instr.sureAddr, hsb, hs, hc, Addr.add_lit]
end ops

theorem MW {P : Program} {fn : Func} {r : ResultVar} {c : Cx} {l : List Cp} {a : Act} {w : World} {p : Value} (h : A0 c l a w) (hr : fn.results = #[r]) (hV : ML P c l r (Bf p)) (js : List Nat) (post : Value → List RP) (hd : distinct js = true) (hlt : (js.all fun j => decide (j < l.length)) = true) (hR : (post p).map .res = js.map (BR .none l)) :
    DF P fn c L5 post a w := by
  obtain ⟨Φ, fp, h⟩ := h
  obtain ⟨v, h1, h2⟩ := hV a w Φ fp h
  obtain ⟨fs, q1, q2, q3⟩ := h.Mi js hd (fun j hj => by simpa using (List.all_eq_true.1 hlt) j hj) (post p) hR
  have h2 : v = p := h2
  subst h2
  refine ⟨h.defers, v, Φ, fs, ?_, h.step, h.Iw, trivial, q1, q2, q3⟩
  rw [Fi, hr]
  simp [h1]
theorem AX.split {P : Program} {G : FP} {f : FuncId} {args : List VP} {R S : RP} {R' S' : Value → RP} {pre : List RP} {post : Value → List RP} {res : VP} (h : AX P G f args (RP.sep R S :: pre) (fun v => RP.sep (R' v) (S' v) :: post v) res) :
    AX P G f args (R :: S :: pre) (fun v => R' v :: S' v :: post v) res := by
  intro Φ w vs fs h1 h2 h3 h4 h5 h6
  match fs, h4 with
  | f1 :: f2 :: fs, ⟨q1, q2, q3⟩ =>
    have e : ((f1 ++ f2) :: fs).flatten = (f1 :: f2 :: fs).flatten := by simp
    have := h Φ w vs ((f1 ++ f2) :: fs) h1 h2 h3 ⟨⟨f1, f2, rfl, q1, q2⟩, q3⟩ (by rw [e]; exact h5) (by rw [e]; exact h6)
    rw [e] at this
    refine this.mono fun e' w' hq => ?_
    obtain ⟨v, Φ', fs', r0, r1, r2, r3, r4, r5, r6⟩ := hq
    match fs', r4 with
    | g :: gs, ⟨⟨g1, g2, hg, s1, s2⟩, s3⟩ =>
      subst hg
      have e2 : ((g1 ++ g2) :: gs).flatten = (g1 :: g2 :: gs).flatten := by simp
      rw [e2] at r5 r6
      exact ⟨v, Φ', g1 :: g2 :: gs, r0, r1, r2, r3, ⟨s1, s2, s3⟩, r5, r6⟩
    | [], r4 => exact r4.elim
  | [_], ⟨_, h4⟩ => exact h4.elim
  | [], h4 => exact h4.elim

theorem A0.Jv {c : Cx} {l : List Cp} {a : Act} {w : World} {p : Value} {T : TypeId} {L : List Ck} (h : A0 c l a w) (j : Nat) (hj : BR .none l j = .res (lb p T L)) : A0 c (l.set j (.fact (EI L) p)) a w := by
  obtain ⟨Φ, fp, h⟩ := h
  have hjl := DP hj (by simp)
  have hx := h.holds j hjl
  rw [hj] at hx
  obtain ⟨b, cs, hp, hf, hb, hL, hn⟩ := hx
  have hown := (h.own j hjl).2 b (by rw [hf]; simp)
  let Φ' : BW := fun b' o => if b' = b then cs[o]? else Φ b' o
  have hle : BW.le Φ Φ' := fun b' o v e => by
    by_cases hbb : b' = b
    · rw [hbb, hn o] at e; cases e
    · simp only [Φ', if_neg hbb]; exact e
  have hap : ∀ i, i < l.length → i ≠ j → ∀ x ∈ fp i, x ≠ b := fun i hi hne x hx e => h.apart i j hi hjl hne x hx (by rw [hf, e]; simp)
  refine ⟨Φ', fun i => if i = j then [] else fp i, h.defers, h.size, ⟨fun b' o v e => ?_, fun b' o v e => ?_⟩, c.G.mono hle h.GL, h.step.trans (G := [b]) ⟨rfl, rfl, rfl, Nat.le_refl _, fun _ _ _ => rfl, hle, fun b' _ hne => by funext o; simp only [Φ', if_neg (by simpa using hne : ¬ b' = b)]⟩ (fun b' hb' hlt => by
      simp only [List.mem_singleton] at hb'
      subst hb'
      rcases hown.2 with q | q
      · exact q
      · omega), fun i hi => ?_, fun i hi => ?_, fun i k hi hk hne x hx hx' => ?_⟩
  · by_cases hbb : b' = b
    · rw [hbb]; exact hown.1
    · simp only [Φ', if_neg hbb] at e; exact h.Iw.lt b' o v e
  · by_cases hbb : b' = b
    · subst hbb
      simp only [Φ', if_pos trivial] at e
      rw [cell_of hb]; exact e
    · simp only [Φ', if_neg hbb] at e; exact h.Iw.cell b' o v e
  · have hi : i < l.length := by simpa using hi
    by_cases q : j = i
    · subst q
      have e1 : BR .none (l.set j (.fact (EI L) p)) j = .fact (EI L) p := by rw [Dp, if_pos ⟨rfl, hjl⟩]
      rw [e1]
      simp only [if_true]
      exact ⟨rfl, b, 0, cs, hp, hL.mono hle, fun o v hv => by simp only [Φ', if_pos trivial, Nat.zero_add]; exact hv⟩
    · have e1 : BR .none (l.set j (.fact (EI L) p)) i = BR .none l i := by rw [Dp, if_neg (fun hc => q hc.1)]
      rw [e1]
      simp only [if_neg (fun e : i = j => q e.symm)]
      exact Cp.Gg (h.holds i hi) hle (fun x hx => by funext o; simp only [Φ', if_neg (hap i hi (fun e => q e.symm) x hx)]) (fun _ _ => rfl) (fun _ _ => rfl)
  · have hi : i < l.length := by simpa using hi
    by_cases q : i = j
    · simp only [if_pos q]; exact ⟨List.nodup_nil, by simp⟩
    · simp only [if_neg q]; exact h.own i hi
  · have hi : i < l.length := by simpa using hi
    have hk : k < l.length := by simpa using hk
    by_cases q : i = j
    · simp [if_pos q] at hx
    · by_cases r : k = j
      · simp [if_pos r] at hx'
      · simp only [if_neg q] at hx
        simp only [if_neg r] at hx'
        exact h.apart i k hi hk hne x hx hx'
theorem A0.IT {c : Cx} {l : List Cp} {a : Act} {w : World} {d : Nat} {p : Value} {L : List Ck} (h : A0 c l a w) (i j : Nat) (hi : BR .none l i = .slot d (BG p 0)) (hj : BR .none l j = .fact (EI L) p) : A0 c (l.set i (.slot d (EI L))) a w := by
  obtain ⟨Φ, fp, h⟩ := h
  have hil := DP hi (by simp)
  have hjl := DP hj (by simp)
  have h1 := h.holds i hil
  rw [hi] at h1
  obtain ⟨q1, v, q2, b, q3, q4⟩ := h1
  have h2 := h.holds j hjl
  rw [hj] at h2
  refine ⟨Φ, fp, h.defers, h.size, h.Iw, h.GL, h.step, fun k hk => ?_, fun k hk => h.own k (by simpa using hk), fun k m hk hm => h.apart k m (by simpa using hk) (by simpa using hm)⟩
  have hk : k < l.length := by simpa using hk
  rw [Dp]
  by_cases q : i = k
  · subst q
    rw [if_pos ⟨rfl, hil⟩]
    refine ⟨q1, v, q2, ?_⟩
    rw [q4, ← q3]
    exact h2.2
  · rw [if_neg (fun hc => q hc.1)]
    exact h.holds k hk

theorem GN {P : Program} {G : FP} {f : FuncId} {T : TypeId} {p v : Value} (hfresh : ∀ (b : Nat) (w : World), w.cell? ⟨b, 0, none⟩ = some (.pointer none) → w.shape? b = some (T, 2) → w.frozen? ⟨b, 0, none⟩ = false → Calls P f #[.pointer (some ⟨b, 0, none⟩)] w fun e w' => e = .returned (.tuple #[]) ∧ w' = w.setCell ⟨b, 0, none⟩ (.pointer (some ⟨b, 0, none⟩)))
    (hused : ∀ (b : Nat) (w : World), w.cell? ⟨b, 0, none⟩ = some (.pointer (some ⟨b, 0, none⟩)) → Calls P f #[.pointer (some ⟨b, 0, none⟩)] w fun e w' => e = .returned (.tuple #[]) ∧ w' = w) :
    AX P G f [Bf p] [lb p T [one (B8 p), one (Bf v)]] (fun _ => [lb p T [one (B8 p), one (Bf v)]]) (DJ []) := by
  intro Φ w vs fs h1 h2 h3 h4 h5 h6
  match vs, h3, fs, h4 with
  | [u], ⟨hu, _⟩, [f], ⟨⟨b, cs, hp, hf, hb, hL, hn⟩, _⟩ =>
    have hu : u = p := hu
    subst hu; subst hp; subst hf
    obtain ⟨c1, c2, rfl, ⟨q, rfl, hq1, hq, _⟩, d1, d2, rfl, ⟨x, rfl, hx1, hx⟩, hd⟩ := hL
    have hd : d2 = [] := hd
    have hx : x = v := hx
    subst hd; subst hx
    have hpack : ∀ (w' : World) (q' : Value), Step w Φ [b] w' Φ → Du Φ w' → w'.heap[b]? = some (.cells [q', x].toArray T (0, 0)) → (q' = .pointer none ∨ q' = .pointer (some ⟨b, 0, none⟩)) → w'.heap.size = w.heap.size →
        ∃ (v' : Value) (Φ' : BW) (fs' : List (List Nat)), Ending.returned (.tuple #[]) = .returned v' ∧ Step w Φ [[b]].flatten w' Φ' ∧ Du Φ' w' ∧ (DJ []).p Φ' v' ∧ Fu Φ' w' [lb (.pointer (some ⟨b, 0, none⟩)) T [one (B8 (.pointer (some ⟨b, 0, none⟩))), one (Bf x)]] fs' ∧ fs'.flatten.Nodup ∧ ∀ c ∈ fs'.flatten, c < w'.heap.size ∧ (c ∈ [[b]].flatten ∨ w.heap.size ≤ c) := by
      intro w' q' hs hP hblk hq' hsz
      refine ⟨.tuple #[], Φ, [[b]], rfl, by simpa using hs, hP, ⟨[], rfl, trivial⟩, ⟨⟨b, [q', x], rfl, rfl, hblk, ⟨[q'], [x], rfl, ⟨q', rfl, ?_, hq', b, rfl⟩, [x], [], rfl, ⟨x, rfl, hx1, rfl⟩, rfl⟩, hn⟩, trivial⟩, by simp, fun c hc => ?_⟩
      · rcases hq' with rfl | rfl <;> rfl
      · simp at hc
        subst hc
        have := h6 c (by simp)
        exact ⟨by rw [hsz]; exact this, .inl (by simp)⟩
    have c0 : w.cell? ⟨b, 0, none⟩ = some q := by rw [cell_of hb]; rfl
    rcases hq with rfl | rfl
    · refine (hfresh b w c0 (by simp [World.shape?, hb]) (by simp [World.frozen?, hb])).mono fun e w' hq => ?_
      obtain ⟨rfl, rfl⟩ := hq
      refine hpack _ (.pointer (some ⟨b, 0, none⟩)) ⟨rfl, rfl, rfl, by simp, fun c hc hne => E4 (by simpa using hne), BW.le_refl _, fun _ _ _ => rfl⟩ ⟨fun c o u e => by simpa using h1.lt c o u e, fun c o u e => ?_⟩ (Ha hb) (.inr rfl) (by simp)
      have hne : c ≠ b := fun e' => by rw [e', hn o] at e; cases e
      exact (World.cell?_of_block (w := w) (E4 hne)).trans (h1.cell c o u e)
    · refine (hused b w c0).mono fun e w' hq => ?_
      obtain ⟨rfl, rfl⟩ := hq
      exact hpack w' _ (Step.refl _ _ _) h1 hb (.inr rfl) rfl

def Ot (v : Value) : VP := ⟨fun _ u => u = v ∧ v.oneCell' = true, fun _ h => h⟩
theorem Hn (v : Value) : Cells (Ot v) [one (Bf v)] := by
  rintro Φ u ⟨rfl, h⟩
  have h2 : u.cells.toList = [u] := by cases u <;> first | rfl | (simp [Value.oneCell'] at h)
  rw [h2]
  exact ⟨[u], [], rfl, ⟨u, rfl, h, rfl⟩, rfl⟩
theorem Hq {α : Type} {v : Value} {T : TypeId} {sz : Nat} {c : α → List Ck} {xs : List α} : ∀ Φ f w, (acc v T sz c xs).p Φ f w → v.oneCell' = true := by
  rintro Φ f w ⟨_, ⟨rfl, _⟩ | ⟨b, cap, cs, zs, rfl, _⟩⟩ <;> rfl
theorem Jx {G : FP} {N : List Cp} {t : Nat} {v : Value} {R0 : RP} (i j : Nat) (he : BR .none N i = .slot t (Bf v)) (hf : BR .none N j = .res R0) (h1 : ∀ Φ f w, R0.p Φ f w → v.oneCell' = true) : Bk G N (.tmp t) (Ot v) := by
  intro Φ a w f hG hN
  obtain ⟨g, hr⟩ := hN.res j hf
  exact ⟨opt (G := G) i he Φ a w f hG hN, h1 _ _ _ hr⟩
theorem Jh {p v : Value} {Φ : BW} (h : (BG p 0).p Φ v) : (Bf p).p Φ v := by
  obtain ⟨b, h1, h2⟩ := h
  exact h2.trans h1.symm
theorem HY {p v : Value} {Φ : BW} (h : (Bf p).p Φ v) (hp : ∃ b, p = .pointer (some ⟨b, 0, none⟩)) : (BG p 0).p Φ v := by
  obtain ⟨b, hb⟩ := hp
  have h : v = p := h
  exact ⟨b, hb, h.trans hb⟩
theorem Ah {P : Program} {G : FP} {N : List Cp} {d : Nat} {ty : TypeId} {pos : String} {af : Array Edge} {gd : Option (Nat × Bool)} {s : TypeId} {x : Operand} {p : Value} {fields : Array Field} {i n : Nat} {fd : Field} (k m : Nat) (hu : P.underlying s = some (.struct fields)) (hi : fields[i]? = some fd) (hs : ∀ w, (sizeOf fd.type).run P w = .ok n w) (hn : n ≠ 0)
    (hx : Bk G N x (BG p k)) (hm : k + fd.offset = m) : BJ P G ⟨some d, .fieldAddr s x i, ty, pos, af, gd⟩ N [] (fun _ => [.slot d (BG p m)]) := by
  subst hm; exact Hi hu hi hs hn hx
theorem A4.A2 {P : Program} {G : FP} {ops : Array Oper} {o : Oper} {k d d' : Nat} {want b : Bool} {ok : Oper} (hb : b = !want) (hg : o.guard = some (k, want)) (hk : ops[k]? = some ok) (hd : ok.dst = some d) (hd' : o.dst = some d') :
    A4 P G ops o [.slot d (An b)] [] (fun _ => [.slot d' (Bf undef)]) := by
  subst hb
  intro Φ a w fN fC h1 h2 h3 h4 h5 h6 h7 K Q hK
  match fN, h3 with
  | [f], h3 =>
    match fC, h4 with
    | [], _ =>
      obtain ⟨⟨rfl, v, hv, hb⟩, _⟩ := h3
      have hb : v = .bool !want := hb
      subst hb
      unfold Jp
      rw [if_neg (by cases want <;> simp [Region.wanted, hg, yielded, hk, hd, hv])]
      exact hK undef w Φ [[]] (Step.refl _ _ _) h1 ⟨⟨rfl, undef, by rw [hd']; exact DH a undef d' (h7 d' hd'), rfl⟩, trivial⟩ (by simp) (by simp)
theorem A4.DA {P : Program} {G : FP} {ops : Array Oper} {o : Oper} {k d d' : Nat} {want : Bool} {ok : Oper} (hg : o.guard = some (k, want)) (hk : ops[k]? = some ok) (hd : ok.dst = some d) (hd' : o.dst = some d') :
    A4 P G ops o [.slot d (Bf undef)] [] (fun _ => [.slot d' (Bf undef)]) := by
  intro Φ a w fN fC h1 h2 h3 h4 h5 h6 h7 K Q hK
  match fN, h3 with
  | [f], h3 =>
    match fC, h4 with
    | [], _ =>
      obtain ⟨⟨rfl, v, hv, hb⟩, _⟩ := h3
      have hb : v = undef := hb
      subst hb
      unfold Jp
      rw [if_neg (by cases want <;> simp [Region.wanted, hg, yielded, hk, hd, hv, undef])]
      exact hK undef w Φ [[]] (Step.refl _ _ _) h1 ⟨⟨rfl, undef, by rw [hd']; exact DH a undef d' (h7 d' hd'), rfl⟩, trivial⟩ (by simp) (by simp)

end
section
open Go Go.RowKit

def Bu (w : World) : BW := fun b o => w.cell? ⟨b, o, none⟩
theorem Kf (w : World) : Du (Bu w) w := by
  refine ⟨fun b o v h => ?_, fun b o v h => h⟩
  unfold Bu World.cell? at h
  cases hb : w.heap[b]? with
  | none => simp [hb] at h
  | some x => exact (Array.getElem?_eq_some_iff.1 hb).1

def DY {α : Type} (P : Program) (t : TypeId) (c : α → List Ck) : Prop := ∀ {H : Type} (enc : TypeId × Value → H) (w : World) (base : Nat) (sp : Nat → Bool) (held : Bool) (fuel : Nat) (cs : List Value) (r : DataW H × List MemPlace),
  DataW.trod enc P w base sp held fuel t cs = some r → ∃ x : α, Bs (Bu w) cs (c x)

section
variable {P : Program} {t e : TypeId}
theorem G0 {k : IntKind} {n : Int} (h : (Lit.int k n).wf = true) : Db k n := by
  simpa [Lit.wf, Db] using h
theorem BX {k : IntKind} (ht : P.underlying t = some (.int k)) : DY P t (iC k) := by
  intro H enc w base sp held fuel cs r h
  obtain ⟨n, rfl, _, hw⟩ := DataW.trod_int ht h
  exact ⟨n, [_], [], rfl, ⟨_, rfl, rfl, rfl, G0 hw⟩, rfl⟩
theorem Gd (ht : P.underlying t = some .bool) : DY P t Nz := by
  intro H enc w base sp held fuel cs r h
  obtain ⟨b, rfl, _⟩ := DataW.trod_bool ht h
  exact ⟨b, [_], [], rfl, ⟨_, rfl, rfl, rfl⟩, rfl⟩
theorem EM (ht : P.underlying t = some .string) : DY P t F1 := by
  intro H enc w base sp held fuel cs r h
  obtain ⟨s, rfl, _, hl⟩ := DataW.trod_string ht h
  refine ⟨s.data.toList, [_], [], rfl, ⟨_, rfl, rfl, rfl, ?_⟩, rfl⟩
  have e1 : s.data.toList.length = s.size := rfl
  unfold maxLen at hl
  unfold Bw
  omega
theorem KC (ht : P.underlying t = some (.int .u8)) : DY P t bC := by
  intro H enc w base sp held fuel cs r h
  obtain ⟨n, rfl, _, hw⟩ := DataW.trod_int ht h
  have hr := G0 hw
  exact ⟨Dn n, Fg n (Bu w) _ ⟨rfl, hr⟩⟩
theorem G4 {α : Type} {c : α → List Ck} {Φ : BW} {sz : Nat} (cs : List Value) : ∀ (n : Nat), cs.length = n * sz → (∀ i, i < n → ∃ x, Bs Φ ((cs.drop (i * sz)).take sz) (c x)) → ∃ xs : List α, xs.length = n ∧ CY Φ c cs xs
  | 0, hl, _ => ⟨[], rfl, List.eq_nil_of_length_eq_zero (by simpa using hl)⟩
  | n + 1, hl, h => by
    have hle : n * sz + sz = (n + 1) * sz := by rw [Nat.add_mul, Nat.one_mul]
    obtain ⟨xs, h1, h2⟩ := G4 (c := c) (Φ := Φ) (sz := sz) (cs.take (n * sz)) n (by rw [List.length_take]; omega) (fun i hi => by
      obtain ⟨x, hx⟩ := h i (by omega)
      have hle2 : i * sz + sz ≤ n * sz := by
        have : (i + 1) * sz ≤ n * sz := Nat.mul_le_mul_right _ hi
        rw [Nat.add_mul, Nat.one_mul] at this; exact this
      refine ⟨x, ?_⟩
      rw [List.drop_take, List.take_take, Nat.min_eq_left (by omega)]
      exact hx)
    obtain ⟨x, hx⟩ := h n (by omega)
    refine ⟨xs ++ [x], by simp [h1], ?_⟩
    have : cs = cs.take (n * sz) ++ cs.drop (n * sz) := (List.take_append_drop _ _).symm
    rw [this]
    refine h2.append ⟨cs.drop (n * sz), [], by simp, ?_, rfl⟩
    rw [List.take_of_length_le (by rw [List.length_drop]; omega)] at hx
    exact hx
theorem CN {n : Nat} (ht : P.underlying t = some (.array n e)) (he : P.underlying e = some (.int .u8)) (h1 : P.cellsOf e = 1) (hn : P.cellsOf t = n) : DY P t (dC n) := by
  intro H enc w base sp held fuel cs r h
  obtain ⟨xs, m, _, _, hl, hx, hel⟩ := DataW.trod_array ht h
  rw [h1] at hel
  obtain ⟨l, hl2, hA⟩ := G4 (c := bC) (Φ := Bu w) (sz := 1) cs n (by rw [hl, hn]; simp) (fun i hi => by
    have h2 := hel i hi
    have hix : i < xs.length := by omega
    rw [List.getElem?_eq_getElem hix] at h2
    exact KC he enc w base sp held m _ _ h2)
  exact ⟨l, cs, [], by simp, ⟨hl2, Gk l cs hA⟩, rfl⟩
theorem J5 {α : Type} {n sz : Nat} {c : α → List Ck} {hsz : ∀ x, lens (c x) = sz} (ht : P.underlying t = some (.array n e)) (ho : DY P e c) (h1 : P.cellsOf e = sz) (hn : P.cellsOf t = n * sz) : DY P t (fun l => [A5 n sz c hsz l]) := by
  intro H enc w base sp held fuel cs r h
  obtain ⟨xs, m, _, _, hl, hx, hel⟩ := DataW.trod_array ht h
  rw [h1] at hel
  obtain ⟨l, hl2, hA⟩ := G4 (c := c) (Φ := Bu w) (sz := sz) cs n (by rw [hl, hn]) (fun i hi => by
    have h2 := hel i hi
    have hix : i < xs.length := by omega
    rw [List.getElem?_eq_getElem hix] at h2
    exact ho enc w base sp held m _ _ h2)
  exact ⟨l, cs, [], by simp, ⟨hl2, hA⟩, rfl⟩
theorem add_add (a : Addr) (i j : Nat) : (a.add i).add j = a.add (i + j) := by
  unfold Addr.add
  by_cases hi : i = 0
  · simp [hi]
  · by_cases hj : j = 0
    · simp [hi, hj]
    · simp [hi, hj, Nat.add_assoc]
theorem Dk {α : Type} {sz : Nat} {c : α → List Ck} (ht : P.underlying t = some (.slice e)) (ho : DY P e c) (h1 : P.cellsOf e = sz) (hsz : ∀ x, lens (c x) = sz) (hpos : 0 < sz) : DY P t (Kh c) := by
  intro H enc w base sp held fuel cs r h
  rcases DataW.trod_slice ht h with ⟨rfl, _⟩ | ⟨a, len, cap, elems, rest, m, _, rfl, _, hb, hlc, hcm, hel, hget, _⟩
  · exact ⟨[], [_], [], rfl, ⟨_, rfl, rfl, by simp [Bw], .inl ⟨rfl, rfl⟩⟩, rfl⟩
  · rw [h1] at hget
    have hone : ∀ i, i < len → ∃ (us : List Value) (x : α), us.length = sz ∧ (∀ j, j < sz → w.cell? (a.add (i * sz + j)) = us[j]?) ∧ Bs (Bu w) us (c x) := fun i hi => by
      have h2 := hget i hi
      have hix : i < elems.length := by omega
      rw [List.getElem?_eq_getElem hix] at h2
      obtain ⟨us, hus, htr⟩ := Option.bind_eq_some_iff.1 h2
      obtain ⟨_, hul, hcell⟩ := World.cells?_some hus
      obtain ⟨x, hx⟩ := ho enc w base sp held m us _ htr
      exact ⟨us, x, hul, fun j hj => by rw [← add_add]; exact hcell j hj, hx⟩
    have key : ∀ n, n ≤ len → ∃ (xs : List α) (vs : List Value), xs.length = n ∧ vs.length = n * sz ∧ CY (Bu w) c vs xs ∧ ∀ j, j < n * sz → w.cell? (a.add j) = vs[j]? := by
      intro n
      induction n with
      | zero => exact fun _ => ⟨[], [], rfl, by simp, rfl, fun j hj => by simp at hj⟩
      | succ n ih =>
        intro hn
        obtain ⟨xs, vs, q1, q2, q3, q4⟩ := ih (by omega)
        obtain ⟨us, x, r1, r2, r3⟩ := hone n (by omega)
        refine ⟨xs ++ [x], vs ++ us, by simp [q1], by rw [List.length_append, q2, r1, Nat.add_mul, Nat.one_mul], q3.append ⟨us, [], by simp, r3, rfl⟩, fun j hj => ?_⟩
        rw [Nat.add_mul, Nat.one_mul] at hj
        by_cases hlt : j < n * sz
        · rw [q4 j hlt, List.getElem?_append_left (by omega)]
        · have := r2 (j - n * sz) (by omega)
          rw [show n * sz + (j - n * sz) = j by omega] at this
          rw [this, List.getElem?_append_right (by omega), q2]
    obtain ⟨xs, vs, q1, q2, q3, q4⟩ := key len (Nat.le_refl _)
    subst q1
    have hlen : xs.length ≤ Bw := by simp only [maxLen] at hcm; simp only [Bw]; omega
    by_cases h0 : xs = []
    · subst h0
      exact ⟨[], [_], [], rfl, ⟨_, rfl, rfl, by simp [Bw], .inr (.inr ⟨rfl, a, cap, rfl⟩)⟩, rfl⟩
    · have hpl : 0 < xs.length * sz := Nat.mul_pos (List.length_pos_iff.2 h0) hpos
      have hspot : a.spot = none := by
        have h2 := q4 0 hpl
        have h3 : a.add 0 = a := rfl
        rw [h3, List.getElem?_eq_getElem (by omega : 0 < vs.length)] at h2
        cases hs : a.spot with
        | none => rfl
        | some s =>
          unfold World.cell? at h2
          split at h2 <;> simp [hs] at h2
      obtain ⟨b, o, s⟩ := a
      have hspot : s = none := hspot
      subst hspot
      refine ⟨xs, [_], [], rfl, ⟨_, rfl, rfl, hlen, .inr (.inl ⟨b, o, cap, vs, rfl, hlc, q3, fun j v hj => ?_⟩)⟩, rfl⟩
      have hjl : j < xs.length * sz := by
        rcases Nat.lt_or_ge j (xs.length * sz) with q | q
        · exact q
        · rw [List.getElem?_eq_none (by omega)] at hj; cases hj
      have := q4 j hjl
      rw [Addr.add_lit] at this
      exact this.trans hj
theorem CA {H : Type} {enc : TypeId × Value → H} {w : World} {base : Nat} {sp : Nat → Bool} {held : Bool} {fuel : Nat} {cs : List Value} {r : DataW H × List MemPlace} {fs : Array Field} (ht : P.underlying t = some (.struct fs)) (h : DataW.trod enc P w base sp held fuel t cs = some r) :
    cs.length = P.cellsOf t ∧ ∀ (i : Nat) (f : Field), fs[i]? = some f → ∀ {α : Type} {c : α → List Ck}, DY P f.type c → ∃ x, Bs (Bu w) ((cs.drop f.offset).take (P.cellsOf f.type)) (c x) := by
  obtain ⟨xs, n, _, _, hl, hx, hel⟩ := DataW.trod_struct ht h
  refine ⟨hl, fun i f hf α c ho => ?_⟩
  have h2 := hel i f hf
  have hix : i < xs.length := by
    rw [hx]
    exact (Array.getElem?_eq_some_iff.1 hf).1
  rw [List.getElem?_eq_getElem hix] at h2
  exact ho enc w base sp held n _ _ h2
theorem CR {Φ : BW} {cs : List Value} {L M : List Ck} (k n : Nat) (h : Bs Φ ((cs.drop k).take n) L) (h2 : Bs Φ (cs.drop (k + n)) M) : Bs Φ (cs.drop k) (L ++ M) := by
  have : cs.drop k = (cs.drop k).take n ++ cs.drop (k + n) := by rw [← List.drop_drop, List.take_append_drop]
  rw [this]
  exact h.append h2
theorem G3 {Φ : BW} {cs : List Value} {n : Nat} (h : cs.length = n) : Bs Φ (cs.drop n) [] := List.drop_eq_nil_of_le (by omega)
theorem HT {α : Type} {H : Type} {enc : TypeId × Value → H} {w : World} {base : Nat} {sp : Nat → Bool} {held : Bool} {v : Value} {d : DataW H} {p : List MemPlace} {c : α → List Ck} (ho : DY P t c) (h : DataW.Trod enc P w base sp held t v d p) : ∃ x, Bs (Bu w) v.cells.toList (c x) := by
  obtain ⟨fuel, h⟩ := h
  exact ho enc w base sp held fuel _ _ h
end

end
section
open Go Go.RowKit Go.Proofs Go.WideShapes
set_option linter.unusedVariables false
def Wf {α : Type} (c : α → List Ck) (p : α → Prop) : Prop := ∀ Φ cs x, Bs Φ cs (c x) → p x
theorem C5 {k : IntKind} : Wf (iC k) (Db k) := fun _ _ _ ⟨_, _, _, ⟨_, _, _, h⟩, _⟩ => h.2
theorem GS : Wf F1 (fun s => s.length ≤ Bw) := fun _ _ _ ⟨_, _, _, ⟨_, _, _, h⟩, _⟩ => h.2
theorem DI {n : Nat} : Wf (dC n) (fun l => l.length = n) := fun _ _ _ ⟨_, _, _, h, _⟩ => h.1
theorem CY.wf {α : Type} {c : α → List Ck} {p : α → Prop} (h : Wf c p) {Φ : BW} : ∀ {l : List α} {cs : List Value}, CY Φ c cs l → ∀ y ∈ l, p y
  | [], _, _, y, hy => by cases hy
  | x :: l, cs, ⟨u, v, _, h1, h2⟩, y, hy => by
    rcases List.mem_cons.1 hy with rfl | hy
    · exact h _ _ _ h1
    · exact CY.wf h h2 y hy
theorem D6 {α : Type} {c : α → List Ck} {p : α → Prop} (h : Wf c p) : Wf (Kh c) (fun l => l.length ≤ Bw ∧ ∀ y ∈ l, p y) := by
  rintro Φ cs x ⟨_, _, _, ⟨_, _, _, h1⟩, _⟩
  refine ⟨h1.1, ?_⟩
  rcases h1.2 with ⟨_, rfl⟩ | ⟨_, _, _, _, _, _, h2, _⟩ | ⟨rfl, _⟩
  · intro y hy; cases hy
  · exact CY.wf h h2
  · intro y hy; cases hy
theorem Mc {α : Type} {n sz : Nat} {c : α → List Ck} {hsz : ∀ x, lens (c x) = sz} {p : α → Prop} (h : Wf c p) : Wf (fun l => [A5 n sz c hsz l]) (fun l => l.length = n ∧ ∀ y ∈ l, p y) := by
  rintro Φ cs x ⟨_, _, _, ⟨h1, h2⟩, _⟩
  exact ⟨h1, CY.wf h h2⟩
theorem BK {Φ : BW} {cs : List Value} {k : Ck} {L : List Ck} (h : Bs Φ cs (k :: L)) : (∃ u, Bs Φ u [k]) ∧ ∃ v, Bs Φ v L := by
  obtain ⟨u, v, _, h1, h2⟩ := h
  exact ⟨⟨u, u, [], by simp, h1, rfl⟩, v, h2⟩
theorem Gl {Φ : BW} {cs : List Value} {K L : List Ck} (h : Bs Φ cs (K ++ L)) : (∃ u, Bs Φ u K) ∧ ∃ v, Bs Φ v L := by
  obtain ⟨u, v, _, h1, h2⟩ := h.split
  exact ⟨⟨u, h1⟩, v, h2⟩
theorem La {α : Type} {Φ : BW} {v : Value} {c : α → List Ck} {x : α} {P : Program} {W : World} {base : Nat} {t : TypeId} (hv : Value.okWide P W .any base t v) (ht : (match P.underlying t with | some (.struct _) | some (.array _ _) => True | _ => False)) (h : Bs Φ v.cells.toList (c x)) : (Co (c x)).p Φ v := by
  unfold Value.okWide at hv
  split at hv
  · obtain ⟨cs, rfl, _⟩ := hv
    exact ⟨cs.toList, by simp, by simpa [Value.cells] using h⟩
  · obtain ⟨cs, rfl, _⟩ := hv
    exact ⟨cs.toList, by simp, by simpa [Value.cells] using h⟩
  · rename_i h1 h2
    split at ht
    · rename_i q; exact absurd q (h1 _)
    · rename_i q; exact absurd q (h2 _ _)
    · exact ht.elim

end
section
open Go Go.RowKit Go.Proofs
set_option linter.unusedVariables false
set_option linter.unusedSimpArgs false
theorem Mb {α : Type} {c : α → List Ck} {z : α} {zs : List Value} (h : ∀ Φ, Bs Φ zs (c z)) (Φ : BW) : ∀ n, CY Φ c (List.replicate n zs).flatten (List.replicate n z)
  | 0 => rfl
  | n + 1 => ⟨zs, (List.replicate n zs).flatten, rfl, h Φ, Mb h Φ n⟩
end
section
open Go Go.RowKit Go.Proofs
set_option linter.unusedVariables false
set_option linter.unusedSimpArgs false

def own {α : Type} (v : Value) (T : TypeId) (sz : Nat) (c : α → List Ck) (xs : List α) : RP := ⟨fun Φ f w => xs.length ≤ Bw ∧ ((v = .slice none 0 0 ∧ xs = [] ∧ f = []) ∨
    ∃ b cap cs zs, v = .slice (some ⟨b, 0, none⟩) xs.length cap ∧ f = [b] ∧ w.heap[b]? = some (.cells (cs ++ zs).toArray T (0, 0)) ∧ CY Φ c cs xs ∧ (cs ++ zs).length = cap * sz ∧ xs.length ≤ cap ∧ ∀ o, Φ b o = none), by
  rintro Φ Φ' f w w' hle hs hb ⟨hm, ⟨h1, h2, h3⟩ | ⟨b, cap, cs, zs, h1, h2, h3, h4, h5, h6, h8⟩⟩
  · exact ⟨hm, .inl ⟨h1, h2, h3⟩⟩
  · refine ⟨hm, .inr ⟨b, cap, cs, zs, h1, h2, ?_, h4.mono hle, h5, h6, fun o => ?_⟩⟩
    · rw [hb b (by simp [h2])]; exact h3
    · rw [hs b (by simp [h2])]; exact h8 o⟩
end
section
open Go Go.RowKit Go.Proofs
set_option linter.unusedVariables false
set_option linter.unusedSimpArgs false

def K0 : VP := ⟨fun _ v => v = .slice none 0 0 ∨ ∃ a, v = .slice (some a) 0 0, fun _ h => h⟩
section ops
variable {P : Program} {G : FP} {N : List Cp} {d : Nat} {ty : TypeId} {pos : String} {af : Array Edge} {gd : Option (Nat × Bool)}
theorem Hg {w : World} {sT ty e : TypeId} {i : TypeInfo} (ht : P.underlying sT = some (.slice e)) (hi : P.info? e = some i) (a : Addr) (u : Value) (hu : u = .slice none 0 0 ∨ ∃ b cap, u = .slice (some b) 0 cap) :
    (Builtin.append_ #[sT, sT] ty #[.slice (some a) 0 0, u]).run P w = .ok (.slice (some a) 0 0) w := by
  rcases hu with rfl | ⟨b, cap, rfl⟩
  · simp [Builtin.append_, run_underlying ht, sizeOf, typeInfo, hi, Builtin.lenOf, Builtin.firstCells, storeCells]
  · simp [Builtin.append_, run_underlying ht, sizeOf, typeInfo, hi, Builtin.lenOf, Builtin.firstCells, storeCells, loadCells, loadCellsFrom]
theorem HO {α : Type} {e sT : TypeId} {i : TypeInfo} {z : Value} {c : α → List Ck} {ys : List α} {s x : Operand} (ht : P.underlying sT = some (.slice e)) (hi : P.info? e = some i) (hz : i.zero = some z) (hsz : ∀ x, lens (c x) = i.size) (hpos : 0 < i.size) (hzs : z.cells.size = i.size)
    (hs : Bk G N s K0) (hx : Bk G N x (Ai c ys)) (hb : ys.length * i.bytes ≤ 140737488355328) :
    BJ P G ⟨some d, .call ⟨.builtin .append, #[s, x], #[sT, sT]⟩, ty, pos, af, gd⟩ N [] (fun _ => [.slot d (Ai c ys)]) := by
  intro Φ a w fN fC h1 h2 h3 h4 h5 h6 h7 K Q hK
  match fC, h4 with
  | [], _ =>
  have hxv := hx Φ a w fN h2 h3
  have hsv := hs Φ a w fN h2 h3
  have hmx := hxv.1
  have h63 : ((ys.length : Nat) : Int) ≤ 9223372036854775807 := by have := (Fp hmx).2; simp [IntKind.max, IntKind.bits, IntKind.signed] at this; omega
  have hexec : ∀ v' w', (Builtin.append_ #[sT, sT] ty #[a.eval s, a.eval x]).run P w = .ok v' w' → (execOp a.eval ⟨some d, .call ⟨.builtin .append, #[s, x], #[sT, sT]⟩, ty, pos, af, gd⟩).run P w = .ok (.value v') w' := by
    intro v' w' hr
    simp only [execOp, resolve, List.map_toArray, List.map_cons, List.map_nil, Sem.run_bind, Sem.run_pure, Result.andThen_ok, invoke, builtin, hr]
  by_cases h0 : ys.length = 0
  · have hy : ys = [] := List.eq_nil_of_length_eq_zero h0
    subst hy
    have hxe : a.eval x = .slice none 0 0 ∨ ∃ b cap, a.eval x = .slice (some b) 0 cap := by
      rcases hxv.2 with ⟨h, _⟩ | ⟨b, o, cap, cs, h, _⟩ | ⟨_, b, cap, h⟩
      · exact .inl h
      · exact .inr ⟨_, _, h⟩
      · exact .inr ⟨_, _, h⟩
    rcases hsv with hv | ⟨ad, hv⟩
    · have hr : (Builtin.append_ #[sT, sT] ty #[a.eval s, a.eval x]).run P w = .ok (.slice none 0 0) w := by
        rw [hv]
        rcases hxe with h | ⟨b, cap, h⟩
        · rw [h]; exact (Src.nil (w := w) (z := z) ht hi).idle rfl
        · rw [h]; exact (Src.slice (w := w) (z := z) (n := 0) (ds := []) ht hi hz (by simp) (fun j v hj => by simp at hj) (by simp)).idle rfl
      unfold Oper.wp
      rw [hexec _ _ hr, Oper.upon_value]
      exact hK _ w Φ [[]] (Step.refl _ _ _) h1 ⟨⟨rfl, _, DH a _ d (h7 d rfl), by simp [Bw], .inl ⟨rfl, rfl⟩⟩, trivial⟩ (by simp) (by simp)
    · have hr : (Builtin.append_ #[sT, sT] ty #[a.eval s, a.eval x]).run P w = .ok (.slice (some ad) 0 0) w := by
        rw [hv]; exact Hg ht hi ad _ hxe
      unfold Oper.wp
      rw [hexec _ _ hr, Oper.upon_value]
      exact hK _ w Φ [[]] (Step.refl _ _ _) h1 ⟨⟨rfl, _, DH a _ d (h7 d rfl), by simp [Bw], .inr (.inr ⟨rfl, ad, 0, rfl⟩)⟩, trivial⟩ (by simp) (by simp)
  · obtain ⟨ds, hS, hA⟩ : ∃ ds, Src P w sT sT ty e i z (a.eval x) ys.length ds ∧ CY Φ c ds ys := by
      rcases hxv.2 with ⟨h, rfl⟩ | ⟨b, o, cap, ds, hv, _, hA, hp⟩ | ⟨rfl, b, cap, hv⟩
      · exact absurd rfl h0
      · rw [hv]; exact ⟨ds, Src.slice ht hi hz (hA.len hsz) (fun j v hj => by rw [Addr.add_lit]; exact h1.cell _ _ _ (hp j v hj)) hA.cell, hA⟩
      · exact absurd rfl h0
    have hdl : ds.length = ys.length * i.size := hA.len hsz
    have hnew : ∃ cap, ys.length ≤ cap ∧ (Builtin.append_ #[sT, sT] ty #[a.eval s, a.eval x]).run P w = .ok (.slice (some ⟨w.heap.size, 0, none⟩) ys.length cap) (w.drew.alloc (.cells (ds.toArray ++ Builtin.zeroCells z.cells (cap - ys.length)) e)) := by
      rcases hsv with hv | ⟨ad, hv⟩
      · refine ⟨grownCap w ys.length 0 e, by have := grownCap_ge w ys.length 0 e; simpa using this, ?_⟩
        rw [hv]; exact hS.fresh (by omega) h63 (by omega)
      · refine ⟨grownCap w (0 + ys.length) 0 e, by have := grownCap_ge w (0 + ys.length) 0 e; simpa using this, ?_⟩
        rw [hv]
        have hr := hS.grow ad 0 0 [] (by simp) (fun j v hj => by simp at hj) (Nat.le_refl _) (by omega) (by simpa using h63) (growslice_fits (by omega) (by simpa using hb))
        simpa using hr
    obtain ⟨cap, hcap, hr⟩ := hnew
    let Φ' : BW := fun b o => if b = w.heap.size then ds[o]? else Φ b o
    have hle : BW.le Φ Φ' := fun b o v e => by
      have := h1.lt b o v e
      simp only [Φ', if_neg (by omega : ¬ b = w.heap.size)]
      exact e
    unfold Oper.wp
    rw [hexec _ _ hr, Oper.upon_value]
    refine hK _ _ Φ' [[]] ⟨rfl, rfl, rfl, by simp, fun b hb _ => @Go.heap_alloc_old w.drew _ b hb, hle, fun b hb _ => by funext o; simp only [Φ', if_neg (by omega : ¬ b = w.heap.size)]⟩ ⟨fun b o v e => ?_, fun b o v e => ?_⟩
      ⟨⟨rfl, _, DH a _ d (h7 d rfl), hmx, .inr (.inl ⟨w.heap.size, 0, cap, ds, rfl, hcap, hA.mono hle, fun j v hj => by simp only [Φ', if_pos trivial, Nat.zero_add]; exact hj⟩)⟩, trivial⟩ (by simp) (by simp)
    · by_cases hbb : b = w.heap.size
      · simp [hbb]
      · simp only [Φ', if_neg hbb] at e
        have := h1.lt b o v e
        simp; omega
    · by_cases hbb : b = w.heap.size
      · subst hbb
        simp only [Φ', if_pos trivial] at e
        rw [show w.heap.size = w.drew.heap.size from rfl, World.cell?_alloc_new]
        have hlt : o < ds.length := by
          rcases Nat.lt_or_ge o ds.length with q | q
          · exact q
          · rw [List.getElem?_eq_none q] at e; cases e
        rw [Array.getElem?_append_left (by simpa using hlt)]
        simpa using e
      · simp only [Φ', if_neg hbb] at e
        rw [World.cell?_alloc_lt _ _ _ (show b < w.drew.heap.size from h1.lt b o v e)]
        exact h1.cell b o v e
end ops

end
section
open Go Go.RowKit Go.Proofs
set_option linter.unusedVariables false
set_option linter.unusedSimpArgs false

def Ig {α : Type} (xs : List α) : VP := ⟨fun _ v => ∃ b : Bool, v = .bool b ∧ (b = true → xs = []), fun _ h => h⟩
theorem Ke {P : Program} {α : Type} {c : α → List Ck} {xs : List α} {t e : TypeId} (hu : P.underlying t = some (.slice e)) : Iv P .eql t (Ai c xs) (Bf (.slice none 0 0)) (Ig xs) := by
  rintro Φ u v w x y ⟨_, hx⟩ hv
  have hv : v = .slice none 0 0 := hv
  subst hv
  have hrun : ∀ (a : Option Addr) (n cap : Nat), (do eqGuard .eql t x y (.slice a n cap) (.slice none 0 0); binOp .eql t (.slice a n cap) (.slice none 0 0) : Sem Value).run P w = .ok (.bool a.isNone) w := by
    intro a n cap
    simp only [eqGuard_at_slice, binOp]
    simp [Op.equal, Op.maxDepth, Lib.run_equalIn_slice_nil w 9999 t e a n cap 0 0 hu]
  rcases hx with ⟨rfl, rfl⟩ | ⟨b, o, cap, cs, rfl, _⟩ | ⟨rfl, a, cap, rfl⟩
  · exact ⟨_, hrun _ _ _, _, rfl, fun _ => rfl⟩
  · exact ⟨_, hrun _ _ _, _, rfl, fun h => by cases h⟩
  · exact ⟨_, hrun _ _ _, _, rfl, fun _ => rfl⟩
theorem A0.NQ {c : Cx} {l : List Cp} {a : Act} {w : World} {α : Type} {xs : List α} {d : Nat} (h : A0 c l a w) (i : Nat) (he : BR .none l i = .slot d (Ig xs)) : ∃ b : Bool, (b = true → xs = []) ∧ A0 c (l.set i (.slot d (An b))) a w := by
  obtain ⟨Φ, fp, h0⟩ := h
  have hi := DP he (by simp)
  have hx := h0.holds i hi
  rw [he] at hx
  obtain ⟨hf, v, hv, b, hb, hq⟩ := hx
  subst hb
  refine ⟨b, hq, Φ, fp, h0.defers, h0.size, h0.Iw, h0.GL, h0.step, fun j hj => ?_, fun j hj => h0.own j (by simpa using hj), fun j k hj hk => h0.apart j k (by simpa using hj) (by simpa using hk)⟩
  have hj : j < l.length := by simpa using hj
  by_cases e : i = j
  · subst e
    rw [Dp, if_pos ⟨rfl, hi⟩]
    exact ⟨hf, _, hv, rfl⟩
  · rw [Dp, if_neg (fun hc => e hc.1)]
    exact h0.holds j hj
section ops
variable {P : Program} {G : FP} {N : List Cp} {d : Nat} {ty : TypeId} {pos : String} {af : Array Edge} {gd : Option (Nat × Bool)}
theorem Lq {t e : TypeId} {sz : Nat} (hu : P.underlying t = some (.slice e)) (hs : ∀ w, (sizeOf e).run P w = .ok sz w) {z : Value} (hz : ∀ w, (zeroValue e).run P w = .ok z w) :
    BJ P G ⟨some d, .buildSlice t 0 #[], ty, pos, af, gd⟩ N [] (fun _ => [.slot d K0]) := by
  intro Φ a w fN fC h1 h2 h3 h4 h5 h6 h7 K Q hK
  match fC, h4 with
  | [], _ =>
    have hrun : (execOp a.eval ⟨some d, .buildSlice t 0 #[], ty, pos, af, gd⟩).run P w = .ok (.value (.slice (some ⟨w.heap.size, 0, none⟩) 0 0)) (w.alloc (.cells #[] e)) := by
      simp [execOp, Instr.buildSlice, run_underlying hu, hs, hz, Instr.fill, newRow]
      have e0 : (Array.range 0).map (fun _ => (default : Value)) = #[] := by apply Array.ext'; simp [Array.toList_range]
      rw [e0]
    unfold Oper.wp
    rw [hrun, Oper.upon_value]
    exact hK _ _ Φ [[]] (Ht w Φ _) (GW h1 _) ⟨⟨rfl, _, DH a _ d (h7 d rfl), .inr ⟨_, rfl⟩⟩, trivial⟩ (by simp) (by simp)
end ops
end
section
open Go Go.RowKit Go.Proofs

structure H2 where
  Cf : List Nat
  cons : List Nat
  Cw : List GE
def eN (E : List GE) (β : Nat → Value) (r : Nat) : Cp := (BR (.base .none) E r).at β

inductive Acc (P : Program) (G : FP) (ops : Array Oper) : List GE → Nat → List Oper → List H2 → Prop
  | nil {E : List GE} {i : Nat} : Acc P G ops E i [] []
  | cons {E : List GE} {i : Nat} {o : Oper} {l : List Oper} {ts : List H2} (t : H2)
    (h : ∀ β : Nat → Value, A4 P G ops o (t.Cf.map (eN E β)) (t.cons.map (eN E β)) (fun v => t.Cw.map fun g => g.at fun k => if k = i then v else β k))
    (hr : Acc P G ops (E ++ t.Cw) (i + 1) l ts) : Acc P G ops E i (o :: l) (t :: ts)

def Lb (l m : List Nat) : List Nat := m.foldl (fun acc x => if acc.contains x then acc else x :: acc) l
def MB (ops : Array Oper) (k : Nat) (b : List (List Nat)) : List (List Nat) := b ++ [(direct ops k).foldl (fun acc j => Lb (Lb acc [j]) (BR [] b j)) []]
def L4 (ops : Array Oper) : Nat → List (List Nat)
  | 0 => []
  | k + 1 => MB ops k (L4 ops k)
def L3 : Nat → List (List Nat)
  | 0 => []
  | k + 1 => L3 k ++ [List.range k]
def Oh (ops : Array Oper) : Bool → List (List Nat)
  | true => L4 ops ops.size
  | false => L3 ops.size
def HV : Nat → List H2 → List Oper → List (List Nat) → List GR
  | s, t :: ts, o :: os, b :: bs => ⟨t.Cf, t.cons, List.range' s t.Cw.length, b, o.dst⟩ :: HV (s + t.Cw.length) ts os bs
  | _, _, _, _ => []
def JE : Nat → List H2 → List Nat
  | _, [] => []
  | i, t :: ts => t.Cw.map (fun _ => i) ++ JE (i + 1) ts
def Ix : List H2 → List GE
  | [] => []
  | t :: ts => t.Cw ++ Ix ts
def M5 : Nat → List H2 → Bool
  | _, [] => true
  | s, t :: ts => (t.Cf ++ t.cons).all (fun r => decide (r < s)) && M5 (s + t.Cw.length) ts

theorem Acc.ok {P : Program} {G : FP} {ops : Array Oper} (p : C1) : ∀ {l : List Oper} {E : List GE} {i : Nat} {ts : List H2} {bs : List (List Nat)}, Acc P G ops E i l ts → bs.length = l.length → M5 E.length ts = true →
    p.FT = E ++ Ix ts → (∀ j, p.op (i + j) = BR GR.none (HV E.length ts l bs) j) → p.Ok P G ops l i
  | [], _, _, _, _, _, _, _, _, _ => trivial
  | o :: l, E, i, ts, bs, h, hb, hr, he, ho => by
    cases h with
    | @cons _ _ _ _ ts t h1 h2 =>
      cases bs with
      | nil => simp at hb
      | cons b bs =>
        simp only [M5, Bool.and_eq_true, List.all_eq_true, decide_eq_true_eq, List.mem_append] at hr
        have h0 := ho 0
        simp only [Nat.add_zero, HV, BR] at h0
        have hE : ∀ β r, r < E.length → p.E β r = eN E β r := fun β r hlt => by
          simp only [C1.E, eN, he]
          rw [Ce, if_pos hlt]
        have hg : ∀ β, (List.range' E.length t.Cw.length).map (p.E β) = t.Cw.map fun g => g.at β := fun β => by
          refine List.ext_getElem (by simp) fun k hk1 hk2 => ?_
          simp only [List.length_map, List.length_range'] at hk1
          simp only [List.getElem_map, List.getElem_range', Nat.one_mul, C1.E, he, Ix]
          rw [Ce, if_neg (by omega), Ce, if_pos (by omega), Dt]
          simp [List.getD, show E.length + k - E.length = k by omega, hk1]
        refine ⟨⟨by rw [h0], fun β => ?_⟩, ?_⟩
        · rw [h0]
          have e1 : t.Cf.map (p.E β) = t.Cf.map (eN E β) := List.map_congr_left fun r hm => hE β r (hr.1 r (.inl hm))
          have e2 : t.cons.map (p.E β) = t.cons.map (eN E β) := List.map_congr_left fun r hm => hE β r (hr.1 r (.inr hm))
          simp only [e1, e2, hg]
          exact h1 β
        · refine Acc.ok p h2 (by simpa using hb) (by simpa using hr.2) (by rw [he, Ix, List.append_assoc]) fun j => ?_
          have := ho (j + 1)
          simp only [HV, BR] at this
          rw [show i + 1 + j = i + (j + 1) by omega, this]
          simp

def lk (l : List Cp) (N : List GE) (β : Nat → Value) (r : Nat) : Cp := bif Nat.ble 500 r then (BR (.base .none) N (r - 500)).at β else BR .none l r
def ab (m c r : Nat) : Nat := bif Nat.ble 500 r then m + (c - 1 - (r - 500)) else r
def Nv (m c r : Nat) : Bool := bif Nat.ble 500 r then decide (r - 500 < c) else decide (r < m)
theorem IJ {l : List Cp} {N : List GE} {r : Nat} (h : Nv l.length N.length r = true) (β : Nat → Value) : lk l N β r = eN (l.map .base ++ N.reverse) β (ab l.length N.length r) ∧ ab l.length N.length r < l.length + N.length := by
  unfold lk eN ab
  unfold Nv at h
  cases hb : Nat.ble 500 r with
  | false =>
    simp only [hb, cond_false, decide_eq_true_eq] at h
    simp only [cond_false]
    rw [Ce, if_pos (by simpa using h), GI .none _ _ _ _ h]
    exact ⟨rfl, by omega⟩
  | true =>
    simp only [hb, cond_true, decide_eq_true_eq] at h
    simp only [cond_true]
    rw [Ce, if_neg (by simp)]
    refine ⟨?_, by omega⟩
    rw [Dt, Dt]
    simp only [List.getD, List.length_map, show l.length + (N.length - 1 - (r - 500)) - l.length = N.length - 1 - (r - 500) by omega]
    rw [List.getElem?_reverse (by omega), show N.length - 1 - (N.length - 1 - (r - 500)) = r - 500 by omega]
def Gu : List GE → List GE → List GE
  | [], N => N
  | g :: gs, N => Gu gs (g :: N)
theorem Gt : ∀ (gs N : List GE), Gu gs N = gs.reverse ++ N
  | [], _ => rfl
  | g :: gs, N => by simp [Gu, Gt gs]
inductive Ac (P : Program) (G : FP) (ops : Array Oper) (l : List Cp) : List GE → Nat → List Oper → List H2 → List GE → Prop
  | nil {N : List GE} {i : Nat} : Ac P G ops l N i [] [] N
  | cons {N Nf : List GE} {i : Nat} {o : Oper} {os : List Oper} {ts : List H2} (t : H2)
    (h : ∀ β : Nat → Value, A4 P G ops o (t.Cf.map (lk l N β)) (t.cons.map (lk l N β)) (fun v => t.Cw.map fun g => g.at fun k => if k = i then v else β k))
    (hr : Ac P G ops l (Gu t.Cw N) (i + 1) os ts Nf) : Ac P G ops l N i (o :: os) (t :: ts) Nf
def cv (m : Nat) : Nat → List H2 → List H2
  | _, [] => []
  | c, t :: ts => ⟨t.Cf.map (ab m c), t.cons.map (ab m c), t.Cw⟩ :: cv m (c + t.Cw.length) ts
def Nx (m : Nat) : Nat → List H2 → Bool
  | _, [] => true
  | c, t :: ts => (t.Cf ++ t.cons).all (Nv m c) && Nx m (c + t.Cw.length) ts
theorem K4 (m : Nat) : ∀ (ts : List H2) (c : Nat), Ix (cv m c ts) = Ix ts
  | [], _ => rfl
  | t :: ts, c => by simp [cv, Ix, K4 m ts]
theorem Ac.acc {P : Program} {G : FP} {ops : Array Oper} {l : List Cp} : ∀ {os : List Oper} {N Nf : List GE} {i : Nat} {ts : List H2}, Ac P G ops l N i os ts Nf → Nx l.length N.length ts = true →
    Acc P G ops (l.map .base ++ N.reverse) i os (cv l.length N.length ts) ∧ M5 (l.length + N.length) (cv l.length N.length ts) = true ∧ Nf = (Ix ts).reverse ++ N
  | [], _, _, _, _, h, _ => by cases h; exact ⟨.nil, rfl, rfl⟩
  | o :: os, N, Nf, i, _, h, hq => by
    cases h with
    | @cons _ _ _ _ _ ts t h1 h2 =>
      simp only [Nx, Bool.and_eq_true, List.all_eq_true, List.mem_append] at hq
      have hlen : (Gu t.Cw N).length = N.length + t.Cw.length := by rw [Gt]; simp; omega
      obtain ⟨a1, a2, a3⟩ := Ac.acc h2 (by rw [hlen]; exact hq.2)
      rw [hlen] at a1 a2
      refine ⟨?_, ?_, ?_⟩
      · refine Acc.cons _ (fun β => ?_) (by rw [List.append_assoc, show N.reverse ++ t.Cw = (Gu t.Cw N).reverse by rw [Gt]; simp]; exact a1)
        have e1 : (t.Cf.map (ab l.length N.length)).map (eN (l.map .base ++ N.reverse) β) = t.Cf.map (lk l N β) := by
          rw [List.map_map]; exact List.map_congr_left fun r hr => (IJ (hq.1 r (.inl hr)) β).1.symm
        have e2 : (t.cons.map (ab l.length N.length)).map (eN (l.map .base ++ N.reverse) β) = t.cons.map (lk l N β) := by
          rw [List.map_map]; exact List.map_congr_left fun r hr => (IJ (hq.1 r (.inr hr)) β).1.symm
        simp only [e1, e2]
        exact h1 β
      · simp only [cv, M5, Bool.and_eq_true, List.all_eq_true, decide_eq_true_eq, List.mem_append, List.mem_map]
        refine ⟨?_, by rw [← Nat.add_assoc] at a2; exact a2⟩
        rintro r (⟨q, hm, rfl⟩ | ⟨q, hm, rfl⟩)
        · exact (IJ (hq.1 q (.inl hm)) (fun _ => undef)).2
        · exact (IJ (hq.1 q (.inr hm)) (fun _ => undef)).2
      · rw [a3, Gt, Ix]; simp

def KJ (l : List Cp) (N : List GE) (r : Nat) : GE := bif Nat.ble 500 r then BR (.base .none) N (r - 500) else .base (BR .none l r)
theorem Mo (l : List Cp) (N : List GE) (r : Nat) (β : Nat → Value) : (KJ l N r).at β = lk l N β r := by
  unfold KJ lk; cases Nat.ble 500 r <;> rfl
inductive CX (l : List Cp) (N : List GE) : List Nat → ((Nat → Value) → List Cp) → Prop
  | nil : CX l N [] (fun _ => [])
  | cons {k : Nat} {ks : List Nat} {g : GE} {L : (Nat → Value) → List Cp} (h : KJ l N k = g) (hr : CX l N ks L) : CX l N (k :: ks) (fun β => g.at β :: L β)
section
variable {l : List Cp} {N : List GE} {k : Nat} {ks : List Nat} {L : (Nat → Value) → List Cp} {d i j m : Nat} {v : Value}
theorem CX.bs {V : VP} (h : KJ l N k = .base (.slot d V)) (hr : CX l N ks L) : CX l N (k :: ks) (fun β => .slot d V :: L β) := CX.cons h hr
theorem CX.br {R : RP} (h : KJ l N k = .base (.res R)) (hr : CX l N ks L) : CX l N (k :: ks) (fun β => .res R :: L β) := CX.cons h hr
theorem CX.bf {V : VP} (h : KJ l N k = .base (.fact V v)) (hr : CX l N ks L) : CX l N (k :: ks) (fun β => .fact V v :: L β) := CX.cons h hr
theorem CX.bn (h : KJ l N k = .base .none) (hr : CX l N ks L) : CX l N (k :: ks) (fun β => .none :: L β) := CX.cons h hr
theorem CX.s {V : Value → Value → VP} (h : KJ l N k = .slot d i j V) (hr : CX l N ks L) : CX l N (k :: ks) (fun β => .slot d (V (β i) (β j)) :: L β) := CX.cons h hr
theorem CX.r {R : Value → Value → RP} (h : KJ l N k = .res i j R) (hr : CX l N ks L) : CX l N (k :: ks) (fun β => .res (R (β i) (β j)) :: L β) := CX.cons h hr
theorem CX.s3 {V : Value → Value → Value → VP} (h : KJ l N k = .slot3 d i j m V) (hr : CX l N ks L) : CX l N (k :: ks) (fun β => .slot d (V (β i) (β j) (β m)) :: L β) := CX.cons h hr
theorem CX.r3 {R : Value → Value → Value → RP} (h : KJ l N k = .res3 i j m R) (hr : CX l N ks L) : CX l N (k :: ks) (fun β => .res (R (β i) (β j) (β m)) :: L β) := CX.cons h hr
end
theorem CX.eq {l : List Cp} {N : List GE} : ∀ {ks : List Nat} {L : (Nat → Value) → List Cp}, CX l N ks L → ∀ β, L β = ks.map (lk l N β)
  | [], _, h, β => by cases h; rfl
  | k :: ks, _, h, β => by
    cases h with
    | cons h hr => simp only [List.map_cons, CX.eq hr β, ← Mo, h]
inductive DO (l : List Cp) : List Nat → List Cp → Prop
  | nil : DO l [] []
  | cons {k : Nat} {ks : List Nat} {e : Cp} {L : List Cp} (h : BR .none l k = e) (hr : DO l ks L) : DO l (k :: ks) (e :: L)
theorem DO.s {l : List Cp} {k : Nat} {ks : List Nat} {d : Nat} {V : VP} {L : List Cp} (h : BR .none l k = .slot d V) (hr : DO l ks L) : DO l (k :: ks) (.slot d V :: L) := DO.cons h hr
theorem DO.r {l : List Cp} {k : Nat} {ks : List Nat} {R : RP} {L : List Cp} (h : BR .none l k = .res R) (hr : DO l ks L) : DO l (k :: ks) (.res R :: L) := DO.cons h hr
theorem DO.f {l : List Cp} {k : Nat} {ks : List Nat} {V : VP} {v : Value} {L : List Cp} (h : BR .none l k = .fact V v) (hr : DO l ks L) : DO l (k :: ks) (.fact V v :: L) := DO.cons h hr
theorem DO.n {l : List Cp} {k : Nat} {ks : List Nat} {L : List Cp} (h : BR .none l k = .none) (hr : DO l ks L) : DO l (k :: ks) (.none :: L) := DO.cons h hr
theorem DO.eq {l : List Cp} : ∀ {ks : List Nat} {L : List Cp}, DO l ks L → L = ks.map (BR .none l)
  | [], _, h => by cases h; rfl
  | k :: ks, _, h => by
    cases h with
    | cons h hr => simp only [List.map_cons, ← DO.eq hr, h]

def Mj (n : Nat) (l : List Cp) (ts : List H2) (ops : Array Oper) (draw : Bool) (ks : List Nat) : Bool :=
  Nx l.length 0 ts && decide ((Oh ops draw).length = ops.toList.length) && ks.all (Nv l.length (Ix ts).length) &&
    Hw (Ec n l (Ix (cv l.length 0 ts)) (JE 0 (cv l.length 0 ts)) (HV l.length (cv l.length 0 ts) ops.toList (Oh ops draw))) ops draw (Ix (cv l.length 0 ts)).length (JE 0 (cv l.length 0 ts)).length (ks.map (ab l.length (Ix ts).length))

theorem CK {P : Program} {c : Cx} {id n : Nat} {ops : Array Oper} {draw : Bool} {Q : Exit → Act → World → Prop} {a : Act} {w : World} {l : List Cp} {G : FP} {ts : List H2} {Nf : List GE} {L : (Nat → Value) → List Cp} (hm : P.follows .mixedOrders = true) (hn : c.n = n) (hG : c.G = G)
    (h : A0 c l a w) (ks : List Nat) (hA : Ac P G ops l [] 0 ops.toList ts Nf)
    (hQ : ∀ (β : Nat → Value) (a : Act) (w : World), A0 c (L β) a w → Q .normal a w)
    (hL : CX l Nf ks L := by repeat first | exact CX.nil | (apply CX.bs; exact rfl) | (apply CX.br; exact rfl) | (apply CX.s; exact rfl) | (apply CX.r; exact rfl) | (apply CX.bf; exact rfl) | (apply CX.bn; exact rfl) | (apply CX.s3; exact rfl) | (apply CX.r3; exact rfl))
    (hc : Mj n l ts ops draw ks = true := by kernel_rfl) : (Code.region id ops draw).wp P Q a w := by
  simp only [Mj, Bool.and_eq_true, decide_eq_true_eq] at hc
  obtain ⟨⟨⟨c1, c2⟩, c3⟩, c4⟩ := hc
  obtain ⟨a1, a2, a3⟩ := Ac.acc hA (by simpa using c1)
  simp only [List.length_nil, List.reverse_nil, List.append_nil, Nat.add_zero] at a1 a2 a3
  refine Fb (Ix (cv l.length 0 ts)) _ _ _ hm hn hG h c4 (Acc.ok _ a1 c2 (by simpa using a2) rfl fun j => ?_) fun β a w hs => hQ β a w ?_
  · simp [C1.op, Ec]
  · rw [hL.eq β, a3]
    have e : ks.map (lk l (Ix ts).reverse β) = (ks.map (ab l.length (Ix ts).length)).map ((Ec n l (Ix (cv l.length 0 ts)) (JE 0 (cv l.length 0 ts)) (HV l.length (cv l.length 0 ts) ops.toList (Oh ops draw))).E β) := by
      rw [List.map_map]
      refine List.map_congr_left fun r hr => ?_
      have := (IJ (l := l) (N := (Ix ts).reverse) (r := r) (by simpa using (List.all_eq_true.1 c3) r hr) β).1
      rw [this]
      simp [eN, C1.E, Ec, K4]
    rw [e]; exact hs
theorem AU {P : Program} {c : Cx} {id n : Nat} {ops : Array Oper} {draw : Bool} {Q : Exit → Act → World → Prop} {y : Code} {a : Act} {w : World} {l : List Cp} {G : FP} {ts : List H2} {Nf : List GE} {L : (Nat → Value) → List Cp} (hm : P.follows .mixedOrders = true) (hn : c.n = n) (hG : c.G = G)
    (h : A0 c l a w) (ks : List Nat) (hA : Ac P G ops l [] 0 ops.toList ts Nf)
    (hQ : ∀ (β : Nat → Value) (a : Act) (w : World), A0 c (L β) a w → y.wp P Q a w)
    (hL : CX l Nf ks L := by repeat first | exact CX.nil | (apply CX.bs; exact rfl) | (apply CX.br; exact rfl) | (apply CX.s; exact rfl) | (apply CX.r; exact rfl) | (apply CX.bf; exact rfl) | (apply CX.bn; exact rfl) | (apply CX.s3; exact rfl) | (apply CX.r3; exact rfl))
    (hc : Mj n l ts ops draw ks = true := by kernel_rfl) : (Code.seq (Code.region id ops draw) y).wp P Q a w :=
  wp_seq (CK hm hn hG h ks hA hQ hL hc)

section
variable {P : Program} {G : FP} {ops : Array Oper} {l : List Cp} {N Nf : List GE} {i : Nat} {o : Oper} {os : List Oper} {ts : List H2} {dst : Option Nat} {op : Op} {ty : TypeId} {pos : String} {af : Array Edge}
theorem og (Cf cons : List Nat) (Cw : List GE) (h : ∀ {β : Nat → Value}, A4 P G ops o (Cf.map (lk l N β)) (cons.map (lk l N β)) (fun v => Cw.map fun g => g.at fun k => if k = i then v else β k))
    (hr : Ac P G ops l (Gu Cw N) (i + 1) os ts Nf) : Ac P G ops l N i (o :: os) (⟨Cf, cons, Cw⟩ :: ts) Nf := Ac.cons ⟨Cf, cons, Cw⟩ (fun _ => h) hr
theorem oe (Cf cons : List Nat) {Gs : List Cp} (h : ∀ {β : Nat → Value}, A4 P G ops o (Cf.map (lk l N β)) (cons.map (lk l N β)) (fun _ => Gs))
    (hr : Ac P G ops l (Gu (Gs.map .base) N) (i + 1) os ts Nf) : Ac P G ops l N i (o :: os) (⟨Cf, cons, Gs.map .base⟩ :: ts) Nf :=
  Ac.cons ⟨Cf, cons, Gs.map .base⟩ (fun β => by
    have e : (fun v : Value => (Gs.map GE.base).map fun g => g.at fun k => if k = i then v else β k) = fun _ => Gs := by
      funext v
      rw [List.map_map]
      exact (List.map_congr_left fun x _ => rfl).trans (List.map_id _)
    simp only [e]
    exact h) hr
theorem ov (Cf : List Nat) {d : Nat} {V : VP} (h : ∀ {β : Nat → Value}, BJ P G ⟨dst, op, ty, pos, af, none⟩ (Cf.map (lk l N β)) [] (fun _ => [.slot d V]))
    (hr : Ac P G ops l (.base (.slot d V) :: N) (i + 1) os ts Nf) : Ac P G ops l N i (⟨dst, op, ty, pos, af, none⟩ :: os) (⟨Cf, [], [.base (.slot d V)]⟩ :: ts) Nf :=
  oe Cf [] (Gs := [.slot d V]) (A4.plain h rfl) hr
theorem od (Cf : List Nat) (k : Nat) {d : Nat} {V : VP} (h : ∀ {β : Nat → Value}, BJ P G ⟨dst, op, ty, pos, af, none⟩ (Cf.map (lk l N β)) [] (fun _ => [.slot d V]))
    (hr : Ac P G ops l (.base (.slot d V) :: N) (i + 1) os ts Nf) : Ac P G ops l N i (⟨dst, op, ty, pos, af, none⟩ :: os) (⟨Cf, [k], [.base (.slot d V)]⟩ :: ts) Nf :=
  oe Cf [k] (Gs := [.slot d V]) (A4.drop _ (A4.plain h rfl)) hr
theorem ou (Cf : List Nat) (k : Nat) {R : RP} (h : ∀ {β : Nat → Value}, BJ P G ⟨dst, op, ty, pos, af, none⟩ (Cf.map (lk l N β)) [lk l N β k] (fun _ => [.res R]))
    (hr : Ac P G ops l (.base (.res R) :: N) (i + 1) os ts Nf) : Ac P G ops l N i (⟨dst, op, ty, pos, af, none⟩ :: os) (⟨Cf, [k], [.base (.res R)]⟩ :: ts) Nf :=
  oe Cf [k] (Gs := [.res R]) (A4.plain h rfl) hr
theorem ob (Cf : List Nat) {d : Nat} {T : TypeId} {L : List Ck} (h : ∀ {β : Nat → Value}, BJ P G ⟨dst, op, ty, pos, af, none⟩ (Cf.map (lk l N β)) [] (fun v => [.slot d (BG v 0), .res (lb v T L)]))
    (hr : Ac P G ops l (.res i 100000 (fun v _ => lb v T L) :: .slot d i 100000 (fun v _ => BG v 0) :: N) (i + 1) os ts Nf) :
    Ac P G ops l N i (⟨dst, op, ty, pos, af, none⟩ :: os) (⟨Cf, [], [.slot d i 100000 (fun v _ => BG v 0), .res i 100000 (fun v _ => lb v T L)]⟩ :: ts) Nf :=
  og Cf [] _ (A4.plain (by simpa [GE.at] using h) rfl) hr
variable {d : Nat}
theorem oc (Cf cons : List Nat) {f : FuncId} {xs : List Operand} {tys : Array TypeId} {args : List VP} {pre post : List RP} {res : VP} (hcall : ∀ args w, (callFunc f args).run P w = .ok (.enter f args) w)
    (hc : AX P G f args pre (fun _ => post) res) (hx : ∀ {β : Nat → Value}, Fv G (Cf.map (lk l N β)) xs args) (hr : Ac P G ops l (Gu ((.slot d res :: post.map .res).map .base) N) (i + 1) os ts Nf)
    (hC : ∀ β, cons.map (lk l N β) = pre.map .res := by intro β; rfl) :
    Ac P G ops l N i (⟨some d, .call ⟨.value (.func f), xs.toArray, tys⟩, ty, pos, af, none⟩ :: os) (⟨Cf, cons, (.slot d res :: post.map .res).map .base⟩ :: ts) Nf :=
  oe Cf cons (fun {β} => A4.plain (by rw [hC]; exact CL hcall hc hx) rfl) hr
end

section
variable {G : FP} {N : List Cp} {t : Nat} {V : VP} {e0 e1 e2 : Cp}
theorem q0 : Bk G (.slot t V :: N) (.tmp t) V := opt 0 rfl
theorem q1 : Bk G (e0 :: .slot t V :: N) (.tmp t) V := opt 1 rfl
theorem q2 : Bk G (e0 :: e1 :: .slot t V :: N) (.tmp t) V := opt 2 rfl
theorem q3 : Bk G (e0 :: e1 :: e2 :: .slot t V :: N) (.tmp t) V := opt 3 rfl
theorem qi {k : IntKind} {x : Int} (h : Db k x := by decide) : Bk G N (.const (.int k x)) (Ab k x) := B9 (ic h)
theorem qb {b : Bool} : Bk G N (.const (.bool b)) (An b) := B9 (bc b)
end
theorem CO {P : Program} {G : FP} {N : List Cp} {d : Nat} {ty : TypeId} {pos : String} {af : Array Edge} {gd : Option (Nat × Bool)} {T T0 : TypeId} {x : Operand} {p : Value} {n : Nat} {L : List Ck} (j : Nat) (ha : ∀ w, (isAgg T).run P w = .ok true w) (hs : ∀ w, (sizeOf T).run P w = .ok n w)
    (hx : Bk G N x (BG p 0)) (he : BR .none N j = .res (lb p T0 L) := by rfl) (hn : lens L = n := by kernel_rfl) :
    BJ P G ⟨some d, .load T x, ty, pos, af, gd⟩ N [] (fun _ => [.slot d (Co L)]) :=
  B0 [] L [] j ha hs hx (by simpa using he) rfl hn
theorem CG {P : Program} {G : FP} {N : List Cp} {ty : TypeId} {pos : String} {af : Array Edge} {gd : Option (Nat × Bool)} {T T0 : TypeId} {x y : Operand} {p : Value} {n : Nat} {V : VP} {L M : List Ck} (hs : ∀ w, (sizeOf T).run P w = .ok n w)
    (hx : Bk G N x (BG p 0)) (hy : Bk G N y V) (hc : Cells V M) (hm : lens L = n := by kernel_rfl) (hM : lens M = n := by kernel_rfl) :
    BJ P G ⟨none, .store T x y, ty, pos, af, gd⟩ N [.res (lb p T0 L)] (fun _ => [.res (lb p T0 M)]) := by
  have := EA (P := P) (G := G) (N := N) (ty := ty) (pos := pos) (af := af) (gd := gd) (T0 := T0) (p := p) (k := 0) [] L [] M hs hx hy hc rfl hm hM
  simpa using this

theorem DN {P : Program} {c : Cx} {l l1 l2 : List Cp} {a : Act} {w : World} {Q : Exit → Act → World → Prop} {t : Nat} {b : Bool} {x y : Code} {α : Type} {X Y : Option α} {r : Option α} (h : A0 c l a w) (hF : (if b = true then X else Y) = r) (i : Nat) (k1 k2 : List Nat)
    (ht : b = true → X = r → A0 c l1 a w → x.wp P Q a w) (hf : b = false → Y = r → A0 c l2 a w → y.wp P Q a w)
    (he : BR .none l i = .slot t (An b) := by rfl)
    (h1 : DO l k1 l1 := by repeat first | exact DO.nil | (apply DO.s; exact rfl) | (apply DO.r; exact rfl) | (apply DO.f; exact rfl) | (apply DO.n; exact rfl))
    (h2 : DO l k2 l2 := by repeat first | exact DO.nil | (apply DO.s; exact rfl) | (apply DO.r; exact rfl) | (apply DO.f; exact rfl) | (apply DO.n; exact rfl))
    (d1 : (distinct k1 && k1.all fun k => decide (k < l.length)) = true := by rfl) (d2 : (distinct k2 && k2.all fun k => decide (k < l.length)) = true := by rfl) :
    (Code.cond (.tmp t) x y).wp P Q a w :=
  Jl h i he (fun hb => ht hb (CZ hb hF) (by rw [h1.eq]; exact h.sub k1 d1)) (fun hb => hf hb (C0 hb hF) (by rw [h2.eq]; exact h.sub k2 d2))
theorem A0.sel {c : Cx} {l l1 : List Cp} {a : Act} {w : World} (h : A0 c l a w) (ks : List Nat)
    (h1 : DO l ks l1 := by repeat first | exact DO.nil | (apply DO.s; exact rfl) | (apply DO.r; exact rfl) | (apply DO.f; exact rfl) | (apply DO.n; exact rfl))
    (hk : (distinct ks && ks.all fun k => decide (k < l.length)) = true := by rfl) : A0 c l1 a w := by
  rw [h1.eq]; exact h.sub ks hk
end
section
open Go Go.RowKit Go.Proofs
set_option linter.unusedVariables false
set_option linter.unusedSimpArgs false

theorem D8.append {Φ : BW} : ∀ {l m : List VP} {us vs : List Value}, D8 Φ l us → D8 Φ m vs → D8 Φ (l ++ m) (us ++ vs)
  | [], m, [], vs, _, k => k
  | V :: l, m, u :: us, vs, h, k => ⟨h.1, D8.append h.2 k⟩
  | [], _, _ :: _, _, h, _ => h.elim
  | _ :: _, _, [], _, h, _ => h.elim
end
section
open Go Go.RowKit Go.Proofs
set_option linter.unusedVariables false
set_option linter.unusedSimpArgs false

section ops
variable {P : Program} {G : FP} {N : List Cp} {d : Nat} {ty : TypeId} {pos : String} {af : Array Edge} {gd : Option (Nat × Bool)}
inductive Fw : List Cp → List Ck → List Ck → Prop
  | nil {C : List Cp} : Fw C [] []
  | Mp {C : List Cp} {k : Ck} {L L' : List Ck} (h : Fw C L L') : Fw C (k :: L) (k :: L')
  | sub {C : List Cp} {L L' : List Ck} {α : Type} {q : Value} {T : TypeId} {sz : Nat} {c : α → List Ck} {xs : List α} (j : Nat) (hr : BR .none C j = .res (acc q T sz c xs)) (h : Fw C L L') : Fw C (one (Bf q) :: L) (one (Ai c xs) :: L')
theorem Fw.rel {C : List Cp} {Φ : BW} {tmps : Array Value} {w : World} {f : List (List Nat)} (hC : Cn Φ tmps w C f) : ∀ {L L' : List Ck} {cs : List Value}, Fw C L L' → Bs Φ cs L → Bs Φ cs L'
  | _, _, _, .nil, h => h
  | _, _, _, .Mp k, ⟨xs, ys, e, h1, h2⟩ => ⟨xs, ys, e, h1, Fw.rel hC k h2⟩
  | _, _, _, .sub j hr k, ⟨xs, ys, e, ⟨v, hv, h1, h2⟩, h3⟩ => by
    obtain ⟨g, ho⟩ := hC.res j hr
    have h2 : v = _ := h2
    subst h2
    exact ⟨xs, ys, e, ⟨v, hv, h1, Jn ho⟩, Fw.rel hC k h3⟩
end ops

end
section
open Go Go.RowKit Go.Proofs
set_option linter.unusedVariables false
set_option linter.unusedSimpArgs false

section ops
variable {P : Program} {G : FP} {N : List Cp} {d : Nat} {ty : TypeId} {pos : String} {af : Array Edge} {gd : Option (Nat × Bool)}
theorem KF {k : IntKind} {x y : Operand} {m n : Int} {tys : Array TypeId} (hx : Bk G N x (Ab k m)) (hy : Bk G N y (Ab k n)) :
    BJ P G ⟨some d, .call ⟨.builtin .max, #[x, y], tys⟩, ty, pos, af, gd⟩ N [] (fun _ => [.slot d (Ab k (if m < n then n else m))]) :=
  BJ.val fun Φ a w f _ hG hN => by
    obtain ⟨h1, h2⟩ := hx Φ a w f hG hN
    obtain ⟨h3, h4⟩ := hy Φ a w f hG hN
    refine ⟨.int k (if m < n then n else m), ?_, rfl, by split <;> assumption⟩
    simp [execOp, resolve, h1, h3, invoke, builtin, Builtin.max_, Builtin.max2]
end ops

end
section
open Go Go.RowKit Go.Proofs
set_option linter.unusedVariables false
set_option linter.unusedSimpArgs false
def ER (s : List UInt8) (p : Nat) : Int := ((Utf8.decode ⟨s.toArray⟩ p).1 : Int)
def EN (s : List UInt8) (p : Nat) : Nat := if p < s.length then p + (Utf8.decode ⟨s.toArray⟩ p).2 else p
def Gp (it : Value) (s : List UInt8) (p : Nat) : RP := ⟨fun Φ f w => ∃ b, it = .pointer (some ⟨b, 0, none⟩) ∧ f = [b] ∧ w.heap[b]? = some (.stringIter ⟨s.toArray⟩ p) ∧ s.length ≤ Bw, by
  rintro Φ Φ' f w w' hle hs hb ⟨b, h1, rfl, h2, h3⟩
  exact ⟨b, h1, rfl, by rw [hb b (by simp)]; exact h2, h3⟩⟩
def F3 (s : List UInt8) (p : Nat) : VP := ⟨fun _ v => if p < s.length then v = .tuple #[.bool true, .int .i64 p, .int .i32 (ER s p)] ∧ s.length ≤ Bw else v = .tuple #[.bool false], fun _ h => h⟩
section ops
variable {P : Program} {G : FP} {N : List Cp} {d : Nat} {ty : TypeId} {pos : String} {af : Array Edge} {gd : Option (Nat × Bool)}
theorem Ic {t : TypeId} {x : Operand} {s : List UInt8} (hu : P.underlying t = some .string) (hx : Bk G N x (AF s)) :
    BJ P G ⟨some d, .range t x, ty, pos, af, gd⟩ N [] (fun it => [.slot d (Bf it), .res (Gp it s 0)]) := by
  intro Φ a w fN fC h1 h2 h3 h4 h5 h6 h7 Kk Q hK
  match fC, h4 with
  | [], _ =>
    obtain ⟨hv, hl⟩ := hx Φ a w fN h2 h3
    have hrun : (execOp a.eval ⟨some d, .range t x, ty, pos, af, gd⟩).run P w = .ok (.value (.pointer (some ⟨w.heap.size, 0, none⟩))) (w.alloc (.stringIter ⟨s.toArray⟩ 0)) := by
      simp only [execOp, hv, Sem.run_bind, run_range_string w t _ hu, Result.andThen_ok]
      rfl
    have hold : ∀ c, c < w.heap.size → (w.alloc (.stringIter ⟨s.toArray⟩ 0)).heap[c]? = w.heap[c]? := fun c hc => @Go.heap_alloc_old w _ _ hc
    unfold Oper.wp
    rw [hrun, Oper.upon_value]
    refine hK _ _ Φ [[], [w.heap.size]] ⟨rfl, rfl, rfl, by simp, fun c hc _ => hold c hc, BW.le_refl _, fun _ _ _ => rfl⟩ (GW h1 _) ⟨⟨rfl, _, DH a _ d (h7 d rfl), rfl⟩, ⟨w.heap.size, rfl, rfl, heap_alloc_new _ _, hl⟩, trivial⟩ (by simp) ?_
    intro c hc
    have hc : c = w.heap.size := by simpa using hc
    subst hc
    exact ⟨by simp, .inr (Nat.le_refl _)⟩
theorem IG {t : Nat} {it : Value} {s : List UInt8} {p : Nat} (i : Nat) (he : BR .none N i = .slot t (Bf it)) :
    BJ P G ⟨some d, .next (.tmp t) true, ty, pos, af, gd⟩ N [.res (Gp it s p)] (fun _ => [.slot d (F3 s p), .res (Gp it s (EN s p))]) := by
  intro Φ a w fN fC h1 h2 h3 h4 h5 h6 h7 Kk Q hK
  match fC, h4 with
  | [f], ⟨⟨b, hitt, hf, hb, hl⟩, _⟩ =>
    subst hitt
    subst hf
    have hbl : b < w.heap.size := h6 b (by simp)
    have hv : a.eval (.tmp t) = .pointer (some ⟨b, 0, none⟩) := opt (G := G) i he Φ a w fN h2 h3
    have hsz : (⟨s.toArray⟩ : ByteArray).size = s.length := by simp [ByteArray.size]
    by_cases hp : p < s.length
    · have hrun : (execOp a.eval ⟨some d, .next (.tmp t) true, ty, pos, af, gd⟩).run P w = .ok (.value (.tuple #[.bool true, .int .i64 p, .int .i32 (ER s p)])) (Go.ChangeMaps.setBlock w b (.stringIter ⟨s.toArray⟩ (EN s p))) := by
        simp only [execOp, hv, Sem.run_bind, Instr.next, getObj, setObj, Sem.run, hb, Result.andThen, hsz, hp, if_true, EN]
        simp [goInt, ER, Go.ChangeMaps.setBlock]
      have hsize : (Go.ChangeMaps.setBlock w b (.stringIter ⟨s.toArray⟩ (EN s p))).heap.size = w.heap.size := by simp [Go.ChangeMaps.setBlock]
      have hother : ∀ c, c ≠ b → (Go.ChangeMaps.setBlock w b (.stringIter ⟨s.toArray⟩ (EN s p))).heap[c]? = w.heap[c]? := fun c hc => by
        simp [Go.ChangeMaps.setBlock, Array.getElem?_setIfInBounds, Ne.symm hc]
      have hself : (Go.ChangeMaps.setBlock w b (.stringIter ⟨s.toArray⟩ (EN s p))).heap[b]? = some (.stringIter ⟨s.toArray⟩ (EN s p)) := by
        simp [Go.ChangeMaps.setBlock, Array.getElem?_setIfInBounds, hbl]
      have hpr : ∀ o, Φ b o = none := fun o => by
        cases e : Φ b o with
        | none => rfl
        | some u =>
          have := h1.cell b o u e
          simp [World.cell?, hb] at this
      unfold Oper.wp
      rw [hrun, Oper.upon_value]
      refine hK _ _ Φ [[], [b]] ⟨rfl, rfl, rfl, Nat.le_of_eq hsize.symm, fun c hc hne => hother c (fun e => hne (by simp [e])), BW.le_refl _, fun _ _ _ => rfl⟩ ⟨fun c o u e => by rw [hsize]; exact h1.lt c o u e, fun c o u e => ?_⟩
        ⟨⟨rfl, _, DH a _ d (h7 d rfl), by simp [F3, hp, hl]⟩, ⟨b, rfl, rfl, hself, hl⟩, trivial⟩ (by simp) (fun c hc => by
          have hc : c = b := by simpa using hc
          subst hc
          exact ⟨by rw [hsize]; exact hbl, .inl (by simp)⟩)
      have hne : c ≠ b := fun e' => by rw [e', hpr o] at e; cases e
      exact (World.cell?_of_block (w := w) (hother c hne)).trans (h1.cell c o u e)
    · have hrun : (execOp a.eval ⟨some d, .next (.tmp t) true, ty, pos, af, gd⟩).run P w = .ok (.value (.tuple #[.bool false])) w := by
        simp only [execOp, hv, Sem.run_bind, Instr.next, getObj, setObj, Sem.run, hb, Result.andThen, hsz, hp, if_false]
        simp
      have hx : EN s p = p := by simp [EN, hp]
      unfold Oper.wp
      rw [hrun, Oper.upon_value]
      refine hK _ _ Φ [[], [b]] (Step.refl _ _ _) h1 ⟨⟨rfl, _, DH a _ d (h7 d rfl), by simp [F3, hp]⟩, ⟨b, rfl, rfl, by rw [hx]; exact hb, hl⟩, trivial⟩ (by simp) (fun c hc => by
          have hc : c = b := by simpa using hc
          subst hc
          exact ⟨hbl, .inl (by simp)⟩)
theorem Lp {x : Operand} {s : List UInt8} {p : Nat} (hx : Bk G N x (F3 s p)) : BJ P G ⟨some d, .extract x 0, ty, pos, af, gd⟩ N [] (fun _ => [.slot d (An (decide (p < s.length)))]) :=
  BJ.val fun Φ a w f _ hG hN => by
    have hv := hx Φ a w f hG hN
    by_cases hp : p < s.length
    · simp only [F3, hp, if_true] at hv
      exact ⟨.bool true, by simp [execOp, hv.1, Instr.extract], by simp [An, hp]⟩
    · simp only [F3, hp, if_false] at hv
      exact ⟨.bool false, by simp [execOp, hv, Instr.extract], by simp [An, hp]⟩
theorem Lo {x : Operand} {s : List UInt8} {p : Nat} (hx : Bk G N x (F3 s p)) (hp : p < s.length) : BJ P G ⟨some d, .extract x 1, ty, pos, af, gd⟩ N [] (fun _ => [.slot d (Ab .i64 (p : Int))]) :=
  BJ.val fun Φ a w f _ hG hN => by
    have hv := hx Φ a w f hG hN
    simp only [F3, hp, if_true] at hv
    refine ⟨.int .i64 p, by simp [execOp, hv.1, Instr.extract], rfl, ?_⟩
    exact Fp (by omega)
theorem Ln {x : Operand} {s : List UInt8} {p : Nat} (hx : Bk G N x (F3 s p)) (hp : p < s.length) : BJ P G ⟨some d, .extract x 2, ty, pos, af, gd⟩ N [] (fun _ => [.slot d (Ab .i32 (ER s p))]) :=
  BJ.val fun Φ a w f _ hG hN => by
    have hv := hx Φ a w f hG hN
    simp only [F3, hp, if_true] at hv
    refine ⟨.int .i32 (ER s p), by simp [execOp, hv.1, Instr.extract], rfl, ?_⟩
    have := decode_le ⟨s.toArray⟩ p
    unfold ER
    simp [Db, IntKind.min, IntKind.max, IntKind.bits, IntKind.signed]
    omega
end ops
end
section
open Go Go.RowKit Go.Proofs
set_option linter.unusedVariables false
theorem AX.HC {P : Program} {G : FP} {f : FuncId} {args : List VP} {res : VP} (h : ∀ (Φ : BW) (vs : List Value) (w : World), Du Φ w → G.p Φ → D8 Φ args vs → ∃ u, (∀ Φ', res.p Φ' u) ∧ Calls P f vs.toArray w fun e w' => e = .returned u ∧ Below w.heap.size w w') :
    AX P G f args [] (fun _ => []) res := by
  intro Φ w vs fs h1 h2 h3 h4 h5 h6
  match fs, h4 with
  | [], _ =>
    obtain ⟨u, hu, hc⟩ := h Φ vs w h1 h2 h3
    refine hc.mono fun e w' hq => ?_
    obtain ⟨rfl, hb⟩ := hq
    exact ⟨u, Φ, [], rfl, ⟨hb.os, hb.tape, hb.output, hb.size, fun b hlt _ => hb.block b hlt, BW.le_refl _, fun _ _ _ => rfl⟩, ⟨fun b o v e => Nat.lt_of_lt_of_le (h1.lt b o v e) hb.size, fun b o v e => (World.cell?_of_block (w := w) (hb.block b (h1.lt b o v e))).trans (h1.cell b o v e)⟩, hu Φ, trivial, by simp, by simp⟩
  | _ :: _, h4 => exact h4.elim
theorem Jr {Φ : BW} : ∀ {xs : List (List UInt8)} {cs : List Value}, CY Φ F1 cs xs → ∀ (j : Nat) (x : List UInt8), xs[j]? = some x → cs[j]? = some (.string ⟨x.toArray⟩)
  | [], cs, _, j, x, hx => by cases hx
  | y :: ys, cs, ⟨us, vs, e, h1, h2⟩, j, x, hx => by
    obtain ⟨a1, b1, e1, ⟨v, rfl, _, hv⟩, hb⟩ := h1
    have hb : b1 = [] := hb
    subst hb
    obtain ⟨hv, _⟩ := hv
    subst e
    subst e1
    cases j with
    | zero =>
      simp only [List.getElem?_cons_zero, Option.some.injEq] at hx
      subst hx
      simp [hv]
    | succ j =>
      have := Jr h2 j x (by simpa using hx)
      simpa using this
theorem Kl {P : Program} {a : Act} {w : World} {Q : Exit → Act → World → Prop} {x y : Code} (h : y.wp P Q a w) : (Code.cond (.const (.bool false)) x y).wp P Q a w := wp_cond_false rfl h
theorem IE {G : FP} {N : List Cp} {x : Operand} (h : Bk G N x (Bf (.pointer none))) : Bk G N x (LW (.pointer none) false) := fun Φ a w f hG hN => ⟨h Φ a w f hG hN, rfl⟩
section ops
variable {P : Program} {G : FP} {N : List Cp} {d : Nat} {ty : TypeId} {pos : String} {af : Array Edge} {gd : Option (Nat × Bool)}
theorem Fe {α : Type} [Inhabited α] {t e : TypeId} {x y : Operand} {ki : IntKind} {c : α → List Ck} {xs : List α} {n sz : Nat} {le : ∀ x, lens (c x) = sz} {i : Int} {post : List Ck} (hu : P.underlying t = some (.array n e)) (hs : ∀ w, (sizeOf e).run P w = .ok sz w)
    (hx : Bk G N x (EI (A5 n sz c le xs :: post))) (hy : Bk G N y (Ab ki i)) (hi : 0 ≤ i ∧ i < n) : BJ P G ⟨some d, .indexAddr t x y, ty, pos, af, gd⟩ N [] (fun _ => [.slot d (EI (c (xs.getD i.toNat default)))]) :=
  BJ.val fun Φ a w f _ hG hN => by
    obtain ⟨hy1, _⟩ := hy Φ a w f hG hN
    obtain ⟨b, o, cs, hv, ⟨ys, zs, rfl, ⟨hl, hA⟩, h2⟩, hp⟩ := hx Φ a w f hG hN
    have hit : i.toNat < xs.length := by omega
    obtain ⟨us, vs, ws, rfl, h1, h3, _⟩ := hA.at le i.toNat hit
    refine ⟨.pointer (some ⟨b, o + i.toNat * sz, none⟩), ?_, b, o + i.toNat * sz, vs, rfl, ?_, ?_⟩
    · simp only [execOp, hv, hy1]
      simp [Instr.indexAt, run_underlying hu, asIntOf, Instr.sureAddr, hi, hs, Addr.add_lit]
    · simpa [List.getD, hit] using h3
    · rw [← h1]; exact (hp.left.left).right
theorem GY {t e : TypeId} {x y : Operand} {ki : IntKind} {l : List UInt8} {n : Nat} {i : Int} {post : List Ck} (hu : P.underlying t = some (.array n e)) (hs : ∀ w, (sizeOf e).run P w = .ok 1 w)
    (hx : Bk G N x (EI (Af n l :: post))) (hy : Bk G N y (Ab ki i)) (hi : 0 ≤ i ∧ i < n) : BJ P G ⟨some d, .indexAddr t x y, ty, pos, af, gd⟩ N [] (fun _ => [.slot d (EI [one (Ab .u8 ((l.getD i.toNat default).toNat : Int))])]) :=
  BJ.val fun Φ a w f _ hG hN => by
    obtain ⟨hy1, _⟩ := hy Φ a w f hG hN
    obtain ⟨b, o, cs, hv, ⟨ys, zs, rfl, ⟨hl, rfl⟩, h2⟩, hp⟩ := hx Φ a w f hG hN
    have hit : i.toNat < l.length := by omega
    refine ⟨.pointer (some ⟨b, o + i.toNat * 1, none⟩), ?_, b, o + i.toNat * 1, [DE (l.getD i.toNat default)], rfl, ⟨[_], [], rfl, ⟨_, rfl, rfl, rfl, FY _⟩, rfl⟩, fun j v hj => ?_⟩
    · simp only [execOp, hv, hy1]
      simp [Instr.indexAt, run_underlying hu, asIntOf, Instr.sureAddr, hi, hs, Addr.add_lit]
    · cases j with
      | zero =>
        simp at hj
        subst hj
        have := hp (i.toNat) (DE (l.getD i.toNat default)) (by rw [List.getElem?_append_left (by simpa using hit)]; simp [List.getD, hit])
        simpa using this
      | succ j => simp at hj
theorem GD {x : Operand} {p : Value} {R : RP} (j : Nat) (hx : Bk G N x (Bf p)) (he : BR .none N j = .res R) (hR : ∀ Φ f w, R.p Φ f w → ∃ b, p = .pointer (some ⟨b, 0, none⟩)) : BJ P G ⟨some d, .nilCheck x, ty, pos, af, gd⟩ N [] (fun _ => [.slot d (Bf p)]) :=
  BJ.val fun Φ a w f _ hG hN => by
    obtain ⟨g, hr⟩ := hN.res j he
    obtain ⟨b, hp⟩ := hR Φ g w hr
    have hv : a.eval x = p := hx Φ a w f hG hN
    exact ⟨a.eval x, by simp [execOp, hv, hp], hv⟩
theorem F5 {s : TypeId} {x : Operand} {p : Value} {R : RP} {fields : Array Field} {n : Nat} {fd : Field} (j : Nat) (hu : P.underlying s = some (.struct fields)) (hi : fields[0]? = some fd) (h0 : fd.offset = 0) (hs : ∀ w, (sizeOf fd.type).run P w = .ok n w) (hn : n ≠ 0) (hx : Bk G N x (Bf p)) (he : BR .none N j = .res R) (hR : ∀ Φ f w, R.p Φ f w → ∃ b, p = .pointer (some ⟨b, 0, none⟩)) :
    BJ P G ⟨some d, .fieldAddr s x 0, ty, pos, af, gd⟩ N [] (fun _ => [.slot d (Bf p)]) :=
  BJ.val fun Φ a w f _ hG hN => by
    obtain ⟨g, hr⟩ := hN.res j he
    obtain ⟨b, hp⟩ := hR Φ g w hr
    have hv : a.eval x = p := hx Φ a w f hG hN
    refine ⟨p, ?_, rfl⟩
    have := Hb (P := P) (b := b) (k := 0) (w := w) hu hi hs hn
    rw [h0, Nat.zero_add, ← hp] at this
    simp [execOp, hv, this]
end ops

end
end Go.Proofs.YtemnhknjphjpnaaDoor
