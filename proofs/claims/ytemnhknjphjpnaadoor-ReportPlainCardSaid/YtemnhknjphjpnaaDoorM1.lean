/- The program logic, as far as this claim leans on it: part 1. -/
import Derived.Orders
import Derived.Below
import Derived.KernelRfl
import Derived.Laws.Entries
import Derived.Laws.Cells
import Derived.Laws.Rows
import Derived.LoopTactic
import Derived.StepT
import Derived.Laws.Strings
import Derived.Laws.StructEq
import Derived.Laws.BytesString
import Derived.ChangeKeysEq
import Derived.Laws.Pointers
import Derived.Laws.AppendOwn
import Derived.Lib.AppendStr
import Derived.Laws.CopyRow
import Derived.Laws.IdiomStrings
import Derived.Laws.Tables
import Derived.MapKept
import Derived.Lib.UnsafeStr
import Derived.OpenShut
import Derived.ChangeArms
import Derived.DataReads
import Derived.WideShapes
import Derived.Maps.RangeRun
import Derived.WalkSpells
import Derived.Lib.BufferWrite
import Derived.Laws.Externs
import Derived.Laws.RangeAny
import Derived.Lib.Join
namespace Go.Proofs.YtemnhknjphjpnaaDoor
section
open Go Go.RowKit

abbrev BC := Nat → Nat → Option Value

def BC.le (Φ Φ' : BC) : Prop := ∀ b o v, Φ b o = some v → Φ' b o = some v
theorem BC.le_refl (Φ : BC) : BC.le Φ Φ := fun _ _ _ h => h
theorem BC.le_trans {Φ Φ' Φ'' : BC} (h : BC.le Φ Φ') (k : BC.le Φ' Φ'') : BC.le Φ Φ'' := fun b o v e => k b o v (h b o v e)

structure CR (Φ : BC) (w : World) : Prop where
  lt : ∀ b o v, Φ b o = some v → b < w.heap.size
  cell : ∀ b o v, Φ b o = some v → w.cell? ⟨b, o, none⟩ = some v

structure VP where
  p : BC → Value → Prop
  mono : ∀ {Φ Φ' : BC} {v : Value}, BC.le Φ Φ' → p Φ v → p Φ' v

structure FP where
  p : BC → Prop
  mono : ∀ {Φ Φ' : BC}, BC.le Φ Φ' → p Φ → p Φ'

structure RP where
  p : BC → List Nat → World → Prop
  loc : ∀ {Φ Φ' : BC} {f : List Nat} {w w' : World}, BC.le Φ Φ' → (∀ b ∈ f, Φ' b = Φ b) → (∀ b ∈ f, w'.heap[b]? = w.heap[b]?) → p Φ f w → p Φ' f w'

inductive BX where
  | slot (d : Nat) (V : VP)
  | res (R : RP)
  | fact (V : VP) (v : Value)
  | none

def BX.G0 : BX → Option Nat
  | .slot d _ => some d
  | _ => Option.none

structure Step (w : World) (Φ : BC) (F : List Nat) (w' : World) (Φ' : BC) : Prop where
  os : w'.os = w.os
  tape : w'.tape = w.tape
  output : w'.output = w.output
  size : w.heap.size ≤ w'.heap.size
  block : ∀ b, b < w.heap.size → b ∉ F → w'.heap[b]? = w.heap[b]?
  le : BC.le Φ Φ'
  same : ∀ b, b < w.heap.size → b ∉ F → Φ' b = Φ b

theorem Step.refl (w : World) (Φ : BC) (F : List Nat) : Step w Φ F w Φ := ⟨rfl, rfl, rfl, Nat.le_refl _, fun _ _ _ => rfl, BC.le_refl _, fun _ _ _ => rfl⟩

theorem Step.LB {w w' : World} {Φ Φ' : BC} {F F' : List Nat} (h : Step w Φ F w' Φ') (hf : ∀ b ∈ F, b < w.heap.size → b ∈ F') : Step w Φ F' w' Φ' :=
  ⟨h.os, h.tape, h.output, h.size, fun b hb hn => h.block b hb (fun hm => hn (hf b hm hb)), h.le, fun b hb hn => h.same b hb (fun hm => hn (hf b hm hb))⟩

theorem Step.trans {w w' w'' : World} {Φ Φ' Φ'' : BC} {F G : List Nat} (h : Step w Φ F w' Φ') (k : Step w' Φ' G w'' Φ'')
    (hg : ∀ b ∈ G, b < w.heap.size → b ∈ F) : Step w Φ F w'' Φ'' :=
  ⟨k.os.trans h.os, k.tape.trans h.tape, k.output.trans h.output, Nat.le_trans h.size k.size,
   fun b hb hn => (k.block b (Nat.lt_of_lt_of_le hb h.size) (fun hm => hn (hg b hm hb))).trans (h.block b hb hn),
   BC.le_trans h.le k.le,
   fun b hb hn => (k.same b (Nat.lt_of_lt_of_le hb h.size) (fun hm => hn (hg b hm hb))).trans (h.same b hb hn)⟩

theorem Step.drew (w : World) (Φ : BC) (F : List Nat) : Step w Φ F { w with drawn := w.drawn + 1 } Φ := ⟨rfl, rfl, rfl, Nat.le_refl _, fun _ _ _ => rfl, BC.le_refl _, fun _ _ _ => rfl⟩
theorem CR.drew {Φ : BC} {w : World} (h : CR Φ w) : CR Φ { w with drawn := w.drawn + 1 } := ⟨h.lt, h.cell⟩

def BX.holds (Φ : BC) (tmps : Array Value) (w : World) (f : List Nat) : BX → Prop
  | .slot d V => f = [] ∧ ∃ v, tmps[d]? = some v ∧ V.p Φ v
  | .res R => R.p Φ f w
  | .fact V v => f = [] ∧ V.p Φ v
  | .none => f = []

theorem BX.Fp {Φ Φ' : BC} {tmps tmps' : Array Value} {w w' : World} {f : List Nat} {e : BX} (h : e.holds Φ tmps w f)
    (hle : BC.le Φ Φ') (hsame : ∀ b ∈ f, Φ' b = Φ b) (hblk : ∀ b ∈ f, w'.heap[b]? = w.heap[b]?) (ht : ∀ d, e.G0 = some d → tmps'[d]? = tmps[d]?) : e.holds Φ' tmps' w' f := by
  cases e with
  | slot d V => obtain ⟨rfl, v, h1, h2⟩ := h; exact ⟨rfl, v, by rw [ht d rfl]; exact h1, V.mono hle h2⟩
  | res R => exact R.loc hle hsame hblk h
  | fact V v => exact ⟨h.1, V.mono hle h.2⟩
  | none => exact h

structure Cx where
  w0 : World
  Φ0 : BC
  F0 : List Nat
  n : Nat
  G : FP

structure H3 (c : Cx) (E : Nat → BX) (al : Nat → Prop) (a : Act) (w : World) (Φ : BC) (fp : Nat → List Nat) : Prop where
  defers : a.defers = []
  size : a.tmps.size = c.n
  HG : CR Φ w
  FY : c.G.p Φ
  step : Step c.w0 c.Φ0 c.F0 w Φ
  holds : ∀ i, al i → (E i).holds Φ a.tmps w (fp i)
  own : ∀ i, al i → (fp i).Nodup ∧ ∀ b ∈ fp i, b < w.heap.size ∧ (b ∈ c.F0 ∨ c.w0.heap.size ≤ b)
  apart : ∀ i j, al i → al j → i ≠ j → ∀ b ∈ fp i, b ∉ fp j

def Sat (c : Cx) (E : Nat → BX) (al : Nat → Prop) (a : Act) (w : World) : Prop := ∃ Φ fp, H3 c E al a w Φ fp

theorem Sat.pick {c : Cx} {E E' : Nat → BX} {al al' : Nat → Prop} {a : Act} {w : World} (h : Sat c E al a w) (r : Nat → Nat)
    (hal : ∀ i, al' i → al (r i)) (hE : ∀ i, al' i → E' i = E (r i)) (hinj : ∀ i j, al' i → al' j → i ≠ j → r i ≠ r j) : Sat c E' al' a w := by
  obtain ⟨Φ, fp, h⟩ := h
  refine ⟨Φ, fun i => fp (r i), h.defers, h.size, h.HG, h.FY, h.step, fun i hi => ?_, fun i hi => h.own _ (hal i hi), fun i j hi hj hne => h.apart _ _ (hal i hi) (hal j hj) (hinj i j hi hj hne)⟩
  rw [hE i hi]; exact h.holds _ (hal i hi)

theorem Sat.drew {c : Cx} {E : Nat → BX} {al : Nat → Prop} {a : Act} {w : World} (h : Sat c E al a w) : Sat c E al a { w with drawn := w.drawn + 1 } := by
  obtain ⟨Φ, fp, h⟩ := h
  exact ⟨Φ, fp, h.defers, h.size, h.HG.drew, h.FY, h.step.trans (Step.drew w Φ []) (by simp),
    fun i hi => BX.Fp (h.holds i hi) (BC.le_refl _) (fun _ _ => rfl) (fun _ _ => rfl) (fun _ _ => rfl), h.own, h.apart⟩

def BW (Φ : BC) (tmps : Array Value) (w : World) : List BX → List (List Nat) → Prop
  | [], [] => True
  | e :: es, f :: fs => e.holds Φ tmps w f ∧ BW Φ tmps w es fs
  | _, _ => False

theorem BW.of_map {Φ : BC} {tmps : Array Value} {w : World} (E : Nat → BX) (fp : Nat → List Nat) : ∀ (l : List Nat), (∀ r ∈ l, (E r).holds Φ tmps w (fp r)) → BW Φ tmps w (l.map E) (l.map fp)
  | [], _ => trivial
  | r :: l, h => ⟨h r (by simp), BW.of_map E fp l fun x hx => h x (by simp [hx])⟩

theorem BW.get {Φ : BC} {tmps : Array Value} {w : World} : ∀ {es : List BX} {fs : List (List Nat)}, BW Φ tmps w es fs → es.length = fs.length ∧ ∀ (i : Nat) (e : BX), es[i]? = some e → ∃ f, fs[i]? = some f ∧ e.holds Φ tmps w f
  | [], [], _ => ⟨rfl, fun i e h => by simp at h⟩
  | e :: es, f :: fs, h => by
    obtain ⟨h1, h2⟩ := BW.get h.2
    refine ⟨by simp [h1], fun i x hx => ?_⟩
    cases i with
    | zero => simp at hx; subst hx; exact ⟨f, rfl, h.1⟩
    | succ i => simp at hx; simpa using h2 i x hx
  | [], _ :: _, h => h.elim
  | _ :: _, [], h => h.elim

def Bu (P : Program) (G : FP) (o : Oper) (N C : List BX) (Gv : Value → List BX) : Prop :=
  ∀ (Φ : BC) (a : Act) (w : World) (fN fC : List (List Nat)),
    CR Φ w → G.p Φ → BW Φ a.tmps w N fN → BW Φ a.tmps w C fC → (fN.flatten ++ fC.flatten).Nodup → (∀ b ∈ fN.flatten ++ fC.flatten, b < w.heap.size) →
    (∀ d, o.dst = some d → d < a.tmps.size) →
    ∀ (K : Act → World → Prop) (Q : Exit → Act → World → Prop),
      (∀ (v : Value) (w' : World) (Φ' : BC) (fG : List (List Nat)), Step w Φ fC.flatten w' Φ' → CR Φ' w' →
        BW Φ' (a.put o.dst v).tmps w' (Gv v) fG → fG.flatten.Nodup → (∀ b ∈ fG.flatten, b < w'.heap.size ∧ (b ∈ fC.flatten ∨ w.heap.size ≤ b)) → K (a.put o.dst v) w') →
      o.wp P a w K Q

def Iu (P : Program) (ops : Array Oper) (Q : Exit → Act → World → Prop) (o : Oper) (K : Act → World → Prop) (a : Act) (w : World) : Prop :=
  if Region.wanted o (yielded ops a.tmps) then o.wp P a w K Q ∨ (o.asks P a w ∧ LetsOut Q) else K (a.put o.dst undef) w

def Bh (P : Program) (G : FP) (ops : Array Oper) (o : Oper) (N C : List BX) (Gv : Value → List BX) : Prop :=
  ∀ (Φ : BC) (a : Act) (w : World) (fN fC : List (List Nat)),
    CR Φ w → G.p Φ → BW Φ a.tmps w N fN → BW Φ a.tmps w C fC → (fN.flatten ++ fC.flatten).Nodup → (∀ b ∈ fN.flatten ++ fC.flatten, b < w.heap.size) →
    (∀ d, o.dst = some d → d < a.tmps.size) →
    ∀ (K : Act → World → Prop) (Q : Exit → Act → World → Prop),
      (∀ (v : Value) (w' : World) (Φ' : BC) (fG : List (List Nat)), Step w Φ fC.flatten w' Φ' → CR Φ' w' →
        BW Φ' (a.put o.dst v).tmps w' (Gv v) fG → fG.flatten.Nodup → (∀ b ∈ fG.flatten, b < w'.heap.size ∧ (b ∈ fC.flatten ∨ w.heap.size ≤ b)) → K (a.put o.dst v) w') →
      Iu P ops Q o K a w

theorem Bh.plain {P : Program} {G : FP} {ops : Array Oper} {o : Oper} {N C : List BX} {Gv : Value → List BX} (h : Bu P G o N C Gv) (hg : o.guard = none) : Bh P G ops o N C Gv := by
  intro Φ a w fN fC h1 h2 h3 h4 h5 h6 h7 K Q hK
  unfold Iu
  rw [if_pos (by simp [Region.wanted, hg])]
  exact .inl (h Φ a w fN fC h1 h2 h3 h4 h5 h6 h7 K Q hK)

def Ak (b : Bool) : VP := ⟨fun _ v => v = .bool b, fun _ h => h⟩

theorem Bh.on {P : Program} {G : FP} {ops : Array Oper} {o : Oper} {N C : List BX} {Gv : Value → List BX} {k d : Nat} {want : Bool} {ok : Oper} (hg : o.guard = some (k, want)) (hk : ops[k]? = some ok) (hd : ok.dst = some d)
    (h : Bu P G o N C Gv) : Bh P G ops o (.slot d (Ak want) :: N) C Gv := by
  intro Φ a w fN fC h1 h2 h3 h4 h5 h6 h7 K Q hK
  cases fN with
  | nil => exact h3.elim
  | cons f fN =>
    obtain ⟨⟨rfl, v, hv, hb⟩, h3⟩ := h3
    have hb : v = .bool want := hb
    subst hb
    unfold Iu
    rw [if_pos (by simp [Region.wanted, hg, yielded, hk, hd, hv])]
    exact .inl (h Φ a w fN fC h1 h2 h3 h4 (by simpa using h5) (by simpa using h6) h7 K Q hK)

theorem Bh.off {P : Program} {G : FP} {ops : Array Oper} {o : Oper} {k d : Nat} {want : Bool} {ok : Oper} (hg : o.guard = some (k, want)) (hk : ops[k]? = some ok) (hd : ok.dst = some d) :
    Bh P G ops o [.slot d (Ak !want)] [] (fun _ => []) := by
  intro Φ a w fN fC h1 h2 h3 h4 h5 h6 h7 K Q hK
  match fN, h3 with
  | [f], h3 =>
    match fC, h4 with
    | [], _ =>
      obtain ⟨⟨rfl, v, hv, hb⟩, _⟩ := h3
      have hb : v = .bool !want := hb
      subst hb
      unfold Iu
      rw [if_neg (by cases want <;> simp [Region.wanted, hg, yielded, hk, hd, hv])]
      exact hK undef w Φ [] (Step.refl _ _ _) h1 trivial List.nodup_nil (by simp)

inductive GE where
  | slot (d : Nat) (i j : Nat) (V : Value → Value → VP)
  | res (i j : Nat) (R : Value → Value → RP)
  | fact (i j : Nat) (V : Value → Value → VP) (v : Value → Value → Value)
  | slot3 (d : Nat) (i j k : Nat) (V : Value → Value → Value → VP)
  | res3 (i j k : Nat) (R : Value → Value → Value → RP)
  | base (e : BX)

def GE.at (β : Nat → Value) : GE → BX
  | .slot d i j V => .slot d (V (β i) (β j))
  | .res i j R => .res (R (β i) (β j))
  | .fact i j V v => .fact (V (β i) (β j)) (v (β i) (β j))
  | .slot3 d i j k V => .slot d (V (β i) (β j) (β k))
  | .res3 i j k R => .res (R (β i) (β j) (β k))
  | .base e => e
def GE.G0 : GE → Option Nat
  | .slot d _ _ _ => some d
  | .slot3 d _ _ _ _ => some d
  | .base e => e.G0
  | _ => none
def GE.Li : GE → List Nat
  | .slot _ i j _ => [i, j]
  | .res i j _ => [i, j]
  | .fact i j _ _ => [i, j]
  | .slot3 _ i j k _ => [i, j, k]
  | .res3 i j k _ => [i, j, k]
  | .base _ => []
theorem GE.Jl (β : Nat → Value) (g : GE) : (g.at β).G0 = g.G0 := by cases g <;> rfl
theorem GE.J1 {β β' : Nat → Value} {g : GE} (h : ∀ k ∈ g.Li, β k = β' k) : g.at β = g.at β' := by
  cases g <;> simp_all [GE.at, GE.Li]

def BB {α : Type _} (d : α) : List α → Nat → α
  | [], _ => d
  | x :: _, 0 => x
  | _ :: l, k + 1 => BB d l k
theorem CQ {α : Type _} (d : α) : ∀ (l : List α) (k : Nat), BB d l k = l.getD k d
  | [], k => by simp [BB]
  | x :: l, 0 => by simp [BB]
  | x :: l, k + 1 => by simp [BB, CQ d l k]

structure FO where
  BR : List Nat
  cons : List Nat
  BY : List Nat
  bf : List Nat
  dst : Option Nat

def FO.none : FO := ⟨[], [], [], [], Option.none⟩

structure Cn where
  n : Nat
  E7 : List GE
  own : List (Option Nat)
  ops : List FO

def Cn.E (p : Cn) (β : Nat → Value) (r : Nat) : BX := (BB (.base .none) p.E7 r).at β
def Cn.op (p : Cn) (i : Nat) : FO := BB FO.none p.ops i
def Cn.owner (p : Cn) (r : Nat) : Option Nat := BB none p.own r
def Cn.Gy (p : Cn) (r : Nat) : Option Nat := (BB (.base .none) p.E7 r).G0
def Cn.GM (p : Cn) (r : Nat) : List Nat := (BB (.base .none) p.E7 r).Li

def distinct : List Nat → Bool
  | [] => true
  | x :: l => !l.contains x && distinct l
theorem C8 : ∀ {l : List Nat}, distinct l = true → l.Nodup
  | [], _ => List.nodup_nil
  | x :: l, h => by
    simp [distinct] at h
    exact List.nodup_cons.2 ⟨by simpa using h.1, C8 h.2⟩

def Cn.IQ (p : Cn) (i : Nat) : Bool :=
  let s := p.op i
  ((s.BR ++ s.cons).all fun r => decide (r < p.E7.length) && (match p.owner r with | none => true | some j => s.bf.contains j) &&
    (List.range p.ops.length).all fun k => k == i || !(p.op k).cons.contains r || (p.op k).bf.contains i) &&
  distinct (s.BR ++ s.cons) &&
  distinct s.BY &&
  (s.BY.all fun r => p.owner r == some i && decide (r < p.E7.length) && (match p.Gy r with | none => true | some d => s.dst == some d) &&
    (p.GM r).all fun k => decide (p.ops.length ≤ k) || k == i || s.bf.contains k) &&
  ((List.range p.E7.length).all fun r => (p.owner r != some i || s.BY.contains r) &&
    (match p.Gy r with
     | none => true
     | some d => s.dst != some d || p.owner r == some i || s.cons.contains r || (match p.owner r with | none => false | some k => (p.op k).bf.contains i) ||
        (List.range p.ops.length).any fun k => (p.op k).cons.contains r && s.bf.contains k)) &&
  (match s.dst with | none => true | some d => decide (d < p.n))

def Cn.check (p : Cn) : Bool := (List.range p.ops.length).all p.IQ && (List.range p.E7.length).all fun r =>
  match p.owner r with | none => (p.GM r).all fun k => decide (p.ops.length ≤ k) | some j => decide (j < p.ops.length)

def Cn.alive (p : Cn) (listed : Nat → Prop) (r : Nat) : Prop :=
  r < p.E7.length ∧ (∀ j, p.owner r = some j → listed j) ∧ ∀ k, listed k → r ∉ (p.op k).cons

structure Cn.Good (p : Cn) (i : Nat) : Prop where
  J0 : ∀ r ∈ (p.op i).BR ++ (p.op i).cons, r < p.E7.length ∧ (∀ j, p.owner r = some j → j ∈ (p.op i).bf) ∧ ∀ k, k < p.ops.length → k ≠ i → r ∈ (p.op k).cons → i ∈ (p.op k).bf
  nd : ((p.op i).BR ++ (p.op i).cons).Nodup
  ndg : (p.op i).BY.Nodup
  giv : ∀ r ∈ (p.op i).BY, p.owner r = some i ∧ r < p.E7.length ∧ (∀ d, p.Gy r = some d → (p.op i).dst = some d) ∧ ∀ k ∈ p.GM r, p.ops.length ≤ k ∨ k = i ∨ k ∈ (p.op i).bf
  all : ∀ r, r < p.E7.length → p.owner r = some i → r ∈ (p.op i).BY
  dst : ∀ r d, r < p.E7.length → p.Gy r = some d → (p.op i).dst = some d → p.owner r = some i ∨ r ∈ (p.op i).cons ∨ (∃ k, p.owner r = some k ∧ i ∈ (p.op k).bf) ∨ ∃ k, k < p.ops.length ∧ r ∈ (p.op k).cons ∧ k ∈ (p.op i).bf
  dlt : ∀ d, (p.op i).dst = some d → d < p.n

theorem Cn.Ek {p : Cn} (h : p.check = true) {r : Nat} (hr : r < p.E7.length) :
    (p.owner r = none → ∀ k ∈ p.GM r, p.ops.length ≤ k) ∧ ∀ j, p.owner r = some j → j < p.ops.length := by
  simp only [Cn.check, Bool.and_eq_true] at h
  have h := (List.all_eq_true.1 h.2) r (List.mem_range.2 hr)
  refine ⟨fun ho k hk => ?_, fun j hj => by simpa [hj] using h⟩
  simp only [ho, List.all_eq_true, decide_eq_true_eq] at h
  exact h k hk

theorem Cn.Fg {p : Cn} (h : p.check = true) {i : Nat} (hi : i < p.ops.length) : p.Good i := by
  simp only [Cn.check, Bool.and_eq_true] at h
  have h := (List.all_eq_true.1 h.1) i (List.mem_range.2 hi)
  simp only [Cn.IQ, Bool.and_eq_true] at h
  obtain ⟨⟨⟨⟨⟨h1, h2⟩, h3⟩, h4⟩, h5⟩, h6⟩ := h
  rw [List.all_eq_true] at h1 h4 h5
  refine ⟨fun r hr => ?_, C8 h2, C8 h3, fun r hr => ?_, fun r hr ho => ?_, fun r d hr hs hd => ?_, fun d hd => ?_⟩
  · have := h1 r hr
    simp only [Bool.and_eq_true, decide_eq_true_eq, List.all_eq_true] at this
    obtain ⟨⟨a1, a2⟩, a3⟩ := this
    refine ⟨a1, fun j hj => by simpa [hj] using a2, fun k hk hne hm => ?_⟩
    have := a3 k (List.mem_range.2 hk)
    simpa [hne, hm] using this
  · have := h4 r hr
    simp only [Bool.and_eq_true, decide_eq_true_eq, List.all_eq_true] at this
    obtain ⟨⟨⟨a1, a2⟩, a3⟩, a4⟩ := this
    refine ⟨by simpa using a1, a2, fun d hd => by simpa [hd] using a3, fun k hk => ?_⟩
    have := a4 k hk
    simp only [Bool.or_eq_true, decide_eq_true_eq, beq_iff_eq] at this
    rcases this with (h | h) | h
    · exact .inl h
    · exact .inr (.inl h)
    · exact .inr (.inr (by simpa using h))
  · have := (h5 r (List.mem_range.2 hr))
    simp only [Bool.and_eq_true] at this
    have := this.1
    simpa [ho] using this
  · have := (h5 r (List.mem_range.2 hr))
    simp only [Bool.and_eq_true] at this
    have := this.2
    simp only [hs, hd, bne_self_eq_false, Bool.false_or, Bool.or_eq_true] at this
    rcases this with ((h | h) | h) | h
    · exact .inl (by simpa using h)
    · exact .inr (.inl (by simpa using h))
    · refine .inr (.inr (.inl ?_))
      cases ho : p.owner r with
      | none => simp [ho] at h
      | some k => exact ⟨k, rfl, by simpa [ho] using h⟩
    · refine .inr (.inr (.inr ?_))
      rw [List.any_eq_true] at h
      obtain ⟨k, hk, h⟩ := h
      simp only [Bool.and_eq_true] at h
      exact ⟨k, List.mem_range.1 hk, by simpa using h.1, by simpa using h.2⟩
  · simpa [hd] using h6

theorem DZ {fp : Nat → List Nat} : ∀ {l : List Nat}, l.Nodup → (∀ r ∈ l, (fp r).Nodup) → (∀ r ∈ l, ∀ s ∈ l, r ≠ s → ∀ b ∈ fp r, b ∉ fp s) → (l.map fp).flatten.Nodup
  | [], _, _, _ => List.nodup_nil
  | r :: l, hn, h1, h2 => by
    have hn' := List.nodup_cons.1 hn
    simp only [List.map_cons, List.flatten_cons]
    rw [List.nodup_append]
    refine ⟨h1 r (by simp), DZ hn'.2 (fun s hs => h1 s (by simp [hs])) (fun s hs t ht => h2 s (by simp [hs]) t (by simp [ht])), fun x hx y hy hxy => ?_⟩
    subst hxy
    obtain ⟨s, hs, hys⟩ := List.mem_flatten.1 hy
    obtain ⟨t, ht, rfl⟩ := List.mem_map.1 hs
    exact h2 r (by simp) t (by simp [ht]) (fun e => hn'.1 (e ▸ ht)) _ hx hys

theorem Ih (a : Act) (dst : Option Nat) (v : Value) (d : Nat) (h : dst ≠ some d) : (a.put dst v).tmps[d]? = a.tmps[d]? := by
  cases dst with
  | none => rfl
  | some e => simp only [Act.put]; exact Array.getElem?_setIfInBounds_ne (fun he => h (by rw [he]))
theorem C3 (a : Act) (v : Value) (d : Nat) (h : d < a.tmps.size) : (a.put (some d) v).tmps[d]? = some v := by
  simp [Act.put, h]
theorem Jr (a : Act) (dst : Option Nat) (v : Value) : (a.put dst v).tmps.size = a.tmps.size := by cases dst <;> simp [Act.put]
theorem put_defers (a : Act) (dst : Option Nat) (v : Value) : (a.put dst v).defers = a.defers := by cases dst <;> rfl

theorem F1 : ∀ {l : List Nat} {r : Nat}, r ∈ l → l[l.idxOf r]? = some r
  | x :: l, r, h => by
    by_cases e : x = r
    · subst e; simp
    · have hr : r ∈ l := (List.mem_cons.1 h).resolve_left (fun q => e q.symm)
      have hb : (x == r) = false := by simpa using e
      rw [List.idxOf_cons, hb]
      simpa using F1 hr
theorem Io {l : List Nat} {r s : Nat} (hr : r ∈ l) (hs : s ∈ l) (e : l.idxOf r = l.idxOf s) : r = s := by
  have h1 := F1 hr
  have h2 := F1 hs
  rw [e, h2] at h1
  exact (Option.some.inj h1).symm
theorem DY : ∀ {l : List (List Nat)}, l.flatten.Nodup → ∀ f ∈ l, f.Nodup
  | [], _, f, hf => by cases hf
  | g :: l, h, f, hf => by
    simp only [List.flatten_cons] at h
    rw [List.nodup_append] at h
    rcases List.mem_cons.1 hf with rfl | hf
    · exact h.1
    · exact DY h.2.1 f hf
theorem D0 : ∀ {l : List (List Nat)}, l.flatten.Nodup → ∀ (i j : Nat) (f g : List Nat), l[i]? = some f → l[j]? = some g → i ≠ j → ∀ b ∈ f, b ∉ g
  | [], _, i, j, f, g, hi, _, _ => by simp at hi
  | x :: l, h, i, j, f, g, hi, hj, hne => by
    simp only [List.flatten_cons] at h
    rw [List.nodup_append] at h
    intro b hb hg
    cases i with
    | zero =>
      cases j with
      | zero => exact hne rfl
      | succ j => simp at hi hj; subst hi; exact h.2.2 b hb b (List.mem_flatten.2 ⟨g, List.mem_of_getElem? hj, hg⟩) rfl
    | succ i =>
      cases j with
      | zero => simp at hi hj; subst hj; exact h.2.2 b hg b (List.mem_flatten.2 ⟨f, List.mem_of_getElem? hi, hb⟩) rfl
      | succ j => simp at hi hj; exact D0 h.2.1 i j f g hi hj (fun e => hne (by rw [e])) b hb hg

theorem Cn.step {P : Program} {ops : Array Oper} {c : Cx} {p : Cn} (hn : p.n = c.n) {listed : Nat → Prop} {β : Nat → Value} {a : Act} {w : World} {o : Oper} {i : Nat}
    (hc : p.check = true) (hi : i < p.ops.length) (hnl : ¬ listed i) (hbf : ∀ j ∈ (p.op i).bf, listed j) (hdown : ∀ j k, listed k → j ∈ (p.op k).bf → listed j) (hlt : ∀ j, listed j → j < p.ops.length)
    (hod : o.dst = (p.op i).dst)
    (hop : ∀ β, Bh P c.G ops o ((p.op i).BR.map (p.E β)) ((p.op i).cons.map (p.E β)) (fun v => (p.op i).BY.map (p.E fun k => if k = i then v else β k)))
    (hs : Sat c (p.E β) (p.alive listed) a w) (K : Act → World → Prop) (Q : Exit → Act → World → Prop)
    (hK : ∀ a' w' β', Sat c (p.E β') (p.alive fun k => listed k ∨ k = i) a' w' → K a' w') : Iu P ops Q o K a w := by
  obtain ⟨Φ, fp, h⟩ := hs
  have hg := Cn.Fg hc hi
  have hali : ∀ r ∈ (p.op i).BR ++ (p.op i).cons, p.alive listed r := fun r hr =>
    ⟨(hg.J0 r hr).1, fun j hj => hbf j ((hg.J0 r hr).2.1 j hj), fun k hk hm => by
      by_cases hki : k = i
      · exact hnl (hki ▸ hk)
      · exact hnl (hdown i k hk ((hg.J0 r hr).2.2 k (hlt k hk) hki hm))⟩
  have hnd := hg.nd
  have hflat : (((p.op i).BR.map fp).flatten ++ ((p.op i).cons.map fp).flatten) = (((p.op i).BR ++ (p.op i).cons).map fp).flatten := by simp
  refine hop β Φ a w ((p.op i).BR.map fp) ((p.op i).cons.map fp) h.HG h.FY
    (BW.of_map _ _ _ fun r hr => h.holds r (hali r (by simp [hr]))) (BW.of_map _ _ _ fun r hr => h.holds r (hali r (by simp [hr]))) ?_ ?_ ?_ K Q ?_
  · rw [hflat]
    exact DZ hnd (fun r hr => (h.own r (hali r hr)).1) (fun r hr s hs hne => h.apart r s (hali r hr) (hali s hs) hne)
  · rw [hflat]
    intro b hb
    obtain ⟨s, hs, hbs⟩ := List.mem_flatten.1 hb
    obtain ⟨r, hr, rfl⟩ := List.mem_map.1 hs
    exact ((h.own r (hali r hr)).2 b hbs).1
  · intro d hd
    rw [h.size, ← hn]
    exact hg.dlt d (by rw [← hod]; exact hd)
  · intro v w' Φ' fG hstep hpub hG hGn hGb
    refine hK _ w' (fun k => if k = i then v else β k) ?_
    -- the blocks of each entry behind the operation
    have hlen := (BW.get hG).1
    have hget := (BW.get hG).2
    let fp' : Nat → List Nat := fun r => if r ∈ (p.op i).BY then fG.getD ((p.op i).BY.idxOf r) [] else fp r
    have hfpG : ∀ r ∈ (p.op i).BY, ∃ f, fG[(p.op i).BY.idxOf r]? = some f ∧ fp' r = f ∧ (p.E (fun k => if k = i then v else β k) r).holds Φ' (a.put o.dst v).tmps w' f := by
      intro r hr
      have hx : (p.op i).BY.idxOf r < (p.op i).BY.length := List.idxOf_lt_length_of_mem hr
      obtain ⟨f, hf, hh⟩ := hget ((p.op i).BY.idxOf r) (p.E (fun k => if k = i then v else β k) r) (by simp [List.getElem?_eq_getElem hx])
      exact ⟨f, hf, by simp [fp', hr, List.getD, hf], hh⟩
    have hold : ∀ r, p.alive (fun k => listed k ∨ k = i) r → r ∉ (p.op i).BY → p.alive listed r ∧ r ∉ (p.op i).cons := by
      intro r hr hng
      refine ⟨⟨hr.1, fun j hj => ?_, fun k hk => hr.2.2 k (.inl hk)⟩, hr.2.2 i (.inr rfl)⟩
      rcases hr.2.1 j hj with hl | rfl
      · exact hl
      · exact absurd (hg.all r hr.1 hj) hng
    -- an entry that is not used up shares no block with what is
    have hfar : ∀ r, p.alive listed r → r ∉ (p.op i).cons → ∀ b ∈ fp r, b ∉ ((p.op i).cons.map fp).flatten := by
      intro r hr hnc b hb hm
      obtain ⟨s, hs, hbs⟩ := List.mem_flatten.1 hm
      obtain ⟨t, ht, rfl⟩ := List.mem_map.1 hs
      exact h.apart r t hr (hali t (by simp [ht])) (fun e => hnc (e ▸ ht)) b hb hbs
    have hslot : ∀ r, p.alive listed r → r ∉ (p.op i).cons → ∀ d, p.Gy r = some d → o.dst ≠ some d := by
      intro r hr hnc d hd he
      rcases hg.dst r d hr.1 hd (by rw [← hod]; exact he) with h1 | h1 | ⟨k, hk, hik⟩ | ⟨k, hk, hrk, hki⟩
      · exact hnl (hr.2.1 i h1)
      · exact hnc h1
      · exact hnl (hdown i k (hr.2.1 k hk) hik)
      · exact hr.2.2 k (hbf k hki) hrk
    refine ⟨Φ', fp', by rw [put_defers]; exact h.defers, by rw [Jr]; exact h.size, hpub, c.G.mono hstep.le h.FY, ?_, ?_, ?_, ?_⟩
    · refine h.step.trans hstep fun b hb hlt' => ?_
      obtain ⟨s, hs, hbs⟩ := List.mem_flatten.1 hb
      obtain ⟨r, hr, rfl⟩ := List.mem_map.1 hs
      rcases ((h.own r (hali r (by simp [hr]))).2 b hbs).2 with h1 | h1
      · exact h1
      · omega
    · intro r hr
      by_cases hrg : r ∈ (p.op i).BY
      · obtain ⟨f, _, hf, hh⟩ := hfpG r hrg
        rw [hf]; exact hh
      · obtain ⟨hal, hnc⟩ := hold r hr hrg
        have hfr : fp' r = fp r := by simp [fp', hrg]
        rw [hfr]
        have hE : p.E (fun k => if k = i then v else β k) r = p.E β r := by
          refine GE.J1 fun k hk => ?_
          by_cases hki : k = i
          · exfalso
            subst hki
            have hmem : k ∈ p.GM r := hk
            cases ho : p.owner r with
            | none => have := (Cn.Ek hc hal.1).1 ho k hmem; omega
            | some j =>
              have hlj := hal.2.1 j ho
              have hgj := Cn.Fg hc ((Cn.Ek hc hal.1).2 j ho)
              rcases (hgj.giv r (hgj.all r hal.1 ho)).2.2.2 k hmem with h1 | h1 | h1
              · omega
              · exact hnl (h1 ▸ hlj)
              · exact hnl (hdown k j hlj h1)
          · simp [hki]
        rw [hE]
        exact BX.Fp (h.holds r hal) hstep.le (fun b hb => hstep.same b ((h.own r hal).2 b hb).1 (hfar r hal hnc b hb)) (fun b hb => hstep.block b ((h.own r hal).2 b hb).1 (hfar r hal hnc b hb))
          (fun d hd => Ih _ _ _ _ (hslot r hal hnc d (by rw [← hd]; exact (GE.Jl β _).symm)))
    · intro r hr
      by_cases hrg : r ∈ (p.op i).BY
      · obtain ⟨f, hf, hfe, _⟩ := hfpG r hrg
        rw [hfe]
        have hfm : f ∈ fG := List.mem_of_getElem? hf
        refine ⟨DY hGn f hfm, fun b hb => ?_⟩
        have := hGb b (List.mem_flatten.2 ⟨f, hfm, hb⟩)
        refine ⟨this.1, ?_⟩
        rcases this.2 with h1 | h1
        · obtain ⟨s, hs, hbs⟩ := List.mem_flatten.1 h1
          obtain ⟨t, ht, rfl⟩ := List.mem_map.1 hs
          exact ((h.own t (hali t (by simp [ht]))).2 b hbs).2
        · exact .inr (Nat.le_trans h.step.size h1)
      · obtain ⟨hal, hnc⟩ := hold r hr hrg
        have hfr : fp' r = fp r := by simp [fp', hrg]
        rw [hfr]
        exact ⟨(h.own r hal).1, fun b hb => ⟨Nat.lt_of_lt_of_le ((h.own r hal).2 b hb).1 hstep.size, ((h.own r hal).2 b hb).2⟩⟩
    · intro r s hr hs hne b hb
      by_cases hrg : r ∈ (p.op i).BY
      · obtain ⟨f, hf, hfe, _⟩ := hfpG r hrg
        rw [hfe] at hb
        by_cases hsg : s ∈ (p.op i).BY
        · obtain ⟨f2, hf2, hfe2, _⟩ := hfpG s hsg
          rw [hfe2]
          refine D0 hGn _ _ f f2 hf hf2 (fun e => hne ?_) b hb
          exact Io hrg hsg e
        · obtain ⟨hals, hncs⟩ := hold s hs hsg
          have hfs : fp' s = fp s := by simp [fp', hsg]
          rw [hfs]
          intro hbs
          rcases (hGb b (List.mem_flatten.2 ⟨f, List.mem_of_getElem? hf, hb⟩)).2 with h1 | h1
          · exact hfar s hals hncs b hbs h1
          · have := ((h.own s hals).2 b hbs).1; omega
      · obtain ⟨hal, hnc⟩ := hold r hr hrg
        have hfr : fp' r = fp r := by simp [fp', hrg]
        rw [hfr] at hb
        by_cases hsg : s ∈ (p.op i).BY
        · obtain ⟨f2, hf2, hfe2, _⟩ := hfpG s hsg
          rw [hfe2]
          intro hbs
          rcases (hGb b (List.mem_flatten.2 ⟨f2, List.mem_of_getElem? hf2, hbs⟩)).2 with h1 | h1
          · exact hfar r hal hnc b hb h1
          · have := ((h.own r hal).2 b hb).1; omega
        · obtain ⟨hals, hncs⟩ := hold s hs hsg
          have hfs : fp' s = fp s := by simp [fp', hsg]
          rw [hfs]
          exact h.apart r s hal hals hne b hb

end
section
open Go Go.RowKit

section region
variable {P : Program} {ops : Array Oper} {c : Cx} {p : Cn} {Q : Exit → Act → World → Prop}

def Cn.Ok (P : Program) (G : FP) (ops : Array Oper) (p : Cn) : List Oper → Nat → Prop
  | [], _ => True
  | o :: l, i => (o.dst = (p.op i).dst ∧ ∀ β, Bh P G ops o ((p.op i).BR.map (p.E β)) ((p.op i).cons.map (p.E β)) (fun v => (p.op i).BY.map (p.E fun k => if k = i then v else β k))) ∧ p.Ok P G ops l (i + 1)

theorem Cn.Ok.get {G : FP} : ∀ {l : List Oper} {i : Nat}, p.Ok P G ops l i → ∀ (j : Nat) (o : Oper), l[j]? = some o →
    o.dst = (p.op (i + j)).dst ∧ ∀ β, Bh P G ops o ((p.op (i + j)).BR.map (p.E β)) ((p.op (i + j)).cons.map (p.E β)) (fun v => (p.op (i + j)).BY.map (p.E fun k => if k = i + j then v else β k))
  | [], _, _, j, o, h => by simp at h
  | x :: l, i, h, 0, o, ho => by simp at ho; subst ho; exact h.1
  | x :: l, i, h, j + 1, o, ho => by
    simp at ho
    have := Cn.Ok.get h.2 j o ho
    rwa [show i + 1 + j = i + (j + 1) by omega] at this

def Cn.checkSeq (p : Cn) : Bool := (List.range p.ops.length).all fun i => (p.op i).bf.all fun j => decide (j < i)

theorem Gu (hn : p.n = c.n) (hc : p.check = true) (hseq : p.checkSeq = true) (hlen : p.ops.length = ops.size) (hops : p.Ok P c.G ops ops.toList 0)
    (hQ : ∀ a w β, Sat c (p.E β) (p.alive fun k => k < p.ops.length) a w → Q .normal a w) :
    ∀ (m k : Nat), k + m = ops.size → ∀ (a : Act) (w : World) (β : Nat → Value), Sat c (p.E β) (p.alive fun j => j < k) a w → wpOps P ops Q (List.range' k m) a w
  | 0, k, hk, a, w, β, hs => by
    have : k = p.ops.length := by omega
    subst this
    exact hQ a w β hs
  | m + 1, k, hk, a, w, β, hs => by
    have hkl : k < ops.size := by omega
    have ho : ops[k]? = some ops[k] := Array.getElem?_eq_getElem hkl
    have hbf : ∀ i, i < p.ops.length → ∀ j ∈ (p.op i).bf, j < i := fun i hi j hj => by
      have := (List.all_eq_true.1 ((List.all_eq_true.1 hseq) i (List.mem_range.2 hi))) j hj
      simpa using this
    obtain ⟨hd, hg⟩ := hops.get k ops[k] (by simp)
    rw [Nat.zero_add] at hd hg
    simp only [List.range'_succ, wpOps, ho]
    refine Cn.step (P := P) (ops := ops) (listed := fun j => j < k) (i := k) hn hc (by omega) (by simp) (fun j hj => hbf k (by omega) j hj)
      (fun j k' hk' hj => by have := hbf k' (by omega) j hj; omega) (fun j hj => by omega) hd hg hs _ _ fun a' w' β' h' => ?_
    refine Gu hn hc hseq hlen hops hQ m (k + 1) (by omega) a' w' β' ?_
    have e : (fun j => j < k ∨ j = k) = (fun j => j < k + 1) := by funext j; exact propext (by omega)
    rwa [e] at h'

theorem Ie {id : Nat} {a : Act} {w : World} (p : Cn) (hn : p.n = c.n) (hc : p.check = true) (hseq : p.checkSeq = true) (hlen : p.ops.length = ops.size) (hops : p.Ok P c.G ops ops.toList 0)
    (hs : Sat c (p.E fun _ => undef) (p.alive fun _ => False) a w)
    (hQ : ∀ a w β, Sat c (p.E β) (p.alive fun k => k < p.ops.length) a w → Q .normal a w) : (Code.region id ops false).wp P Q a w := by
  refine wp_region ?_
  rw [List.range_eq_range']
  refine Gu hn hc hseq hlen hops hQ ops.size 0 (by omega) a w (fun _ => undef) ?_
  have e : (fun j : Nat => j < 0) = (fun _ => False) := by funext j; exact propext ⟨fun h => by omega, False.elim⟩
  rw [e]; exact hs

def direct (ops : Array Oper) (i : Nat) : List Nat := ((ops[i]?).map fun o => (o.after.toList.filter fun e => Region.binds .any e).map (·.on)).getD []

def Cn.GN (p : Cn) (ops : Array Oper) : Bool := (List.range p.ops.length).all fun i =>
  ((p.op i).bf.all fun x => (direct ops i).contains x || (direct ops i).any fun e => (p.op e).bf.contains x) && (direct ops i).all fun x => decide (x < i)

theorem GB {listed : Array Bool} {i : Nat} (h : i ∈ Region.ready .any ops listed) :
    i < ops.size ∧ listed.getD i true = false ∧ ∀ x ∈ direct ops i, listed.getD x false = true := by
  obtain ⟨h1, h2⟩ := List.mem_filter.1 h
  have hi := List.mem_range.1 h1
  have ho : ops[i]? = some ops[i] := Array.getElem?_eq_getElem hi
  simp only [ho, Option.map_some, Option.getD_some, Bool.and_eq_true] at h2
  refine ⟨hi, by simpa using h2.1, fun x hx => ?_⟩
  simp only [direct, ho, Option.map_some, Option.getD_some] at hx
  obtain ⟨e, he, rfl⟩ := List.mem_map.1 hx
  obtain ⟨he1, he2⟩ := List.mem_filter.1 he
  have := (Array.all_eq_true_iff_forall_mem.1 h2.2) e (Array.mem_toList_iff.1 he1)
  simpa [he2] using this

theorem Jo {listed : Array Bool} {i : Nat} (hi : i < ops.size) (hl : listed.getD i true = false) (h : ∀ x ∈ direct ops i, listed.getD x false = true) : i ∈ Region.ready .any ops listed := by
  have ho : ops[i]? = some ops[i] := Array.getElem?_eq_getElem hi
  refine List.mem_filter.2 ⟨List.mem_range.2 hi, ?_⟩
  simp only [ho, Option.map_some, Option.getD_some, Bool.and_eq_true, hl, Bool.not_false, true_and]
  refine Array.all_eq_true_iff_forall_mem.2 fun e he => ?_
  by_cases hb : Region.binds .any e = true
  · simp only [hb, Bool.not_true, Bool.false_or]
    refine h e.on ?_
    simp only [direct, ho, Option.map_some, Option.getD_some]
    exact List.mem_map.2 ⟨e, List.mem_filter.2 ⟨Array.mem_toList_iff.2 he, hb⟩, rfl⟩
  · simp [hb]

def open_ (listed : Array Bool) : Nat := (listed.toList.filter (!·)).length

theorem Jv {listed : Array Bool} {i : Nat} (h : listed[i]? = some false) : open_ (listed.setIfInBounds i true) + 1 = open_ listed := by
  obtain ⟨l⟩ := listed
  simp only [open_, List.setIfInBounds_toArray]
  simp only [List.getElem?_toArray] at h
  induction l generalizing i with
  | nil => simp at h
  | cons x l ih =>
    cases i with
    | zero => simp at h; subst h; simp
    | succ i =>
      simp at h
      have := ih h
      cases x <;> simp_all <;> omega

theorem I2 {listed : Array Bool} (h : open_ listed = 0) (i : Nat) (hi : i < listed.size) : listed[i]? = some true := by
  obtain ⟨l⟩ := listed
  simp only [open_, List.length_eq_zero_iff, List.filter_eq_nil_iff] at h
  have := h l[i] (List.getElem_mem (by simpa using hi))
  simp at hi
  simp [hi] at this ⊢
  exact this

theorem H6 (hn : p.n = c.n) (hc : p.check = true) (hany : p.GN ops = true) (hlen : p.ops.length = ops.size) (hops : p.Ok P c.G ops ops.toList 0)
    (hQ : ∀ a w β, Sat c (p.E β) (p.alive fun k => k < p.ops.length) a w → Q .normal a w) :
    ∀ (fuel : Nat) (listed : Array Bool), listed.size = ops.size → open_ listed = fuel → (∀ k, listed[k]? = some true → ∀ j ∈ (p.op k).bf, listed[j]? = some true) →
      ∀ (a : Act) (w : World) (β : Nat → Value), Sat c (p.E β) (p.alive fun j => listed[j]? = some true) a w → wpAny P .any ops Q fuel listed a w := by
  have hbf : ∀ i, i < p.ops.length → (∀ x ∈ (p.op i).bf, x ∈ direct ops i ∨ ∃ e ∈ direct ops i, x ∈ (p.op e).bf) ∧ ∀ x ∈ direct ops i, x < i := fun i hi => by
    have := (List.all_eq_true.1 hany) i (List.mem_range.2 hi)
    simp only [Bool.and_eq_true, List.all_eq_true, decide_eq_true_eq] at this
    refine ⟨fun x hx => ?_, this.2⟩
    have h := this.1 x hx
    simp only [Bool.or_eq_true] at h
    rcases h with h | h
    · exact .inl (by simpa using h)
    · obtain ⟨e, he, hx⟩ := List.any_eq_true.1 h
      exact .inr ⟨e, he, by simpa using hx⟩
  -- if nothing is ready, all is done
  have hdone : ∀ (listed : Array Bool), listed.size = ops.size → Region.ready .any ops listed = [] → ∀ k, k < ops.size → listed[k]? = some true := by
    intro listed hsz hr k
    induction k using Nat.strongRecOn with
    | _ k ih =>
      intro hk
      have hk' : k < listed.size := by omega
      cases hl : listed[k] with
      | true => simp [Array.getElem?_eq_getElem hk', hl]
      | false =>
        exfalso
        have hm : k ∈ Region.ready .any ops listed := Jo hk (by simp [Array.getD, hk', hl]) fun x hx => by
          have hx' := (hbf k (by omega)).2 x hx
          have := ih x hx' (by omega)
          rw [Array.getD_eq_getD_getElem?, this]; rfl
        rw [hr] at hm
        cases hm
  have hall : ∀ (listed : Array Bool), listed.size = ops.size → (∀ k, k < ops.size → listed[k]? = some true) → (fun j => listed[j]? = some true) = fun j => j < p.ops.length := by
    intro listed hsz h
    funext j
    refine propext ⟨fun hj => ?_, fun hj => h j (by omega)⟩
    rcases Nat.lt_or_ge j listed.size with h1 | h1
    · omega
    · simp [Array.getElem?_eq_none h1] at hj
  intro fuel
  induction fuel with
  | zero =>
    intro listed hsz hop _ a w β hs
    have hfull : ∀ k, k < ops.size → listed[k]? = some true := fun k hk => I2 hop k (by omega)
    refine ⟨?_, hQ a w β (by rw [← hall listed hsz hfull]; exact hs)⟩
    cases hr : Region.ready .any ops listed with
    | nil => rfl
    | cons x xs =>
      have hx := GB (ops := ops) (listed := listed) (i := x) (by rw [hr]; simp)
      have := hfull x hx.1
      have h2 := hx.2.1
      rw [Array.getD_eq_getD_getElem?, this] at h2
      simp at h2
  | succ fuel ih =>
    intro listed hsz hop hdown a w β hs
    refine ⟨fun hr => hQ a w β (by rw [← hall listed hsz (hdone listed hsz hr)]; exact hs), fun i hi => ?_⟩
    obtain ⟨hi1, hi2, hi3⟩ := GB hi
    have hil : listed[i]? = some false := by
      have : i < listed.size := by omega
      simp [Array.getD, this] at hi2
      simp [Array.getElem?_eq_getElem this, hi2]
    have hi3' : ∀ x ∈ direct ops i, listed[x]? = some true := fun x hx => by
      have := hi3 x hx
      rw [Array.getD_eq_getD_getElem?] at this
      cases h : listed[x]? with
      | none => simp [h] at this
      | some b => simp [h] at this; rw [this]
    have ho : ops[i]? = some ops[i] := Array.getElem?_eq_getElem hi1
    obtain ⟨hd, hg⟩ := hops.get i ops[i] (by simp)
    rw [Nat.zero_add] at hd hg
    unfold wpOp
    simp only [ho]
    refine Cn.step (P := P) (ops := ops) (listed := fun j => listed[j]? = some true) hn hc (by omega) (by simp [hil]) (fun j hj => ?_) (fun j k hk hj => hdown k hk j hj) (fun j hj => ?_) hd hg hs _ _ fun a' w' β' h' => ?_
    · rcases (hbf i (by omega)).1 j hj with h | ⟨e, he, h⟩
      · exact hi3' j h
      · exact hdown e (hi3' e he) j h
    · rcases Nat.lt_or_ge j listed.size with h1 | h1
      · omega
      · simp [Array.getElem?_eq_none h1] at hj
    · have hset : ∀ j, (listed.setIfInBounds i true)[j]? = some true ↔ listed[j]? = some true ∨ j = i := fun j => by
        by_cases hji : i = j
        · subst hji
          have : i < listed.size := by omega
          simp [this]
        · rw [Array.getElem?_setIfInBounds_ne hji]
          exact ⟨.inl, fun h => h.resolve_right (fun e => hji e.symm)⟩
      refine ih (listed.setIfInBounds i true) (by simpa using hsz) (by have := Jv hil; omega) (fun k hk j hj => ?_) a' w' β' ?_
      · rcases (hset k).1 hk with h | h
        · exact (hset j).2 (.inl (hdown k h j hj))
        · subst h
          refine (hset j).2 (.inl ?_)
          rcases (hbf k (by omega)).1 j hj with h | ⟨e, he, h⟩
          · exact hi3' j h
          · exact hdown e (hi3' e he) j h
      · have e : (fun j => (listed.setIfInBounds i true)[j]? = some true) = fun j => listed[j]? = some true ∨ j = i := by funext j; exact propext (hset j)
        rw [e]; exact h'

theorem Ig {id : Nat} {a : Act} {w : World} (p : Cn) (hm : P.follows .mixedOrders = true) (hn : p.n = c.n) (hc : p.check = true) (hany : p.GN ops = true) (hlen : p.ops.length = ops.size) (hops : p.Ok P c.G ops ops.toList 0)
    (hs : Sat c (p.E fun _ => undef) (p.alive fun _ => False) a w)
    (hQ : ∀ a w β, Sat c (p.E β) (p.alive fun k => k < p.ops.length) a w → Q .normal a w) : (Code.region id ops true).wp P Q a w := by
  refine wp_region_any hm ?_
  have hnone : ∀ j, ¬ (Array.replicate ops.size false)[j]? = some true := fun j h => by
    rw [Array.getElem?_replicate] at h
    split at h <;> simp at h
  refine H6 hn hc hany hlen hops hQ ops.size (Array.replicate ops.size false) (by simp) (by simp [open_]) (fun k hk => absurd hk (hnone k)) a _ (fun _ => undef) ?_
  have e : (fun j : Nat => (Array.replicate ops.size false)[j]? = some true) = fun _ => False := by funext j; exact propext ⟨hnone j, False.elim⟩
  rw [e]
  exact Sat.drew hs
end region

def AX (c : Cx) (l : List BX) (a : Act) (w : World) : Prop := Sat c (BB .none l) (fun i => i < l.length) a w

theorem AX.Ms {c : Cx} {p : Cn} {l : List BX} {a : Act} {w : World} (h : AX c l a w) (β : Nat → Value) (hown : ∀ r, r < p.E7.length → p.owner r = none → r < l.length)
    (hE : ∀ r, r < l.length → p.E β r = BB .none l r) : Sat c (p.E β) (p.alive fun _ => False) a w := by
  have hr : ∀ i, p.alive (fun _ => False) i → i < l.length := fun i hi => hown i hi.1 (by
    cases ho : p.owner i with
    | none => rfl
    | some j => exact (hi.2.1 j ho).elim)
  exact Sat.pick h id (fun i hi => hr i hi) (fun i hi => hE i (hr i hi)) (fun i j _ _ hne => hne)

theorem Sat.K9 {c : Cx} {p : Cn} {β : Nat → Value} {a : Act} {w : World} (h : Sat c (p.E β) (p.alive fun k => k < p.ops.length) a w) (hc : p.check = true) (ks : List Nat) (hd : distinct ks = true)
    (hk : (ks.all fun r => decide (r < p.E7.length) && (List.range p.ops.length).all fun k => !(p.op k).cons.contains r) = true) : AX c (ks.map (p.E β)) a w := by
  have hnd := C8 hd
  refine Sat.pick h (fun i => BB 0 ks i) (fun i hi => ?_) (fun i hi => ?_) (fun i j hi hj hne e => ?_)
  · have hi : i < ks.length := by simpa using hi
    have hm : BB 0 ks i ∈ ks := by rw [CQ]; simp [List.getD, List.getElem?_eq_getElem hi]
    have h1 := (List.all_eq_true.1 hk) _ hm
    simp only [Bool.and_eq_true, decide_eq_true_eq, List.all_eq_true, List.mem_range] at h1
    refine ⟨h1.1, fun j hj => (Cn.Ek hc h1.1).2 j hj, fun k hk' hm' => ?_⟩
    have := h1.2 k hk'
    simp at this
    exact this hm'
  · have hi : i < ks.length := by simpa using hi
    rw [CQ, CQ]
    simp [List.getD, List.getElem?_eq_getElem hi]
  · have hi : i < ks.length := by simpa using hi
    have hj : j < ks.length := by simpa using hj
    rw [CQ, CQ] at e
    simp only [List.getD, List.getElem?_eq_getElem hi, List.getElem?_eq_getElem hj, Option.getD_some] at e
    exact hne ((List.getElem_inj hnd).1 e)


end
section
open Go Go.RowKit

def DD (Φ : BC) : List VP → List Value → Prop
  | [], [] => True
  | V :: Vs, v :: vs => V.p Φ v ∧ DD Φ Vs vs
  | _, _ => False

def EK (Φ : BC) (w : World) : List RP → List (List Nat) → Prop
  | [], [] => True
  | R :: Rs, f :: fs => R.p Φ f w ∧ EK Φ w Rs fs
  | _, _ => False

def DW (P : Program) (fn : Func) (c : Cx) (res : VP) (post : Value → List RP) (a : Act) (w : World) : Prop :=
  a.defers = [] ∧ ∃ (v : Value) (Φ : BC) (fs : List (List Nat)), (results fn a.tmps).run P w = .ok v w ∧ Step c.w0 c.Φ0 c.F0 w Φ ∧ CR Φ w ∧ res.p Φ v ∧ EK Φ w (post v) fs ∧
    fs.flatten.Nodup ∧ ∀ b ∈ fs.flatten, b < w.heap.size ∧ (b ∈ c.F0 ∨ c.w0.heap.size ≤ b)

def AR (P : Program) (G : FP) (f : FuncId) (args : List VP) (pre : List RP) (post : Value → List RP) (res : VP) : Prop :=
  ∀ (Φ : BC) (w : World) (vs : List Value) (fs : List (List Nat)), CR Φ w → G.p Φ → DD Φ args vs → EK Φ w pre fs → fs.flatten.Nodup → (∀ b ∈ fs.flatten, b < w.heap.size) →
    Calls P f vs.toArray w fun e w' => ∃ (v : Value) (Φ' : BC) (fs' : List (List Nat)), e = .returned v ∧ Step w Φ fs.flatten w' Φ' ∧ CR Φ' w' ∧ res.p Φ' v ∧ EK Φ' w' (post v) fs' ∧
      fs'.flatten.Nodup ∧ ∀ b ∈ fs'.flatten, b < w'.heap.size ∧ (b ∈ fs.flatten ∨ w.heap.size ≤ b)

def H2 : Nat → List VP → List BX
  | _, [] => []
  | i, V :: Vs => .slot i V :: H2 (i + 1) Vs

theorem Gc : ∀ (l : List VP) (i : Nat), (H2 i l).length = l.length
  | [], _ => rfl
  | V :: l, i => by simp [H2, Gc l]

theorem DD.length {Φ : BC} : ∀ {Vs : List VP} {vs : List Value}, DD Φ Vs vs → vs.length = Vs.length
  | [], [], _ => rfl
  | V :: Vs, v :: vs, h => by simp [DD.length h.2]
  | [], _ :: _, h => h.elim
  | _ :: _, [], h => h.elim

theorem H0 {Φ : BC} : ∀ {Vs : List VP} {vs : List Value} (i k : Nat), DD Φ Vs vs → k < Vs.length → ∃ V v, BB .none (H2 i Vs) k = .slot (i + k) V ∧ vs[k]? = some v ∧ V.p Φ v
  | V :: Vs, v :: vs, i, 0, h, _ => ⟨V, v, rfl, rfl, h.1⟩
  | V :: Vs, v :: vs, i, k + 1, h, hk => by
    obtain ⟨V', v', h1, h2, h3⟩ := H0 (i + 1) k h.2 (by simpa using hk)
    exact ⟨V', v', by rw [show i + (k + 1) = i + 1 + k by omega]; exact h1, by simpa using h2, h3⟩
  | [], _, _, k, _, hk => by simp at hk
  | _ :: _, [], _, _, h, _ => h.elim

theorem EK.length {Φ : BC} {w : World} : ∀ {Rs : List RP} {fs : List (List Nat)}, EK Φ w Rs fs → fs.length = Rs.length
  | [], [], _ => rfl
  | R :: Rs, f :: fs, h => by simp [EK.length h.2]
  | [], _ :: _, h => h.elim
  | _ :: _, [], h => h.elim

theorem EK.get {Φ : BC} {w : World} : ∀ {Rs : List RP} {fs : List (List Nat)} (k : Nat), EK Φ w Rs fs → k < Rs.length → ∃ R f, Rs[k]? = some R ∧ fs[k]? = some f ∧ R.p Φ f w
  | R :: Rs, f :: fs, 0, h, _ => ⟨R, f, rfl, rfl, h.1⟩
  | R :: Rs, f :: fs, k + 1, h, hk => by simpa using EK.get k h.2 (by simpa using hk)
  | [], _, k, _, hk => by simp at hk
  | _ :: _, [], _, h, _ => h.elim

theorem B8 {α : Type _} (d : α) (l m : List α) (i : Nat) : BB d (l ++ m) i = if i < l.length then BB d l i else BB d m (i - l.length) := by
  simp only [CQ, List.getD]
  split
  · rename_i h; rw [List.getElem?_append_left h]
  · rename_i h; rw [List.getElem?_append_right (by omega)]

theorem FG {α β : Type _} (d : α) (e : β) (f : α → β) (l : List α) (i : Nat) (h : i < l.length) : BB e (l.map f) i = f (BB d l i) := by
  simp only [CQ, List.getD, List.getElem?_map, List.getElem?_eq_getElem h]
  rfl

theorem AR.intro {P : Program} {G : FP} {f : FuncId} {fn : Func} {code : Code} {args : List VP} {pre : List RP} {post : Value → List RP} {res : VP} (n : Nat)
    (hf : P.funcs[f]? = some fn) (hb : fn.body = some code) (hn : fn.ntmps = n) (hle : args.length ≤ n)
    (h : ∀ (c : Cx) (a : Act) (w : World), c.G = G → c.n = n → AX c (H2 0 args ++ pre.map .res) a w → code.wp P (fun e a w => (e = .ret ∨ e = .normal) ∧ DW P fn c res post a w) a w) :
    AR P G f args pre post res := by
  intro Φ w vs fs h1 h2 h3 h4 h5 h6
  have hvl := h3.length
  have hfl := h4.length
  have hsat : AX ⟨w, Φ, fs.flatten, n, G⟩ (H2 0 args ++ pre.map .res) { tmps := vs.toArray ++ Array.replicate (fn.ntmps - vs.toArray.size) undef, defers := [] } w := by
    have hal := Gc args 0
    have hgetR : ∀ i, ¬ i < args.length → i < (H2 0 args ++ pre.map BX.res).length → ∃ R f, BB .none (H2 0 args ++ pre.map .res) i = .res R ∧ fs[i - args.length]? = some f ∧ R.p Φ f w := by
      intro i hi hlt
      have hlt' : i - args.length < pre.length := by simp [hal] at hlt; omega
      obtain ⟨R, f, e1, e2, e3⟩ := EK.get (i - args.length) h4 hlt'
      refine ⟨R, f, ?_, e2, e3⟩
      rw [B8, if_neg (by rw [hal]; exact hi), hal, CQ]
      simp [List.getD, e1]
    refine ⟨Φ, fun i => if i < args.length then [] else fs.getD (i - args.length) [], rfl, by simp [hvl, hn]; omega, h1, h2, Step.refl _ _ _, fun i hi => ?_, fun i hi => ?_, fun i j hi hj hne => ?_⟩
    · by_cases hlt : i < args.length
      · obtain ⟨V, v, e1, e2, e3⟩ := H0 0 i h3 hlt
        rw [if_pos hlt, B8, if_pos (by rw [hal]; exact hlt), e1]
        refine ⟨rfl, v, ?_, e3⟩
        have hiv : i < vs.length := by omega
        simp only [Nat.zero_add]
        rw [Array.getElem?_append_left (by simpa using hiv)]
        simpa using e2
      · obtain ⟨R, f, e1, e2, e3⟩ := hgetR i hlt hi
        rw [e1, if_neg hlt]
        simp only [List.getD, e2, Option.getD_some]
        exact e3
    · by_cases hlt : i < args.length
      · simp [hlt]
      · obtain ⟨R, f, e1, e2, e3⟩ := hgetR i hlt hi
        simp only [if_neg hlt, List.getD, e2, Option.getD_some]
        have hm := List.mem_of_getElem? e2
        exact ⟨DY h5 f hm, fun b hb => ⟨h6 b (List.mem_flatten.2 ⟨f, hm, hb⟩), .inl (List.mem_flatten.2 ⟨f, hm, hb⟩)⟩⟩
    · by_cases hlt : i < args.length
      · simp [hlt]
      · by_cases hlt2 : j < args.length
        · simp [hlt2]
        · obtain ⟨R, f, e1, e2, e3⟩ := hgetR i hlt hi
          obtain ⟨R', f', e1', e2', e3'⟩ := hgetR j hlt2 hj
          simp only [if_neg hlt, if_neg hlt2, List.getD, e2, e2', Option.getD_some]
          exact D0 h5 _ _ f f' e2 e2' (by omega)
  have hwp := h ⟨w, Φ, fs.flatten, n, G⟩ _ w rfl rfl hsat
  refine calls_of_wp hf hb (wp_mono hwp fun e a w' hq => ?_)
  obtain ⟨he, hd, v, Φ', fs', hr, q1, q2, q3, q4, q5, q6⟩ := hq
  rcases he with rfl | rfl
  · exact ⟨hd, v, hr, v, Φ', fs', rfl, q1, q2, q3, q4, q5, q6⟩
  · exact ⟨hd, v, hr, v, Φ', fs', rfl, q1, q2, q3, q4, q5, q6⟩

theorem Ir {P : Program} {c : Cx} {l : List BX} {a : Act} {w : World} {Q : Exit → Act → World → Prop} {t : Nat} {b : Bool} {x y : Code} (h : AX c l a w) (i : Nat) (he : BB .none l i = .slot t (Ak b))
    (ht : b = true → x.wp P Q a w) (hf : b = false → y.wp P Q a w) : (Code.cond (.tmp t) x y).wp P Q a w := by
  obtain ⟨Φ, fp, hs⟩ := h
  have hi : i < l.length := by
    rcases Nat.lt_or_ge i l.length with q | q
    · exact q
    · rw [CQ, List.getD, List.getElem?_eq_none q] at he
      cases he
  have := hs.holds i hi
  rw [he] at this
  obtain ⟨_, v, hv, hb⟩ := this
  have hb : v = .bool b := hb
  subst hb
  refine wp_cond_split (t := b) ?_ ht hf
  simp [Act.eval, hv]

inductive D2 (R S : Type) where
  | ret (r : R)
  | brk (s : S)
  | cont (s : S)
inductive Ly (R S : Type) where
  | ret (r : R)
  | next (s : S)

def Cr {R S : Type} (body : S → Option (D2 R S)) : Nat → S → Option (Ly R S)
  | 0, _ => none
  | k + 1, s =>
    match body s with
    | none => none
    | some (.ret r) => some (.ret r)
    | some (.brk s') => some (.next s')
    | some (.cont s') => Cr body k s'

theorem CV {P : Program} {R S : Type} {body : S → Option (D2 R S)} {code : Code} (I : S → Act → World → Prop) (Qo : Ly R S → Exit → Act → World → Prop)
    (hbody : ∀ s a w o, I s a w → body s = some o → code.wp P (fun e a' w' => match o with
      | .cont s' => e = .normal ∧ I s' a' w'
      | .brk s' => e ≠ .normal ∧ Qo (.next s') e a' w'
      | .ret r => e ≠ .normal ∧ Qo (.ret r) e a' w') a w) :
    ∀ (k : Nat) (s : S) (a : Act) (w : World) (r : Ly R S), I s a w → Cr body k s = some r → (Code.loop code).wp P (Qo r) a w := by
  intro k s a w r hI hl b kk cs
  have key : ∀ (k : Nat) (s : S) (a : Act) (w : World), I s a w → Cr body k s = some r →
      ∃ e a' w', Qo r e a' w' ∧ Arrives P (lone (b.at a (.code code :: .inLoop code :: kk)) cs w) b kk cs e a' w' := by
    intro k
    induction k with
    | zero => intro s a w _ hl; simp [Cr] at hl
    | succ k ih =>
      intro s a w hI hl
      cases hb : body s with
      | none => simp [Cr, hb] at hl
      | some o =>
        obtain ⟨e, a₁, w₁, hq, harr⟩ := hbody s a w o hI hb b (.inLoop code :: kk) cs
        cases o with
        | cont s' =>
          obtain ⟨rfl, hI'⟩ := hq
          simp only [Cr, hb] at hl
          obtain ⟨e₂, a₂, w₂, hq₂, harr₂⟩ := ih s' a₁ w₁ hI' hl
          exact ⟨e₂, a₂, w₂, hq₂, .of_steps (Steps.trans harr (.one step_inLoop)) harr₂⟩
        | brk s' =>
          simp only [Cr, hb, Option.some.injEq] at hl
          subst hl
          exact ⟨e, a₁, w₁, hq.2, .pass (x := .inLoop code) rfl (fun _ _ => .inl hq.1) harr⟩
        | ret x =>
          simp only [Cr, hb, Option.some.injEq] at hl
          subst hl
          exact ⟨e, a₁, w₁, hq.2, .pass (x := .inLoop code) rfl (fun _ _ => .inl hq.1) harr⟩
  obtain ⟨e, a', w', hq, harr⟩ := key k s a w hI hl
  exact ⟨e, a', w', hq, .of_steps (.one step_loop) harr⟩


end
section
open Go Go.RowKit

def CH (k : IntKind) (x : Int) : Prop := k.min ≤ x ∧ x ≤ k.max
theorem En (k : IntKind) (x : Int) : CH k (k.wrap x) := by
  cases k <;> simp only [CH, IntKind.wrap, IntKind.min, IntKind.max, IntKind.bits, IntKind.signed] <;> simp <;> (try split) <;> constructor <;> omega

def Ab (k : IntKind) (x : Int) : VP := ⟨fun _ v => v = .int k x ∧ CH k x, fun _ h => h⟩
def Cp : Nat := 9223372036854775807
theorem EG {n : Nat} (h : n ≤ Cp) : CH .i64 n := by
  unfold Cp at h
  simp only [CH, IntKind.min, IntKind.max, IntKind.bits, IntKind.signed]
  simp
  omega
def AJ (l : List UInt8) : VP := ⟨fun _ v => v = .string ⟨l.toArray⟩ ∧ l.length ≤ Cp, fun _ h => h⟩
def A4 (u : Value) : VP := ⟨fun _ v => v = u, fun _ h => h⟩
def KO : VP := ⟨fun _ _ => True, fun _ h => h⟩
theorem DD.mono {Φ Φ' : BC} (hle : BC.le Φ Φ') : ∀ {l : List VP} {vs : List Value}, DD Φ l vs → DD Φ' l vs
  | [], [], _ => trivial
  | V :: _, _ :: _, h => ⟨V.mono hle h.1, DD.mono hle h.2⟩
  | [], _ :: _, h => h.elim
  | _ :: _, [], h => h.elim
def Di (l : List VP) : VP := ⟨fun Φ v => ∃ vs, v = .tuple vs.toArray ∧ DD Φ l vs, by rintro Φ Φ' v hle ⟨vs, h1, h2⟩; exact ⟨vs, h1, h2.mono hle⟩⟩

structure Ck where
  n : Nat
  rel : BC → List Value → Prop
  len : ∀ {Φ cs}, rel Φ cs → cs.length = n
  cell : ∀ {Φ cs}, rel Φ cs → ∀ v ∈ cs, v.oneCell' = true
  mono : ∀ {Φ Φ' : BC} {cs}, BC.le Φ Φ' → rel Φ cs → rel Φ' cs

def Bg (Φ : BC) : List Value → List Ck → Prop
  | cs, [] => cs = []
  | cs, c :: L => ∃ xs ys, cs = xs ++ ys ∧ c.rel Φ xs ∧ Bg Φ ys L

def lens : List Ck → Nat
  | [] => 0
  | c :: L => c.n + lens L

theorem Bg.len {Φ : BC} : ∀ {L : List Ck} {cs : List Value}, Bg Φ cs L → cs.length = lens L
  | [], cs, h => by have : cs = [] := h; simp [this, lens]
  | c :: L, cs, h => by
    obtain ⟨xs, ys, rfl, h1, h2⟩ := h
    simp [lens, c.len h1, Bg.len h2]
theorem Bg.cell {Φ : BC} : ∀ {L : List Ck} {cs : List Value}, Bg Φ cs L → ∀ v ∈ cs, v.oneCell' = true
  | [], cs, h, v, hv => by have : cs = [] := h; simp [this] at hv
  | c :: L, cs, h, v, hv => by
    obtain ⟨xs, ys, rfl, h1, h2⟩ := h
    rcases List.mem_append.1 hv with hv | hv
    · exact c.cell h1 v hv
    · exact Bg.cell h2 v hv
theorem Bg.mono {Φ Φ' : BC} (hle : BC.le Φ Φ') : ∀ {L : List Ck} {cs : List Value}, Bg Φ cs L → Bg Φ' cs L
  | [], _, h => h
  | c :: L, cs, h => by
    obtain ⟨xs, ys, rfl, h1, h2⟩ := h
    exact ⟨xs, ys, rfl, c.mono hle h1, Bg.mono hle h2⟩
theorem Bg.append {Φ : BC} : ∀ {L M : List Ck} {xs ys : List Value}, Bg Φ xs L → Bg Φ ys M → Bg Φ (xs ++ ys) (L ++ M)
  | [], M, xs, ys, h, k => by have : xs = [] := h; subst this; exact k
  | c :: L, M, xs, ys, h, k => by
    obtain ⟨x1, x2, rfl, h1, h2⟩ := h
    exact ⟨x1, x2 ++ ys, by simp, h1, Bg.append h2 k⟩
theorem Bg.split {Φ : BC} : ∀ {L M : List Ck} {cs : List Value}, Bg Φ cs (L ++ M) → ∃ xs ys, cs = xs ++ ys ∧ Bg Φ xs L ∧ Bg Φ ys M
  | [], M, cs, h => ⟨[], cs, rfl, rfl, h⟩
  | c :: L, M, cs, h => by
    obtain ⟨x1, x2, rfl, h1, h2⟩ := h
    obtain ⟨xs, ys, rfl, h3, h4⟩ := Bg.split h2
    exact ⟨x1 ++ xs, ys, by simp, ⟨x1, xs, rfl, h1, h3⟩, h4⟩
def one (V : VP) : Ck := ⟨1, fun Φ cs => ∃ v, cs = [v] ∧ v.oneCell' = true ∧ V.p Φ v, fun ⟨v, h, _⟩ => by simp [h], fun ⟨v, h, h1, _⟩ u hu => by simp [h] at hu; rw [hu]; exact h1,
  fun hle ⟨v, h, h1, h2⟩ => ⟨v, h, h1, V.mono hle h2⟩⟩
def Dc (b : UInt8) : Value := .int .u8 b.toNat
theorem FM (b : UInt8) : CH .u8 b.toNat := by
  have := b.toNat_lt
  simp only [CH, IntKind.min, IntKind.max, IntKind.bits, IntKind.signed]
  simp
  omega
def Af (n : Nat) (l : List UInt8) : Ck := ⟨n, fun _ cs => l.length = n ∧ cs = l.map Dc, fun ⟨h, e⟩ => by simp [e, h], fun ⟨_, e⟩ v hv => by
  subst e; obtain ⟨b, _, rfl⟩ := List.mem_map.1 hv; rfl, fun _ h => h⟩
def Cj (k : IntKind) (n : Nat) (l : List Int) : Ck := ⟨n, fun _ cs => l.length = n ∧ cs = l.map (Value.int k) ∧ ∀ x ∈ l, CH k x, fun ⟨h, e, _⟩ => by simp [e, h], fun ⟨_, e, _⟩ v hv => by
  subst e; obtain ⟨b, _, rfl⟩ := List.mem_map.1 hv; rfl, fun _ h => h⟩

def Cl {α : Type} (Φ : BC) (c : α → List Ck) : List Value → List α → Prop
  | cs, [] => cs = []
  | cs, x :: xs => ∃ us vs, cs = us ++ vs ∧ Bg Φ us (c x) ∧ Cl Φ c vs xs
theorem Cl.len {α : Type} {Φ : BC} {c : α → List Ck} {sz : Nat} (hsz : ∀ x, lens (c x) = sz) : ∀ {xs : List α} {cs : List Value}, Cl Φ c cs xs → cs.length = xs.length * sz
  | [], cs, h => by have : cs = [] := h; simp [this]
  | x :: xs, cs, h => by
    obtain ⟨us, vs, rfl, h1, h2⟩ := h
    simp [h1.len, hsz, Cl.len hsz h2, Nat.succ_mul]; omega
theorem Cl.cell {α : Type} {Φ : BC} {c : α → List Ck} : ∀ {xs : List α} {cs : List Value}, Cl Φ c cs xs → ∀ v ∈ cs, v.oneCell' = true
  | [], cs, h, v, hv => by have : cs = [] := h; simp [this] at hv
  | x :: xs, cs, h, v, hv => by
    obtain ⟨us, vs, rfl, h1, h2⟩ := h
    rcases List.mem_append.1 hv with hv | hv
    · exact h1.cell v hv
    · exact Cl.cell h2 v hv
theorem Cl.mono {α : Type} {Φ Φ' : BC} {c : α → List Ck} (hle : BC.le Φ Φ') : ∀ {xs : List α} {cs : List Value}, Cl Φ c cs xs → Cl Φ' c cs xs
  | [], _, h => h
  | x :: xs, cs, h => by
    obtain ⟨us, vs, rfl, h1, h2⟩ := h
    exact ⟨us, vs, rfl, h1.mono hle, Cl.mono hle h2⟩
theorem Cl.append {α : Type} {Φ : BC} {c : α → List Ck} : ∀ {xs ys : List α} {us vs : List Value}, Cl Φ c us xs → Cl Φ c vs ys → Cl Φ c (us ++ vs) (xs ++ ys)
  | [], ys, us, vs, h, k => by have : us = [] := h; subst this; exact k
  | x :: xs, ys, us, vs, h, k => by
    obtain ⟨u1, u2, rfl, h1, h2⟩ := h
    exact ⟨u1, u2 ++ vs, by simp, h1, Cl.append h2 k⟩
theorem Cl.split {α : Type} {Φ : BC} {c : α → List Ck} : ∀ {xs ys : List α} {cs : List Value}, Cl Φ c cs (xs ++ ys) → ∃ us vs, cs = us ++ vs ∧ Cl Φ c us xs ∧ Cl Φ c vs ys
  | [], ys, cs, h => ⟨[], cs, rfl, rfl, h⟩
  | x :: xs, ys, cs, h => by
    obtain ⟨u1, u2, rfl, h1, h2⟩ := h
    obtain ⟨us, vs, rfl, h3, h4⟩ := Cl.split h2
    exact ⟨u1 ++ us, vs, by simp, ⟨u1, us, rfl, h1, h3⟩, h4⟩
def Bd {α : Type} (n sz : Nat) (c : α → List Ck) (hsz : ∀ x, lens (c x) = sz) (xs : List α) : Ck := ⟨n * sz, fun Φ cs => xs.length = n ∧ Cl Φ c cs xs, fun ⟨h, k⟩ => by rw [k.len hsz, h], fun ⟨_, k⟩ => k.cell, fun hle ⟨h, k⟩ => ⟨h, k.mono hle⟩⟩

def Cs (L : List Ck) : VP := ⟨fun Φ v => ∃ cs, v = .agg cs.toArray ∧ Bg Φ cs L, by rintro Φ Φ' v hle ⟨cs, h, k⟩; exact ⟨cs, h, k.mono hle⟩⟩

def DN (Φ : BC) (b o : Nat) (cs : List Value) : Prop := ∀ j v, cs[j]? = some v → Φ b (o + j) = some v
theorem DN.mono {Φ Φ' : BC} {b o : Nat} {cs : List Value} (hle : BC.le Φ Φ') (h : DN Φ b o cs) : DN Φ' b o cs := fun j v hj => hle _ _ _ (h j v hj)
theorem DN.left {Φ : BC} {b o : Nat} {xs ys : List Value} (h : DN Φ b o (xs ++ ys)) : DN Φ b o xs := fun j v hj => h j v (by
  have : j < xs.length := by rcases Nat.lt_or_ge j xs.length with h1 | h1
                             · exact h1
                             · simp [List.getElem?_eq_none h1] at hj
  rw [List.getElem?_append_left this]; exact hj)
theorem DN.right {Φ : BC} {b o : Nat} {xs ys : List Value} (h : DN Φ b o (xs ++ ys)) : DN Φ b (o + xs.length) ys := fun j v hj => by
  have := h (xs.length + j) v (by rw [List.getElem?_append_right (by omega)]; simpa using hj)
  rwa [← Nat.add_assoc] at this
theorem DN.append {Φ : BC} {b o : Nat} {xs ys : List Value} (h : DN Φ b o xs) (k : DN Φ b (o + xs.length) ys) : DN Φ b o (xs ++ ys) := fun j v hj => by
  rcases Nat.lt_or_ge j xs.length with h1 | h1
  · exact h j v (by rwa [List.getElem?_append_left h1] at hj)
  · rw [List.getElem?_append_right h1] at hj
    have := k (j - xs.length) v hj
    rwa [show o + xs.length + (j - xs.length) = o + j by omega] at this

def Eb (L : List Ck) : VP := ⟨fun Φ v => ∃ b o cs, v = .pointer (some ⟨b, o, none⟩) ∧ Bg Φ cs L ∧ DN Φ b o cs, fun hle ⟨b, o, cs, h, k, m⟩ => ⟨b, o, cs, h, k.mono hle, m.mono hle⟩⟩

def Ah {α : Type} (c : α → List Ck) (xs : List α) : VP := ⟨fun Φ v => xs.length ≤ Cp ∧ ((v = .slice none 0 0 ∧ xs = []) ∨
    (∃ b o cap cs, v = .slice (some ⟨b, o, none⟩) xs.length cap ∧ xs.length ≤ cap ∧ Cl Φ c cs xs ∧ DN Φ b o cs) ∨ (xs = [] ∧ ∃ a cap, v = .slice (some a) 0 cap)),
  fun hle h => ⟨h.1, h.2.imp id fun h => h.imp (fun ⟨b, o, cap, cs, h1, h2, h3, h4⟩ => ⟨b, o, cap, cs, h1, h2, h3.mono hle, h4.mono hle⟩) id⟩⟩

def A3 (G : FP) (N : List BX) (x : Operand) (V : VP) : Prop := ∀ (Φ : BC) (a : Act) (w : World) (f : List (List Nat)), G.p Φ → BW Φ a.tmps w N f → V.p Φ (a.eval x)
theorem BW.nth {Φ : BC} {tmps : Array Value} {w : World} : ∀ {es : List BX} {fs : List (List Nat)} (i : Nat), BW Φ tmps w es fs → i < es.length → ∃ f, (BB .none es i).holds Φ tmps w f ∧ f ∈ fs
  | e :: es, f :: fs, 0, h, _ => ⟨f, h.1, by simp⟩
  | e :: es, f :: fs, i + 1, h, hi => by
    obtain ⟨g, h1, h2⟩ := BW.nth i h.2 (by simpa using hi)
    exact ⟨g, h1, by simp [h2]⟩
  | [], _, i, _, hi => by simp at hi
  | _ :: _, [], _, h, _ => h.elim
theorem Dv {N : List BX} {i : Nat} {e : BX} (h : BB .none N i = e) (hne : e ≠ .none) : i < N.length := by
  rcases Nat.lt_or_ge i N.length with q | q
  · exact q
  · rw [CQ, List.getD, List.getElem?_eq_none q] at h
    exact absurd h.symm hne
theorem opt {G : FP} {N : List BX} {t : Nat} {V : VP} (i : Nat) (h : BB .none N i = .slot t V) : A3 G N (.tmp t) V := by
  intro Φ a w f _ hN
  have hi := Dv h (by simp)
  obtain ⟨g, hg, _⟩ := hN.nth i hi
  rw [h] at hg
  obtain ⟨_, v, hv, hV⟩ := hg
  simpa [Act.eval, hv] using hV
theorem C4 {G : FP} {N : List BX} {v : Value} {V : VP} (h : ∀ Φ, V.p Φ v) : A3 G N (.const v) V := fun Φ _ _ _ _ _ => h Φ
theorem Mb {G : FP} {N : List BX} {g : Nat} {V : VP} (h : ∀ Φ, G.p Φ → V.p Φ (.pointer (some ⟨g, 0, none⟩))) : A3 G N (.global g) V := fun Φ _ _ _ hG _ => h Φ hG
theorem ic {k : IntKind} {x : Int} (h : CH k x) : ∀ Φ, (Ab k x).p Φ (.int k x) := fun _ => ⟨rfl, h⟩
theorem bc (b : Bool) : ∀ Φ, (Ak b).p Φ (.bool b) := fun _ => rfl
theorem sc (l : List UInt8) (h : l.length ≤ Cp) : ∀ Φ, (AJ l).p Φ (.string ⟨l.toArray⟩) := fun _ => ⟨rfl, h⟩
theorem ec (v : Value) : ∀ Φ, (A4 v).p Φ v := fun _ => rfl

section ops
variable {P : Program} {G : FP} {N : List BX} {d : Nat} {ty : TypeId} {pos : String} {af : Array Edge} {gd : Option (Nat × Bool)}

theorem Bu.val {op : Op} {V : Value → VP}
    (h : ∀ (Φ : BC) (a : Act) (w : World) (f : List (List Nat)), CR Φ w → G.p Φ → BW Φ a.tmps w N f → ∃ v, (execOp a.eval ⟨some d, op, ty, pos, af, gd⟩).run P w = .ok (.value v) w ∧ (V v).p Φ v) :
    Bu P G ⟨some d, op, ty, pos, af, gd⟩ N [] (fun v => [.slot d (V v)]) := by
  intro Φ a w fN fC h1 h2 h3 h4 h5 h6 h7 K Q hK
  obtain ⟨v, hr, hv⟩ := h Φ a w fN h1 h2 h3
  match fC, h4 with
  | [], _ =>
    unfold Oper.wp
    rw [hr, Oper.upon_value]
    refine hK v w Φ [[]] (Step.refl _ _ _) h1 ⟨⟨rfl, v, C3 a v d (h7 d rfl), hv⟩, trivial⟩ (by simp) (by simp)

theorem Aj {x : Operand} {V : VP} (hx : A3 G N x V) : Bu P G ⟨some d, .move x, ty, pos, af, gd⟩ N [] (fun _ => [.slot d V]) :=
  Bu.val fun Φ a w f _ hG hN => ⟨a.eval x, rfl, hx Φ a w f hG hN⟩
theorem Al {x : Operand} {V : VP} (hx : A3 G N x V) : Bu P G ⟨some d, .assign x, ty, pos, af, gd⟩ N [] (fun _ => [.slot d V]) :=
  Bu.val fun Φ a w f _ hG hN => ⟨a.eval x, rfl, hx Φ a w f hG hN⟩
theorem IG {c x y : Operand} {b : Bool} {V : VP} (hc : A3 G N c (Ak b)) (hx : A3 G N (if b then x else y) V) : Bu P G ⟨some d, .pick c x y, ty, pos, af, gd⟩ N [] (fun _ => [.slot d V]) :=
  Bu.val fun Φ a w f _ hG hN => ⟨a.eval (if b then x else y), by
    have hb : a.eval c = .bool b := hc Φ a w f hG hN
    cases b <;> simp [execOp, hb, asBool], hx Φ a w f hG hN⟩
theorem CE {x : Operand} {i : Nat} {l : List VP} {V : VP} (hx : A3 G N x (Di l)) (hi : l[i]? = some V) : Bu P G ⟨some d, .extract x i, ty, pos, af, gd⟩ N [] (fun _ => [.slot d V]) :=
  Bu.val fun Φ a w f _ hG hN => by
    obtain ⟨vs, hv, hl⟩ := hx Φ a w f hG hN
    have key : ∀ (l : List VP) (vs : List Value) (i : Nat), DD Φ l vs → l[i]? = some V → ∃ v, vs[i]? = some v ∧ V.p Φ v := by
      intro l
      induction l with
      | nil => intro vs i _ h; simp at h
      | cons W l ih =>
        intro vs i hl h
        cases vs with
        | nil => exact hl.elim
        | cons v vs =>
          cases i with
          | zero => simp at h; subst h; exact ⟨v, rfl, hl.1⟩
          | succ i => simpa using ih vs i hl.2 (by simpa using h)
    obtain ⟨v, h1, h2⟩ := key l vs i hl hi
    exact ⟨v, by simp [execOp, hv, Instr.extract, h1], h2⟩

def Hz (P : Program) (op : BinOp) (t : TypeId) (X Y Z : VP) : Prop := ∀ (Φ : BC) (u v : Value) (w : World) (x y : Operand), X.p Φ u → Y.p Φ v → ∃ r, (do eqGuard op t x y u v; binOp op t u v : Sem Value).run P w = .ok r w ∧ Z.p Φ r
theorem AG {op : BinOp} {t t' : TypeId} {x y : Operand} {X Y Z : VP} (hb : Hz P op t X Y Z) (hx : A3 G N x X) (hy : A3 G N y Y) : Bu P G ⟨some d, .binOp op t x y t', ty, pos, af, gd⟩ N [] (fun _ => [.slot d Z]) :=
  Bu.val fun Φ a w f _ hG hN => by
    obtain ⟨r, hr, hz⟩ := hb Φ _ _ w x y (hx Φ a w f hG hN) (hy Φ a w f hG hN)
    refine ⟨r, ?_, hz⟩
    simp only [execOp, Sem.run_bind, Sem.run_pure] at hr ⊢
    cases h1 : (eqGuard op t x y (a.eval x) (a.eval y)).run P w with
    | ok _ w1 => simp only [h1, Result.andThen_ok] at hr ⊢; rw [hr]; rfl
    | halt _ w1 => simp [h1] at hr

section bins
variable {t : TypeId} {k : IntKind} {m n : Int}
theorem BQ : Hz P .add t (Ab k m) (Ab k n) (Ab k (k.wrap (m + n))) := by rintro Φ u v w x y ⟨rfl, _⟩ ⟨rfl, _⟩; exact ⟨_, by simp [eqGuard_add, binOp_add, Op.intArith] <;> rfl, rfl, En _ _⟩
theorem DI : Hz P .sub t (Ab k m) (Ab k n) (Ab k (k.wrap (m - n))) := by rintro Φ u v w x y ⟨rfl, _⟩ ⟨rfl, _⟩; exact ⟨_, by simp [eqGuard_sub, binOp_sub, Op.intArith] <;> rfl, rfl, En _ _⟩
theorem FN : Hz P .mul t (Ab k m) (Ab k n) (Ab k (k.wrap (m * n))) := by rintro Φ u v w x y ⟨rfl, _⟩ ⟨rfl, _⟩; exact ⟨_, by simp [eqGuard_mul, binOp_mul, Op.intArith] <;> rfl, rfl, En _ _⟩
theorem Kx (h : n ≠ 0) : Hz P .quo t (Ab k m) (Ab k n) (Ab k (k.wrap (m.tdiv n))) := by rintro Φ u v w x y ⟨rfl, _⟩ ⟨rfl, _⟩; exact ⟨_, by simp [eqGuard_quo, binOp_quo, Op.intDiv, h] <;> rfl, rfl, En _ _⟩
theorem Kv (op : BinOp) (k : IntKind) (m n : Int) : CH k (bits op k m n) := En _ _
theorem Gq : Hz P .and t (Ab k m) (Ab k n) (Ab k (bits .and k m n)) := by rintro Φ u v w x y ⟨rfl, _⟩ ⟨rfl, _⟩; exact ⟨_, by simp [eqGuard_and, binOp_and, intBits_and] <;> rfl, rfl, Kv _ _ _ _⟩
theorem Cg : Hz P .lss t (Ab k m) (Ab k n) (Ak (decide (m < n))) := by rintro Φ u v w x y ⟨rfl, _⟩ ⟨rfl, _⟩; exact ⟨_, by simp [eqGuard_lss, binOp_lss] <;> rfl, rfl⟩
theorem Cu : Hz P .leq t (Ab k m) (Ab k n) (Ak (decide (m ≤ n))) := by rintro Φ u v w x y ⟨rfl, _⟩ ⟨rfl, _⟩; exact ⟨_, by simp [eqGuard_leq, binOp_leq] <;> rfl, rfl⟩
theorem C5 : Hz P .gtr t (Ab k m) (Ab k n) (Ak (decide (n < m))) := by rintro Φ u v w x y ⟨rfl, _⟩ ⟨rfl, _⟩; exact ⟨_, by simp [eqGuard_gtr, binOp_gtr] <;> rfl, rfl⟩
theorem D3 : Hz P .geq t (Ab k m) (Ab k n) (Ak (decide (n ≤ m))) := by rintro Φ u v w x y ⟨rfl, _⟩ ⟨rfl, _⟩; exact ⟨_, by simp [eqGuard_geq, binOp_geq] <;> rfl, rfl⟩
theorem C0 : Hz P .eql t (Ab k m) (Ab k n) (Ak (decide (m = n))) := by rintro Φ u v w x y ⟨rfl, _⟩ ⟨rfl, _⟩; exact ⟨_, by simp [eqGuard_at_int, binOp_eql] <;> rfl, by rfl⟩
theorem Gp : Hz P .neq t (Ab k m) (Ab k n) (Ak (!decide (m = n))) := by rintro Φ u v w x y ⟨rfl, _⟩ ⟨rfl, _⟩; exact ⟨_, by simp [eqGuard_at_int, binOp_neq] <;> rfl, by rfl⟩
end bins
end ops

end
section
open Go Go.RowKit

def BH (p : Value) (k : Nat) : VP := ⟨fun _ v => ∃ b, p = .pointer (some ⟨b, 0, none⟩) ∧ v = .pointer (some ⟨b, k, none⟩), fun _ h => h⟩

def lb (p : Value) (T : TypeId) (L : List Ck) : RP := ⟨fun Φ f w => ∃ b cs, p = .pointer (some ⟨b, 0, none⟩) ∧ f = [b] ∧ w.heap[b]? = some (.cells cs.toArray T (0, 0)) ∧ Bg Φ cs L ∧ ∀ o, Φ b o = none, by
  rintro Φ Φ' f w w' hle hs hb ⟨b, cs, rfl, rfl, h1, h2, h3⟩
  exact ⟨b, cs, rfl, rfl, by rw [hb b (by simp)]; exact h1, h2.mono hle, fun o => by rw [hs b (by simp)]; exact h3 o⟩⟩

def Cells (V : VP) (L : List Ck) : Prop := ∀ Φ v, V.p Φ v → Bg Φ v.cells.toList L
def L7 (V : VP) : Prop := ∀ Φ v, V.p Φ v → v.oneCell' = true
theorem BF (L : List Ck) : Cells (Cs L) L := by rintro Φ v ⟨cs, rfl, h⟩; simpa [Value.cells] using h
theorem A5 {V : VP} (h : L7 V) : Cells V [one V] := fun Φ v hv => by
  have h1 := h Φ v hv
  have h2 : v.cells.toList = [v] := by cases v <;> first | rfl | (simp [Value.oneCell'] at h1)
  rw [h2]
  exact ⟨[v], [], rfl, ⟨v, rfl, h1, hv⟩, rfl⟩
theorem Bm (l : List UInt8) : L7 (AJ l) := by rintro Φ v ⟨rfl, _⟩; rfl
section runs
variable {P : Program} {w : World}
theorem cell_of {b j : Nat} {cs : List Value} {T : TypeId} {fr : Nat × Nat} (h : w.heap[b]? = some (.cells cs.toArray T fr)) : w.cell? ⟨b, j, none⟩ = cs[j]? := by
  simp [World.cell?, h]
theorem EX {T : TypeId} {n b k : Nat} {cs : List Value} (ha : ∀ w, (isAgg T).run P w = .ok true w) (hs : ∀ w, (sizeOf T).run P w = .ok n w) (hl : cs.length = n) (h : ∀ j v, cs[j]? = some v → w.cell? ⟨b, k + j, none⟩ = some v) :
    (Instr.loadAt T (.pointer (some ⟨b, k, none⟩))).run P w = .ok (.agg cs.toArray) w := by
  have hc := run_loadCells_list (P := P) w ⟨b, k, none⟩ cs (fun j v hj => by rw [Addr.add_lit]; exact h j v hj)
  rw [hl] at hc
  simp [Instr.loadAt, Instr.sureAddr, loadVar, ha, hs, hc]
theorem EW {T : TypeId} {b k : Nat} {v : Value} (ha : ∀ w, (isAgg T).run P w = .ok false w) (h : w.cell? ⟨b, k, none⟩ = some v) :
    (Instr.loadAt T (.pointer (some ⟨b, k, none⟩))).run P w = .ok v w := by
  simp [Instr.loadAt, Instr.sureAddr, loadVar, ha, h]

theorem F7 {b j : Nat} {cs : List Value} {T : TypeId} {v : Value} (h : w.heap[b]? = some (.cells cs.toArray T (0, 0))) :
    (w.setCell ⟨b, j, none⟩ v).heap[b]? = some (.cells (cs.set j v).toArray T (0, 0)) := by
  simp [World.setCell, Array.getElem?_modify, h]
theorem Et {b j b' : Nat} {v : Value} (h : b' ≠ b) : (w.setCell ⟨b, j, none⟩ v).heap[b']? = w.heap[b']? := Below.heap_setCell _ _ _ _ h

theorem Ei {b k : Nat} {T : TypeId} : ∀ (vs : List Value) (i : Nat) (w : World) (cs : List Value), w.heap[b]? = some (.cells cs.toArray T (0, 0)) → k + i + vs.length ≤ cs.length → (∀ v ∈ vs, v.oneCell' = true) →
    ∃ w', (storeCells ⟨b, k, none⟩ vs i).run P w = .ok () w' ∧ w'.heap[b]? = some (.cells (cs.take (k + i) ++ vs ++ cs.drop (k + i + vs.length)).toArray T (0, 0)) ∧ (∀ b', b' ≠ b → w'.heap[b']? = w.heap[b']?) ∧
      w'.heap.size = w.heap.size ∧ w'.os = w.os ∧ w'.tape = w.tape ∧ w'.output = w.output
  | [], i, w, cs, h, hl, _ => ⟨w, rfl, by simpa using h, fun _ _ => rfl, rfl, rfl, rfl, rfl⟩
  | v :: vs, i, w, cs, h, hl, hv => by
    simp only [List.length_cons] at hl
    have hst : (store (Addr.add ⟨b, k, none⟩ i) v).run P w = .ok () (w.setCell ⟨b, k + i, none⟩ v) := by
      rw [run_store P w _ v .plain (hv v (by simp)), Addr.add_lit]
      have hc : w.cell? ⟨b, k + i, none⟩ = some cs[k + i] := by rw [cell_of h]; simp [show k + i < cs.length by omega]
      simp only [hc]
      have hf : w.frozen? ⟨b, k + i, none⟩ = false := by simp [World.frozen?, h]
      simp [hf]
    obtain ⟨w', h1, h2, h3, h4, h5, h6, h7⟩ := Ei (b := b) (k := k) vs (i + 1) (w.setCell ⟨b, k + i, none⟩ v) (cs.set (k + i) v) (F7 h) (by simp; omega) (fun u hu => hv u (by simp [hu]))
    refine ⟨w', ?_, ?_, fun b' hb' => (h3 b' hb').trans (Et hb'), by rw [h4]; simp, h5, h6, h7⟩
    · simp only [storeCells, Sem.run_bind, hst, Result.andThen_ok]; exact h1
    · rw [h2]
      congr 3
      have e1 : (cs.set (k + i) v).take (k + (i + 1)) = cs.take (k + i) ++ [v] := by
        rw [← Nat.add_assoc, List.take_add_one, List.take_set_of_le (by omega)]
        simp [show k + i < cs.length by omega]
      have e2 : (cs.set (k + i) v).drop (k + (i + 1) + vs.length) = cs.drop (k + i + (vs.length + 1)) := by
        rw [List.drop_set_of_lt (by omega)]
        congr 1; omega
      rw [e1, e2]
      simp
end runs

section ops
variable {P : Program} {G : FP} {N : List BX} {d : Nat} {ty : TypeId} {pos : String} {af : Array Edge} {gd : Option (Nat × Bool)}

theorem Js {Φ : BC} {w : World} (h : CR Φ w) (o : Nat) : Φ w.heap.size o = none := by
  cases e : Φ w.heap.size o with
  | none => rfl
  | some v => exact absurd (h.lt _ _ _ e) (Nat.lt_irrefl _)
theorem FV {Φ : BC} {w : World} (h : CR Φ w) (o : Obj) : CR Φ (w.alloc o) :=
  ⟨fun b o' v e => by have := h.lt b o' v e; simp; omega, fun b o' v e => by rw [World.cell?_alloc_lt _ _ _ (h.lt b o' v e)]; exact h.cell b o' v e⟩
theorem Gx (w : World) (Φ : BC) (o : Obj) : Step w Φ [] (w.alloc o) Φ :=
  ⟨rfl, rfl, rfl, by simp, fun b hb _ => @Go.heap_alloc_old w o b hb, BC.le_refl _, fun _ _ _ => rfl⟩

theorem Bu.new {op : Op} {T : TypeId} {L : List Ck}
    (h : ∀ (Φ : BC) (a : Act) (w : World) (f : List (List Nat)), CR Φ w → G.p Φ → BW Φ a.tmps w N f → ∃ cs : List Value, (execOp a.eval ⟨some d, op, ty, pos, af, gd⟩).run P w = .ok (.value (.pointer (some ⟨w.heap.size, 0, none⟩))) (w.alloc (.cells cs.toArray T)) ∧ Bg Φ cs L) :
    Bu P G ⟨some d, op, ty, pos, af, gd⟩ N [] (fun v => [.slot d (BH v 0), .res (lb v T L)]) := by
  intro Φ a w fN fC h1 h2 h3 h4 h5 h6 h7 K Q hK
  obtain ⟨cs, hr, hL⟩ := h Φ a w fN h1 h2 h3
  match fC, h4 with
  | [], _ =>
    unfold Oper.wp
    rw [hr, Oper.upon_value]
    refine hK _ _ Φ [[], [w.heap.size]] (Gx w Φ _) (FV h1 _) ⟨⟨rfl, _, C3 a _ d (h7 d rfl), w.heap.size, rfl, rfl⟩, ⟨w.heap.size, cs, rfl, rfl, heap_alloc_new _ _, hL, Js h1⟩, trivial⟩ (by simp) (by simp)

theorem CF {T : TypeId} {z : Value} {L : List Ck} (hz : ∀ w, (zeroValue T).run P w = .ok z w) (hL : ∀ Φ, Bg Φ z.cells.toList L) :
    Bu P G ⟨some d, .alloc T, ty, pos, af, gd⟩ N [] (fun v => [.slot d (BH v 0), .res (lb v T L)]) :=
  Bu.new fun Φ a w f _ _ _ => ⟨z.cells.toList, by simp [execOp, Instr.alloc, hz, newVar, newRow], hL Φ⟩
theorem DR {T : TypeId} {x : Operand} {V : VP} {L : List Ck} (hx : A3 G N x V) (hc : Cells V L) :
    Bu P G ⟨some d, .box T x, ty, pos, af, gd⟩ N [] (fun v => [.slot d (BH v 0), .res (lb v T L)]) :=
  Bu.new fun Φ a w f _ hG hN => ⟨(a.eval x).cells.toList, by simp [execOp, Instr.box, newVar, newRow], hc Φ _ (hx Φ a w f hG hN)⟩

theorem BW.res {Φ : BC} {tmps : Array Value} {w : World} {es : List BX} {fs : List (List Nat)} {R : RP} (j : Nat) (h : BW Φ tmps w es fs) (he : BB .none es j = .res R) : ∃ f, R.p Φ f w := by
  have hj := Dv he (by simp)
  obtain ⟨f, hf, _⟩ := h.nth j hj
  rw [he] at hf
  exact ⟨f, hf⟩

theorem ES {pre mid post : List Ck} {Φ : BC} {cs : List Value} (h : Bg Φ cs (pre ++ mid ++ post)) : ∃ xs ys zs, cs = xs ++ ys ++ zs ∧ Bg Φ xs pre ∧ Bg Φ ys mid ∧ Bg Φ zs post := by
  obtain ⟨u, zs, rfl, h1, h2⟩ := h.split
  obtain ⟨xs, ys, rfl, h3, h4⟩ := h1.split
  exact ⟨xs, ys, zs, rfl, h3, h4, h2⟩

theorem BL {T T0 : TypeId} {x : Operand} {p : Value} {k n : Nat} (pre mid post : List Ck) (j : Nat) (ha : ∀ w, (isAgg T).run P w = .ok true w) (hs : ∀ w, (sizeOf T).run P w = .ok n w)
    (hx : A3 G N x (BH p k)) (he : BB .none N j = .res (lb p T0 (pre ++ mid ++ post))) (hk : lens pre = k) (hn : lens mid = n) :
    Bu P G ⟨some d, .load T x, ty, pos, af, gd⟩ N [] (fun _ => [.slot d (Cs mid)]) :=
  Bu.val fun Φ a w f _ hG hN => by
    obtain ⟨b, hp, hv⟩ := hx Φ a w f hG hN
    obtain ⟨g, b', cs, hp', _, hb, hL, _⟩ := hN.res j he
    have : b' = b := by rw [hp] at hp'; simpa using hp'.symm
    subst this
    obtain ⟨xs, ys, zs, rfl, h1, h2, h3⟩ := ES hL
    refine ⟨.agg ys.toArray, ?_, ys, rfl, h2⟩
    simp only [execOp, hv]
    rw [Sem.run_bind, EX (cs := ys) ha hs (by rw [h2.len, hn]) (fun i v hi => by
      rw [cell_of hb, ← hk, ← h1.len, List.append_assoc, List.getElem?_append_right (by omega)]
      have : i < ys.length := by rcases Nat.lt_or_ge i ys.length with q | q
                                 · exact q
                                 · simp [List.getElem?_eq_none q] at hi
      rw [show xs.length + i - xs.length = i by omega, List.getElem?_append_left this]; exact hi)]
    rfl
theorem AA {T T0 : TypeId} {x : Operand} {p : Value} {k : Nat} {V : VP} (pre post : List Ck) (j : Nat) (ha : ∀ w, (isAgg T).run P w = .ok false w)
    (hx : A3 G N x (BH p k)) (he : BB .none N j = .res (lb p T0 (pre ++ [one V] ++ post))) (hk : lens pre = k) :
    Bu P G ⟨some d, .load T x, ty, pos, af, gd⟩ N [] (fun _ => [.slot d V]) :=
  Bu.val fun Φ a w f _ hG hN => by
    obtain ⟨b, hp, hv⟩ := hx Φ a w f hG hN
    obtain ⟨g, b', cs, hp', _, hb, hL, _⟩ := hN.res j he
    have : b' = b := by rw [hp] at hp'; simpa using hp'.symm
    subst this
    obtain ⟨xs, ys, zs, rfl, h1, h2, h3⟩ := ES hL
    obtain ⟨y1, y2, rfl, ⟨v, rfl, _, hV⟩, h4⟩ := h2
    refine ⟨v, ?_, hV⟩
    simp only [execOp, hv]
    rw [Sem.run_bind, EW ha (v := v) (by rw [cell_of hb, ← hk, ← h1.len]; simp)]
    rfl
theorem Dd {T : TypeId} {x : Operand} {n : Nat} (mid post : List Ck) (ha : ∀ w, (isAgg T).run P w = .ok true w) (hs : ∀ w, (sizeOf T).run P w = .ok n w)
    (hx : A3 G N x (Eb (mid ++ post))) (hn : lens mid = n) : Bu P G ⟨some d, .load T x, ty, pos, af, gd⟩ N [] (fun _ => [.slot d (Cs mid)]) :=
  Bu.val fun Φ a w f hP hG hN => by
    obtain ⟨b, o, cs, hv, hL, hp⟩ := hx Φ a w f hG hN
    obtain ⟨ys, zs, rfl, h1, h2⟩ := hL.split
    refine ⟨.agg ys.toArray, ?_, ys, rfl, h1⟩
    simp only [execOp, hv]
    rw [Sem.run_bind, EX (cs := ys) ha hs (by rw [h1.len, hn]) (fun i v hi => hP.cell _ _ _ (hp.left i v hi))]
    rfl
theorem Er {T : TypeId} {x : Operand} {V : VP} (post : List Ck) (ha : ∀ w, (isAgg T).run P w = .ok false w)
    (hx : A3 G N x (Eb (one V :: post))) : Bu P G ⟨some d, .load T x, ty, pos, af, gd⟩ N [] (fun _ => [.slot d V]) :=
  Bu.val fun Φ a w f hP hG hN => by
    obtain ⟨b, o, cs, hv, ⟨ys, zs, rfl, ⟨v, rfl, _, hV⟩, h2⟩, hp⟩ := hx Φ a w f hG hN
    refine ⟨v, ?_, hV⟩
    simp only [execOp, hv]
    rw [Sem.run_bind, EW ha (v := v) (hP.cell _ _ _ (by simpa using hp 0 v (by simp)))]
    rfl

theorem D6 {T T0 : TypeId} {x y : Operand} {p : Value} {k n : Nat} {V : VP} (pre mid post M : List Ck) (hs : ∀ w, (sizeOf T).run P w = .ok n w)
    (hx : A3 G N x (BH p k)) (hy : A3 G N y V) (hc : Cells V M) (hk : lens pre = k) (hm : lens mid = n) (hM : lens M = n) :
    Bu P G ⟨none, .store T x y, ty, pos, af, gd⟩ N [.res (lb p T0 (pre ++ mid ++ post))] (fun _ => [.res (lb p T0 (pre ++ M ++ post))]) := by
  intro Φ a w fN fC h1 h2 h3 h4 h5 h6 h7 K Q hK
  match fC, h4 with
  | [f], ⟨⟨b, cs, hp, hf, hb, hL, hn⟩, _⟩ =>
    subst hf
    obtain ⟨b', hp', hv⟩ := hx Φ a w fN h2 h3
    have : b' = b := by rw [hp] at hp'; simpa using hp'.symm
    subst this
    obtain ⟨xs, ys, zs, rfl, q1, q2, q3⟩ := ES hL
    have hVL := hc Φ _ (hy Φ a w fN h2 h3)
    have hlen := hVL.len
    obtain ⟨w', r1, r2, r3, r4, r5, r6, r7⟩ := Ei (P := P) (b := b') (k := k) (a.eval y).cells.toList 0 w (xs ++ ys ++ zs) hb (by
      simp only [List.length_append, q1.len, q2.len, q3.len] at *; omega) (fun v hv => hVL.cell v hv)
    have hblk : w'.heap[b']? = some (.cells (xs ++ (a.eval y).cells.toList ++ zs).toArray T0 (0, 0)) := by
      rw [r2]
      congr 3
      have e1 : (xs ++ ys ++ zs).take (k + 0) = xs := by rw [Nat.add_zero, ← hk, ← q1.len, List.append_assoc, List.take_left]
      have e2 : (xs ++ ys ++ zs).drop (k + 0 + (a.eval y).cells.toList.length) = zs := by
        have : k + 0 + (a.eval y).cells.toList.length = (xs ++ ys).length := by simp only [List.length_append, q1.len, q2.len]; omega
        rw [this, List.drop_left]
      rw [e1, e2]
    have hrun : (execOp a.eval ⟨none, .store T x y, ty, pos, af, gd⟩).run P w = .ok .skip w' := by
      have hsz : ¬ (a.eval y).cells.size ≠ n := by have : (a.eval y).cells.size = (a.eval y).cells.toList.length := by simp
                                                   rw [this, hlen, hM]; simp
      simp only [execOp, hv, Instr.storeAt, Instr.sureAddr, storeVar, Sem.run_bind, Sem.run_pure, Result.andThen_ok, hs]
      simp only [if_neg hsz]
      simp [r1]
    unfold Oper.wp
    rw [hrun, Oper.upon_skip]
    refine hK undef w' Φ [[b']] ⟨r5, r6, r7, Nat.le_of_eq r4.symm, fun c hc' hne => r3 c (fun e => hne (by simp [e])), BC.le_refl _, fun _ _ _ => rfl⟩
      ⟨fun c o v e => by rw [r4]; exact h1.lt c o v e, fun c o v e => ?_⟩ ⟨⟨b', xs ++ (a.eval y).cells.toList ++ zs, hp, rfl, hblk, (q1.append hVL).append q3, hn⟩, trivial⟩ (by simp) (fun c hc' => ?_)
    · have hne : c ≠ b' := fun e' => by rw [e', hn o] at e; cases e
      exact (World.cell?_of_block (w := w) (r3 c hne)).trans (h1.cell c o v e)
    · simp at hc'
      subst hc'
      have := h6 c (by simp)
      exact ⟨by rw [r4]; exact this, .inl (by simp)⟩

theorem F8 {s : TypeId} {fields : Array Field} {i : Nat} {fd : Field} {n b k : Nat} {w : World} (hu : P.underlying s = some (.struct fields)) (hi : fields[i]? = some fd) (hs : ∀ w, (sizeOf fd.type).run P w = .ok n w) (hn : n ≠ 0) :
    (Instr.fieldAt s (.pointer (some ⟨b, k, none⟩)) i).run P w = .ok (.pointer (some ⟨b, k + fd.offset, none⟩)) w := by
  simp [Instr.fieldAt, run_underlying hu, hi, Instr.sureAddr, fieldPlace, hs, hn, Addr.add_lit]
theorem Gi {s : TypeId} {x : Operand} {p : Value} {fields : Array Field} {i k n : Nat} {fd : Field} (hu : P.underlying s = some (.struct fields)) (hi : fields[i]? = some fd) (hs : ∀ w, (sizeOf fd.type).run P w = .ok n w) (hn : n ≠ 0)
    (hx : A3 G N x (BH p k)) : Bu P G ⟨some d, .fieldAddr s x i, ty, pos, af, gd⟩ N [] (fun _ => [.slot d (BH p (k + fd.offset))]) :=
  Bu.val fun Φ a w f _ hG hN => by
    obtain ⟨b, hp, hv⟩ := hx Φ a w f hG hN
    refine ⟨_, ?_, b, hp, rfl⟩
    simp only [execOp, hv]
    rw [Sem.run_bind, F8 hu hi hs hn]
    rfl
def L6 (V : VP) : Prop := ∀ Φ v, V.p Φ v → ∃ a, v = .pointer (some a)
theorem DQ (p : Value) (k : Nat) : L6 (BH p k) := by rintro Φ v ⟨b, _, rfl⟩; exact ⟨_, rfl⟩
theorem B7 {x : Operand} {V : VP} (hx : A3 G N x V) (hp : L6 V) : Bu P G ⟨some d, .nilCheck x, ty, pos, af, gd⟩ N [] (fun _ => [.slot d V]) :=
  Bu.val fun Φ a w f _ hG hN => by
    obtain ⟨q, hq⟩ := hp Φ _ (hx Φ a w f hG hN)
    exact ⟨a.eval x, by simp [execOp, hq], hx Φ a w f hG hN⟩

theorem Cl.at {α : Type} {Φ : BC} {c : α → List Ck} {sz : Nat} (hsz : ∀ x, lens (c x) = sz) {xs : List α} {cs : List Value} (h : Cl Φ c cs xs) (i : Nat) (hi : i < xs.length) :
    ∃ us vs ws, cs = us ++ vs ++ ws ∧ us.length = i * sz ∧ Bg Φ vs (c xs[i]) ∧ Cl Φ c us (xs.take i) ∧ Cl Φ c ws (xs.drop (i + 1)) := by
  have e : xs = xs.take i ++ (xs[i] :: xs.drop (i + 1)) := by simp
  rw [e] at h
  obtain ⟨us, rs, rfl, h1, h2⟩ := h.split
  obtain ⟨vs, ws, rfl, h3, h4⟩ := h2
  exact ⟨us, vs, ws, by simp, by rw [h1.len hsz, List.length_take, Nat.min_eq_left (by omega)], h3, h1, h4⟩

theorem B9 {α : Type} [Inhabited α] {t e : TypeId} {x y : Operand} {c : α → List Ck} {xs : List α} {k : IntKind} {i : Int} {sz : Nat} (hu : P.underlying t = some (.slice e)) (hs : ∀ w, (sizeOf e).run P w = .ok sz w) (hsz : ∀ x, lens (c x) = sz)
    (hx : A3 G N x (Ah c xs)) (hy : A3 G N y (Ab k i)) (hi : 0 ≤ i ∧ i < xs.length) : Bu P G ⟨some d, .indexAddr t x y, ty, pos, af, gd⟩ N [] (fun _ => [.slot d (Eb (c (xs.getD i.toNat default)))]) :=
  Bu.val fun Φ a w f _ hG hN => by
    obtain ⟨hy1, _⟩ := hy Φ a w f hG hN
    rcases (hx Φ a w f hG hN).2 with ⟨_, rfl⟩ | ⟨b, o, cap, cs, hv, _, hA, hp⟩ | ⟨rfl, _⟩
    · simp at hi; omega
    rotate_left
    · simp at hi; omega
    · have hit : i.toNat < xs.length := by omega
      obtain ⟨us, vs, ws, rfl, h1, h2, _⟩ := hA.at hsz i.toNat hit
      refine ⟨.pointer (some ⟨b, o + i.toNat * sz, none⟩), ?_, b, o + i.toNat * sz, vs, rfl, ?_, ?_⟩
      · simp only [execOp, hv, hy1]
        simp [Instr.indexAt, run_underlying hu, asIntOf, hi, hs, Addr.add_lit]
      · simpa [List.getD, hit] using h2
      · rw [← h1]; exact (hp.left).right
theorem CS {t e : TypeId} {x y : Operand} {p : Value} {k : Nat} {kk : IntKind} {i : Int} {n sz : Nat} (hu : P.underlying t = some (.array n e)) (hs : ∀ w, (sizeOf e).run P w = .ok sz w)
    (hx : A3 G N x (BH p k)) (hy : A3 G N y (Ab kk i)) (hi : 0 ≤ i ∧ i < n) : Bu P G ⟨some d, .indexAddr t x y, ty, pos, af, gd⟩ N [] (fun _ => [.slot d (BH p (k + i.toNat * sz))]) :=
  Bu.val fun Φ a w f _ hG hN => by
    obtain ⟨hy1, _⟩ := hy Φ a w f hG hN
    obtain ⟨b, hp, hv⟩ := hx Φ a w f hG hN
    refine ⟨_, ?_, b, hp, rfl⟩
    simp only [execOp, hv, hy1]
    simp [Instr.indexAt, run_underlying hu, asIntOf, Instr.sureAddr, hi, hs, Addr.add_lit]
end ops

end
section
open Go Go.RowKit

theorem H9 (l : List UInt8) : (⟨l.toArray⟩ : ByteArray).toList = l := by rw [ByteArray.toList_eq]
theorem Cw (l : List UInt8) : (⟨l.toArray⟩ : ByteArray).size = l.length := by simp [ByteArray.size]
theorem Ia (l m : List UInt8) : (⟨l.toArray⟩ ++ ⟨m.toArray⟩ : ByteArray) = ⟨(l ++ m).toArray⟩ := by ext1; simp
theorem HC (l : List UInt8) (a b : Nat) : (⟨l.toArray⟩ : ByteArray).extract a b = ⟨((l.take b).drop a).toArray⟩ := by
  ext1
  simp [List.drop_take]
theorem J9 (l : List UInt8) (i : Nat) (h : i < l.length) : (⟨l.toArray⟩ : ByteArray)[i]? = some (l.getD i 0) := by
  rw [ByteArray.getElem?_lt' _ _ (by rw [Cw]; exact h)]
  simp [List.getD, h]
  rfl

section ops
variable {P : Program} {G : FP} {N : List BX} {d : Nat} {ty : TypeId} {pos : String} {af : Array Edge} {gd : Option (Nat × Bool)}

def Un (op : UnOp) (X Z : VP) : Prop := ∀ (P : Program) (Φ : BC) (u : Value) (w : World), X.p Φ u → ∃ r, (Op.unary op u).run P w = .ok r w ∧ Z.p Φ r
theorem HI {op : UnOp} {t : TypeId} {x : Operand} {X Z : VP} (hb : Un op X Z) (hx : A3 G N x X) : Bu P G ⟨some d, .unOp op t x, ty, pos, af, gd⟩ N [] (fun _ => [.slot d Z]) :=
  Bu.val fun Φ a w f _ hG hN => by
    obtain ⟨r, hr, hz⟩ := hb P Φ _ w (hx Φ a w f hG hN)
    exact ⟨r, by simp [execOp, hr], hz⟩
theorem Jg (b : Bool) : Un .not (Ak b) (Ak (!b)) := by
  intro P Φ u w h
  have h : u = .bool b := h
  subst h
  exact ⟨.bool !b, rfl, rfl⟩
theorem H7 (k : IntKind) (n : Int) : Un .neg (Ab k n) (Ab k (k.wrap (0 - n))) := by
  rintro P Φ u w ⟨rfl, _⟩
  exact ⟨_, rfl, rfl, En _ _⟩

theorem Bz {s t : TypeId} {x : Operand} {k k' : IntKind} {n : Int} {ds : TypeDesc} (hs : P.underlying s = some ds) (ht : P.underlying t = some (.int k')) (hx : A3 G N x (Ab k n)) :
    Bu P G ⟨some d, .convert s t x, ty, pos, af, gd⟩ N [] (fun _ => [.slot d (Ab k' (k'.wrap n))]) :=
  Bu.val fun Φ a w f _ hG hN => by
    obtain ⟨hv, _⟩ := hx Φ a w f hG hN
    exact ⟨.int k' (k'.wrap n), by simp [execOp, hv, convert, run_underlying hs, run_underlying ht, Conv.intToInt], rfl, En _ _⟩
theorem CN {t : TypeId} {x : Operand} {l : List UInt8} (ht : P.underlying t = some .string) (hx : A3 G N x (AJ l)) :
    Bu P G ⟨some d, .call ⟨.builtin .len, #[x], #[t]⟩, ty, pos, af, gd⟩ N [] (fun _ => [.slot d (Ab .i64 l.length)]) :=
  Bu.val fun Φ a w f _ hG hN => by
    obtain ⟨hv, hl⟩ := hx Φ a w f hG hN
    exact ⟨goInt l.length, by simp [execOp, hv, resolve, invoke, builtin, Builtin.len_, run_underlying ht, Cw], rfl, EG hl⟩
theorem Ba {α : Type} {c : α → List Ck} {xs : List α} {t e : TypeId} {x : Operand} (ht : P.underlying t = some (.slice e)) (hx : A3 G N x (Ah c xs)) :
    Bu P G ⟨some d, .call ⟨.builtin .len, #[x], #[t]⟩, ty, pos, af, gd⟩ N [] (fun _ => [.slot d (Ab .i64 xs.length)]) :=
  Bu.val fun Φ a w f _ hG hN => by
    obtain ⟨hl, h⟩ := hx Φ a w f hG hN
    rcases h with ⟨hv, rfl⟩ | ⟨b, o, cap, cs, hv, _⟩ | ⟨rfl, b, cap, hv⟩
    · exact ⟨goInt 0, by simp [execOp, hv, resolve, invoke, builtin, Builtin.len_, run_underlying ht], rfl, EG hl⟩
    · exact ⟨goInt xs.length, by simp [execOp, hv, resolve, invoke, builtin, Builtin.len_, run_underlying ht], rfl, EG hl⟩
    · exact ⟨goInt 0, by simp [execOp, hv, resolve, invoke, builtin, Builtin.len_, run_underlying ht], rfl, EG hl⟩

section strs
variable {t : TypeId} {l m : List UInt8}
theorem DC (h : l.length + m.length ≤ Cp) : Hz P .add t (AJ l) (AJ m) (AJ (l ++ m)) := by
  rintro Φ u v w x y ⟨rfl, _⟩ ⟨rfl, _⟩
  have hb : ¬ (((l.length + m.length : Nat) : Int) > IntKind.i64.max) := by
    have := (EG h).2
    omega
  refine ⟨.string ⟨(l ++ m).toArray⟩, ?_, rfl, by simpa using h⟩
  simp only [eqGuard_add, binOp, Op.stringOp, Cw, if_neg hb, Ia]
  rfl
theorem JY : Hz P .eql t (AJ l) (AJ m) (Ak (decide (l = m))) := by
  rintro Φ u v w x y ⟨rfl, _⟩ ⟨rfl, _⟩
  refine ⟨.bool (decide (l = m)), ?_, rfl⟩
  simp only [eqGuard_at_string, binOp, Op.stringOp, H9]
  rw [show (l == m) = decide (l = m) from by rw [Bool.eq_iff_iff]; simp]
  rfl
end strs
def shr (k : IntKind) (m n : Int) : Int := m.fdiv (2 ^ (min n.toNat k.bits))
theorem KY {k : IntKind} {m n : Int} (h : CH k m) : CH k (shr k m n) := by
  have hp : (1 : Int) ≤ 2 ^ (min n.toNat k.bits) := by
    have : (1 : Int) ≤ ((2 ^ (min n.toNat k.bits) : Nat) : Int) := by
      have := Nat.one_le_two_pow (n := min n.toNat k.bits); omega
    simpa using this
  have h0 : k.min ≤ 0 ∧ 0 ≤ k.max := by cases k <;> decide
  unfold shr CH at *
  rw [Int.fdiv_eq_ediv_of_nonneg _ (by omega)]
  constructor
  · rcases Int.lt_or_le m 0 with hm | hm
    · have := Int.ediv_nonneg_iff_of_pos (a := m) (b := 2 ^ (min n.toNat k.bits)) (by omega)
      have h2 : m ≤ m / 2 ^ (min n.toNat k.bits) := by
        rw [Int.le_ediv_iff_mul_le (by omega)]
        have := Int.mul_le_mul_of_nonpos_left (a := m) (b := 2 ^ (min n.toNat k.bits)) (c := 1) (by omega) hp
        omega
      omega
    · have := Int.ediv_nonneg hm (by omega : (0 : Int) ≤ 2 ^ (min n.toNat k.bits)); omega
  · rcases Int.lt_or_le m 0 with hm | hm
    · have := Int.ediv_neg_of_neg_of_pos hm (by omega : (0 : Int) < 2 ^ (min n.toNat k.bits)); omega
    · have := Int.ediv_le_self (2 ^ (min n.toNat k.bits)) hm; omega
theorem Kw {t : TypeId} {k k' : IntKind} {m n : Int} (hn : 0 ≤ n) : Hz P .shr t (Ab k m) (Ab k' n) (Ab k (shr k m n)) := by
  rintro Φ u v w x y ⟨rfl, hm⟩ ⟨rfl, _⟩
  exact ⟨.int k (shr k m n), by simp [eqGuard_shr, binOp_shr, Op.shift, show ¬ n < 0 by omega, shr], rfl, KY hm⟩
theorem uns {k : IntKind} {n : Int} (hk : k.signed = false) (h : CH k n) : 0 ≤ n := by
  have := h.1
  simp [IntKind.min, hk] at this
  exact this
theorem El {t : TypeId} {k k' : IntKind} {m n : Int} (hk : k'.signed = false) : Hz P .shr t (Ab k m) (Ab k' n) (Ab k (shr k m n)) := by
  rintro Φ u v w x y h1 ⟨h2, h3⟩
  exact Kw (uns hk h3) Φ u v w x y h1 ⟨h2, h3⟩
end ops

end
section
open Go Go.RowKit

section ops
variable {P : Program} {G : FP} {N : List BX} {d : Nat} {ty : TypeId} {pos : String} {af : Array Edge} {gd : Option (Nat × Bool)}

def EL (G : FP) (N : List BX) : List Operand → List VP → Prop
  | [], [] => True
  | x :: xs, V :: Vs => A3 G N x V ∧ EL G N xs Vs
  | _, _ => False
theorem EL.eval {Φ : BC} {a : Act} {w : World} {f : List (List Nat)} (hG : G.p Φ) (hN : BW Φ a.tmps w N f) : ∀ {xs : List Operand} {Vs : List VP}, EL G N xs Vs → DD Φ Vs (xs.map a.eval)
  | [], [], _ => trivial
  | _ :: _, _ :: _, h => ⟨h.1 Φ a w f hG hN, EL.eval hG hN h.2⟩
  | [], _ :: _, h => h.elim
  | _ :: _, [], h => h.elim
theorem BW.Ic {Φ : BC} {tmps : Array Value} {w : World} : ∀ {Rs : List RP} {fs : List (List Nat)}, BW Φ tmps w (Rs.map .res) fs → EK Φ w Rs fs
  | [], [], _ => trivial
  | _ :: _, _ :: _, h => ⟨h.1, BW.Ic h.2⟩
  | [], _ :: _, h => h.elim
  | _ :: _, [], h => h.elim
theorem BW.JA {Φ : BC} {tmps : Array Value} {w : World} : ∀ {Rs : List RP} {fs : List (List Nat)}, EK Φ w Rs fs → BW Φ tmps w (Rs.map .res) fs
  | [], [], _ => trivial
  | _ :: _, _ :: _, h => ⟨h.1, BW.JA h.2⟩
  | [], _ :: _, h => h.elim
  | _ :: _, [], h => h.elim

theorem DH {f : FuncId} {xs : List Operand} {tys : Array TypeId} {args : List VP} {pre : List RP} {post : Value → List RP} {res : VP} (hcall : ∀ args w, (callFunc f args).run P w = .ok (.enter f args) w)
    (hc : AR P G f args pre post res) (hx : EL G N xs args) :
    Bu P G ⟨some d, .call ⟨.value (.func f), xs.toArray, tys⟩, ty, pos, af, gd⟩ N (pre.map .res) (fun v => .slot d res :: (post v).map .res) := by
  intro Φ a w fN fC h1 h2 h3 h4 h5 h6 h7 K Q hK
  have hargs := hx.eval h2 h3
  have hres := BW.Ic h4
  rw [List.nodup_append] at h5
  have hcl := hc Φ w _ fC h1 h2 hargs hres h5.2.1 (fun b hb => h6 b (by simp [hb]))
  have hrun : (execOp a.eval ⟨some d, .call ⟨.value (.func f), xs.toArray, tys⟩, ty, pos, af, gd⟩).run P w = .ok (.enter f (xs.map a.eval).toArray) w := by
    simp [execOp, resolve, Act.eval, Deferred.ofValue, invoke, hcall]
  unfold Oper.wp
  rw [hrun, Oper.upon_enter]
  refine hcl.mono fun e w' hq => ?_
  obtain ⟨v, Φ', fs', rfl, q1, q2, q3, q4, q5, q6⟩ := hq
  exact hK v w' Φ' ([] :: fs') q1 q2 ⟨⟨rfl, v, C3 a v d (h7 d rfl), q3⟩, BW.JA q4⟩ (by simpa using q5) (by simpa using q6)

theorem GU {α : Type} {t e : TypeId} {n sz : Nat} {parts : Array (Nat × Operand)} {c : α → List Ck} {xs : List α} (h : ∀ (Φ : BC) (a : Act) (w : World) (f : List (List Nat)), CR Φ w → G.p Φ → BW Φ a.tmps w N f →
      ∃ cs : List Value, (Instr.buildSlice t n (parts.map fun (i, x) => (i, a.eval x))).run P w = .ok (.slice (some ⟨w.heap.size, 0, none⟩) n n) (w.alloc (.cells cs.toArray e)) ∧ Cl Φ c cs xs) (hn : xs.length = n) (hm : n ≤ Cp) (_hsz : ∀ x, lens (c x) = sz) :
    Bu P G ⟨some d, .buildSlice t n parts, ty, pos, af, gd⟩ N [] (fun _ => [.slot d (Ah c xs)]) := by
  intro Φ a w fN fC h1 h2 h3 h4 h5 h6 h7 K Q hK
  obtain ⟨cs, hr, hA⟩ := h Φ a w fN h1 h2 h3
  match fC, h4 with
  | [], _ =>
    have hrun : (execOp a.eval ⟨some d, .buildSlice t n parts, ty, pos, af, gd⟩).run P w = .ok (.value (.slice (some ⟨w.heap.size, 0, none⟩) n n)) (w.alloc (.cells cs.toArray e)) := by
      simp only [execOp, Sem.run_bind, hr]
      rfl
    unfold Oper.wp
    rw [hrun, Oper.upon_value]
    let Φ' : BC := fun b o => if b = w.heap.size then cs[o]? else Φ b o
    have hle : BC.le Φ Φ' := fun b o v e => by
      have := h1.lt b o v e
      simp only [Φ', if_neg (by omega : ¬ b = w.heap.size)]
      exact e
    refine hK _ _ Φ' [[]] ⟨rfl, rfl, rfl, by simp, fun b hb _ => @Go.heap_alloc_old w _ b hb, hle, fun b hb _ => by funext o; simp only [Φ', if_neg (by omega : ¬ b = w.heap.size)]⟩ ⟨fun b o v e => ?_, fun b o v e => ?_⟩
      ⟨⟨rfl, _, C3 a _ d (h7 d rfl), by rw [hn]; exact hm, .inr (.inl ⟨w.heap.size, 0, n, cs, by rw [hn], by omega, hA.mono hle, fun j v hj => by simp only [Φ', if_pos trivial, Nat.zero_add]; exact hj⟩)⟩, trivial⟩ (by simp) (by simp)
    · by_cases hb : b = w.heap.size
      · simp [hb]
      · simp only [Φ', if_neg hb] at e
        have := h1.lt b o v e
        simp; omega
    · by_cases hb : b = w.heap.size
      · subst hb
        simp only [Φ', if_pos trivial] at e
        rw [World.cell?_alloc_new]
        simpa using e
      · simp only [Φ', if_neg hb] at e
        rw [World.cell?_alloc_lt _ _ _ (h1.lt b o v e)]
        exact h1.cell b o v e

def IU (v : Option Value) (dflt r : Nat) : Prop :=
  match v with
  | none => r = dflt
  | some u => ∃ k i, u = .int k i ∧ 0 ≤ i ∧ i.toNat = r
theorem DX {w : World} (isS : Bool) (len cap : Nat) {lo hi : Option Value} {a b : Nat} (hlo : IU lo 0 a) (hhi : IU hi len b) (hab : a ≤ b) (hb : b ≤ cap) :
    (Instr.sliceBounds isS len cap lo hi none).run P w = .ok (a, b, cap) w := by
  have sb : ∀ (k : IntKind) (i : Int) (y : Nat) (code : BoundsCode), 0 ≤ i → i.toNat ≤ y → (Instr.sliceBound (.int k i) y code).run P w = .ok i.toNat w := by
    intro k i y code h0 h1
    simp [Instr.sliceBound, asIntOf, show 0 ≤ i ∧ i ≤ (y : Int) by omega]
  unfold Instr.sliceBounds
  cases hi with
  | none =>
    have hhi : b = len := hhi
    subst hhi
    cases lo with
    | none =>
      have hlo : a = 0 := hlo
      subst hlo
      simp
    | some u =>
      obtain ⟨k, i, rfl, h0, rfl⟩ := hlo
      simp [sb k i b _ h0 hab]
  | some u' =>
    obtain ⟨k', i', rfl, h0', rfl⟩ := hhi
    cases lo with
    | none =>
      have hlo : a = 0 := hlo
      subst hlo
      cases isS <;> simp [sb k' i' cap _ h0' hb]
    | some u =>
      obtain ⟨k, i, rfl, h0, rfl⟩ := hlo
      cases isS <;> simp [sb k' i' cap _ h0' hb, sb k i i'.toNat _ h0 hab]

def GY (G : FP) (N : List BX) (x : Option Operand) (dflt : Nat) (i : Int) : Prop :=
  match x with
  | none => i = dflt
  | some y => ∃ k, A3 G N y (Ab k i)
theorem GY.ok {Φ : BC} {a : Act} {w : World} {f : List (List Nat)} (hG : G.p Φ) (hN : BW Φ a.tmps w N f) {x : Option Operand} {dflt : Nat} {i : Int} (h : GY G N x dflt i) (h0 : 0 ≤ i) : IU (x.map a.eval) dflt i.toNat := by
  cases x with
  | none => have h : i = dflt := h; subst h; simp [IU]
  | some y =>
    obtain ⟨k, hk⟩ := h
    exact ⟨k, i, (hk Φ a w f hG hN).1, h0, rfl⟩

theorem Ec {t : TypeId} {x : Operand} {l : List UInt8} {lo hi : Option Operand} {a b : Int} (hu : P.underlying t = some .string) (hx : A3 G N x (AJ l))
    (hlo : GY G N lo 0 a) (hhi : GY G N hi l.length b) (h : 0 ≤ a ∧ a ≤ b ∧ b ≤ l.length) :
    Bu P G ⟨some d, .slice t x lo hi none, ty, pos, af, gd⟩ N [] (fun _ => [.slot d (AJ ((l.take b.toNat).drop a.toNat))]) :=
  Bu.val fun Φ ac w f _ hG hN => by
    obtain ⟨hv, hl⟩ := hx Φ ac w f hG hN
    refine ⟨.string ⟨((l.take b.toNat).drop a.toNat).toArray⟩, ?_, rfl, by simp; omega⟩
    have hsb := DX (P := P) (w := w) false l.length l.length (hlo.ok hG hN h.1) (hhi.ok hG hN (by omega)) (by omega) (by omega)
    simp only [execOp, hv, Instr.sliceAt, Sem.run_bind, run_underlying hu, Result.andThen_ok, Instr.slice, Option.map_none, Option.isSome_none, Bool.false_eq_true, if_false, Cw]
    simp [hsb, HC]
theorem BM {t : TypeId} {x y : Operand} {l : List UInt8} {k : IntKind} {i : Int} (hu : P.underlying t = some .string) (hx : A3 G N x (AJ l)) (hy : A3 G N y (Ab k i)) (h : 0 ≤ i ∧ i < l.length) :
    Bu P G ⟨some d, .index t x y, ty, pos, af, gd⟩ N [] (fun _ => [.slot d (Ab .u8 (l.getD i.toNat 0).toNat)]) :=
  Bu.val fun Φ ac w f _ hG hN => by
    obtain ⟨hv, hl⟩ := hx Φ ac w f hG hN
    obtain ⟨hy, _⟩ := hy Φ ac w f hG hN
    refine ⟨.int .u8 (l.getD i.toNat 0).toNat, ?_, rfl, FM _⟩
    have hg := J9 l i.toNat (by omega)
    simp only [execOp, hv, hy, Instr.index, Sem.run_bind, asIntOf, Sem.run_pure, Result.andThen_ok, run_underlying hu, if_pos h.1, hg]

def IK (p : Value) (k len cap : Nat) : VP := ⟨fun _ v => ∃ b, p = .pointer (some ⟨b, 0, none⟩) ∧ v = .slice (some ⟨b, k, none⟩) len cap, fun _ h => h⟩
theorem Ep {t e : TypeId} {x : Operand} {p : Value} {n k sz : Nat} {lo hi : Option Operand} {a b : Int} (hu : P.underlying t = some (.array n e)) (hs : ∀ w, (sizeOf e).run P w = .ok sz w) (hx : A3 G N x (BH p k))
    (hlo : GY G N lo 0 a) (hhi : GY G N hi n b) (h : 0 ≤ a ∧ a ≤ b ∧ b ≤ n ∧ a < n) :
    Bu P G ⟨some d, .slice t x lo hi none, ty, pos, af, gd⟩ N [] (fun _ => [.slot d (IK p (k + a.toNat * sz) (b.toNat - a.toNat) (n - a.toNat))]) :=
  Bu.val fun Φ ac w f _ hG hN => by
    obtain ⟨bb, hp, hv⟩ := hx Φ ac w f hG hN
    refine ⟨.slice (some ⟨bb, k + a.toNat * sz, none⟩) (b.toNat - a.toNat) (n - a.toNat), ?_, bb, hp, rfl⟩
    have hsb := DX (P := P) (w := w) false n n (hlo.ok hG hN h.1) (hhi.ok hG hN (by omega)) (by omega) (by omega)
    have hne : ¬ n = a.toNat := by omega
    simp [execOp, hv, Instr.sliceAt, run_underlying hu, Instr.sureAddr, hsb, hs, hne, Addr.add_lit]

theorem run_bytesToString {b k : Nat} {l : List UInt8} {cap : Nat} {w : World} (h : ∀ j v, (l.map Dc)[j]? = some v → w.cell? ⟨b, k + j, none⟩ = some v) :
    (Conv.bytesToString (.slice (some ⟨b, k, none⟩) l.length cap)).run P w = .ok (.string ⟨l.toArray⟩) w := by
  have hc := run_loadCells_list (P := P) w ⟨b, k, none⟩ (l.map Dc) (fun j v hj => by rw [Addr.add_lit]; exact h j v hj)
  rw [List.length_map] at hc
  have e1 : l.map Dc = (l.map fun x => (x.toNat : Int)).map (Value.int .u8) := by simp [Dc, Function.comp_def]
  rw [e1] at hc
  rw [Go.run_bytesToString (P := P) w ⟨b, k, none⟩ l.length cap _ hc]
  have key : ∀ (l : List UInt8) (acc : ByteArray), (l.map fun x => (x.toNat : Int)).foldl (fun r n => r.push (UInt8.ofNat n.toNat)) acc = ⟨(acc.data.toList ++ l).toArray⟩ := by
    intro l
    induction l with
    | nil => intro acc; simp
    | cons x l ih => intro acc; simp only [List.map_cons, List.foldl_cons, ih]; simp [ByteArray.push]
  rw [key l ByteArray.empty]
  rfl

theorem GC {s t e : TypeId} {x : Operand} {p : Value} {T0 : TypeId} {k n m cap : Nat} {l : List UInt8} (pre post : List Ck) (j : Nat) (hs : P.underlying s = some (.slice e)) (he : P.underlying e = some (.int .u8)) (ht : P.underlying t = some .string)
    (hx : A3 G N x (IK p k m cap)) (hR : BB .none N j = .res (lb p T0 (pre ++ [Af n l] ++ post))) (hk : lens pre = k) (hm : m ≤ n) (hn : n ≤ Cp) :
    Bu P G ⟨some d, .convert s t x, ty, pos, af, gd⟩ N [] (fun _ => [.slot d (AJ (l.take m))]) :=
  Bu.val fun Φ ac w f _ hG hN => by
    obtain ⟨b, hp, hv⟩ := hx Φ ac w f hG hN
    obtain ⟨g, b', cs, hp', _, hb, hL, _⟩ := hN.res j hR
    have : b' = b := by rw [hp] at hp'; simpa using hp'.symm
    subst this
    obtain ⟨xs, ys, zs, rfl, h1, h2, h3⟩ := ES hL
    obtain ⟨y1, y2, rfl, ⟨hl, rfl⟩, h4⟩ := h2
    have h4 : y2 = [] := h4
    subst h4
    refine ⟨.string ⟨(l.take m).toArray⟩, ?_, rfl, by simp; omega⟩
    have hlen : (l.take m).length = m := by simp; omega
    have hr := run_bytesToString (P := P) (b := b') (k := k) (l := l.take m) (cap := cap) (w := w) (fun i v hi => by
      have hi' : i < m := by
        rcases Nat.lt_or_ge i (l.take m).length with q | q
        · omega
        · rw [List.getElem?_eq_none (by simpa using q)] at hi; cases hi
      rw [cell_of hb, ← hk, ← h1.len, List.append_assoc, List.getElem?_append_right (by omega), show xs.length + i - xs.length = i by omega, List.append_nil, List.getElem?_append_left (by simp; omega)]
      rw [List.map_take, List.getElem?_take_of_lt hi'] at hi
      exact hi)
    rw [hlen] at hr
    simp only [execOp, hv, Sem.run_bind, run_convert_bytes_string w s t e _ _ _ hs he ht, hr]
    rfl

end ops

end
section
open Go Go.RowKit

section ops
variable {P : Program} {G : FP} {N : List BX} {d : Nat} {ty : TypeId} {pos : String} {af : Array Edge} {gd : Option (Nat × Bool)}

theorem Kj {pre post : List Ck} {ck : Ck} {Φ : BC} {cs : List Value} (h : Bg Φ cs (pre ++ [ck] ++ post)) : ∃ xs ys zs, cs = xs ++ ys ++ zs ∧ xs.length = lens pre ∧ ck.rel Φ ys ∧ Bg Φ xs pre ∧ Bg Φ zs post := by
  obtain ⟨xs, ys, zs, rfl, h1, h2, h3⟩ := ES h
  obtain ⟨y1, y2, rfl, hr, h4⟩ := h2
  have h4 : y2 = [] := h4
  subst h4
  exact ⟨xs, y1, zs, by simp, h1.len, hr, h1, h3⟩
theorem FW {t e : TypeId} {x y : Operand} {kk ki : IntKind} {l : List Int} {n : Nat} {i : Int} {post : List Ck} (hu : P.underlying t = some (.array n e)) (hs : ∀ w, (sizeOf e).run P w = .ok 1 w)
    (hx : A3 G N x (Eb (Cj kk n l :: post))) (hy : A3 G N y (Ab ki i)) (hi : 0 ≤ i ∧ i < n) : Bu P G ⟨some d, .indexAddr t x y, ty, pos, af, gd⟩ N [] (fun _ => [.slot d (Eb [one (Ab kk (l.getD i.toNat 0))])]) :=
  Bu.val fun Φ a w f _ hG hN => by
    obtain ⟨hy1, _⟩ := hy Φ a w f hG hN
    obtain ⟨b, o, cs, hv, ⟨ys, zs, rfl, ⟨hl, rfl, hin⟩, h2⟩, hp⟩ := hx Φ a w f hG hN
    have hit : i.toNat < l.length := by omega
    refine ⟨.pointer (some ⟨b, o + i.toNat * 1, none⟩), ?_, b, o + i.toNat * 1, [.int kk (l.getD i.toNat 0)], rfl, ⟨[_], [], rfl, ⟨_, rfl, rfl, rfl, hin _ (by simp [List.getD, hit])⟩, rfl⟩, fun j v hj => ?_⟩
    · simp only [execOp, hv, hy1]
      simp [Instr.indexAt, run_underlying hu, asIntOf, Instr.sureAddr, hi, hs, Addr.add_lit]
    · cases j with
      | zero =>
        simp at hj
        subst hj
        have := hp (i.toNat) (.int kk (l.getD i.toNat 0)) (by rw [List.getElem?_append_left (by simpa using hit)]; simp [List.getD, hit])
        simpa using this
      | succ j => simp at hj
theorem IA {α : Type _} (l : List α) (i : Nat) (v : α) (h : i < l.length) : l.set i v = l.take i ++ v :: l.drop (i + 1) := by
  rw [List.set_eq_take_append_cons_drop, if_pos h]

theorem Ib {T T0 : TypeId} {x y : Operand} {p : Value} {k n : Nat} {V : VP} (pre post : List Ck) (ck ck' : Ck) (off : Nat) (hs : ∀ w, (sizeOf T).run P w = .ok n w)
    (hx : A3 G N x (BH p k)) (hy : A3 G N y V) (hk : k = lens pre + off)
    (hv : ∀ Φ cs v, ck.rel Φ cs → V.p Φ v → v.cells.size = n ∧ (∀ u ∈ v.cells.toList, u.oneCell' = true) ∧ off + n ≤ cs.length ∧ ck'.rel Φ (cs.take off ++ v.cells.toList ++ cs.drop (off + n))) :
    Bu P G ⟨none, .store T x y, ty, pos, af, gd⟩ N [.res (lb p T0 (pre ++ [ck] ++ post))] (fun _ => [.res (lb p T0 (pre ++ [ck'] ++ post))]) := by
  intro Φ a w fN fC h1 h2 h3 h4 h5 h6 h7 K Q hK
  match fC, h4 with
  | [f], ⟨⟨b, cs, hp, hf, hb, hL, hn⟩, _⟩ =>
    subst hf
    obtain ⟨b', hp', hv'⟩ := hx Φ a w fN h2 h3
    have : b' = b := by rw [hp] at hp'; simpa using hp'.symm
    subst this
    obtain ⟨xs, ys, zs, rfl, q1, q2, q3, q4⟩ := Kj hL
    obtain ⟨s1, s2, s3, s4⟩ := hv Φ ys _ q2 (hy Φ a w fN h2 h3)
    have hlen : (a.eval y).cells.toList.length = n := by simpa using s1
    obtain ⟨w', r1, r2, r3, r4, r5, r6, r7⟩ := Ei (P := P) (b := b') (k := k) (a.eval y).cells.toList 0 w (xs ++ ys ++ zs) hb (by
      simp only [List.length_append] at *; omega) s2
    have hblk : w'.heap[b']? = some (.cells (xs ++ (ys.take off ++ (a.eval y).cells.toList ++ ys.drop (off + n)) ++ zs).toArray T0 (0, 0)) := by
      rw [r2]
      congr 3
      have e1 : (xs ++ ys ++ zs).take (k + 0) = xs ++ ys.take off := by
        rw [Nat.add_zero, hk, ← q1, List.append_assoc, List.take_length_add_append, List.take_append_of_le_length (by omega)]
      have e2 : (xs ++ ys ++ zs).drop (k + 0 + (a.eval y).cells.toList.length) = ys.drop (off + n) ++ zs := by
        rw [Nat.add_zero, hk, ← q1, hlen, Nat.add_assoc, List.append_assoc, List.drop_length_add_append, List.drop_append_of_le_length (by omega)]
      rw [e1, e2]
      simp
    have hrun : (execOp a.eval ⟨none, .store T x y, ty, pos, af, gd⟩).run P w = .ok .skip w' := by
      have hsz : ¬ (a.eval y).cells.size ≠ n := by simp [s1]
      simp only [execOp, hv', Instr.storeAt, Instr.sureAddr, storeVar, Sem.run_bind, Sem.run_pure, Result.andThen_ok, hs]
      simp only [if_neg hsz]
      simp [r1]
    unfold Oper.wp
    rw [hrun, Oper.upon_skip]
    refine hK undef w' Φ [[b']] ⟨r5, r6, r7, Nat.le_of_eq r4.symm, fun c hc' hne => r3 c (fun e => hne (by simp [e])), BC.le_refl _, fun _ _ _ => rfl⟩
      ⟨fun c o v e => by rw [r4]; exact h1.lt c o v e, fun c o v e => ?_⟩ ⟨⟨b', _, hp, rfl, hblk, (q3.append (M := [ck']) ⟨_, [], (List.append_nil _).symm, s4, rfl⟩).append q4, hn⟩, trivial⟩ (by simp) (fun c hc' => ?_)
    · have hne : c ≠ b' := fun e' => by rw [e', hn o] at e; cases e
      exact (World.cell?_of_block (w := w) (r3 c hne)).trans (h1.cell c o v e)
    · simp at hc'
      subst hc'
      have := h6 c (by simp)
      exact ⟨by rw [r4]; exact this, .inl (by simp)⟩
def Dz (m : Int) : UInt8 := UInt8.ofNat m.toNat
theorem Is {m : Int} (h : CH .u8 m) : Dc (Dz m) = .int .u8 m := by
  simp only [CH, IntKind.min, IntKind.max, IntKind.bits, IntKind.signed] at h
  simp at h
  unfold Dc Dz
  congr 1
  have h1 : m.toNat < 256 := by omega
  have h2 : (UInt8.ofNat m.toNat).toNat = m.toNat := by simp; omega
  omega
theorem Du {T T0 : TypeId} {x y : Operand} {p : Value} {k n : Nat} {l : List UInt8} {i m : Int} (pre post : List Ck) (hs : ∀ w, (sizeOf T).run P w = .ok 1 w)
    (hx : A3 G N x (BH p k)) (hy : A3 G N y (Ab .u8 m)) (hk : k = lens pre + i.toNat * 1) (hi : 0 ≤ i ∧ i < n) :
    Bu P G ⟨none, .store T x y, ty, pos, af, gd⟩ N [.res (lb p T0 (pre ++ [Af n l] ++ post))] (fun _ => [.res (lb p T0 (pre ++ [Af n (l.set i.toNat (Dz m))] ++ post))]) :=
  Ib pre post _ _ (i.toNat * 1) hs hx hy hk (by
    rintro Φ cs v ⟨hl, rfl⟩ ⟨rfl, hm⟩
    have hit : i.toNat < l.length := by omega
    refine ⟨rfl, by simp [Value.cells, Value.oneCell'], by rw [List.length_map]; omega, by simpa using hl, ?_⟩
    rw [IA _ _ _ hit]
    simp [Value.cells, Is hm])
theorem GS {t e : TypeId} {x y : Operand} {ki : IntKind} {l : List UInt8} {n : Nat} {i : Int} (hu : P.underlying t = some (.array n e)) (hs : ∀ w, (sizeOf e).run P w = .ok 1 w) (ha : ∀ w, (isAgg e).run P w = .ok false w)
    (hx : A3 G N x (Cs [Af n l])) (hy : A3 G N y (Ab ki i)) (hi : 0 ≤ i ∧ i < n) : Bu P G ⟨some d, .index t x y, ty, pos, af, gd⟩ N [] (fun _ => [.slot d (Ab .u8 (l.getD i.toNat 0).toNat)]) :=
  Bu.val fun Φ a w f _ hG hN => by
    obtain ⟨hy1, _⟩ := hy Φ a w f hG hN
    obtain ⟨cs, hv, ys, zs, rfl, ⟨hl, rfl⟩, hz⟩ := hx Φ a w f hG hN
    have hz : zs = [] := hz
    subst hz
    have hit : i.toNat < l.length := by omega
    refine ⟨Dc (l.getD i.toNat 0), ?_, rfl, FM _⟩
    simp only [execOp, hv, hy1]
    simp [Instr.index, asIntOf, run_underlying hu, hi, hs, part, ha, hit]

def Mp (p : Value) (nn : Bool) : Prop := if nn then ∃ a, p = .pointer (some a) else p = .pointer none
def KH (p : Value) (nn : Bool) : VP := ⟨fun _ v => v = p ∧ Mp p nn, fun _ h => h⟩
theorem JZ {t e : TypeId} {p : Value} {nn : Bool} (hu : P.underlying t = some (.pointer e)) : Hz P .eql t (KH p nn) (A4 (.pointer none)) (Ak (!nn)) := by
  rintro Φ u v w x y ⟨rfl, hp⟩ hv
  have hv : v = .pointer none := hv
  subst hv
  refine ⟨.bool (!nn), ?_, rfl⟩
  have hu' : P.underlying t = some (.pointer (P.pointee t)) := by rw [hu]; simp [Program.pointee, hu]
  cases nn with
  | true => obtain ⟨q, rfl⟩ := hp; simp [eqGuard_at_pointer, run_eql_pointer_nil w t (some q) hu']
  | false =>
    have hp : u = .pointer none := hp
    subst hp
    simp [eqGuard_at_pointer, run_eql_pointer_nil w t none hu']
end ops

end
section
open Go Go.RowKit

section rets
variable {P : Program} {c : Cx} {l : List BX} {a : Act} {w : World}

def Ka (tmps : Array Value) : ResultVar → Sem Value
  | .tmp t => pure (tmps.getD t undef)
  | .cell x t => do loadVar t (← asAddr (tmps.getD x undef))
theorem EA (fn : Func) (tmps : Array Value) : results fn tmps = (fn.results.mapM (Ka tmps) >>= fun vs => pure (if h : vs.size = 1 then vs[0] else .tuple vs)) := rfl
def L5 (P : Program) (c : Cx) (l : List BX) (r : ResultVar) (V : VP) : Prop := ∀ (a : Act) (w : World) (Φ : BC) (fp : Nat → List Nat), H3 c (BB .none l) (fun i => i < l.length) a w Φ fp →
  ∃ v, (Ka a.tmps r).run P w = .ok v w ∧ V.p Φ v
theorem By {t : Nat} {V : VP} (i : Nat) (he : BB .none l i = .slot t V) : L5 P c l (.tmp t) V := by
  intro a w Φ fp h
  have hi := Dv he (by simp)
  have := h.holds i hi
  rw [he] at this
  obtain ⟨_, v, hv, hV⟩ := this
  exact ⟨v, by simp [Ka, hv], hV⟩
def J4 (P : Program) (c : Cx) (l : List BX) : List ResultVar → List VP → Prop
  | [], [] => True
  | r :: rs, V :: Vs => L5 P c l r V ∧ J4 P c l rs Vs
  | _, _ => False

theorem Jn {Φ : BC} {fp : Nat → List Nat} (h : H3 c (BB .none l) (fun i => i < l.length) a w Φ fp) : ∀ {rs : List ResultVar} {Vs : List VP}, J4 P c l rs Vs →
    ∃ vs : List Value, (rs.mapM (Ka a.tmps)).run P w = .ok vs w ∧ DD Φ Vs vs
  | [], [], _ => ⟨[], rfl, trivial⟩
  | r :: rs, V :: Vs, hr => by
    obtain ⟨v, h1, h2⟩ := hr.1 a w Φ fp h
    obtain ⟨vs, h3, h4⟩ := Jn h hr.2
    refine ⟨v :: vs, ?_, h2, h4⟩
    simp only [List.mapM_cons, Sem.run_bind, h1, Result.andThen_ok, h3]
    rfl
  | [], _ :: _, h => h.elim
  | _ :: _, [], h => h.elim

theorem H3.K4 {Φ : BC} {fp : Nat → List Nat} (h : H3 c (BB .none l) (fun i => i < l.length) a w Φ fp) (js : List Nat) (hd : distinct js = true) (hlt : ∀ j ∈ js, j < l.length) (Rs : List RP) (hR : Rs.map .res = js.map (BB .none l)) :
    ∃ fs, EK Φ w Rs fs ∧ fs.flatten.Nodup ∧ ∀ b ∈ fs.flatten, b < w.heap.size ∧ (b ∈ c.F0 ∨ c.w0.heap.size ≤ b) := by
  have hnd := C8 hd
  refine ⟨js.map fp, ?_, DZ hnd (fun r hr => (h.own r (hlt r hr)).1) (fun r hr s hs hne => h.apart r s (hlt r hr) (hlt s hs) hne), fun b hb => ?_⟩
  · have h1 : BW Φ a.tmps w (js.map (BB .none l)) (js.map fp) := BW.of_map _ _ _ fun r hr => h.holds r (hlt r hr)
    rw [← hR] at h1
    exact h1.Ic
  · obtain ⟨s, hs, hbs⟩ := List.mem_flatten.1 hb
    obtain ⟨r, hr, rfl⟩ := List.mem_map.1 hs
    exact (h.own r (hlt r hr)).2 b hbs

theorem Ci {fn : Func} {r : ResultVar} {V : VP} (h : AX c l a w) (hr : fn.results = #[r]) (hV : L5 P c l r V) (js : List Nat) (Rs : List RP) (hd : distinct js = true) (hlt : (js.all fun j => decide (j < l.length)) = true) (hR : Rs.map .res = js.map (BB .none l)) :
    DW P fn c V (fun _ => Rs) a w := by
  obtain ⟨Φ, fp, h⟩ := h
  obtain ⟨v, h1, h2⟩ := hV a w Φ fp h
  obtain ⟨fs, q1, q2, q3⟩ := h.K4 js hd (fun j hj => by simpa using (List.all_eq_true.1 hlt) j hj) Rs hR
  refine ⟨h.defers, v, Φ, fs, ?_, h.step, h.HG, h2, q1, q2, q3⟩
  rw [EA, hr]
  simp [h1]
theorem GR {fn : Func} {rs : List ResultVar} {Vs : List VP} (h : AX c l a w) (hr : fn.results = rs.toArray) (hn : rs.length ≠ 1) (hV : J4 P c l rs Vs) (js : List Nat) (Rs : List RP) (hd : distinct js = true) (hlt : (js.all fun j => decide (j < l.length)) = true) (hR : Rs.map .res = js.map (BB .none l)) :
    DW P fn c (Di Vs) (fun _ => Rs) a w := by
  obtain ⟨Φ, fp, h⟩ := h
  obtain ⟨vs, h1, h2⟩ := Jn h hV
  obtain ⟨fs, q1, q2, q3⟩ := h.K4 js hd (fun j hj => by simpa using (List.all_eq_true.1 hlt) j hj) Rs hR
  have hlen : vs.length = rs.length := by
    have e1 := h2.length
    have e2 : ∀ {rs : List ResultVar} {Vs : List VP}, J4 P c l rs Vs → rs.length = Vs.length := by
      intro rs
      induction rs with
      | nil => intro Vs h; cases Vs <;> simp_all [J4]
      | cons r rs ih => intro Vs h; cases Vs with
                                    | nil => exact h.elim
                                    | cons V Vs => simp [ih h.2]
    rw [e1, e2 hV]
  refine ⟨h.defers, .tuple vs.toArray, Φ, fs, ?_, h.step, h.HG, ⟨vs, rfl, h2⟩, q1, q2, q3⟩
  rw [EA, hr]
  simp only [List.mapM_toArray, Sem.run_bind, Sem.run_map, h1, Result.andThen_ok]
  rw [dif_neg (by simp [hlen, hn])]
  rfl
end rets

def acc {α : Type} (v : Value) (T : TypeId) (sz : Nat) (c : α → List Ck) (xs : List α) : RP := ⟨fun Φ f w => xs.length ≤ Cp ∧ ((v = .slice none 0 0 ∧ xs = [] ∧ f = []) ∨
    ∃ b cap cs zs, v = .slice (some ⟨b, 0, none⟩) xs.length cap ∧ f = [b] ∧ w.heap[b]? = some (.cells (cs ++ zs).toArray T (0, 0)) ∧ Cl Φ c cs xs ∧ (cs ++ zs).length = cap * sz ∧ xs.length ≤ cap ∧ DN Φ b 0 cs ∧ ∀ o, cs.length ≤ o → Φ b o = none), by
  rintro Φ Φ' f w w' hle hs hb ⟨hm, ⟨h1, h2, h3⟩ | ⟨b, cap, cs, zs, h1, h2, h3, h4, h5, h6, h7, h8⟩⟩
  · exact ⟨hm, .inl ⟨h1, h2, h3⟩⟩
  · refine ⟨hm, .inr ⟨b, cap, cs, zs, h1, h2, ?_, h4.mono hle, h5, h6, h7.mono hle, fun o ho => ?_⟩⟩
    · rw [hb b (by simp [h2])]; exact h3
    · rw [hs b (by simp [h2])]; exact h8 o ho⟩

theorem GQ (z : Array Value) (n : Nat) : (Builtin.zeroCells z n).toList.length = n * z.size := by simp [Builtin.zeroCells]

section ops
variable {P : Program} {G : FP} {N : List BX} {d : Nat} {ty : TypeId} {pos : String} {af : Array Edge} {gd : Option (Nat × Bool)}

theorem J3 {α : Type} {v : Value} {T : TypeId} {sz : Nat} {c : α → List Ck} {xs : List α} {Φ : BC} {f : List Nat} {w : World} (h : (acc v T sz c xs).p Φ f w) : (Ah c xs).p Φ v := by
  obtain ⟨hm, ⟨h1, h2, _⟩ | ⟨b, cap, cs, zs, h1, _, _, h4, _, h6, h7, _⟩⟩ := h
  · exact ⟨hm, .inl ⟨h1, h2⟩⟩
  · exact ⟨hm, .inr (.inl ⟨b, 0, cap, cs, h1, h6, h4, h7⟩)⟩
theorem IE {α : Type} {v : Value} {T : TypeId} {sz : Nat} {c : α → List Ck} {xs : List α} {t : Nat} (i j : Nat) (he : BB .none N i = .slot t (A4 v)) (hf : BB .none N j = .res (acc v T sz c xs)) : A3 G N (.tmp t) (Ah c xs) := by
  intro Φ a w f _ hN
  have hi := Dv he (by simp)
  obtain ⟨g, hg, _⟩ := hN.nth i hi
  rw [he] at hg
  obtain ⟨_, u, hu, hV⟩ := hg
  have hV : u = v := hV
  subst hV
  obtain ⟨g', hr⟩ := hN.res j hf
  have := J3 hr
  simpa [Act.eval, hu] using this
end ops

end
section
open Go Go.RowKit

structure Src (P : Program) (w : World) (sT xT ty e : TypeId) (i : TypeInfo) (z : Value) (u : Value) (n : Nat) (ds : List Value) : Prop where
  room : ∀ (g sLen sCap : Nat) (cur : Array Value), w.heap[g]? = some (.cells cur e (0, 0)) → sLen + n ≤ sCap → sLen * i.size + ds.length ≤ cur.size →
    (Builtin.append_ #[sT, xT] ty #[.slice (some ⟨g, 0, none⟩) sLen sCap, u]).run P w = .ok (.slice (some ⟨g, 0, none⟩) (sLen + n) sCap) (w.setRow g (cur.toList.take (sLen * i.size) ++ ds ++ cur.toList.drop (sLen * i.size + ds.length)).toArray)
  grow : ∀ (b : Addr) (sLen sCap : Nat) (olds : List Value), olds.length = sLen * i.size → (∀ j v, olds[j]? = some v → w.cell? (b.add j) = some v) → sLen ≤ sCap → sCap < sLen + n → ((sLen + n : Nat) : Int) ≤ 9223372036854775807 → Builtin.nextslicecap (sLen + n) sCap * i.bytes ≤ 281474976710656 →
    (Builtin.append_ #[sT, xT] ty #[.slice (some b) sLen sCap, u]).run P w = .ok (.slice (some ⟨w.heap.size, 0, none⟩) (sLen + n) (grownCap w (sLen + n) sCap e)) (w.drew.alloc (.cells (olds.toArray ++ ds.toArray ++ Builtin.zeroCells z.cells (grownCap w (sLen + n) sCap e - (sLen + n))) e))
  fresh : 0 < n → (n : Int) ≤ 9223372036854775807 → n * i.bytes ≤ 281474976710656 →
    (Builtin.append_ #[sT, xT] ty #[.slice none 0 0, u]).run P w = .ok (.slice (some ⟨w.heap.size, 0, none⟩) n (grownCap w n 0 e)) (w.drew.alloc (.cells (ds.toArray ++ Builtin.zeroCells z.cells (grownCap w n 0 e - n)) e))
  idle : n = 0 → (Builtin.append_ #[sT, xT] ty #[.slice none 0 0, u]).run P w = .ok (.slice none 0 0) w

section
variable {P : Program} {w : World} {sT xT ty e : TypeId} {i : TypeInfo} {z : Value}
theorem Src.slice {a : Addr} {n cap : Nat} {ds : List Value} (ht : P.underlying sT = some (.slice e)) (hi : P.info? e = some i) (hz : i.zero = some z) (hl : ds.length = n * i.size) (hd : ∀ j v, ds[j]? = some v → w.cell? (a.add j) = some v) (h1 : ∀ v ∈ ds, v.oneCell' = true) :
    Src P w sT sT ty e i z (.slice (some a) n cap) n ds where
  room g sLen sCap cur hg hr hf := run_append_room w sT ty e i ht hi g sLen sCap cur hg a n cap ds hl hd h1 hr hf
  grow b sLen sCap olds ho hoc _ hc h63 hfit := run_append_grow w sT ty e i z ht hi hz b sLen sCap olds ho hoc a n cap ds hl hd hc h63 hfit
  fresh h0 h63 h48 := run_append_nil w sT ty e i z ht hi hz a n cap ds hl hd h0 h63 h48
  idle h0 := by
    subst h0
    simp [Builtin.append_, run_underlying ht, sizeOf, typeInfo, hi, Builtin.lenOf, Builtin.firstCells, loadCells, loadCellsFrom]
theorem Src.nil (ht : P.underlying sT = some (.slice e)) (hi : P.info? e = some i) : Src P w sT sT ty e i z (.slice none 0 0) 0 [] where
  room g sLen sCap cur hg hr hf := by
    simp only [Nat.add_zero] at hr ⊢
    have hrow : w.setRow g (cur.toList.take (sLen * i.size) ++ [] ++ cur.toList.drop (sLen * i.size + ([] : List Value).length)).toArray = w := by
      have e1 : (cur.toList.take (sLen * i.size) ++ [] ++ cur.toList.drop (sLen * i.size + ([] : List Value).length)).toArray = cur := by simp
      rw [e1]
      exact setRow_self w g cur e _ hg
    rw [hrow]
    simp [Builtin.append_, run_underlying ht, sizeOf, typeInfo, hi, Builtin.lenOf, Builtin.firstCells, hr, storeCells]
  grow b sLen sCap olds _ _ h1 h2 := by omega
  fresh h0 := by omega
  idle _ := by simp [Builtin.append_, run_underlying ht, sizeOf, typeInfo, hi, Builtin.lenOf, Builtin.firstCells]
theorem Src.string {l : List UInt8} (ht : P.underlying sT = some (.slice e)) (hx : P.underlying xT = some .string) (hi : P.info? e = some i) (hz : i.zero = some z) (h1 : i.size = 1) (hb : i.bytes = 1) : Src P w sT xT ty e i z (.string ⟨l.toArray⟩) l.length (l.map Dc) where
  room g sLen sCap cur hg hr hf := by
    have := Lib.run_append_room_string (P := P) w sT xT ty e i ht hx hi h1 g sLen sCap cur hg ⟨l.toArray⟩ (by rw [Cw]; exact hr) (by rw [Cw]; rw [h1, Nat.mul_one, List.length_map] at hf; exact hf)
    rw [Cw] at this
    rw [this, h1]
    simp [Lib.strCells, Dc, Function.comp_def]
    rfl
  grow b sLen sCap olds ho hoc _ hc h63 hfit := by
    have := Lib.run_append_grow_string (P := P) w sT xT ty e i z ht hx hi hz b sLen sCap olds ho hoc ⟨l.toArray⟩ (by rw [Cw]; exact hc) (by rw [Cw]; exact h63) (by rw [Cw]; exact hfit)
    rw [Cw] at this
    rw [this]
    simp [Lib.strCells, Dc, Function.comp_def]
    rfl
  fresh h0 h63 h48 := by
    have := run_append_nil_string (P := P) w sT xT ty e i z ht hx hi hz ⟨l.toArray⟩ (by rw [Cw]; exact h0) (by rw [Cw]; exact h63) (by rw [Cw]; exact h48)
    rw [Cw] at this
    rw [this]
    simp [Dc, Function.comp_def]
    rfl
  idle h0 := by
    have : l = [] := List.eq_nil_of_length_eq_zero h0
    subst this
    simp [Builtin.append_, run_underlying ht, run_underlying hx, sizeOf, typeInfo, hi, Builtin.lenOf, Builtin.firstCells, Cw]
end

theorem It {α : Type} {P : Program} {w : World} {sT xT ty e : TypeId} {i : TypeInfo} {z : Value} {u v : Value} {c : α → List Ck} {xs ys : List α} {ds : List Value} {Φ : BC} {f : List Nat} (hS : Src P w sT xT ty e i z u ys.length ds) (hsz : ∀ x, lens (c x) = i.size) (hpos : 0 < i.size) (hzs : z.cells.size = i.size)
    (hP : CR Φ w) (hf : ∀ b ∈ f, b < w.heap.size) (h : (acc v e i.size c xs).p Φ f w) (hA : Cl Φ c ds ys) (hm : xs.length + ys.length ≤ Cp) (hb : (xs.length + ys.length) * i.bytes ≤ 140737488355328) :
    ∃ (v' : Value) (w' : World) (Φ' : BC) (f' : List Nat), (Builtin.append_ #[sT, xT] ty #[v, u]).run P w = .ok v' w' ∧ (acc v' e i.size c (xs ++ ys)).p Φ' f' w' ∧ Step w Φ f w' Φ' ∧ CR Φ' w' ∧ f'.Nodup ∧ ∀ b ∈ f', b < w'.heap.size ∧ (b ∈ f ∨ w.heap.size ≤ b) := by
  have hdl : ds.length = ys.length * i.size := hA.len hsz
  have h63 : ((xs.length + ys.length : Nat) : Int) ≤ 9223372036854775807 := by have := (EG hm).2; simp [IntKind.max, IntKind.bits, IntKind.signed] at this; omega
  -- a new block
  have hnew : ∀ (cs : List Value) (cap : Nat) (v0 : Value), Cl Φ c cs xs → xs.length + ys.length ≤ cap → v0 = .slice (some ⟨w.heap.size, 0, none⟩) (xs.length + ys.length) cap →
      ∀ w', w' = w.drew.alloc (.cells (cs.toArray ++ ds.toArray ++ Builtin.zeroCells z.cells (cap - (xs.length + ys.length))) e) →
      (Builtin.append_ #[sT, xT] ty #[v, u]).run P w = .ok v0 w' →
      ∃ (v' : Value) (w' : World) (Φ' : BC) (f' : List Nat), (Builtin.append_ #[sT, xT] ty #[v, u]).run P w = .ok v' w' ∧ (acc v' e i.size c (xs ++ ys)).p Φ' f' w' ∧ Step w Φ f w' Φ' ∧ CR Φ' w' ∧ f'.Nodup ∧ ∀ b ∈ f', b < w'.heap.size ∧ (b ∈ f ∨ w.heap.size ≤ b) := by
    intro cs cap v0 hcs hcap hv w' hw hr
    subst hw
    let Φ' : BC := fun b o => if b = w.heap.size then (cs ++ ds)[o]? else Φ b o
    have hle : BC.le Φ Φ' := fun b o v e => by
      have := hP.lt b o v e
      simp only [Φ', if_neg (by omega : ¬ b = w.heap.size)]
      exact e
    refine ⟨v0, _, Φ', [w.heap.size], hr, ⟨by simpa using hm, .inr ⟨w.heap.size, cap, cs ++ ds, (Builtin.zeroCells z.cells (cap - (xs.length + ys.length))).toList, by rw [hv]; simp, rfl, ?_, (hcs.append hA).mono hle, ?_, by simpa using hcap, fun j v hj => ?_, fun o ho => ?_⟩⟩, ?_, ⟨fun b o v e => ?_, fun b o v e => ?_⟩, by simp, by simp⟩
    · rw [show w.heap.size = w.drew.heap.size from rfl, heap_alloc_new]
      congr 2
      apply Array.ext'
      simp
    · have h1 := hcs.len hsz
      simp only [List.length_append, h1, hdl, GQ, hzs]
      rw [← Nat.add_mul, ← Nat.add_mul]
      congr 1
      omega
    · simp only [Φ', if_pos trivial, Nat.zero_add]; exact hj
    · simp only [Φ', if_pos trivial]
      exact List.getElem?_eq_none ho
    · exact ⟨rfl, rfl, rfl, by simp, fun b hb _ => @Go.heap_alloc_old w.drew _ b hb, hle, fun b hb _ => by funext o; simp only [Φ', if_neg (by omega : ¬ b = w.heap.size)]⟩
    · by_cases hbb : b = w.heap.size
      · simp [hbb]
      · simp only [Φ', if_neg hbb] at e
        have := hP.lt b o v e
        simp; omega
    · by_cases hbb : b = w.heap.size
      · subst hbb
        simp only [Φ', if_pos trivial] at e
        rw [show w.heap.size = w.drew.heap.size from rfl, World.cell?_alloc_new]
        have hlt : o < (cs ++ ds).length := by
          rcases Nat.lt_or_ge o (cs ++ ds).length with q | q
          · exact q
          · rw [List.getElem?_eq_none q] at e; cases e
        rw [Array.getElem?_append_left (by simpa using hlt)]
        simpa using e
      · simp only [Φ', if_neg hbb] at e
        rw [World.cell?_alloc_lt _ _ _ (show b < w.drew.heap.size from hP.lt b o v e)]
        exact hP.cell b o v e
  obtain ⟨hm0, ⟨rfl, rfl, rfl⟩ | ⟨b, cap, cs, zs, rfl, rfl, hblk, hcs, hlen, hcap, hpub, hfree⟩⟩ := h
  · by_cases h0 : ys.length = 0
    · have hy : ys = [] := List.eq_nil_of_length_eq_zero h0
      subst hy
      exact ⟨.slice none 0 0, w, Φ, [], hS.idle rfl, ⟨by simp [Cp], .inl ⟨rfl, rfl, rfl⟩⟩, Step.refl _ _ _, hP, List.nodup_nil, by simp⟩
    · have hr := hS.fresh (by omega) (by simpa using h63) (by simp at hb; omega)
      refine hnew [] (grownCap w ys.length 0 e) _ rfl ?_ (by simp) _ ?_ hr
      · have := grownCap_ge w ys.length 0 e; simpa using this
      · simp
  · have hcl := hcs.len hsz
    by_cases hroom : xs.length + ys.length ≤ cap
    · have hfit : xs.length * i.size + ds.length ≤ (cs ++ zs).toArray.size := by
        simp only [List.size_toArray, hlen, hdl, ← Nat.add_mul]
        exact Nat.mul_le_mul_right _ hroom
      have hr := hS.room b xs.length cap (cs ++ zs).toArray hblk hroom hfit
      have hrow : ((cs ++ zs).toArray.toList.take (xs.length * i.size) ++ ds ++ (cs ++ zs).toArray.toList.drop (xs.length * i.size + ds.length)) = cs ++ ds ++ zs.drop ds.length := by
        simp only [← hcl]
        rw [List.take_left, List.drop_length_add_append]
      rw [hrow] at hr
      let Φ' : BC := fun b' o => if b' = b then (cs ++ ds)[o]? else Φ b' o
      have hle : BC.le Φ Φ' := fun b' o v' e' => by
        by_cases hbb : b' = b
        · subst hbb
          simp only [Φ', if_pos trivial]
          rcases Nat.lt_or_ge o cs.length with q | q
          · have := hpub o cs[o] (by simp [q])
            rw [Nat.zero_add, e'] at this
            rw [List.getElem?_append_left q, List.getElem?_eq_getElem q]
            exact this.symm
          · rw [hfree o q] at e'; cases e'
        · simp only [Φ', if_neg hbb]; exact e'
      have hb0 := hf b (by simp)
      have hnb : (w.setRow b (cs ++ ds ++ zs.drop ds.length).toArray).heap[b]? = some (.cells (cs ++ ds ++ zs.drop ds.length).toArray e (0, 0)) := setRow_heap w b _ _ e _ hblk
      refine ⟨_, _, Φ', [b], hr, ⟨by simpa using hm, .inr ⟨b, cap, cs ++ ds, zs.drop ds.length, by simp, rfl, hnb, (hcs.append hA).mono hle, ?_, by simpa using hroom, fun j v hj => ?_, fun o ho => ?_⟩⟩, ?_, ⟨fun b' o v' e' => ?_, fun b' o v' e' => ?_⟩, by simp, by simpa using hb0⟩
      · simp only [List.length_append, List.length_drop] at hlen ⊢
        have : (xs.length + ys.length) * i.size ≤ cap * i.size := Nat.mul_le_mul_right _ hroom
        rw [Nat.add_mul] at this
        omega
      · simp only [Φ', if_pos trivial, Nat.zero_add]; exact hj
      · simp only [Φ', if_pos trivial]
        exact List.getElem?_eq_none ho
      · exact ⟨rfl, rfl, rfl, by simp, fun b' hb' hne => setRow_other w b b' _ (by simpa using hne), hle, fun b' hb' hne => by funext o; simp only [Φ', if_neg (by simpa using hne : ¬ b' = b)]⟩
      · rw [setRow_size]
        by_cases hbb : b' = b
        · rw [hbb]; exact hb0
        · simp only [Φ', if_neg hbb] at e'
          exact hP.lt b' o v' e'
      · by_cases hbb : b' = b
        · subst hbb
          simp only [Φ', if_pos trivial] at e'
          rw [cell_of hnb]
          have hlt : o < (cs ++ ds).length := by
            rcases Nat.lt_or_ge o (cs ++ ds).length with q | q
            · exact q
            · rw [List.getElem?_eq_none q] at e'; cases e'
          rw [List.getElem?_append_left hlt]
          exact e'
        · simp only [Φ', if_neg hbb] at e'
          exact (World.cell?_of_block (w := w) (setRow_other w b b' _ hbb)).trans (hP.cell b' o v' e')
    · have hr := hS.grow ⟨b, 0, none⟩ xs.length cap cs hcl (fun j v hj => by rw [Addr.add_lit]; exact hP.cell _ _ _ (hpub j v hj)) hcap (by omega) h63 (growslice_fits (by omega) hb)
      refine hnew cs (grownCap w (xs.length + ys.length) cap e) _ hcs (grownCap_ge w _ _ e) rfl _ rfl hr

section ops
variable {P : Program} {G : FP} {N : List BX} {d : Nat} {ty : TypeId} {pos : String} {af : Array Edge} {gd : Option (Nat × Bool)}

theorem FE {α : Type} {v : Value} {e sT xT : TypeId} {i : TypeInfo} {z : Value} {c : α → List Ck} {xs ys : List α} {s x : Operand} (hsz : ∀ x, lens (c x) = i.size) (hpos : 0 < i.size) (hzs : z.cells.size = i.size) (hs : A3 G N s (A4 v))
    (hx : ∀ (Φ : BC) (a : Act) (w : World) (f : List (List Nat)), CR Φ w → G.p Φ → BW Φ a.tmps w N f → ∃ ds, Src P w sT xT ty e i z (a.eval x) ys.length ds ∧ Cl Φ c ds ys) (hm : xs.length + ys.length ≤ Cp) (hb : (xs.length + ys.length) * i.bytes ≤ 140737488355328) :
    Bu P G ⟨some d, .call ⟨.builtin .append, #[s, x], #[sT, xT]⟩, ty, pos, af, gd⟩ N [.res (acc v e i.size c xs)] (fun v' => [.slot d (A4 v'), .res (acc v' e i.size c (xs ++ ys))]) := by
  intro Φ a w fN fC h1 h2 h3 h4 h5 h6 h7 K Q hK
  match fC, h4 with
  | [f], ⟨hacc, _⟩ =>
  obtain ⟨ds, hS, hA⟩ := hx Φ a w fN h1 h2 h3
  have hv : a.eval s = v := hs Φ a w fN h2 h3
  obtain ⟨v', w', Φ', f', hr, hacc', hst, hP', hnd, hfb⟩ := It hS hsz hpos hzs h1 (fun b hb => h6 b (by simp [hb])) hacc hA hm hb
  have hrun : (execOp a.eval ⟨some d, .call ⟨.builtin .append, #[s, x], #[sT, xT]⟩, ty, pos, af, gd⟩).run P w = .ok (.value v') w' := by
    simp only [execOp, resolve, List.map_toArray, List.map_cons, List.map_nil, hv, Sem.run_bind, Sem.run_pure, Result.andThen_ok, invoke, builtin, hr]
  unfold Oper.wp
  rw [hrun, Oper.upon_value]
  exact hK v' w' Φ' [[], f'] (by simpa using hst) hP' ⟨⟨rfl, v', C3 a v' d (h7 d rfl), rfl⟩, hacc', trivial⟩ (by simpa using hnd) (by simpa using hfb)

theorem G1 {α : Type} {v : Value} {e sT : TypeId} {i : TypeInfo} {z : Value} {c : α → List Ck} {xs ys : List α} {s x : Operand} (ht : P.underlying sT = some (.slice e)) (hi : P.info? e = some i) (hz : i.zero = some z) (hsz : ∀ x, lens (c x) = i.size) (hpos : 0 < i.size) (hzs : z.cells.size = i.size)
    (hs : A3 G N s (A4 v)) (hx : A3 G N x (Ah c ys)) (hb : xs.length + ys.length ≤ Cp ∧ (xs.length + ys.length) * i.bytes ≤ 140737488355328) :
    Bu P G ⟨some d, .call ⟨.builtin .append, #[s, x], #[sT, sT]⟩, ty, pos, af, gd⟩ N [.res (acc v e i.size c xs)] (fun v' => [.slot d (A4 v'), .res (acc v' e i.size c (xs ++ ys))]) :=
  FE hsz hpos hzs hs (fun Φ a w f hP hG hN => by
    obtain ⟨_, ⟨hv, rfl⟩ | ⟨b, o, cap, ds, hv, _, hA, hp⟩ | ⟨rfl, b, cap, hv⟩⟩ := hx Φ a w f hG hN
    · rw [hv]; exact ⟨[], Src.nil ht hi, rfl⟩
    rotate_left
    · rw [hv]; exact ⟨[], Src.slice ht hi hz (by simp) (fun j v hj => by simp at hj) (by simp), rfl⟩
    · rw [hv]; exact ⟨ds, Src.slice ht hi hz (hA.len hsz) (fun j v hj => by rw [Addr.add_lit]; exact hP.cell _ _ _ (hp j v hj)) hA.cell, hA⟩) hb.1 hb.2
def bC (b : UInt8) : List Ck := [one (Ab .u8 b.toNat)]
theorem Gm (b : UInt8) : lens (bC b) = 1 := rfl
theorem Ft (Φ : BC) : ∀ (l : List UInt8), Cl Φ bC (l.map Dc) l
  | [] => rfl
  | b :: l => ⟨[Dc b], l.map Dc, rfl, ⟨[_], [], rfl, ⟨_, rfl, rfl, rfl, FM b⟩, rfl⟩, Ft Φ l⟩
theorem Fe {v : Value} {e sT xT : TypeId} {i : TypeInfo} {z : Value} {xs l : List UInt8} {s x : Operand} (ht : P.underlying sT = some (.slice e)) (hxt : P.underlying xT = some .string) (hi : P.info? e = some i) (hz : i.zero = some z) (h1 : i.size = 1) (hb1 : i.bytes = 1) (hzs : z.cells.size = i.size)
    (hs : A3 G N s (A4 v)) (hx : A3 G N x (AJ l)) (hb : xs.length + l.length ≤ Cp ∧ (xs.length + l.length) * i.bytes ≤ 140737488355328) :
    Bu P G ⟨some d, .call ⟨.builtin .append, #[s, x], #[sT, xT]⟩, ty, pos, af, gd⟩ N [.res (acc v e i.size bC xs)] (fun v' => [.slot d (A4 v'), .res (acc v' e i.size bC (xs ++ l))]) :=
  FE (fun x => by rw [h1]; rfl) (by omega) hzs hs (fun Φ a w f hP hG hN => by
    obtain ⟨hv, _⟩ := hx Φ a w f hG hN
    rw [hv]; exact ⟨_, Src.string ht hxt hi hz h1 hb1, Ft Φ l⟩) hb.1 hb.2
end ops

end
section
open Go Go.RowKit

def DJ (n : Nat) (l : List BX) (gs : List GE) (own : List Nat) (ops : List FO) : Cn :=
  ⟨n, l.map .base ++ gs, l.map (fun _ => none) ++ own.map some, ops⟩

def GA (p : Cn) (ops : Array Oper) (draw : Bool) (gl : Nat) (ol : Nat) (ks : List Nat) : Bool :=
  p.check && (if draw then p.GN ops else p.checkSeq) && decide (p.ops.length = ops.size) && decide (gl = ol) && distinct ks &&
    (ks.all fun r => decide (r < p.E7.length) && (List.range p.ops.length).all fun k => !(p.op k).cons.contains r)

theorem Ew {P : Program} {c : Cx} {id n : Nat} {ops : Array Oper} {draw : Bool} {Q : Exit → Act → World → Prop} {a : Act} {w : World} {l : List BX} (gs : List GE) (own : List Nat) (refs : List FO) (ks : List Nat) {G : FP} (hm : P.follows .mixedOrders = true) (hn : c.n = n) (hG : c.G = G)
    (h : AX c l a w) (hc : GA (DJ n l gs own refs) ops draw gs.length own.length ks = true) (hops : (DJ n l gs own refs).Ok P G ops ops.toList 0)
    (hQ : ∀ (β : Nat → Value) (a : Act) (w : World), AX c (ks.map ((DJ n l gs own refs).E β)) a w → Q .normal a w) : (Code.region id ops draw).wp P Q a w := by
  subst hG
  simp only [GA, Bool.and_eq_true, decide_eq_true_eq] at hc
  obtain ⟨⟨⟨⟨⟨hc1, hc2⟩, hc3⟩, hc4⟩, hc5⟩, hc6⟩ := hc
  have hs : Sat c ((DJ n l gs own refs).E fun _ => undef) ((DJ n l gs own refs).alive fun _ => False) a w := by
    refine h.Ms _ (fun r hr ho => ?_) (fun r hr => ?_)
    · rcases Nat.lt_or_ge r l.length with q | q
      · exact q
      · exfalso
        simp only [Cn.owner, DJ] at ho
        rw [B8] at ho
        simp only [List.length_map, if_neg (by omega : ¬ r < l.length)] at ho
        have hr' : r - l.length < own.length := by
          simp [DJ] at hr
          omega
        rw [FG 0 none some own _ hr'] at ho
        cases ho
    · simp only [Cn.E, DJ]
      rw [B8, if_pos (by simpa using hr), FG .none _ _ _ _ hr]
      rfl
  have hQ' : ∀ a w β, Sat c ((DJ n l gs own refs).E β) ((DJ n l gs own refs).alive fun k => k < (DJ n l gs own refs).ops.length) a w → Q .normal a w :=
    fun a w β hk => hQ β a w (Sat.K9 hk hc1 ks hc5 hc6)
  cases draw with
  | true => exact Ig _ hm hn.symm hc1 (by simpa using hc2) hc3 hops hs hQ'
  | false => exact Ie _ hn.symm hc1 (by simpa using hc2) hc3 hops hs hQ'

end
section
open Go Go.RowKit

theorem A1 {α : Type} {c : Prop} [Decidable c] {x : Option α} {r : α} (h : (if c then x else none) = some r) : c ∧ x = some r := by
  by_cases hc : c
  · rw [if_pos hc] at h; exact ⟨hc, h⟩
  · rw [if_neg hc] at h; cases h
theorem bind_some {α β : Type} {x : Option α} {k : α → Option β} {r : β} (h : x.bind k = some r) : ∃ y, x = some y ∧ k y = some r := by
  cases x with
  | none => cases h
  | some y => exact ⟨y, rfl, h⟩
theorem Dp (i : Nat) : Exit.exit i ≠ Exit.normal := by intro h; cases h
theorem Gz : Exit.ret ≠ Exit.normal := by intro h; cases h

theorem AX.sub {c : Cx} {l : List BX} {a : Act} {w : World} (h : AX c l a w) (ks : List Nat) (hk : (distinct ks && ks.all fun k => decide (k < l.length)) = true) : AX c (ks.map (BB .none l)) a w := by
  simp only [Bool.and_eq_true] at hk
  have hnd := C8 hk.1
  have hlt : ∀ k ∈ ks, k < l.length := fun k hm => by simpa using (List.all_eq_true.1 hk.2) k hm
  refine Sat.pick h (fun i => BB 0 ks i) (fun i hi => ?_) (fun i hi => ?_) (fun i j hi hj hne e => ?_)
  · have hi : i < ks.length := by simpa using hi
    rw [CQ]
    simp only [List.getD, List.getElem?_eq_getElem hi, Option.getD_some]
    exact hlt _ (List.getElem_mem hi)
  · have hi : i < ks.length := by simpa using hi
    rw [FG 0 BX.none (BB .none l) ks i hi]
  · have hi : i < ks.length := by simpa using hi
    have hj : j < ks.length := by simpa using hj
    rw [CQ, CQ] at e
    simp only [List.getD, List.getElem?_eq_getElem hi, List.getElem?_eq_getElem hj, Option.getD_some] at e
    exact hne ((List.getElem_inj hnd).1 e)

theorem BW.snoc {Φ : BC} {tmps : Array Value} {w : World} : ∀ {C : List BX} {e : BX} {fC : List (List Nat)}, BW Φ tmps w (C ++ [e]) fC → ∃ gC f, fC = gC ++ [f] ∧ BW Φ tmps w C gC
  | [], e, [f], h => ⟨[], f, rfl, trivial⟩
  | [], e, [], h => h.elim
  | [], e, _ :: _ :: _, h => h.2.elim
  | c :: C, e, f :: fC, h => by
    obtain ⟨gC, g, rfl, h2⟩ := BW.snoc h.2
    exact ⟨f :: gC, g, rfl, h.1, h2⟩
  | _ :: _, _, [], h => h.elim
theorem Bh.drop {P : Program} {G : FP} {ops : Array Oper} {o : Oper} {N C : List BX} {Gv : Value → List BX} (e : BX) (h : Bh P G ops o N C Gv) : Bh P G ops o N (C ++ [e]) Gv := by
  intro Φ a w fN fC h1 h2 h3 h4 h5 h6 h7 K Q hK
  obtain ⟨gC, g, rfl, h4'⟩ := h4.snoc
  refine h Φ a w fN gC h1 h2 h3 h4' ?_ (fun b hb => h6 b ?_) h7 K Q fun v w' Φ' fG q1 q2 q3 q4 q5 => hK v w' Φ' fG (q1.LB fun b hb _ => by simp only [List.flatten_append]; exact List.mem_append.2 (.inl hb)) q2 q3 q4 fun b hb => ⟨(q5 b hb).1, (q5 b hb).2.imp (fun hm => by simp only [List.flatten_append]; exact List.mem_append.2 (.inl hm)) id⟩
  · simp only [List.flatten_append, ← List.append_assoc] at h5
    exact (List.nodup_append.1 h5).1
  · simp only [List.mem_append, List.flatten_append] at hb ⊢
    rcases hb with hb | hb
    · exact .inl hb
    · exact .inr (.inl hb)
theorem II {G : FP} {N : List BX} {α : Type} {c : α → List Ck} : A3 G N (.const (.slice none 0 0)) (Ah c []) := fun _ _ _ _ _ _ => ⟨by simp [Cp], .inl ⟨rfl, rfl⟩⟩
theorem KF {P : Program} {cx : Cx} {l : List BX} {α : Type} {c : α → List Ck} {t : Nat} (i : Nat) (h : BB .none l i = .slot t (A4 (.slice none 0 0))) : L5 P cx l (.tmp t) (Ah c []) := by
  intro a w Φ fp hs
  obtain ⟨v, h1, h2⟩ := By (P := P) (c := cx) i h a w Φ fp hs
  exact ⟨v, h1, by simp [Cp], .inl ⟨h2, rfl⟩⟩
def Fk (s : List UInt8) : List Ck := [one (AJ s)]
theorem DM (s : List UInt8) : lens (Fk s) = 1 := rfl

theorem EI (off : Nat) : ∀ (l : List Value) (k : Nat) (r : List Value), off + k + l.length ≤ r.length →
    (l.zipIdx k).foldl (fun (cs : Array Value) (p : Value × Nat) => cs.setIfInBounds (off + p.2) p.1) r.toArray = (r.take (off + k) ++ l ++ r.drop (off + k + l.length)).toArray
  | [], k, r, _ => by simp
  | v :: l, k, r, h => by
    simp only [List.length_cons] at h
    simp only [List.zipIdx_cons, List.foldl_cons, List.setIfInBounds_toArray]
    rw [EI off l (k + 1) (r.set (off + k) v) (by simp; omega)]
    congr 1
    rw [IA _ _ _ (by omega)]
    have hk : (r.take (off + k)).length = off + k := by rw [List.length_take]; omega
    have e1 : (r.take (off + k) ++ v :: r.drop (off + k + 1)).take (off + (k + 1)) = r.take (off + k) ++ [v] := by
      rw [List.take_append, hk, List.take_of_length_le (by omega), show off + (k + 1) - (off + k) = 1 by omega]
      rfl
    have e2 : (r.take (off + k) ++ v :: r.drop (off + k + 1)).drop (off + (k + 1) + l.length) = r.drop (off + k + (l.length + 1)) := by
      rw [List.drop_append, hk, List.drop_eq_nil_of_le (by omega), show off + (k + 1) + l.length - (off + k) = l.length + 1 by omega]
      simp only [List.nil_append, List.drop_succ_cons, List.drop_drop]
      congr 1; omega
    rw [e1, e2]
    simp

theorem HU (sz : Nat) : ∀ (vs : List Value) (k : Nat) (r : List Value), (∀ v ∈ vs, v.cells.size = sz) → (k + vs.length) * sz ≤ r.length →
    Instr.fill (fun i => some (i * sz, sz)) r.toArray ((vs.zipIdx k).map fun p => (p.2, p.1)) = some (r.take (k * sz) ++ vs.flatMap (·.cells.toList) ++ r.drop ((k + vs.length) * sz)).toArray
  | [], k, r, _, _ => by simp [Instr.fill]
  | v :: vs, k, r, hv, h => by
    have h1 := hv v (by simp)
    have h2 : k * sz + sz ≤ r.length := by
      have : (k + 1) * sz ≤ (k + (v :: vs).length) * sz := Nat.mul_le_mul_right _ (by simp)
      rw [Nat.add_mul, Nat.one_mul] at this
      omega
    have hl : v.cells.toList.length = sz := by simpa using h1
    have hf := EI (k * sz) v.cells.toList 0 r (by omega)
    have hf' : v.cells.zipIdx.foldl (fun (cs : Array Value) (p : Value × Nat) => cs.setIfInBounds (k * sz + p.2) p.1) r.toArray = (r.take (k * sz) ++ v.cells.toList ++ r.drop (k * sz + sz)).toArray := by
      rw [← Array.foldl_toList, Array.toList_zipIdx, hf]
      simp [h1]
    simp only [List.zipIdx_cons, List.map_cons, Instr.fill]
    have hc : (decide (v.cells.size ≠ sz) || decide (k * sz + v.cells.size > r.toArray.size)) = false := by
      simp [h1]; omega
    rw [if_neg (by rw [hc]; simp)]
    have hf2 : v.cells.zipIdx.foldl (fun cs (x : Value × Nat) => match x with | (c, j) => cs.setIfInBounds (k * sz + j) c) r.toArray = (r.take (k * sz) ++ v.cells.toList ++ r.drop (k * sz + sz)).toArray := hf'
    rw [hf2, HU sz vs (k + 1) _ (fun u hu => hv u (by simp [hu])) (by
      simp only [List.length_append, List.length_take, List.length_drop, hl]
      have : (k + 1 + vs.length) * sz = (k + (v :: vs).length) * sz := by congr 1; simp; omega
      rw [this]; omega)]
    congr 2
    have ht : (r.take (k * sz)).length = k * sz := by rw [List.length_take]; omega
    have e1 : (r.take (k * sz) ++ v.cells.toList ++ r.drop (k * sz + sz)).take ((k + 1) * sz) = r.take (k * sz) ++ v.cells.toList := by
      rw [show (k + 1) * sz = (r.take (k * sz) ++ v.cells.toList).length by rw [List.length_append, ht, hl, Nat.add_mul, Nat.one_mul], List.take_left]
    have e2 : (r.take (k * sz) ++ v.cells.toList ++ r.drop (k * sz + sz)).drop ((k + 1 + vs.length) * sz) = r.drop ((k + (v :: vs).length) * sz) := by
      have hA : (r.take (k * sz) ++ v.cells.toList).length = k * sz + sz := by rw [List.length_append, ht, hl]
      rw [show (k + 1 + vs.length) * sz = (r.take (k * sz) ++ v.cells.toList).length + vs.length * sz by rw [hA, Nat.add_mul, Nat.add_mul, Nat.one_mul], List.drop_length_add_append, List.drop_drop]
      congr 1
      simp only [List.length_cons, Nat.add_mul, Nat.one_mul]
      omega
    rw [e1, e2]
    simp [List.append_assoc]

def Hb {α : Type} (G : FP) (N : List BX) (c : α → List Ck) : List Operand → List α → Prop
  | [], [] => True
  | x :: xs, y :: ys => (∃ V, A3 G N x V ∧ Cells V (c y)) ∧ Hb G N c xs ys
  | _, _ => False
theorem Hb.run {α : Type} {G : FP} {N : List BX} {c : α → List Ck} {Φ : BC} {a : Act} {w : World} {f : List (List Nat)} (hG : G.p Φ) (hN : BW Φ a.tmps w N f) : ∀ {xs : List Operand} {ys : List α}, Hb G N c xs ys →
    xs.length = ys.length ∧ Cl Φ c ((xs.map a.eval).flatMap (·.cells.toList)) ys ∧ ∀ v ∈ xs.map a.eval, ∃ y, Bg Φ v.cells.toList (c y)
  | [], [], _ => ⟨rfl, rfl, fun v hv => by simp at hv⟩
  | x :: xs, y :: ys, h => by
    obtain ⟨⟨V, hV, hc⟩, h2⟩ := h
    obtain ⟨h3, h4, h5⟩ := Hb.run hG hN h2
    have h6 := hc Φ _ (hV Φ a w f hG hN)
    refine ⟨by simp [h3], ⟨(a.eval x).cells.toList, (xs.map a.eval).flatMap (·.cells.toList), by simp, h6, h4⟩, fun v hv => ?_⟩
    simp only [List.map_cons, List.mem_cons] at hv
    rcases hv with rfl | hv
    · exact ⟨y, h6⟩
    · exact h5 v hv
  | [], _ :: _, h => h.elim
  | _ :: _, [], h => h.elim
theorem EE {P : Program} {G : FP} {N : List BX} {d : Nat} {ty : TypeId} {pos : String} {af : Array Edge} {gd : Option (Nat × Bool)} {α : Type} {t e : TypeId} {n sz : Nat} {xs : List Operand} {c : α → List Ck} {ys : List α} (parts : Array (Nat × Operand)) (hparts : parts = (xs.zipIdx.map fun p => (p.2, p.1)).toArray)
    (hu : P.underlying t = some (.slice e)) (hs : ∀ w, (sizeOf e).run P w = .ok sz w) {z : Value} (hz : ∀ w, (zeroValue e).run P w = .ok z w) (hz1 : z.cells.size = sz) (hn : xs.length = n) (hle : n * sz ≤ 16777216) (hm : n ≤ Cp)
    (hx : Hb G N c xs ys) (hsz : ∀ x, lens (c x) = sz) : Bu P G ⟨some d, .buildSlice t n parts, ty, pos, af, gd⟩ N [] (fun _ => [.slot d (Ah c ys)]) := by
  subst hparts
  have hxl : ∀ (Φ : BC) (a : Act) (w : World) (f : List (List Nat)), CR Φ w → G.p Φ → BW Φ a.tmps w N f → xs.length = ys.length := fun Φ a w f _ hG hN => (hx.run hG hN).1
  have hyl : ys.length = n := by
    have : ∀ {xs : List Operand} {ys : List α}, Hb G N c xs ys → xs.length = ys.length := by
      intro xs
      induction xs with
      | nil => intro ys h; cases ys with
                           | nil => rfl
                           | cons y ys => exact h.elim
      | cons x xs ih => intro ys h; cases ys with
                                    | nil => exact h.elim
                                    | cons y ys => simp [ih h.2]
    rw [← this hx, hn]
  refine GU (e := e) (sz := sz) (fun Φ a w f hP hG hN => ?_) hyl hm hsz
  obtain ⟨_, hA, hv⟩ := hx.run hG hN
  refine ⟨_, ?_, hA⟩
  have hsizes : ∀ v ∈ xs.map a.eval, v.cells.size = sz := fun v hm => by
    obtain ⟨y, hy⟩ := hv v hm
    have := hy.len
    rw [hsz] at this
    simpa using this
  have hbig : ¬ (n * sz > 2 ^ 24) := by omega
  have hfill := HU sz (xs.map a.eval) 0 ((List.range (n * sz)).map fun i => z.cells[i % z.cells.size]!) hsizes (by simp [hn])
  have hmap : ((xs.zipIdx.map fun p => (p.2, p.1)).toArray.map fun (i, x) => (i, a.eval x)).toList = ((xs.map a.eval).zipIdx 0).map fun p => (p.2, p.1) := by
    simp [List.zipIdx_map, Function.comp_def]
  have hpt : (((List.range (n * sz)).map fun i => z.cells[i % z.cells.size]!).take (0 * sz) ++ (xs.map a.eval).flatMap (·.cells.toList) ++ ((List.range (n * sz)).map fun i => z.cells[i % z.cells.size]!).drop ((0 + (xs.map a.eval).length) * sz)).toArray = ((xs.map a.eval).flatMap (·.cells.toList)).toArray := by
    rw [List.drop_eq_nil_of_le (by simp [hn])]
    simp
  rw [hpt] at hfill
  simp only [Instr.buildSlice, Sem.run_bind, run_underlying hu, Result.andThen_ok, hs, Sem.run_ite, if_neg hbig, Sem.run_pure]
  by_cases h0 : n * sz = 0
  · simp only [h0, if_true, hmap]
    have : (Array.range 0).map (fun i => (#[] : Array Value)[i % (#[] : Array Value).size]!) = ((List.range (n * sz)).map fun i => z.cells[i % z.cells.size]!).toArray := by
      rw [h0]; simp
    rw [this, hfill]
    simp [newRow]
  · simp only [if_neg h0, hz, Sem.run_bind, Sem.run_pure, Result.andThen_ok, hmap]
    have : (Array.range (n * sz)).map (fun i => z.cells[i % z.cells.size]!) = ((List.range (n * sz)).map fun i => z.cells[i % z.cells.size]!).toArray := by
      apply Array.ext'; simp
    rw [this, hfill]
    simp [newRow]

end
section
open Go Go.RowKit

instance (k : IntKind) (x : Int) : Decidable (CH k x) := by unfold CH; infer_instance
def dC (n : Nat) (l : List UInt8) : List Ck := [Af n l]
theorem AV (n : Nat) (l : List UInt8) : lens (dC n l) = n := rfl
def iC (k : IntKind) (x : Int) : List Ck := [one (Ab k x)]
def Mg (x : Bool) : List Ck := [one (Ak x)]
def Je {α : Type} (c : α → List Ck) (x : List α) : List Ck := [one (Ah c x)]
theorem Dj {α : Type} {b : Bool} {x y : Option α} {r : Option α} (hb : b = true) (h : (if b = true then x else y) = r) : x = r := by rw [if_pos hb] at h; exact h
theorem Dn {α : Type} {b : Bool} {x y : Option α} {r : Option α} (hb : b = false) (h : (if b = true then x else y) = r) : y = r := by rw [if_neg (by rw [hb]; exact Bool.false_ne_true)] at h; exact h

section
variable {P : Program} {G : FP} {ops : Array Oper} {o : Oper} {N C : List BX} {Gv : Value → List BX}
theorem Bh.A2 {k d : Nat} {want b : Bool} {ok : Oper} (hb : b = want) (hg : o.guard = some (k, want)) (hk : ops[k]? = some ok) (hd : ok.dst = some d) (h : Bu P G o N C Gv) : Bh P G ops o (.slot d (Ak b) :: N) C Gv := by
  subst hb; exact Bh.on hg hk hd h
variable {d : Nat} {ty : TypeId} {pos : String} {af : Array Edge} {gd : Option (Nat × Bool)}
theorem Br {c x y : Operand} {b : Bool} {V : VP} (hb : b = true) (hc : A3 G N c (Ak b)) (hx : A3 G N x V) : Bu P G ⟨some d, .pick c x y, ty, pos, af, gd⟩ N [] (fun _ => [.slot d V]) := by
  subst hb; exact IG hc hx
theorem Bs {c x y : Operand} {b : Bool} {V : VP} (hb : b = false) (hc : A3 G N c (Ak b)) (hy : A3 G N y V) : Bu P G ⟨some d, .pick c x y, ty, pos, af, gd⟩ N [] (fun _ => [.slot d V]) := by
  subst hb; exact IG hc hy
end

end
section
open Go Go.RowKit
theorem Cf {id : Nat} {Q : Exit → Act → World → Prop} {a : Act} {w : World} (h : Q .normal a w) : Exit.inBlock id Q (.exit id) a w := by
  simp only [Exit.inBlock, if_true]; exact h
theorem CD {P : Program} {x : Code} {Q : Exit → Act → World → Prop} {a : Act} {w : World} (J : Act → World → Prop) (hx : x.wp P (Exit.then J Q) a w) (hy : ∀ a w, J a w → Q .normal a w) : x.wp P Q a w :=
  wp_mono hx fun e a w q => by cases e <;> first | exact hy _ _ q | exact q
theorem Hl {G : FP} {N : List BX} {t : Nat} {p : Value} (i : Nat) (h : BB .none N i = .slot t (BH p 0)) : A3 G N (.tmp t) (A4 p) := by
  intro Φ a w f hG hN
  obtain ⟨b, h1, h2⟩ := opt (G := G) i h Φ a w f hG hN
  exact h2.trans h1.symm
end
section
open Go Go.RowKit

theorem Cl.take {α : Type} {Φ : BC} {c : α → List Ck} {sz : Nat} (hsz : ∀ x, lens (c x) = sz) {xs : List α} {cs : List Value} (h : Cl Φ c cs xs) (n : Nat) : Cl Φ c (cs.take (min n xs.length * sz)) (xs.take n) := by
  have h1 : Cl Φ c cs (xs.take n ++ xs.drop n) := by rw [List.take_append_drop]; exact h
  obtain ⟨us, vs, rfl, h2, h3⟩ := h1.split
  have hl := h2.len hsz
  rw [List.length_take] at hl
  rw [← hl, List.take_left]
  exact h2
theorem Cl.drop {α : Type} {Φ : BC} {c : α → List Ck} {sz : Nat} (hsz : ∀ x, lens (c x) = sz) {xs : List α} {cs : List Value} (h : Cl Φ c cs xs) (n : Nat) : Cl Φ c (cs.drop (min n xs.length * sz)) (xs.drop n) := by
  have h1 : Cl Φ c cs (xs.take n ++ xs.drop n) := by rw [List.take_append_drop]; exact h
  obtain ⟨us, vs, rfl, h2, h3⟩ := h1.split
  have hl := h2.len hsz
  rw [List.length_take] at hl
  rw [← hl, List.drop_left]
  exact h3
theorem DN.sub {Φ : BC} {b o : Nat} {cs : List Value} (h : DN Φ b o cs) (k n : Nat) : DN Φ b (o + k) ((cs.drop k).take n) := fun j v hj => by
  have hj' : j < n := by
    rcases Nat.lt_or_ge j n with q | q
    · exact q
    · rw [List.getElem?_eq_none (by simp; omega)] at hj; cases hj
  rw [List.getElem?_take_of_lt hj', List.getElem?_drop] at hj
  have := h (k + j) v hj
  rwa [← Nat.add_assoc] at this

section ops
variable {P : Program} {G : FP} {N : List BX} {d : Nat} {ty : TypeId} {pos : String} {af : Array Edge} {gd : Option (Nat × Bool)}

theorem HJ {α : Type} {t e : TypeId} {x : Operand} {c : α → List Ck} {xs : List α} {sz : Nat} {lo hi : Option Operand} {a b : Int} (hu : P.underlying t = some (.slice e)) (hs : ∀ w, (sizeOf e).run P w = .ok sz w) (hsz : ∀ x, lens (c x) = sz) (hx : A3 G N x (Ah c xs))
    (hlo : GY G N lo 0 a) (hhi : GY G N hi xs.length b) (h : 0 ≤ a ∧ a ≤ b ∧ b ≤ xs.length) :
    Bu P G ⟨some d, .slice t x lo hi none, ty, pos, af, gd⟩ N [] (fun _ => [.slot d (Ah c ((xs.take b.toNat).drop a.toNat))]) :=
  Bu.val fun Φ ac w f _ hG hN => by
    obtain ⟨hm, ⟨hv, rfl⟩ | ⟨bb, o, cap, cs, hv, hcap, hA, hp⟩ | ⟨rfl, b0, cap, hv⟩⟩ := hx Φ ac w f hG hN
    rotate_left 2
    · have ha : a = 0 := by simp at h; omega
      have hb : b = 0 := by simp at h; omega
      subst ha; subst hb
      have hsb := DX (P := P) (w := w) true 0 cap (lo := lo.map ac.eval) (hi := hi.map ac.eval) (a := 0) (b := 0) (hlo.ok hG hN (by omega)) (hhi.ok hG hN (by omega)) (by omega) (by omega)
      refine ⟨.slice (some b0) 0 cap, ?_, by simp, .inr (.inr ⟨by simp, b0, cap, rfl⟩)⟩
      simp [execOp, hv, Instr.sliceAt, Instr.slice, run_underlying hu, hsb, hs, Addr.add]
    · have ha : a = 0 := by simp at h; omega
      have hb : b = 0 := by simp at h; omega
      subst ha; subst hb
      have hsb := DX (P := P) (w := w) true 0 0 (lo := lo.map ac.eval) (hi := hi.map ac.eval) (a := 0) (b := 0) (hlo.ok hG hN (by omega)) (hhi.ok hG hN (by omega)) (by omega) (by omega)
      refine ⟨.slice none 0 0, ?_, by simp [Cp], .inl ⟨rfl, by simp⟩⟩
      simp [execOp, hv, Instr.sliceAt, Instr.slice, run_underlying hu, hsb, hs]
    · have hsb := DX (P := P) (w := w) true xs.length cap (lo := lo.map ac.eval) (hi := hi.map ac.eval) (a := a.toNat) (b := b.toNat) (hlo.ok hG hN h.1) (hhi.ok hG hN (by omega)) (by omega) (by omega)
      have hlen : ((xs.take b.toNat).drop a.toNat).length = b.toNat - a.toNat := by simp; omega
      have hA2 : Cl Φ c ((cs.drop (a.toNat * sz)).take ((b.toNat - a.toNat) * sz)) ((xs.take b.toNat).drop a.toNat) := by
        have h1 := hA.drop hsz a.toNat
        rw [Nat.min_eq_left (by omega)] at h1
        have h2 := h1.take hsz (b.toNat - a.toNat)
        rw [Nat.min_eq_left (by simp; omega)] at h2
        rw [List.drop_take]
        exact h2
      by_cases hc : cap = a.toNat
      · refine ⟨.slice (some ⟨bb, o, none⟩) (b.toNat - a.toNat) (cap - a.toNat), ?_, by rw [hlen]; omega, .inr (.inl ⟨bb, o, cap - a.toNat, [], by rw [hlen], by rw [hlen]; omega, ?_, fun j v hj => by simp at hj⟩)⟩
        · subst hc
          simp [execOp, hv, Instr.sliceAt, Instr.slice, run_underlying hu, hsb, hs]
        · have h0 : (xs.take b.toNat).drop a.toNat = [] := List.eq_nil_of_length_eq_zero (by omega)
          rw [h0]; rfl
      · refine ⟨.slice (some ⟨bb, o + a.toNat * sz, none⟩) (b.toNat - a.toNat) (cap - a.toNat), ?_, by rw [hlen]; omega, .inr (.inl ⟨bb, o + a.toNat * sz, cap - a.toNat, _, by rw [hlen], by rw [hlen]; omega, hA2, hp.sub _ _⟩)⟩
        simp [execOp, hv, Instr.sliceAt, Instr.slice, run_underlying hu, hsb, hs, hc, Addr.add_lit]

theorem E0 {s t e : TypeId} {x : Operand} {l : List UInt8} (hs : P.underlying s = some (.slice e)) (he : P.underlying e = some (.int .u8)) (ht : P.underlying t = some .string)
    (hx : A3 G N x (Ah bC l)) : Bu P G ⟨some d, .convert s t x, ty, pos, af, gd⟩ N [] (fun _ => [.slot d (AJ l)]) :=
  Bu.val fun Φ ac w f hP hG hN => by
    obtain ⟨hm, ⟨hv, rfl⟩ | ⟨b, o, cap, cs, hv, hcap, hA, hp⟩ | ⟨rfl, b0, cap, hv⟩⟩ := hx Φ ac w f hG hN
    rotate_left 2
    · refine ⟨.string ⟨#[]⟩, ?_, rfl, by simp⟩
      have hl : (loadCells b0 0).run P w = .ok #[] w := by simpa using run_loadCells_list (P := P) w b0 [] (by simp)
      simp only [execOp, hv, Sem.run_bind, run_convert_bytes_string w s t e _ _ _ hs he ht, Go.run_bytesToString (P := P) w b0 0 cap [] (by simpa using hl)]
      rfl
    · refine ⟨.string ⟨#[]⟩, ?_, rfl, by simp [Cp]⟩
      simp only [execOp, hv, Sem.run_bind, run_convert_bytes_string w s t e _ _ _ hs he ht]
      rfl
    · have hcs : cs = l.map Dc := by
        have : ∀ (l : List UInt8) (cs : List Value), Cl Φ bC cs l → cs = l.map Dc := by
          intro l
          induction l with
          | nil => intro cs h; exact h
          | cons y l ih =>
            intro cs h
            obtain ⟨us, vs, rfl, ⟨y1, y2, rfl, ⟨v, rfl, _, hv, _⟩, hn⟩, h2⟩ := h
            have hn : y2 = [] := hn
            subst hn
            rw [ih vs h2, hv]
            rfl
        exact this l cs hA
      subst hcs
      refine ⟨.string ⟨l.toArray⟩, ?_, rfl, hm⟩
      have hr := run_bytesToString (P := P) (b := b) (k := o) (l := l) (cap := cap) (w := w) fun j v hj => hP.cell _ _ _ (hp j v hj)
      simp only [execOp, hv, Sem.run_bind, run_convert_bytes_string w s t e _ _ _ hs he ht, hr]
      rfl

def F5 (G : FP) (N : List BX) (place : Nat → Option (Nat × Nat)) : List Ck → List (Nat × Operand) → List Ck → Prop
  | L, [], L' => L = L'
  | L, (i, x) :: rest, L' => ∃ pre mid post M V, L = pre ++ (mid ++ post) ∧ place i = some (lens pre, lens mid) ∧ lens M = lens mid ∧ A3 G N x V ∧ Cells V M ∧ F5 G N place (pre ++ (M ++ post)) rest L'
theorem F5.run {G : FP} {N : List BX} {place : Nat → Option (Nat × Nat)} {Φ : BC} {a : Act} {w : World} {f : List (List Nat)} (hG : G.p Φ) (hN : BW Φ a.tmps w N f) : ∀ (parts : List (Nat × Operand)) (L L' : List Ck) (cs : List Value), F5 G N place L parts L' → Bg Φ cs L →
    ∃ cs' : List Value, Instr.fill place cs.toArray (parts.map fun (i, x) => (i, a.eval x)) = some cs'.toArray ∧ Bg Φ cs' L'
  | [], L, L', cs, h, hL => by have h : L = L' := h; subst h; exact ⟨cs, rfl, hL⟩
  | (i, x) :: rest, L, L', cs, ⟨pre, mid, post, M, V, hLe, hp, hM, hx, hV, hr⟩, hL => by
    subst hLe
    obtain ⟨xs, yz, rfl, h1, h23⟩ := hL.split
    obtain ⟨ys, zs, rfl, h2, h3⟩ := h23.split
    have hv := hV Φ _ (hx Φ a w f hG hN)
    have hvl := hv.len
    obtain ⟨cs', h4, h5⟩ := F5.run hG hN rest (pre ++ (M ++ post)) L' (xs ++ ((a.eval x).cells.toList ++ zs)) hr (h1.append (hv.append h3))
    refine ⟨cs', ?_, h5⟩
    simp only [List.map_cons, Instr.fill, hp]
    have hsz : (a.eval x).cells.size = lens mid := by rw [← hM, ← hvl]; simp
    rw [if_neg (by simp [hsz, h1.len, h2.len, h3.len])]
    have hf := EI (lens pre) (a.eval x).cells.toList 0 (xs ++ (ys ++ zs)) (by simp only [List.length_append, h1.len, h2.len, h3.len, hvl]; omega)
    rw [← Array.toList_zipIdx, Array.foldl_toList] at hf
    have hf2 : (a.eval x).cells.zipIdx.foldl (fun cs (x : Value × Nat) => match x with | (c, j) => cs.setIfInBounds (lens pre + j) c) (xs ++ (ys ++ zs)).toArray = (xs ++ ((a.eval x).cells.toList ++ zs)).toArray := by
      refine Eq.trans hf ?_
      congr 1
      have e1 : (xs ++ (ys ++ zs)).take (lens pre + 0) = xs := by rw [Nat.add_zero, ← h1.len, List.take_left]
      have e2 : (xs ++ (ys ++ zs)).drop (lens pre + 0 + (a.eval x).cells.toList.length) = zs := by
        rw [hvl, hM, Nat.add_zero, ← h1.len, ← h2.len, ← List.length_append, ← List.append_assoc, List.drop_left]
      rw [e1, e2, List.append_assoc]
    rw [hf2]
    exact h4
theorem GD {T : TypeId} {parts : Array (Nat × Operand)} {z : List Value} {place : Nat → Option (Nat × Nat)} {L L' : List Ck} (ps : List (Nat × Operand)) (hps : parts = ps.toArray) (hB : ∀ p, P.built T p = Instr.fill place z.toArray p) (hz : ∀ Φ, Bg Φ z L) (hf : F5 G N place L ps L') :
    Bu P G ⟨some d, .build T parts, ty, pos, af, gd⟩ N [] (fun _ => [.slot d (Cs L')]) :=
  Bu.val fun Φ a w f _ hG hN => by
    subst hps
    obtain ⟨cs', h1, h2⟩ := F5.run hG hN ps L L' z hf (hz Φ)
    refine ⟨.agg cs'.toArray, ?_, cs', rfl, h2⟩
    have := run_build (P := P) w T (ps.toArray.map fun (i, x) => (i, a.eval x)) cs'.toArray (by rw [hB, Array.toList_map]; exact h1)
    simp only [execOp, Sem.run_bind, this]
    rfl

theorem Fu {Φ : BC} : ∀ (l : List UInt8) (cs : List Value), Cl Φ bC cs l → cs = l.map Dc
  | [], cs, h => h
  | y :: l, cs, h => by
    obtain ⟨us, vs, rfl, ⟨y1, y2, rfl, ⟨v, rfl, _, hv, hr⟩, hn⟩, h2⟩ := h
    have hn : y2 = [] := hn
    subst hn
    rw [Fu l vs h2, hv]
    rfl
theorem GO (x : Int) : Cells (Ab .u8 x) (bC (Dz x)) := by
  rintro Φ v ⟨rfl, hr⟩
  have hx : ((Dz x).toNat : Int) = x := by
    have h1 := hr.1
    have h2 := hr.2
    simp [IntKind.min, IntKind.max, IntKind.bits, IntKind.signed] at h1 h2
    simp only [Dz]
    simp
    omega
  refine ⟨[.int .u8 x], [], rfl, ⟨_, rfl, rfl, ?_, FM _⟩, rfl⟩
  rw [hx]

end ops

end
section
open Go Go.RowKit

def RP.sep (R S : RP) : RP := ⟨fun Φ f w => ∃ f1 f2, f = f1 ++ f2 ∧ R.p Φ f1 w ∧ S.p Φ f2 w, by
  rintro Φ Φ' f w w' hle hs hb ⟨f1, f2, rfl, h1, h2⟩
  exact ⟨f1, f2, rfl, R.loc hle (fun b hm => hs b (by simp [hm])) (fun b hm => hb b (by simp [hm])) h1, S.loc hle (fun b hm => hs b (by simp [hm])) (fun b hm => hb b (by simp [hm])) h2⟩⟩
def RP.ex {α : Type} (R : α → RP) : RP := ⟨fun Φ f w => ∃ x, (R x).p Φ f w, by
  rintro Φ Φ' f w w' hle hs hb ⟨x, h⟩
  exact ⟨x, (R x).loc hle hs hb h⟩⟩
def RP.is (q : Prop) : RP := ⟨fun _ f _ => f = [] ∧ q, fun _ _ _ h => h⟩
def RP.val (V : VP) (v : Value) : RP := ⟨fun Φ f _ => f = [] ∧ V.p Φ v, fun hle _ _ h => ⟨h.1, V.mono hle h.2⟩⟩
def RP.le (R S : RP) : Prop := ∀ Φ f w, R.p Φ f w → S.p Φ f w
theorem RP.le_refl (R : RP) : RP.le R R := fun _ _ _ h => h
theorem RP.le_trans {R S T : RP} (h : RP.le R S) (k : RP.le S T) : RP.le R T := fun Φ f w q => k Φ f w (h Φ f w q)

theorem CO (l : List BX) (i j : Nat) (e : BX) : BB .none (l.set i e) j = if i = j ∧ i < l.length then e else BB .none l j := by
  simp only [CQ, List.getD, List.getElem?_set]
  by_cases h : i = j
  · subst h
    by_cases h2 : i < l.length
    · simp [h2]
    · simp [h2]
  · simp [h]

section moves
variable {c : Cx} {l : List BX} {a : Act} {w : World}
theorem AX.conv {R R' : RP} (h : AX c l a w) (i : Nat) (he : BB .none l i = .res R) (hR : RP.le R R') : AX c (l.set i (.res R')) a w := by
  obtain ⟨Φ, fp, h⟩ := h
  refine ⟨Φ, fp, h.defers, h.size, h.HG, h.FY, h.step, fun j hj => ?_, fun j hj => h.own j (by simpa using hj), fun j k hj hk => h.apart j k (by simpa using hj) (by simpa using hk)⟩
  have hj : j < l.length := by simpa using hj
  rw [CO]
  split
  · rename_i hc
    have := h.holds j hj
    rw [← hc.1, he] at this
    rw [← hc.1]
    exact hR _ _ _ this
  · exact h.holds j hj
theorem AX.ex {α : Type} {R : α → RP} (h : AX c l a w) (i : Nat) (he : BB .none l i = .res (RP.ex R)) : ∃ x, AX c (l.set i (.res (R x))) a w := by
  obtain ⟨Φ, fp, h⟩ := h
  have hi := Dv he (by simp)
  have hx := h.holds i hi
  rw [he] at hx
  obtain ⟨x, hx⟩ := hx
  refine ⟨x, Φ, fp, h.defers, h.size, h.HG, h.FY, h.step, fun j hj => ?_, fun j hj => h.own j (by simpa using hj), fun j k hj hk => h.apart j k (by simpa using hj) (by simpa using hk)⟩
  have hj : j < l.length := by simpa using hj
  rw [CO]
  split
  · rename_i hc
    rw [← hc.1]
    exact hx
  · exact h.holds j hj
theorem AX.Lt {R : RP} {q : Prop} (h : AX c l a w) (i : Nat) (he : BB .none l i = .res R) (hq : ∀ Φ f w, R.p Φ f w → q) : q := by
  obtain ⟨Φ, fp, h⟩ := h
  have hi := Dv he (by simp)
  have hx := h.holds i hi
  rw [he] at hx
  exact hq _ _ _ hx
theorem AX.Fz {d : Nat} {V V' : VP} (h : AX c l a w) (i : Nat) (he : BB .none l i = .slot d V) (hV : ∀ Φ v, V.p Φ v → V'.p Φ v) : AX c (l.set i (.slot d V')) a w := by
  obtain ⟨Φ, fp, h⟩ := h
  refine ⟨Φ, fp, h.defers, h.size, h.HG, h.FY, h.step, fun j hj => ?_, fun j hj => h.own j (by simpa using hj), fun j k hj hk => h.apart j k (by simpa using hj) (by simpa using hk)⟩
  have hj : j < l.length := by simpa using hj
  rw [CO]
  split
  · rename_i hc
    have := h.holds j hj
    rw [← hc.1, he] at this
    obtain ⟨q1, v, q2, q3⟩ := this
    rw [← hc.1]
    exact ⟨q1, v, q2, hV _ _ q3⟩
  · exact h.holds j hj
theorem AX.sep {R S : RP} (h : AX c l a w) (i : Nat) (he : BB .none l i = .res (RP.sep R S)) : AX c (l.set i (.res R) ++ [.res S]) a w := by
  obtain ⟨Φ, fp, h⟩ := h
  have hi := Dv he (by simp)
  have hx := h.holds i hi
  rw [he] at hx
  obtain ⟨f1, f2, hf, h1, h2⟩ := hx
  obtain ⟨hnd, hown⟩ := h.own i hi
  rw [hf] at hnd hown
  have hsub : ∀ j b, j < l.length + 1 → b ∈ (if j = i then f1 else if j = l.length then f2 else fp j) → (j = i ∨ j = l.length) ∧ b ∈ fp i ∨ j < l.length ∧ j ≠ i ∧ b ∈ fp j := by
    intro j b hj hb
    by_cases q1 : j = i
    · rw [if_pos q1] at hb
      exact .inl ⟨.inl q1, by rw [hf]; simp [hb]⟩
    · rw [if_neg q1] at hb
      by_cases q2 : j = l.length
      · rw [if_pos q2] at hb
        exact .inl ⟨.inr q2, by rw [hf]; simp [hb]⟩
      · rw [if_neg q2] at hb
        exact .inr ⟨by omega, q1, hb⟩
  refine ⟨Φ, fun j => if j = i then f1 else if j = l.length then f2 else fp j, h.defers, h.size, h.HG, h.FY, h.step, fun j hj => ?_, fun j hj => ?_, fun j k hj hk hne b hb hb' => ?_⟩
  · have hj : j < l.length + 1 := by simpa using hj
    by_cases q1 : j = i
    · subst q1
      have e1 : BB .none (l.set j (.res R) ++ [.res S]) j = .res R := by rw [B8, if_pos (by simpa using hi), CO, if_pos ⟨rfl, hi⟩]
      rw [e1]
      simp only [if_true]
      exact h1
    · by_cases q2 : j = l.length
      · subst q2
        have e1 : BB .none (l.set i (.res R) ++ [.res S]) l.length = .res S := by rw [B8, if_neg (by simp)]; simp [BB]
        rw [e1]
        simp only [if_neg q1, if_true]
        exact h2
      · have e1 : BB .none (l.set i (.res R) ++ [.res S]) j = BB .none l j := by rw [B8, if_pos (by simp; omega), CO, if_neg (fun hc => q1 hc.1.symm)]
        rw [e1]
        simp only [if_neg q1, if_neg q2]
        exact h.holds j (by omega)
  · have hj : j < l.length + 1 := by simpa using hj
    refine ⟨?_, fun b hb => ?_⟩
    · show (if j = i then f1 else if j = l.length then f2 else fp j).Nodup
      by_cases q1 : j = i
      · rw [if_pos q1]; exact (List.nodup_append.1 hnd).1
      · rw [if_neg q1]
        by_cases q2 : j = l.length
        · rw [if_pos q2]; exact (List.nodup_append.1 hnd).2.1
        · rw [if_neg q2]; exact (h.own j (by omega)).1
    · rcases hsub j b hj hb with ⟨_, q⟩ | ⟨q1, _, q⟩
      · rw [hf] at q; exact hown b q
      · exact (h.own j q1).2 b q
  · have hj : j < l.length + 1 := by simpa using hj
    have hk : k < l.length + 1 := by simpa using hk
    have hdis : ∀ b, b ∈ f1 → b ∈ f2 → False := fun b x y => (List.nodup_append.1 hnd).2.2 b x b y rfl
    rcases hsub j b hj hb with ⟨q1, q2⟩ | ⟨q1, q2, q3⟩
    · rcases hsub k b hk hb' with ⟨r1, r2⟩ | ⟨r1, r2, r3⟩
      · have hli : ¬ l.length = i := by omega
        rcases q1 with rfl | rfl
        · rcases r1 with rfl | rfl
          · exact hne rfl
          · simp only [if_true] at hb
            simp only [if_neg hli, if_true] at hb'
            exact hdis b hb hb'
        · rcases r1 with rfl | rfl
          · simp only [if_true] at hb'
            simp only [if_neg hli, if_true] at hb
            exact hdis b hb' hb
          · exact hne rfl
      · exact h.apart i k hi r1 (fun e => r2 e.symm) b q2 r3
    · rcases hsub k b hk hb' with ⟨r1, r2⟩ | ⟨r1, r2, r3⟩
      · exact h.apart j i q1 hi q2 b q3 r2
      · exact h.apart j k q1 r1 hne b q3 r3
theorem AX.Iw {R S : RP} (h : AX c l a w) (i j : Nat) (hi : BB .none l i = .res R) (hj : BB .none l j = .res S) (hne : i ≠ j) : AX c ((l.set i (.res (RP.sep R S))).set j .none) a w := by
  obtain ⟨Φ, fp, h⟩ := h
  have hil := Dv hi (by simp)
  have hjl := Dv hj (by simp)
  have h1 := h.holds i hil
  rw [hi] at h1
  have h2 := h.holds j hjl
  rw [hj] at h2
  have hsub : ∀ k b, b ∈ (if k = i then fp i ++ fp j else if k = j then [] else fp k) → (k = i ∧ (b ∈ fp i ∨ b ∈ fp j)) ∨ (k ≠ i ∧ k ≠ j ∧ b ∈ fp k) := by
    intro k b hb
    by_cases q1 : k = i
    · rw [if_pos q1] at hb
      exact .inl ⟨q1, List.mem_append.1 hb⟩
    · rw [if_neg q1] at hb
      by_cases q2 : k = j
      · rw [if_pos q2] at hb; simp at hb
      · rw [if_neg q2] at hb; exact .inr ⟨q1, q2, hb⟩
  refine ⟨Φ, fun k => if k = i then fp i ++ fp j else if k = j then [] else fp k, h.defers, h.size, h.HG, h.FY, h.step, fun k hk => ?_, fun k hk => ?_, fun k m hk hm hkm b hb hb' => ?_⟩
  · have hk : k < l.length := by simpa using hk
    by_cases q2 : j = k
    · subst q2
      have e1 : BB .none ((l.set i (.res (RP.sep R S))).set j .none) j = .none := by rw [CO, if_pos ⟨rfl, by simpa using hjl⟩]
      rw [e1]
      simp only [if_neg (fun e : j = i => hne e.symm), if_true]
      rfl
    · by_cases q1 : i = k
      · subst q1
        have e1 : BB .none ((l.set i (.res (RP.sep R S))).set j .none) i = .res (RP.sep R S) := by rw [CO, if_neg (fun hc => q2 hc.1), CO, if_pos ⟨rfl, hil⟩]
        rw [e1]
        simp only [if_true]
        exact ⟨fp i, fp j, rfl, h1, h2⟩
      · have e1 : BB .none ((l.set i (.res (RP.sep R S))).set j .none) k = BB .none l k := by rw [CO, if_neg (fun hc => q2 hc.1), CO, if_neg (fun hc => q1 hc.1)]
        rw [e1]
        simp only [if_neg (fun e : k = i => q1 e.symm), if_neg (fun e : k = j => q2 e.symm)]
        exact h.holds k hk
  · have hk : k < l.length := by simpa using hk
    refine ⟨?_, fun b hb => ?_⟩
    · show (if k = i then fp i ++ fp j else if k = j then [] else fp k).Nodup
      by_cases q1 : k = i
      · rw [if_pos q1]
        refine List.nodup_append.2 ⟨(h.own i hil).1, (h.own j hjl).1, fun x hx y hy e => ?_⟩
        subst e
        exact h.apart i j hil hjl hne x hx hy
      · rw [if_neg q1]
        by_cases q2 : k = j
        · rw [if_pos q2]; exact List.nodup_nil
        · rw [if_neg q2]; exact (h.own k hk).1
    · rcases hsub k b hb with ⟨_, q | q⟩ | ⟨_, _, q⟩
      · exact (h.own i hil).2 b q
      · exact (h.own j hjl).2 b q
      · exact (h.own k hk).2 b q
  · have hk : k < l.length := by simpa using hk
    have hm : m < l.length := by simpa using hm
    rcases hsub k b hb with ⟨q0, q | q⟩ | ⟨q1, q2, q⟩ <;> rcases hsub m b hb' with ⟨r0, r | r⟩ | ⟨r1, r2, r⟩
    · exact hkm (q0.trans r0.symm)
    · exact hkm (q0.trans r0.symm)
    · exact h.apart i m hil hm (fun e => r1 e.symm) b q r
    · exact hkm (q0.trans r0.symm)
    · exact hkm (q0.trans r0.symm)
    · exact h.apart j m hjl hm (fun e => r2 e.symm) b q r
    · exact h.apart k i hk hil q1 b q r
    · exact h.apart k j hk hjl q2 b q r
    · exact h.apart k m hk hm hkm b q r
theorem AX.snoc {R : RP} (h : AX c l a w) (hR : ∀ Φ w, CR Φ w → R.p Φ [] w) : AX c (l ++ [.res R]) a w := by
  obtain ⟨Φ, fp, h⟩ := h
  refine ⟨Φ, fun j => if j = l.length then [] else fp j, h.defers, h.size, h.HG, h.FY, h.step, fun j hj => ?_, fun j hj => ?_, fun j k hj hk hne b hb hb' => ?_⟩
  · have hj : j < l.length + 1 := by simpa using hj
    by_cases q : j = l.length
    · subst q
      have e1 : BB .none (l ++ [.res R]) l.length = .res R := by rw [B8, if_neg (by simp)]; simp [BB]
      rw [e1]
      simp only [if_true]
      exact hR Φ w h.HG
    · have e1 : BB .none (l ++ [.res R]) j = BB .none l j := by rw [B8, if_pos (by omega)]
      rw [e1]
      simp only [if_neg q]
      exact h.holds j (by omega)
  · have hj : j < l.length + 1 := by simpa using hj
    by_cases q : j = l.length
    · simp only [if_pos q]; exact ⟨List.nodup_nil, by simp⟩
    · simp only [if_neg q]; exact h.own j (by omega)
  · have hj : j < l.length + 1 := by simpa using hj
    have hk : k < l.length + 1 := by simpa using hk
    by_cases q : j = l.length
    · simp [if_pos q] at hb
    · by_cases r : k = l.length
      · simp [if_pos r] at hb'
      · simp only [if_neg q] at hb
        simp only [if_neg r] at hb'
        exact h.apart j k (by omega) (by omega) hne b hb hb'
end moves

def H5 : List BX → List BX → Prop
  | [], [] => True
  | e :: es, f :: fs => (∀ Φ t w g, e.holds Φ t w g → f.holds Φ t w g) ∧ H5 es fs
  | _, _ => False
theorem H5.hold {Φ : BC} {t : Array Value} {w : World} : ∀ {C D : List BX} {f : List (List Nat)}, H5 C D → BW Φ t w C f → BW Φ t w D f
  | [], [], _, _, h => h
  | _ :: _, _ :: _, [], _, h => h.elim
  | _ :: _, _ :: _, _ :: _, k, h => ⟨k.1 _ _ _ _ h.1, H5.hold k.2 h.2⟩
  | [], _ :: _, _, k, _ => k.elim
  | _ :: _, [], _, k, _ => k.elim
theorem Bu.conv {P : Program} {G : FP} {o : Oper} {N C C' : List BX} {Gv : Value → List BX} (hC : H5 C' C) (h : Bu P G o N C Gv) : Bu P G o N C' Gv := by
  intro Φ a w fN fC h1 h2 h3 h4 h5 h6 h7 K Q hK
  exact h Φ a w fN fC h1 h2 h3 (hC.hold h4) h5 h6 h7 K Q hK
theorem Jz {P : Program} {G : FP} {N : List BX} {d : Nat} {ty : TypeId} {pos : String} {af : Array Edge} {gd : Option (Nat × Bool)} {f : FuncId} {xs : List Operand} {tys : Array TypeId} {args : List VP} {pre : List RP} {post : Value → List RP} {res : VP} (hcall : ∀ args w, (callFunc f args).run P w = .ok (.enter f args) w)
    (hc : AR P G f args pre post res) (hx : EL G N xs args) :
    Bu P G ⟨some d, .call ⟨.value (.func f), xs.toArray, tys⟩, ty, pos, af, gd⟩ N (pre.map .res) (fun v => .slot d (A4 v) :: (post v).map .res) := by
  intro Φ a w fN fC h1 h2 h3 h4 h5 h6 h7 K Q hK
  refine DH hcall hc hx Φ a w fN fC h1 h2 h3 h4 h5 h6 h7 K Q fun v w' Φ' fG q1 q2 q3 q4 q5 => hK v w' Φ' fG q1 q2 ?_ q4 q5
  match fG, q3 with
  | f :: fs, q3 =>
    obtain ⟨⟨r1, u, r2, r3⟩, r4⟩ := q3
    refine ⟨⟨r1, u, r2, ?_⟩, r4⟩
    have := C3 a v d (h7 d rfl)
    rw [this] at r2
    exact (Option.some.inj r2).symm
  | [], q3 => exact q3.elim

theorem EK.le {Φ : BC} {w : World} : ∀ {Rs Ss : List RP} {fs : List (List Nat)}, EK Φ w Rs fs → Rs.length = Ss.length → (∀ (i : Nat) (R S : RP), Rs[i]? = some R → Ss[i]? = some S → RP.le R S) → EK Φ w Ss fs
  | [], [], _, h, _, _ => h
  | R :: Rs, S :: Ss, f :: fs, h, hl, hk => ⟨hk 0 R S rfl rfl _ _ _ h.1, EK.le h.2 (by simpa using hl) fun i R S q1 q2 => hk (i + 1) R S (by simpa using q1) (by simpa using q2)⟩
  | _ :: _, _ :: _, [], h, _, _ => h.elim
  | [], _ :: _, _, _, hl, _ => by simp at hl
  | _ :: _, [], _, _, hl, _ => by simp at hl
theorem AR.ex {P : Program} {G : FP} {f : FuncId} {args : List VP} {α : Type} {R : α → RP} {R' : α → Value → RP} {pre : List RP} {post : Value → List RP} {res : VP} (h : ∀ x, AR P G f args (R x :: pre) (fun v => R' x v :: post v) res) :
    AR P G f args (RP.ex R :: pre) (fun v => RP.ex (fun x => R' x v) :: post v) res := by
  intro Φ w vs fs h1 h2 h3 h4 h5 h6
  match fs, h4 with
  | f0 :: fs, ⟨⟨x, hx⟩, h4⟩ =>
    refine (h x Φ w vs (f0 :: fs) h1 h2 h3 ⟨hx, h4⟩ h5 h6).mono fun e w' hq => ?_
    obtain ⟨v, Φ', fs', q0, q1, q2, q3, q4, q5, q6⟩ := hq
    match fs', q4 with
    | g :: gs, q4 => exact ⟨v, Φ', g :: gs, q0, q1, q2, q3, ⟨⟨x, q4.1⟩, q4.2⟩, q5, q6⟩
    | [], q4 => exact q4.elim
  | [], h4 => exact h4.elim

end
section
open Go Go.RowKit

def Dr {K V : Type} (Φ : BC) (w : World) (kV : K → Value) (eR : Value → V → RP) : List MapEntry → List (K × V) → List (List Nat) → Prop
  | [], [], [] => True
  | e :: es, x :: xs, f :: fs => e.key = kV x.1 ∧ (eR e.val x.2).p Φ f w ∧ Dr Φ w kV eR es xs fs
  | _, _, _ => False
theorem Dr.loc {K V : Type} {Φ Φ' : BC} {w w' : World} {kV : K → Value} {eR : Value → V → RP} (hle : BC.le Φ Φ') : ∀ {es : List MapEntry} {m : List (K × V)} {fs : List (List Nat)}, (∀ b ∈ fs.flatten, Φ' b = Φ b) → (∀ b ∈ fs.flatten, w'.heap[b]? = w.heap[b]?) → Dr Φ w kV eR es m fs → Dr Φ' w' kV eR es m fs
  | [], [], [], _, _, h => h
  | e :: es, x :: xs, f :: fs, hs, hb, h => ⟨h.1, (eR _ _).loc hle (fun b hm => hs b (by simp [hm])) (fun b hm => hb b (by simp [hm])) h.2.1, Dr.loc hle (fun b hm => hs b (by simp only [List.flatten_cons]; exact List.mem_append.2 (.inr hm))) (fun b hm => hb b (by simp only [List.flatten_cons]; exact List.mem_append.2 (.inr hm))) h.2.2⟩
  | [], [], _ :: _, _, _, h => h.elim
  | [], _ :: _, _, _, _, h => h.elim
  | _ :: _, [], _, _, _, h => h.elim
  | _ :: _, _ :: _, [], _, _, h => h.elim
theorem Dr.len {K V : Type} {Φ : BC} {w : World} {kV : K → Value} {eR : Value → V → RP} : ∀ {es : List MapEntry} {m : List (K × V)} {fs : List (List Nat)}, Dr Φ w kV eR es m fs → es.length = m.length ∧ fs.length = m.length
  | [], [], [], _ => ⟨rfl, rfl⟩
  | _ :: _, _ :: _, _ :: _, h => by have := Dr.len h.2.2; exact ⟨by simp [this.1], by simp [this.2]⟩
  | [], [], _ :: _, h => h.elim
  | [], _ :: _, _, h => h.elim
  | _ :: _, [], _, h => h.elim
  | _ :: _, _ :: _, [], h => h.elim
theorem Dr.keys {K V : Type} {Φ : BC} {w : World} {kV : K → Value} {eR : Value → V → RP} : ∀ {es : List MapEntry} {m : List (K × V)} {fs : List (List Nat)}, Dr Φ w kV eR es m fs → es.map (·.key) = (m.map (·.1)).map kV
  | [], [], [], _ => rfl
  | _ :: _, _ :: _, _ :: _, h => by simp [h.1, Dr.keys h.2.2]
  | [], [], _ :: _, h => h.elim
  | [], _ :: _, _, h => h.elim
  | _ :: _, [], _, h => h.elim
  | _ :: _, _ :: _, [], h => h.elim
theorem Dr.get {K V : Type} {Φ : BC} {w : World} {kV : K → Value} {eR : Value → V → RP} : ∀ {es : List MapEntry} {m : List (K × V)} {fs : List (List Nat)} (i : Nat) (x : K × V), Dr Φ w kV eR es m fs → m[i]? = some x → ∃ e f, es[i]? = some e ∧ fs[i]? = some f ∧ e.key = kV x.1 ∧ (eR e.val x.2).p Φ f w
  | e :: es, y :: m, f :: fs, 0, x, h, hx => by simp at hx; subst hx; exact ⟨e, f, rfl, rfl, h.1, h.2.1⟩
  | e :: es, y :: m, f :: fs, i + 1, x, h, hx => by simpa using Dr.get i x h.2.2 (by simpa using hx)
  | [], [], [], _, _, _, hx => by simp at hx
  | [], [], _ :: _, _, _, h, _ => h.elim
  | [], _ :: _, _, _, _, h, _ => h.elim
  | _ :: _, [], _, _, _, h, _ => h.elim
  | _ :: _, _ :: _, [], _, _, h, _ => h.elim
theorem Dr.append {K V : Type} {Φ : BC} {w : World} {kV : K → Value} {eR : Value → V → RP} : ∀ {es : List MapEntry} {m : List (K × V)} {fs : List (List Nat)} {es' : List MapEntry} {m' : List (K × V)} {fs' : List (List Nat)}, Dr Φ w kV eR es m fs → Dr Φ w kV eR es' m' fs' → Dr Φ w kV eR (es ++ es') (m ++ m') (fs ++ fs')
  | [], [], [], _, _, _, _, k => k
  | _ :: _, _ :: _, _ :: _, _, _, _, h, k => ⟨h.1, h.2.1, Dr.append h.2.2 k⟩
  | [], [], _ :: _, _, _, _, h, _ => h.elim
  | [], _ :: _, _, _, _, _, h, _ => h.elim
  | _ :: _, [], _, _, _, _, h, _ => h.elim
  | _ :: _, _ :: _, [], _, _, _, h, _ => h.elim
theorem Dr.set {K V : Type} {Φ : BC} {w : World} {kV : K → Value} {eR : Value → V → RP} : ∀ {es : List MapEntry} {m : List (K × V)} {fs : List (List Nat)} (i : Nat) {e : MapEntry} {x : K × V} {f : List Nat}, Dr Φ w kV eR es m fs → e.key = kV x.1 → (eR e.val x.2).p Φ f w → Dr Φ w kV eR (es.set i e) (m.set i x) (fs.set i f)
  | [], [], [], _, _, _, _, h, _, _ => by simpa using h
  | _ :: _, _ :: _, _ :: _, 0, _, _, _, h, h1, h2 => ⟨h1, h2, h.2.2⟩
  | _ :: _, _ :: _, _ :: _, i + 1, _, _, _, h, h1, h2 => ⟨h.1, h.2.1, Dr.set i h.2.2 h1 h2⟩
  | [], [], _ :: _, _, _, _, _, h, _, _ => h.elim
  | [], _ :: _, _, _, _, _, _, h, _, _ => h.elim
  | _ :: _, [], _, _, _, _, _, h, _, _ => h.elim
  | _ :: _, _ :: _, [], _, _, _, _, h, _, _ => h.elim

def Mn (l : List UInt8) : Value := .string ⟨l.toArray⟩
def MM (l : List UInt8) : Value := .agg (l.map Dc).toArray
end
section
open Go Go.RowKit

def LH {K V : Type} (v : Value) (kV : K → Value) (kOk : K → Prop) (eR : Value → V → RP) (m : List (K × V)) : RP := ⟨fun Φ f w => ∃ b es clock fs, v = .map (some b) ∧ f = b :: List.flatten fs ∧ w.heap[b]? = some (.map es clock) ∧
    Dr Φ w kV eR es.toList m fs ∧ (es.toList.map (·.born)).Nodup ∧ (∀ e ∈ es.toList, e.born < clock) ∧ (m.map (·.1)).Nodup ∧ ∀ x ∈ m, kOk x.1, by
  rintro Φ Φ' f w w' hle hs hb ⟨b, es, clock, fs, h1, rfl, h3, h4, h5⟩
  exact ⟨b, es, clock, fs, h1, rfl, by rw [hb b (by simp)]; exact h3, h4.loc hle (fun c hc => hs c (by simp [hc])) (fun c hc => hb c (by simp [hc])), h5⟩⟩

end
section
open Go Go.RowKit

def BK (p : Value) : VP := ⟨fun _ v => (v = .pointer none ∨ v = p) ∧ ∃ b, p = .pointer (some ⟨b, 0, none⟩), fun _ h => h⟩
section ops
variable {P : Program} {G : FP} {N : List BX} {d : Nat} {ty : TypeId} {pos : String} {af : Array Edge} {gd : Option (Nat × Bool)}
def MS : Value → Value
  | .slice a _ _ => .pointer a
  | v => v
theorem Jw {T t : TypeId} {x : Operand} {v : Value} {l : List UInt8} (j : Nat) (hx : A3 G N x (A4 v)) (hR : BB .none N j = .res (acc v T 1 bC l)) (hl : l ≠ []) :
    Bu P G ⟨some d, .call ⟨.builtin .unsafeSliceData, #[x], #[t]⟩, ty, pos, af, gd⟩ N [] (fun _ => [.slot d (A4 (MS v))]) :=
  Bu.val fun Φ a w f _ hG hN => by
    have hv : a.eval x = v := hx Φ a w f hG hN
    obtain ⟨g, _, ⟨_, h1, _⟩ | ⟨b, cap, cs, zs, rfl, _, _, _, _, hc, _⟩⟩ := hN.res j hR
    · exact absurd h1 hl
    · refine ⟨.pointer (some ⟨b, 0, none⟩), ?_, rfl⟩
      have hpos : 0 < l.length := List.length_pos_iff.2 hl
      have := Lib.run_unsafeSliceData_row (P := P) (w := w) #[t] ty ⟨b, 0, none⟩ l.length cap (by omega)
      simp only [execOp, resolve, hv, invoke, builtin, List.map_toArray, List.map_cons, List.map_nil, Sem.run_bind, Sem.run_pure, Result.andThen_ok, this]
theorem FK {w : World} {a : Addr} {n c : Nat} (h : c ≠ a.block) : (w.freeze a n).heap[c]? = w.heap[c]? := by
  unfold World.freeze
  split
  · rfl
  · simp [Array.getElem?_modify, Ne.symm h]
theorem Gb {w : World} {a : Addr} {n : Nat} : (w.freeze a n).heap.size = w.heap.size := by
  unfold World.freeze
  split <;> simp
theorem HT {w : World} {a : Addr} {n : Nat} (x : Addr) : (w.freeze a n).cell? x = w.cell? x := by
  by_cases hb : x.block = a.block
  · unfold World.freeze
    split
    · rfl
    · unfold World.cell?
      simp only [hb, Array.getElem?_modify, if_true]
      cases h : w.heap[a.block]? with
      | none => simp
      | some o => cases o <;> simp
  · unfold World.cell?
    rw [FK hb]
theorem IF {T pt it : TypeId} {x y : Operand} {v : Value} {l : List UInt8} (hp : P.underlying pt = some (.pointer T)) (hc : P.cellsOf T = 1) (hx : A3 G N x (A4 (MS v))) (hy : A3 G N y (Ab .i64 l.length)) (hl : l ≠ []) :
    Bu P G ⟨some d, .call ⟨.builtin .unsafeString, #[x, y], #[pt, it]⟩, ty, pos, af, gd⟩ N [.res (acc v T 1 bC l)] (fun _ => [.slot d (AJ l)]) := by
  intro Φ a w fN fC h1 h2 h3 h4 h5 h6 h7 K Q hK
  match fC, h4 with
  | [f], ⟨⟨hm, .inl ⟨_, e1, _⟩⟩, _⟩ => exact absurd e1 hl
  | [f], ⟨⟨hm, .inr ⟨b, cap, cs, zs, hveq, hf, hb, hA, hlen, hcap, hpub, hfree⟩⟩, _⟩ =>
    subst hf; subst hveq
    have hxv : a.eval x = .pointer (some ⟨b, 0, none⟩) := hx Φ a w fN h2 h3
    obtain ⟨hyv, _⟩ := hy Φ a w fN h2 h3
    have hcs := Fu l cs hA
    have hlc : cs.length = l.length := by rw [hcs]; simp
    have hr := Lib.run_unsafeString_row (P := P) w pt it ty T hp hc b (cs ++ zs).length (by simp [World.shape?, hb]) l hl (by simp; omega) (by have := (EG hm).2; simp [IntKind.max, IntKind.bits, IntKind.signed] at this; omega) (fun j x' hj => by
      rw [Addr.add_lit, cell_of hb, Nat.zero_add, List.getElem?_append_left (by
        have : j < l.length := by
          rcases Nat.lt_or_ge j l.length with q | q
          · exact q
          · rw [List.getElem?_eq_none q] at hj; cases hj
        omega), hcs, List.getElem?_map, hj]
      rfl)
    have hrun : (execOp a.eval ⟨some d, .call ⟨.builtin .unsafeString, #[x, y], #[pt, it]⟩, ty, pos, af, gd⟩).run P w = .ok (.value (.string ⟨l.toArray⟩)) (w.freeze ⟨b, 0, none⟩ l.length) := by
      simp only [execOp, resolve, hxv, hyv, invoke, builtin, List.map_toArray, List.map_cons, List.map_nil, Sem.run_bind, Sem.run_pure, Result.andThen_ok, hr]
    unfold Oper.wp
    rw [hrun, Oper.upon_value]
    have hos : (w.freeze ⟨b, 0, none⟩ l.length).os = w.os ∧ (w.freeze ⟨b, 0, none⟩ l.length).tape = w.tape ∧ (w.freeze ⟨b, 0, none⟩ l.length).output = w.output := by
      unfold World.freeze
      split <;> exact ⟨rfl, rfl, rfl⟩
    exact hK _ _ Φ [[]] ⟨hos.1, hos.2.1, hos.2.2, by rw [Gb]; exact Nat.le_refl _, fun c _ hne => FK (by simpa using hne), BC.le_refl _, fun _ _ _ => rfl⟩
      ⟨fun c o u e => by rw [Gb]; exact h1.lt c o u e, fun c o u e => by rw [HT]; exact h1.cell c o u e⟩ ⟨⟨rfl, _, C3 a _ d (h7 d rfl), rfl, hm⟩, trivial⟩ (by simp) (by simp)

theorem FC {t e : TypeId} {x : Operand} {n : Nat} {l : List UInt8} {post : List Ck} {lo hi : Option Operand} {a b : Int} (hu : P.underlying t = some (.array n e)) (hs : ∀ w, (sizeOf e).run P w = .ok 1 w) (hx : A3 G N x (Eb (Af n l :: post)))
    (hlo : GY G N lo 0 a) (hhi : GY G N hi n b) (h : 0 ≤ a ∧ a ≤ b ∧ b ≤ n ∧ n ≤ Cp) :
    Bu P G ⟨some d, .slice t x lo hi none, ty, pos, af, gd⟩ N [] (fun _ => [.slot d (Ah bC ((l.take b.toNat).drop a.toNat))]) :=
  Bu.val fun Φ ac w f _ hG hN => by
    obtain ⟨bb, o, cs, hv, ⟨ys, zs, rfl, ⟨hl, rfl⟩, hz⟩, hp⟩ := hx Φ ac w f hG hN
    have hsb := DX (P := P) (w := w) false n n (lo := lo.map ac.eval) (hi := hi.map ac.eval) (a := a.toNat) (b := b.toNat) (hlo.ok hG hN h.1) (hhi.ok hG hN (by omega)) (by omega) (by omega)
    have hlen : ((l.take b.toNat).drop a.toNat).length = b.toNat - a.toNat := by simp; omega
    have hp2 : DN Φ bb (o + a.toNat) (((l.take b.toNat).drop a.toNat).map Dc) := fun j v hj => by
      have hj' : j < b.toNat - a.toNat := by
        rcases Nat.lt_or_ge j (b.toNat - a.toNat) with q | q
        · exact q
        · rw [List.getElem?_eq_none (by rw [List.length_map, hlen]; exact q)] at hj; cases hj
      have := hp (a.toNat + j) v (by
        rw [List.getElem?_append_left (by simp; omega)]
        rw [List.getElem?_map, List.getElem?_drop, List.getElem?_take_of_lt (by omega)] at hj
        rw [List.getElem?_map]; exact hj)
      rwa [← Nat.add_assoc] at this
    by_cases hc : n = a.toNat
    · have h0 : (l.take b.toNat).drop a.toNat = [] := List.eq_nil_of_length_eq_zero (by omega)
      refine ⟨.slice (some ⟨bb, o, none⟩) (b.toNat - a.toNat) (n - a.toNat), ?_, by rw [hlen]; omega, .inr (.inl ⟨bb, o, n - a.toNat, [], by rw [hlen], by rw [hlen]; omega, by rw [h0]; rfl, fun j v hj => by simp at hj⟩)⟩
      simp [execOp, hv, Instr.sliceAt, run_underlying hu, Instr.sureAddr, hsb, hs, ← hc]
    · refine ⟨.slice (some ⟨bb, o + a.toNat, none⟩) (b.toNat - a.toNat) (n - a.toNat), ?_, by rw [hlen]; omega, .inr (.inl ⟨bb, o + a.toNat, n - a.toNat, _, by rw [hlen], by rw [hlen]; omega, Ft Φ _, hp2⟩)⟩
      simp [execOp, hv, Instr.sliceAt, run_underlying hu, Instr.sureAddr, hsb, hs, hc, Addr.add_lit]
end ops

theorem LF {P : Program} {fn : Func} {r : ResultVar} {c : Cx} {l : List BX} {a : Act} {w : World} {p : Value} (h : AX c l a w) (hr : fn.results = #[r]) (hV : L5 P c l r (A4 p)) (js : List Nat) (post : Value → List RP) (hd : distinct js = true) (hlt : (js.all fun j => decide (j < l.length)) = true) (hR : (post p).map .res = js.map (BB .none l)) :
    DW P fn c KO post a w := by
  obtain ⟨Φ, fp, h⟩ := h
  obtain ⟨v, h1, h2⟩ := hV a w Φ fp h
  obtain ⟨fs, q1, q2, q3⟩ := h.K4 js hd (fun j hj => by simpa using (List.all_eq_true.1 hlt) j hj) (post p) hR
  have h2 : v = p := h2
  subst h2
  refine ⟨h.defers, v, Φ, fs, ?_, h.step, h.HG, trivial, q1, q2, q3⟩
  rw [EA, hr]
  simp [h1]
theorem AR.split {P : Program} {G : FP} {f : FuncId} {args : List VP} {R S : RP} {R' S' : Value → RP} {pre : List RP} {post : Value → List RP} {res : VP} (h : AR P G f args (RP.sep R S :: pre) (fun v => RP.sep (R' v) (S' v) :: post v) res) :
    AR P G f args (R :: S :: pre) (fun v => R' v :: S' v :: post v) res := by
  intro Φ w vs fs h1 h2 h3 h4 h5 h6
  match fs, h4 with
  | f1 :: f2 :: fs, ⟨q1, q2, q3⟩ =>
    have e : ((f1 ++ f2) :: fs).flatten = (f1 :: f2 :: fs).flatten := by simp
    have := h Φ w vs ((f1 ++ f2) :: fs) h1 h2 h3 ⟨⟨f1, f2, rfl, q1, q2⟩, q3⟩ (by rw [e]; exact h5) (by rw [e]; exact h6)
    rw [e] at this
    refine this.mono fun e' w' hq => ?_
    obtain ⟨v, Φ', fs', r0, r1, r2, r3, r4, r5, r6⟩ := hq
    match fs', r4 with
    | g :: gs, ⟨⟨g1, g2, hg, s1, s2⟩, s3⟩ =>
      subst hg
      have e2 : ((g1 ++ g2) :: gs).flatten = (g1 :: g2 :: gs).flatten := by simp
      rw [e2] at r5 r6
      exact ⟨v, Φ', g1 :: g2 :: gs, r0, r1, r2, r3, ⟨s1, s2, s3⟩, r5, r6⟩
    | [], r4 => exact r4.elim
  | [_], ⟨_, h4⟩ => exact h4.elim
  | [], h4 => exact h4.elim

theorem AX.IC {c : Cx} {l : List BX} {a : Act} {w : World} {p : Value} {T : TypeId} {L : List Ck} (h : AX c l a w) (j : Nat) (hj : BB .none l j = .res (lb p T L)) : AX c (l.set j (.fact (Eb L) p)) a w := by
  obtain ⟨Φ, fp, h⟩ := h
  have hjl := Dv hj (by simp)
  have hx := h.holds j hjl
  rw [hj] at hx
  obtain ⟨b, cs, hp, hf, hb, hL, hn⟩ := hx
  have hown := (h.own j hjl).2 b (by rw [hf]; simp)
  let Φ' : BC := fun b' o => if b' = b then cs[o]? else Φ b' o
  have hle : BC.le Φ Φ' := fun b' o v e => by
    by_cases hbb : b' = b
    · rw [hbb, hn o] at e; cases e
    · simp only [Φ', if_neg hbb]; exact e
  have hap : ∀ i, i < l.length → i ≠ j → ∀ x ∈ fp i, x ≠ b := fun i hi hne x hx e => h.apart i j hi hjl hne x hx (by rw [hf, e]; simp)
  refine ⟨Φ', fun i => if i = j then [] else fp i, h.defers, h.size, ⟨fun b' o v e => ?_, fun b' o v e => ?_⟩, c.G.mono hle h.FY, h.step.trans (G := [b]) ⟨rfl, rfl, rfl, Nat.le_refl _, fun _ _ _ => rfl, hle, fun b' _ hne => by funext o; simp only [Φ', if_neg (by simpa using hne : ¬ b' = b)]⟩ (fun b' hb' hlt => by
      simp only [List.mem_singleton] at hb'
      subst hb'
      rcases hown.2 with q | q
      · exact q
      · omega), fun i hi => ?_, fun i hi => ?_, fun i k hi hk hne x hx hx' => ?_⟩
  · by_cases hbb : b' = b
    · rw [hbb]; exact hown.1
    · simp only [Φ', if_neg hbb] at e; exact h.HG.lt b' o v e
  · by_cases hbb : b' = b
    · subst hbb
      simp only [Φ', if_pos trivial] at e
      rw [cell_of hb]; exact e
    · simp only [Φ', if_neg hbb] at e; exact h.HG.cell b' o v e
  · have hi : i < l.length := by simpa using hi
    by_cases q : j = i
    · subst q
      have e1 : BB .none (l.set j (.fact (Eb L) p)) j = .fact (Eb L) p := by rw [CO, if_pos ⟨rfl, hjl⟩]
      rw [e1]
      simp only [if_true]
      exact ⟨rfl, b, 0, cs, hp, hL.mono hle, fun o v hv => by simp only [Φ', if_pos trivial, Nat.zero_add]; exact hv⟩
    · have e1 : BB .none (l.set j (.fact (Eb L) p)) i = BB .none l i := by rw [CO, if_neg (fun hc => q hc.1)]
      rw [e1]
      simp only [if_neg (fun e : i = j => q e.symm)]
      exact BX.Fp (h.holds i hi) hle (fun x hx => by funext o; simp only [Φ', if_neg (hap i hi (fun e => q e.symm) x hx)]) (fun _ _ => rfl) (fun _ _ => rfl)
  · have hi : i < l.length := by simpa using hi
    by_cases q : i = j
    · simp only [if_pos q]; exact ⟨List.nodup_nil, by simp⟩
    · simp only [if_neg q]; exact h.own i hi
  · have hi : i < l.length := by simpa using hi
    have hk : k < l.length := by simpa using hk
    by_cases q : i = j
    · simp [if_pos q] at hx
    · by_cases r : k = j
      · simp [if_pos r] at hx'
      · simp only [if_neg q] at hx
        simp only [if_neg r] at hx'
        exact h.apart i k hi hk hne x hx hx'
theorem AX.HV {c : Cx} {l : List BX} {a : Act} {w : World} {d : Nat} {p : Value} {L : List Ck} (h : AX c l a w) (i j : Nat) (hi : BB .none l i = .slot d (BH p 0)) (hj : BB .none l j = .fact (Eb L) p) : AX c (l.set i (.slot d (Eb L))) a w := by
  obtain ⟨Φ, fp, h⟩ := h
  have hil := Dv hi (by simp)
  have hjl := Dv hj (by simp)
  have h1 := h.holds i hil
  rw [hi] at h1
  obtain ⟨q1, v, q2, b, q3, q4⟩ := h1
  have h2 := h.holds j hjl
  rw [hj] at h2
  refine ⟨Φ, fp, h.defers, h.size, h.HG, h.FY, h.step, fun k hk => ?_, fun k hk => h.own k (by simpa using hk), fun k m hk hm => h.apart k m (by simpa using hk) (by simpa using hm)⟩
  have hk : k < l.length := by simpa using hk
  rw [CO]
  by_cases q : i = k
  · subst q
    rw [if_pos ⟨rfl, hil⟩]
    refine ⟨q1, v, q2, ?_⟩
    rw [q4, ← q3]
    exact h2.2
  · rw [if_neg (fun hc => q hc.1)]
    exact h.holds k hk

theorem FL {P : Program} {G : FP} {f : FuncId} {T : TypeId} {p v : Value} (hfresh : ∀ (b : Nat) (w : World), w.cell? ⟨b, 0, none⟩ = some (.pointer none) → w.shape? b = some (T, 2) → w.frozen? ⟨b, 0, none⟩ = false → Calls P f #[.pointer (some ⟨b, 0, none⟩)] w fun e w' => e = .returned (.tuple #[]) ∧ w' = w.setCell ⟨b, 0, none⟩ (.pointer (some ⟨b, 0, none⟩)))
    (hused : ∀ (b : Nat) (w : World), w.cell? ⟨b, 0, none⟩ = some (.pointer (some ⟨b, 0, none⟩)) → Calls P f #[.pointer (some ⟨b, 0, none⟩)] w fun e w' => e = .returned (.tuple #[]) ∧ w' = w) :
    AR P G f [A4 p] [lb p T [one (BK p), one (A4 v)]] (fun _ => [lb p T [one (BK p), one (A4 v)]]) (Di []) := by
  intro Φ w vs fs h1 h2 h3 h4 h5 h6
  match vs, h3, fs, h4 with
  | [u], ⟨hu, _⟩, [f], ⟨⟨b, cs, hp, hf, hb, hL, hn⟩, _⟩ =>
    have hu : u = p := hu
    subst hu; subst hp; subst hf
    obtain ⟨c1, c2, rfl, ⟨q, rfl, hq1, hq, _⟩, d1, d2, rfl, ⟨x, rfl, hx1, hx⟩, hd⟩ := hL
    have hd : d2 = [] := hd
    have hx : x = v := hx
    subst hd; subst hx
    have hpack : ∀ (w' : World) (q' : Value), Step w Φ [b] w' Φ → CR Φ w' → w'.heap[b]? = some (.cells [q', x].toArray T (0, 0)) → (q' = .pointer none ∨ q' = .pointer (some ⟨b, 0, none⟩)) → w'.heap.size = w.heap.size →
        ∃ (v' : Value) (Φ' : BC) (fs' : List (List Nat)), Ending.returned (.tuple #[]) = .returned v' ∧ Step w Φ [[b]].flatten w' Φ' ∧ CR Φ' w' ∧ (Di []).p Φ' v' ∧ EK Φ' w' [lb (.pointer (some ⟨b, 0, none⟩)) T [one (BK (.pointer (some ⟨b, 0, none⟩))), one (A4 x)]] fs' ∧ fs'.flatten.Nodup ∧ ∀ c ∈ fs'.flatten, c < w'.heap.size ∧ (c ∈ [[b]].flatten ∨ w.heap.size ≤ c) := by
      intro w' q' hs hP hblk hq' hsz
      refine ⟨.tuple #[], Φ, [[b]], rfl, by simpa using hs, hP, ⟨[], rfl, trivial⟩, ⟨⟨b, [q', x], rfl, rfl, hblk, ⟨[q'], [x], rfl, ⟨q', rfl, ?_, hq', b, rfl⟩, [x], [], rfl, ⟨x, rfl, hx1, rfl⟩, rfl⟩, hn⟩, trivial⟩, by simp, fun c hc => ?_⟩
      · rcases hq' with rfl | rfl <;> rfl
      · simp at hc
        subst hc
        have := h6 c (by simp)
        exact ⟨by rw [hsz]; exact this, .inl (by simp)⟩
    have c0 : w.cell? ⟨b, 0, none⟩ = some q := by rw [cell_of hb]; rfl
    rcases hq with rfl | rfl
    · refine (hfresh b w c0 (by simp [World.shape?, hb]) (by simp [World.frozen?, hb])).mono fun e w' hq => ?_
      obtain ⟨rfl, rfl⟩ := hq
      refine hpack _ (.pointer (some ⟨b, 0, none⟩)) ⟨rfl, rfl, rfl, by simp, fun c hc hne => Et (by simpa using hne), BC.le_refl _, fun _ _ _ => rfl⟩ ⟨fun c o u e => by simpa using h1.lt c o u e, fun c o u e => ?_⟩ (F7 hb) (.inr rfl) (by simp)
      have hne : c ≠ b := fun e' => by rw [e', hn o] at e; cases e
      exact (World.cell?_of_block (w := w) (Et hne)).trans (h1.cell c o u e)
    · refine (hused b w c0).mono fun e w' hq => ?_
      obtain ⟨rfl, rfl⟩ := hq
      exact hpack w' _ (Step.refl _ _ _) h1 hb (.inr rfl) rfl

def MW (v : Value) : VP := ⟨fun _ u => u = v ∧ v.oneCell' = true, fun _ h => h⟩
theorem Gn (v : Value) : Cells (MW v) [one (A4 v)] := by
  rintro Φ u ⟨rfl, h⟩
  have h2 : u.cells.toList = [u] := by cases u <;> first | rfl | (simp [Value.oneCell'] at h)
  rw [h2]
  exact ⟨[u], [], rfl, ⟨u, rfl, h, rfl⟩, rfl⟩
theorem Gt {α : Type} {v : Value} {T : TypeId} {sz : Nat} {c : α → List Ck} {xs : List α} : ∀ Φ f w, (acc v T sz c xs).p Φ f w → v.oneCell' = true := by
  rintro Φ f w ⟨_, ⟨rfl, _⟩ | ⟨b, cap, cs, zs, rfl, _⟩⟩ <;> rfl
theorem ID {G : FP} {N : List BX} {t : Nat} {v : Value} {R0 : RP} (i j : Nat) (he : BB .none N i = .slot t (A4 v)) (hf : BB .none N j = .res R0) (h1 : ∀ Φ f w, R0.p Φ f w → v.oneCell' = true) : A3 G N (.tmp t) (MW v) := by
  intro Φ a w f hG hN
  obtain ⟨g, hr⟩ := hN.res j hf
  exact ⟨opt (G := G) i he Φ a w f hG hN, h1 _ _ _ hr⟩
theorem Il {p v : Value} {Φ : BC} (h : (BH p 0).p Φ v) : (A4 p).p Φ v := by
  obtain ⟨b, h1, h2⟩ := h
  exact h2.trans h1.symm
theorem G7 {p v : Value} {Φ : BC} (h : (A4 p).p Φ v) (hp : ∃ b, p = .pointer (some ⟨b, 0, none⟩)) : (BH p 0).p Φ v := by
  obtain ⟨b, hb⟩ := hp
  have h : v = p := h
  exact ⟨b, hb, h.trans hb⟩
theorem Ag {P : Program} {G : FP} {N : List BX} {d : Nat} {ty : TypeId} {pos : String} {af : Array Edge} {gd : Option (Nat × Bool)} {s : TypeId} {x : Operand} {p : Value} {fields : Array Field} {i n : Nat} {fd : Field} (k m : Nat) (hu : P.underlying s = some (.struct fields)) (hi : fields[i]? = some fd) (hs : ∀ w, (sizeOf fd.type).run P w = .ok n w) (hn : n ≠ 0)
    (hx : A3 G N x (BH p k)) (hm : k + fd.offset = m) : Bu P G ⟨some d, .fieldAddr s x i, ty, pos, af, gd⟩ N [] (fun _ => [.slot d (BH p m)]) := by
  subst hm; exact Gi hu hi hs hn hx
theorem Bh.Bb {P : Program} {G : FP} {ops : Array Oper} {o : Oper} {k d d' : Nat} {want b : Bool} {ok : Oper} (hb : b = !want) (hg : o.guard = some (k, want)) (hk : ops[k]? = some ok) (hd : ok.dst = some d) (hd' : o.dst = some d') :
    Bh P G ops o [.slot d (Ak b)] [] (fun _ => [.slot d' (A4 undef)]) := by
  subst hb
  intro Φ a w fN fC h1 h2 h3 h4 h5 h6 h7 K Q hK
  match fN, h3 with
  | [f], h3 =>
    match fC, h4 with
    | [], _ =>
      obtain ⟨⟨rfl, v, hv, hb⟩, _⟩ := h3
      have hb : v = .bool !want := hb
      subst hb
      unfold Iu
      rw [if_neg (by cases want <;> simp [Region.wanted, hg, yielded, hk, hd, hv])]
      exact hK undef w Φ [[]] (Step.refl _ _ _) h1 ⟨⟨rfl, undef, by rw [hd']; exact C3 a undef d' (h7 d' hd'), rfl⟩, trivial⟩ (by simp) (by simp)
theorem Bh.F9 {P : Program} {G : FP} {ops : Array Oper} {o : Oper} {k d d' : Nat} {want : Bool} {ok : Oper} (hg : o.guard = some (k, want)) (hk : ops[k]? = some ok) (hd : ok.dst = some d) (hd' : o.dst = some d') :
    Bh P G ops o [.slot d (A4 undef)] [] (fun _ => [.slot d' (A4 undef)]) := by
  intro Φ a w fN fC h1 h2 h3 h4 h5 h6 h7 K Q hK
  match fN, h3 with
  | [f], h3 =>
    match fC, h4 with
    | [], _ =>
      obtain ⟨⟨rfl, v, hv, hb⟩, _⟩ := h3
      have hb : v = undef := hb
      subst hb
      unfold Iu
      rw [if_neg (by cases want <;> simp [Region.wanted, hg, yielded, hk, hd, hv, undef])]
      exact hK undef w Φ [[]] (Step.refl _ _ _) h1 ⟨⟨rfl, undef, by rw [hd']; exact C3 a undef d' (h7 d' hd'), rfl⟩, trivial⟩ (by simp) (by simp)

end
section
open Go Go.RowKit

def Bi (w : World) : BC := fun b o => w.cell? ⟨b, o, none⟩
theorem Jc (w : World) : CR (Bi w) w := by
  refine ⟨fun b o v h => ?_, fun b o v h => h⟩
  unfold Bi World.cell? at h
  cases hb : w.heap[b]? with
  | none => simp [hb] at h
  | some x => exact (Array.getElem?_eq_some_iff.1 hb).1

def Dq {α : Type} (P : Program) (t : TypeId) (c : α → List Ck) : Prop := ∀ {H : Type} (enc : TypeId × Value → H) (w : World) (base : Nat) (sp : Nat → Bool) (held : Bool) (fuel : Nat) (cs : List Value) (r : DataW H × List MemPlace),
  DataW.trod enc P w base sp held fuel t cs = some r → ∃ x : α, Bg (Bi w) cs (c x)

section
variable {P : Program} {t e : TypeId}
theorem FZ {k : IntKind} {n : Int} (h : (Lit.int k n).wf = true) : CH k n := by
  simpa [Lit.wf, CH] using h
theorem BD {k : IntKind} (ht : P.underlying t = some (.int k)) : Dq P t (iC k) := by
  intro H enc w base sp held fuel cs r h
  obtain ⟨n, rfl, _, hw⟩ := DataW.trod_int ht h
  exact ⟨n, [_], [], rfl, ⟨_, rfl, rfl, rfl, FZ hw⟩, rfl⟩
theorem Fo (ht : P.underlying t = some .bool) : Dq P t Mg := by
  intro H enc w base sp held fuel cs r h
  obtain ⟨b, rfl, _⟩ := DataW.trod_bool ht h
  exact ⟨b, [_], [], rfl, ⟨_, rfl, rfl, rfl⟩, rfl⟩
theorem Eg (ht : P.underlying t = some .string) : Dq P t Fk := by
  intro H enc w base sp held fuel cs r h
  obtain ⟨s, rfl, _, hl⟩ := DataW.trod_string ht h
  refine ⟨s.data.toList, [_], [], rfl, ⟨_, rfl, rfl, rfl, ?_⟩, rfl⟩
  have e1 : s.data.toList.length = s.size := rfl
  unfold maxLen at hl
  unfold Cp
  omega
theorem Ju (ht : P.underlying t = some (.int .u8)) : Dq P t bC := by
  intro H enc w base sp held fuel cs r h
  obtain ⟨n, rfl, _, hw⟩ := DataW.trod_int ht h
  have hr := FZ hw
  exact ⟨Dz n, GO n (Bi w) _ ⟨rfl, hr⟩⟩
theorem F3 {α : Type} {c : α → List Ck} {Φ : BC} {sz : Nat} (cs : List Value) : ∀ (n : Nat), cs.length = n * sz → (∀ i, i < n → ∃ x, Bg Φ ((cs.drop (i * sz)).take sz) (c x)) → ∃ xs : List α, xs.length = n ∧ Cl Φ c cs xs
  | 0, hl, _ => ⟨[], rfl, List.eq_nil_of_length_eq_zero (by simpa using hl)⟩
  | n + 1, hl, h => by
    have hle : n * sz + sz = (n + 1) * sz := by rw [Nat.add_mul, Nat.one_mul]
    obtain ⟨xs, h1, h2⟩ := F3 (c := c) (Φ := Φ) (sz := sz) (cs.take (n * sz)) n (by rw [List.length_take]; omega) (fun i hi => by
      obtain ⟨x, hx⟩ := h i (by omega)
      have hle2 : i * sz + sz ≤ n * sz := by
        have : (i + 1) * sz ≤ n * sz := Nat.mul_le_mul_right _ hi
        rw [Nat.add_mul, Nat.one_mul] at this; exact this
      refine ⟨x, ?_⟩
      rw [List.drop_take, List.take_take, Nat.min_eq_left (by omega)]
      exact hx)
    obtain ⟨x, hx⟩ := h n (by omega)
    refine ⟨xs ++ [x], by simp [h1], ?_⟩
    have : cs = cs.take (n * sz) ++ cs.drop (n * sz) := (List.take_append_drop _ _).symm
    rw [this]
    refine h2.append ⟨cs.drop (n * sz), [], by simp, ?_, rfl⟩
    rw [List.take_of_length_le (by rw [List.length_drop]; omega)] at hx
    exact hx
theorem Ca {n : Nat} (ht : P.underlying t = some (.array n e)) (he : P.underlying e = some (.int .u8)) (h1 : P.cellsOf e = 1) (hn : P.cellsOf t = n) : Dq P t (dC n) := by
  intro H enc w base sp held fuel cs r h
  obtain ⟨xs, m, _, _, hl, hx, hel⟩ := DataW.trod_array ht h
  rw [h1] at hel
  obtain ⟨l, hl2, hA⟩ := F3 (c := bC) (Φ := Bi w) (sz := 1) cs n (by rw [hl, hn]; simp) (fun i hi => by
    have h2 := hel i hi
    have hix : i < xs.length := by omega
    rw [List.getElem?_eq_getElem hix] at h2
    exact Ju he enc w base sp held m _ _ h2)
  exact ⟨l, cs, [], by simp, ⟨hl2, Fu l cs hA⟩, rfl⟩
theorem I1 {α : Type} {n sz : Nat} {c : α → List Ck} {hsz : ∀ x, lens (c x) = sz} (ht : P.underlying t = some (.array n e)) (ho : Dq P e c) (h1 : P.cellsOf e = sz) (hn : P.cellsOf t = n * sz) : Dq P t (fun l => [Bd n sz c hsz l]) := by
  intro H enc w base sp held fuel cs r h
  obtain ⟨xs, m, _, _, hl, hx, hel⟩ := DataW.trod_array ht h
  rw [h1] at hel
  obtain ⟨l, hl2, hA⟩ := F3 (c := c) (Φ := Bi w) (sz := sz) cs n (by rw [hl, hn]) (fun i hi => by
    have h2 := hel i hi
    have hix : i < xs.length := by omega
    rw [List.getElem?_eq_getElem hix] at h2
    exact ho enc w base sp held m _ _ h2)
  exact ⟨l, cs, [], by simp, ⟨hl2, hA⟩, rfl⟩
theorem add_add (a : Addr) (i j : Nat) : (a.add i).add j = a.add (i + j) := by
  unfold Addr.add
  by_cases hi : i = 0
  · simp [hi]
  · by_cases hj : j = 0
    · simp [hi, hj]
    · simp [hi, hj, Nat.add_assoc]
theorem CK {α : Type} {sz : Nat} {c : α → List Ck} (ht : P.underlying t = some (.slice e)) (ho : Dq P e c) (h1 : P.cellsOf e = sz) (hsz : ∀ x, lens (c x) = sz) (hpos : 0 < sz) : Dq P t (Je c) := by
  intro H enc w base sp held fuel cs r h
  rcases DataW.trod_slice ht h with ⟨rfl, _⟩ | ⟨a, len, cap, elems, rest, m, _, rfl, _, hb, hlc, hcm, hel, hget, _⟩
  · exact ⟨[], [_], [], rfl, ⟨_, rfl, rfl, by simp [Cp], .inl ⟨rfl, rfl⟩⟩, rfl⟩
  · rw [h1] at hget
    have hone : ∀ i, i < len → ∃ (us : List Value) (x : α), us.length = sz ∧ (∀ j, j < sz → w.cell? (a.add (i * sz + j)) = us[j]?) ∧ Bg (Bi w) us (c x) := fun i hi => by
      have h2 := hget i hi
      have hix : i < elems.length := by omega
      rw [List.getElem?_eq_getElem hix] at h2
      obtain ⟨us, hus, htr⟩ := Option.bind_eq_some_iff.1 h2
      obtain ⟨_, hul, hcell⟩ := World.cells?_some hus
      obtain ⟨x, hx⟩ := ho enc w base sp held m us _ htr
      exact ⟨us, x, hul, fun j hj => by rw [← add_add]; exact hcell j hj, hx⟩
    have key : ∀ n, n ≤ len → ∃ (xs : List α) (vs : List Value), xs.length = n ∧ vs.length = n * sz ∧ Cl (Bi w) c vs xs ∧ ∀ j, j < n * sz → w.cell? (a.add j) = vs[j]? := by
      intro n
      induction n with
      | zero => exact fun _ => ⟨[], [], rfl, by simp, rfl, fun j hj => by simp at hj⟩
      | succ n ih =>
        intro hn
        obtain ⟨xs, vs, q1, q2, q3, q4⟩ := ih (by omega)
        obtain ⟨us, x, r1, r2, r3⟩ := hone n (by omega)
        refine ⟨xs ++ [x], vs ++ us, by simp [q1], by rw [List.length_append, q2, r1, Nat.add_mul, Nat.one_mul], q3.append ⟨us, [], by simp, r3, rfl⟩, fun j hj => ?_⟩
        rw [Nat.add_mul, Nat.one_mul] at hj
        by_cases hlt : j < n * sz
        · rw [q4 j hlt, List.getElem?_append_left (by omega)]
        · have := r2 (j - n * sz) (by omega)
          rw [show n * sz + (j - n * sz) = j by omega] at this
          rw [this, List.getElem?_append_right (by omega), q2]
    obtain ⟨xs, vs, q1, q2, q3, q4⟩ := key len (Nat.le_refl _)
    subst q1
    have hlen : xs.length ≤ Cp := by simp only [maxLen] at hcm; simp only [Cp]; omega
    by_cases h0 : xs = []
    · subst h0
      exact ⟨[], [_], [], rfl, ⟨_, rfl, rfl, by simp [Cp], .inr (.inr ⟨rfl, a, cap, rfl⟩)⟩, rfl⟩
    · have hpl : 0 < xs.length * sz := Nat.mul_pos (List.length_pos_iff.2 h0) hpos
      have hspot : a.spot = none := by
        have h2 := q4 0 hpl
        have h3 : a.add 0 = a := rfl
        rw [h3, List.getElem?_eq_getElem (by omega : 0 < vs.length)] at h2
        cases hs : a.spot with
        | none => rfl
        | some s =>
          unfold World.cell? at h2
          split at h2 <;> simp [hs] at h2
      obtain ⟨b, o, s⟩ := a
      have hspot : s = none := hspot
      subst hspot
      refine ⟨xs, [_], [], rfl, ⟨_, rfl, rfl, hlen, .inr (.inl ⟨b, o, cap, vs, rfl, hlc, q3, fun j v hj => ?_⟩)⟩, rfl⟩
      have hjl : j < xs.length * sz := by
        rcases Nat.lt_or_ge j (xs.length * sz) with q | q
        · exact q
        · rw [List.getElem?_eq_none (by omega)] at hj; cases hj
      have := q4 j hjl
      rw [Addr.add_lit] at this
      exact this.trans hj
theorem B1 {H : Type} {enc : TypeId × Value → H} {w : World} {base : Nat} {sp : Nat → Bool} {held : Bool} {fuel : Nat} {cs : List Value} {r : DataW H × List MemPlace} {fs : Array Field} (ht : P.underlying t = some (.struct fs)) (h : DataW.trod enc P w base sp held fuel t cs = some r) :
    cs.length = P.cellsOf t ∧ ∀ (i : Nat) (f : Field), fs[i]? = some f → ∀ {α : Type} {c : α → List Ck}, Dq P f.type c → ∃ x, Bg (Bi w) ((cs.drop f.offset).take (P.cellsOf f.type)) (c x) := by
  obtain ⟨xs, n, _, _, hl, hx, hel⟩ := DataW.trod_struct ht h
  refine ⟨hl, fun i f hf α c ho => ?_⟩
  have h2 := hel i f hf
  have hix : i < xs.length := by
    rw [hx]
    exact (Array.getElem?_eq_some_iff.1 hf).1
  rw [List.getElem?_eq_getElem hix] at h2
  exact ho enc w base sp held n _ _ h2
theorem Ce {Φ : BC} {cs : List Value} {L M : List Ck} (k n : Nat) (h : Bg Φ ((cs.drop k).take n) L) (h2 : Bg Φ (cs.drop (k + n)) M) : Bg Φ (cs.drop k) (L ++ M) := by
  have : cs.drop k = (cs.drop k).take n ++ cs.drop (k + n) := by rw [← List.drop_drop, List.take_append_drop]
  rw [this]
  exact h.append h2
theorem F2 {Φ : BC} {cs : List Value} {n : Nat} (h : cs.length = n) : Bg Φ (cs.drop n) [] := List.drop_eq_nil_of_le (by omega)
theorem I0 {α : Type} {H : Type} {enc : TypeId × Value → H} {w : World} {base : Nat} {sp : Nat → Bool} {held : Bool} {v : Value} {d : DataW H} {p : List MemPlace} {c : α → List Ck} (ho : Dq P t c) (h : DataW.Trod enc P w base sp held t v d p) : ∃ x, Bg (Bi w) v.cells.toList (c x) := by
  obtain ⟨fuel, h⟩ := h
  exact ho enc w base sp held fuel _ _ h
end

end
section
open Go Go.RowKit Go.Proofs Go.WideShapes
set_option linter.unusedVariables false
def Wf {α : Type} (c : α → List Ck) (p : α → Prop) : Prop := ∀ Φ cs x, Bg Φ cs (c x) → p x
theorem Cv {k : IntKind} : Wf (iC k) (CH k) := fun _ _ _ ⟨_, _, _, ⟨_, _, _, h⟩, _⟩ => h.2
theorem FR : Wf Fk (fun s => s.length ≤ Cp) := fun _ _ _ ⟨_, _, _, ⟨_, _, _, h⟩, _⟩ => h.2
theorem C6 {n : Nat} : Wf (dC n) (fun l => l.length = n) := fun _ _ _ ⟨_, _, _, h, _⟩ => h.1
theorem Cl.wf {α : Type} {c : α → List Ck} {p : α → Prop} (h : Wf c p) {Φ : BC} : ∀ {l : List α} {cs : List Value}, Cl Φ c cs l → ∀ y ∈ l, p y
  | [], _, _, y, hy => by cases hy
  | x :: l, cs, ⟨u, v, _, h1, h2⟩, y, hy => by
    rcases List.mem_cons.1 hy with rfl | hy
    · exact h _ _ _ h1
    · exact Cl.wf h h2 y hy
theorem DA {α : Type} {c : α → List Ck} {p : α → Prop} (h : Wf c p) : Wf (Je c) (fun l => l.length ≤ Cp ∧ ∀ y ∈ l, p y) := by
  rintro Φ cs x ⟨_, _, _, ⟨_, _, _, h1⟩, _⟩
  refine ⟨h1.1, ?_⟩
  rcases h1.2 with ⟨_, rfl⟩ | ⟨_, _, _, _, _, _, h2, _⟩ | ⟨rfl, _⟩
  · intro y hy; cases hy
  · exact Cl.wf h h2
  · intro y hy; cases hy
theorem KV {α : Type} {n sz : Nat} {c : α → List Ck} {hsz : ∀ x, lens (c x) = sz} {p : α → Prop} (h : Wf c p) : Wf (fun l => [Bd n sz c hsz l]) (fun l => l.length = n ∧ ∀ y ∈ l, p y) := by
  rintro Φ cs x ⟨_, _, _, ⟨h1, h2⟩, _⟩
  exact ⟨h1, Cl.wf h h2⟩
theorem Bv {Φ : BC} {cs : List Value} {k : Ck} {L : List Ck} (h : Bg Φ cs (k :: L)) : (∃ u, Bg Φ u [k]) ∧ ∃ v, Bg Φ v L := by
  obtain ⟨u, v, _, h1, h2⟩ := h
  exact ⟨⟨u, u, [], by simp, h1, rfl⟩, v, h2⟩
theorem Fx {Φ : BC} {cs : List Value} {K L : List Ck} (h : Bg Φ cs (K ++ L)) : (∃ u, Bg Φ u K) ∧ ∃ v, Bg Φ v L := by
  obtain ⟨u, v, _, h1, h2⟩ := h.split
  exact ⟨⟨u, h1⟩, v, h2⟩
theorem Lq {α : Type} {Φ : BC} {v : Value} {c : α → List Ck} {x : α} {P : Program} {W : World} {base : Nat} {t : TypeId} (hv : Value.okWide P W .any base t v) (ht : (match P.underlying t with | some (.struct _) | some (.array _ _) => True | _ => False)) (h : Bg Φ v.cells.toList (c x)) : (Cs (c x)).p Φ v := by
  unfold Value.okWide at hv
  split at hv
  · obtain ⟨cs, rfl, _⟩ := hv
    exact ⟨cs.toList, by simp, by simpa [Value.cells] using h⟩
  · obtain ⟨cs, rfl, _⟩ := hv
    exact ⟨cs.toList, by simp, by simpa [Value.cells] using h⟩
  · rename_i h1 h2
    split at ht
    · rename_i q; exact absurd q (h1 _)
    · rename_i q; exact absurd q (h2 _ _)
    · exact ht.elim

end
section
open Go Go.RowKit Go.Proofs
set_option linter.unusedVariables false
set_option linter.unusedSimpArgs false
theorem KU {α : Type} {c : α → List Ck} {z : α} {zs : List Value} (h : ∀ Φ, Bg Φ zs (c z)) (Φ : BC) : ∀ n, Cl Φ c (List.replicate n zs).flatten (List.replicate n z)
  | 0 => rfl
  | n + 1 => ⟨zs, (List.replicate n zs).flatten, rfl, h Φ, KU h Φ n⟩
end
section
open Go Go.RowKit Go.Proofs
set_option linter.unusedVariables false
set_option linter.unusedSimpArgs false

def own {α : Type} (v : Value) (T : TypeId) (sz : Nat) (c : α → List Ck) (xs : List α) : RP := ⟨fun Φ f w => xs.length ≤ Cp ∧ ((v = .slice none 0 0 ∧ xs = [] ∧ f = []) ∨
    ∃ b cap cs zs, v = .slice (some ⟨b, 0, none⟩) xs.length cap ∧ f = [b] ∧ w.heap[b]? = some (.cells (cs ++ zs).toArray T (0, 0)) ∧ Cl Φ c cs xs ∧ (cs ++ zs).length = cap * sz ∧ xs.length ≤ cap ∧ ∀ o, Φ b o = none), by
  rintro Φ Φ' f w w' hle hs hb ⟨hm, ⟨h1, h2, h3⟩ | ⟨b, cap, cs, zs, h1, h2, h3, h4, h5, h6, h8⟩⟩
  · exact ⟨hm, .inl ⟨h1, h2, h3⟩⟩
  · refine ⟨hm, .inr ⟨b, cap, cs, zs, h1, h2, ?_, h4.mono hle, h5, h6, fun o => ?_⟩⟩
    · rw [hb b (by simp [h2])]; exact h3
    · rw [hs b (by simp [h2])]; exact h8 o⟩
end
section
open Go Go.RowKit Go.Proofs
set_option linter.unusedVariables false
set_option linter.unusedSimpArgs false

def JQ : VP := ⟨fun _ v => v = .slice none 0 0 ∨ ∃ a, v = .slice (some a) 0 0, fun _ h => h⟩
section ops
variable {P : Program} {G : FP} {N : List BX} {d : Nat} {ty : TypeId} {pos : String} {af : Array Edge} {gd : Option (Nat × Bool)}
theorem Gf {w : World} {sT ty e : TypeId} {i : TypeInfo} (ht : P.underlying sT = some (.slice e)) (hi : P.info? e = some i) (a : Addr) (u : Value) (hu : u = .slice none 0 0 ∨ ∃ b cap, u = .slice (some b) 0 cap) :
    (Builtin.append_ #[sT, sT] ty #[.slice (some a) 0 0, u]).run P w = .ok (.slice (some a) 0 0) w := by
  rcases hu with rfl | ⟨b, cap, rfl⟩
  · simp [Builtin.append_, run_underlying ht, sizeOf, typeInfo, hi, Builtin.lenOf, Builtin.firstCells, storeCells]
  · simp [Builtin.append_, run_underlying ht, sizeOf, typeInfo, hi, Builtin.lenOf, Builtin.firstCells, storeCells, loadCells, loadCellsFrom]
theorem GV {α : Type} {e sT : TypeId} {i : TypeInfo} {z : Value} {c : α → List Ck} {ys : List α} {s x : Operand} (ht : P.underlying sT = some (.slice e)) (hi : P.info? e = some i) (hz : i.zero = some z) (hsz : ∀ x, lens (c x) = i.size) (hpos : 0 < i.size) (hzs : z.cells.size = i.size)
    (hs : A3 G N s JQ) (hx : A3 G N x (Ah c ys)) (hb : ys.length * i.bytes ≤ 140737488355328) :
    Bu P G ⟨some d, .call ⟨.builtin .append, #[s, x], #[sT, sT]⟩, ty, pos, af, gd⟩ N [] (fun _ => [.slot d (Ah c ys)]) := by
  intro Φ a w fN fC h1 h2 h3 h4 h5 h6 h7 K Q hK
  match fC, h4 with
  | [], _ =>
  have hxv := hx Φ a w fN h2 h3
  have hsv := hs Φ a w fN h2 h3
  have hmx := hxv.1
  have h63 : ((ys.length : Nat) : Int) ≤ 9223372036854775807 := by have := (EG hmx).2; simp [IntKind.max, IntKind.bits, IntKind.signed] at this; omega
  have hexec : ∀ v' w', (Builtin.append_ #[sT, sT] ty #[a.eval s, a.eval x]).run P w = .ok v' w' → (execOp a.eval ⟨some d, .call ⟨.builtin .append, #[s, x], #[sT, sT]⟩, ty, pos, af, gd⟩).run P w = .ok (.value v') w' := by
    intro v' w' hr
    simp only [execOp, resolve, List.map_toArray, List.map_cons, List.map_nil, Sem.run_bind, Sem.run_pure, Result.andThen_ok, invoke, builtin, hr]
  by_cases h0 : ys.length = 0
  · have hy : ys = [] := List.eq_nil_of_length_eq_zero h0
    subst hy
    have hxe : a.eval x = .slice none 0 0 ∨ ∃ b cap, a.eval x = .slice (some b) 0 cap := by
      rcases hxv.2 with ⟨h, _⟩ | ⟨b, o, cap, cs, h, _⟩ | ⟨_, b, cap, h⟩
      · exact .inl h
      · exact .inr ⟨_, _, h⟩
      · exact .inr ⟨_, _, h⟩
    rcases hsv with hv | ⟨ad, hv⟩
    · have hr : (Builtin.append_ #[sT, sT] ty #[a.eval s, a.eval x]).run P w = .ok (.slice none 0 0) w := by
        rw [hv]
        rcases hxe with h | ⟨b, cap, h⟩
        · rw [h]; exact (Src.nil (w := w) (z := z) ht hi).idle rfl
        · rw [h]; exact (Src.slice (w := w) (z := z) (n := 0) (ds := []) ht hi hz (by simp) (fun j v hj => by simp at hj) (by simp)).idle rfl
      unfold Oper.wp
      rw [hexec _ _ hr, Oper.upon_value]
      exact hK _ w Φ [[]] (Step.refl _ _ _) h1 ⟨⟨rfl, _, C3 a _ d (h7 d rfl), by simp [Cp], .inl ⟨rfl, rfl⟩⟩, trivial⟩ (by simp) (by simp)
    · have hr : (Builtin.append_ #[sT, sT] ty #[a.eval s, a.eval x]).run P w = .ok (.slice (some ad) 0 0) w := by
        rw [hv]; exact Gf ht hi ad _ hxe
      unfold Oper.wp
      rw [hexec _ _ hr, Oper.upon_value]
      exact hK _ w Φ [[]] (Step.refl _ _ _) h1 ⟨⟨rfl, _, C3 a _ d (h7 d rfl), by simp [Cp], .inr (.inr ⟨rfl, ad, 0, rfl⟩)⟩, trivial⟩ (by simp) (by simp)
  · obtain ⟨ds, hS, hA⟩ : ∃ ds, Src P w sT sT ty e i z (a.eval x) ys.length ds ∧ Cl Φ c ds ys := by
      rcases hxv.2 with ⟨h, rfl⟩ | ⟨b, o, cap, ds, hv, _, hA, hp⟩ | ⟨rfl, b, cap, hv⟩
      · exact absurd rfl h0
      · rw [hv]; exact ⟨ds, Src.slice ht hi hz (hA.len hsz) (fun j v hj => by rw [Addr.add_lit]; exact h1.cell _ _ _ (hp j v hj)) hA.cell, hA⟩
      · exact absurd rfl h0
    have hdl : ds.length = ys.length * i.size := hA.len hsz
    have hnew : ∃ cap, ys.length ≤ cap ∧ (Builtin.append_ #[sT, sT] ty #[a.eval s, a.eval x]).run P w = .ok (.slice (some ⟨w.heap.size, 0, none⟩) ys.length cap) (w.drew.alloc (.cells (ds.toArray ++ Builtin.zeroCells z.cells (cap - ys.length)) e)) := by
      rcases hsv with hv | ⟨ad, hv⟩
      · refine ⟨grownCap w ys.length 0 e, by have := grownCap_ge w ys.length 0 e; simpa using this, ?_⟩
        rw [hv]; exact hS.fresh (by omega) h63 (by omega)
      · refine ⟨grownCap w (0 + ys.length) 0 e, by have := grownCap_ge w (0 + ys.length) 0 e; simpa using this, ?_⟩
        rw [hv]
        have hr := hS.grow ad 0 0 [] (by simp) (fun j v hj => by simp at hj) (Nat.le_refl _) (by omega) (by simpa using h63) (growslice_fits (by omega) (by simpa using hb))
        simpa using hr
    obtain ⟨cap, hcap, hr⟩ := hnew
    let Φ' : BC := fun b o => if b = w.heap.size then ds[o]? else Φ b o
    have hle : BC.le Φ Φ' := fun b o v e => by
      have := h1.lt b o v e
      simp only [Φ', if_neg (by omega : ¬ b = w.heap.size)]
      exact e
    unfold Oper.wp
    rw [hexec _ _ hr, Oper.upon_value]
    refine hK _ _ Φ' [[]] ⟨rfl, rfl, rfl, by simp, fun b hb _ => @Go.heap_alloc_old w.drew _ b hb, hle, fun b hb _ => by funext o; simp only [Φ', if_neg (by omega : ¬ b = w.heap.size)]⟩ ⟨fun b o v e => ?_, fun b o v e => ?_⟩
      ⟨⟨rfl, _, C3 a _ d (h7 d rfl), hmx, .inr (.inl ⟨w.heap.size, 0, cap, ds, rfl, hcap, hA.mono hle, fun j v hj => by simp only [Φ', if_pos trivial, Nat.zero_add]; exact hj⟩)⟩, trivial⟩ (by simp) (by simp)
    · by_cases hbb : b = w.heap.size
      · simp [hbb]
      · simp only [Φ', if_neg hbb] at e
        have := h1.lt b o v e
        simp; omega
    · by_cases hbb : b = w.heap.size
      · subst hbb
        simp only [Φ', if_pos trivial] at e
        rw [show w.heap.size = w.drew.heap.size from rfl, World.cell?_alloc_new]
        have hlt : o < ds.length := by
          rcases Nat.lt_or_ge o ds.length with q | q
          · exact q
          · rw [List.getElem?_eq_none q] at e; cases e
        rw [Array.getElem?_append_left (by simpa using hlt)]
        simpa using e
      · simp only [Φ', if_neg hbb] at e
        rw [World.cell?_alloc_lt _ _ _ (show b < w.drew.heap.size from h1.lt b o v e)]
        exact h1.cell b o v e
end ops

end
section
open Go Go.RowKit Go.Proofs
set_option linter.unusedVariables false
set_option linter.unusedSimpArgs false

def Hk {α : Type} (xs : List α) : VP := ⟨fun _ v => ∃ b : Bool, v = .bool b ∧ (b = true → xs = []), fun _ h => h⟩
theorem Jb {P : Program} {α : Type} {c : α → List Ck} {xs : List α} {t e : TypeId} (hu : P.underlying t = some (.slice e)) : Hz P .eql t (Ah c xs) (A4 (.slice none 0 0)) (Hk xs) := by
  rintro Φ u v w x y ⟨_, hx⟩ hv
  have hv : v = .slice none 0 0 := hv
  subst hv
  have hrun : ∀ (a : Option Addr) (n cap : Nat), (do eqGuard .eql t x y (.slice a n cap) (.slice none 0 0); binOp .eql t (.slice a n cap) (.slice none 0 0) : Sem Value).run P w = .ok (.bool a.isNone) w := by
    intro a n cap
    simp only [eqGuard_at_slice, binOp]
    simp [Op.equal, Op.maxDepth, Lib.run_equalIn_slice_nil w 9999 t e a n cap 0 0 hu]
  rcases hx with ⟨rfl, rfl⟩ | ⟨b, o, cap, cs, rfl, _⟩ | ⟨rfl, a, cap, rfl⟩
  · exact ⟨_, hrun _ _ _, _, rfl, fun _ => rfl⟩
  · exact ⟨_, hrun _ _ _, _, rfl, fun h => by cases h⟩
  · exact ⟨_, hrun _ _ _, _, rfl, fun _ => rfl⟩
theorem AX.Mq {c : Cx} {l : List BX} {a : Act} {w : World} {α : Type} {xs : List α} {d : Nat} (h : AX c l a w) (i : Nat) (he : BB .none l i = .slot d (Hk xs)) : ∃ b : Bool, (b = true → xs = []) ∧ AX c (l.set i (.slot d (Ak b))) a w := by
  obtain ⟨Φ, fp, h0⟩ := h
  have hi := Dv he (by simp)
  have hx := h0.holds i hi
  rw [he] at hx
  obtain ⟨hf, v, hv, b, hb, hq⟩ := hx
  subst hb
  refine ⟨b, hq, Φ, fp, h0.defers, h0.size, h0.HG, h0.FY, h0.step, fun j hj => ?_, fun j hj => h0.own j (by simpa using hj), fun j k hj hk => h0.apart j k (by simpa using hj) (by simpa using hk)⟩
  have hj : j < l.length := by simpa using hj
  by_cases e : i = j
  · subst e
    rw [CO, if_pos ⟨rfl, hi⟩]
    exact ⟨hf, _, hv, rfl⟩
  · rw [CO, if_neg (fun hc => e hc.1)]
    exact h0.holds j hj
section ops
variable {P : Program} {G : FP} {N : List BX} {d : Nat} {ty : TypeId} {pos : String} {af : Array Edge} {gd : Option (Nat × Bool)}
theorem Kh {t e : TypeId} {sz : Nat} (hu : P.underlying t = some (.slice e)) (hs : ∀ w, (sizeOf e).run P w = .ok sz w) {z : Value} (hz : ∀ w, (zeroValue e).run P w = .ok z w) :
    Bu P G ⟨some d, .buildSlice t 0 #[], ty, pos, af, gd⟩ N [] (fun _ => [.slot d JQ]) := by
  intro Φ a w fN fC h1 h2 h3 h4 h5 h6 h7 K Q hK
  match fC, h4 with
  | [], _ =>
    have hrun : (execOp a.eval ⟨some d, .buildSlice t 0 #[], ty, pos, af, gd⟩).run P w = .ok (.value (.slice (some ⟨w.heap.size, 0, none⟩) 0 0)) (w.alloc (.cells #[] e)) := by
      simp [execOp, Instr.buildSlice, run_underlying hu, hs, hz, Instr.fill, newRow]
      have e0 : (Array.range 0).map (fun _ => (default : Value)) = #[] := by apply Array.ext'; simp [Array.toList_range]
      rw [e0]
    unfold Oper.wp
    rw [hrun, Oper.upon_value]
    exact hK _ _ Φ [[]] (Gx w Φ _) (FV h1 _) ⟨⟨rfl, _, C3 a _ d (h7 d rfl), .inr ⟨_, rfl⟩⟩, trivial⟩ (by simp) (by simp)
end ops
end
section
open Go Go.RowKit Go.Proofs

structure Ha where
  BR : List Nat
  cons : List Nat
  BY : List GE
def eN (E : List GE) (β : Nat → Value) (r : Nat) : BX := (BB (.base .none) E r).at β

inductive Acc (P : Program) (G : FP) (ops : Array Oper) : List GE → Nat → List Oper → List Ha → Prop
  | nil {E : List GE} {i : Nat} : Acc P G ops E i [] []
  | cons {E : List GE} {i : Nat} {o : Oper} {l : List Oper} {ts : List Ha} (t : Ha)
    (h : ∀ β : Nat → Value, Bh P G ops o (t.BR.map (eN E β)) (t.cons.map (eN E β)) (fun v => t.BY.map fun g => g.at fun k => if k = i then v else β k))
    (hr : Acc P G ops (E ++ t.BY) (i + 1) l ts) : Acc P G ops E i (o :: l) (t :: ts)

def J2 (l m : List Nat) : List Nat := m.foldl (fun acc x => if acc.contains x then acc else x :: acc) l
def Lo (ops : Array Oper) (k : Nat) (b : List (List Nat)) : List (List Nat) := b ++ [(direct ops k).foldl (fun acc j => J2 (J2 acc [j]) (BB [] b j)) []]
def KN (ops : Array Oper) : Nat → List (List Nat)
  | 0 => []
  | k + 1 => Lo ops k (KN ops k)
def KM : Nat → List (List Nat)
  | 0 => []
  | k + 1 => KM k ++ [List.range k]
def ML (ops : Array Oper) : Bool → List (List Nat)
  | true => KN ops ops.size
  | false => KM ops.size
def G4 : Nat → List Ha → List Oper → List (List Nat) → List FO
  | s, t :: ts, o :: os, b :: bs => ⟨t.BR, t.cons, List.range' s t.BY.length, b, o.dst⟩ :: G4 (s + t.BY.length) ts os bs
  | _, _, _, _ => []
def IJ : Nat → List Ha → List Nat
  | _, [] => []
  | i, t :: ts => t.BY.map (fun _ => i) ++ IJ (i + 1) ts
def Hy : List Ha → List GE
  | [] => []
  | t :: ts => t.BY ++ Hy ts
def LL : Nat → List Ha → Bool
  | _, [] => true
  | s, t :: ts => (t.BR ++ t.cons).all (fun r => decide (r < s)) && LL (s + t.BY.length) ts

theorem Acc.ok {P : Program} {G : FP} {ops : Array Oper} (p : Cn) : ∀ {l : List Oper} {E : List GE} {i : Nat} {ts : List Ha} {bs : List (List Nat)}, Acc P G ops E i l ts → bs.length = l.length → LL E.length ts = true →
    p.E7 = E ++ Hy ts → (∀ j, p.op (i + j) = BB FO.none (G4 E.length ts l bs) j) → p.Ok P G ops l i
  | [], _, _, _, _, _, _, _, _, _ => trivial
  | o :: l, E, i, ts, bs, h, hb, hr, he, ho => by
    cases h with
    | @cons _ _ _ _ ts t h1 h2 =>
      cases bs with
      | nil => simp at hb
      | cons b bs =>
        simp only [LL, Bool.and_eq_true, List.all_eq_true, decide_eq_true_eq, List.mem_append] at hr
        have h0 := ho 0
        simp only [Nat.add_zero, G4, BB] at h0
        have hE : ∀ β r, r < E.length → p.E β r = eN E β r := fun β r hlt => by
          simp only [Cn.E, eN, he]
          rw [B8, if_pos hlt]
        have hg : ∀ β, (List.range' E.length t.BY.length).map (p.E β) = t.BY.map fun g => g.at β := fun β => by
          refine List.ext_getElem (by simp) fun k hk1 hk2 => ?_
          simp only [List.length_map, List.length_range'] at hk1
          simp only [List.getElem_map, List.getElem_range', Nat.one_mul, Cn.E, he, Hy]
          rw [B8, if_neg (by omega), B8, if_pos (by omega), CQ]
          simp [List.getD, show E.length + k - E.length = k by omega, hk1]
        refine ⟨⟨by rw [h0], fun β => ?_⟩, ?_⟩
        · rw [h0]
          have e1 : t.BR.map (p.E β) = t.BR.map (eN E β) := List.map_congr_left fun r hm => hE β r (hr.1 r (.inl hm))
          have e2 : t.cons.map (p.E β) = t.cons.map (eN E β) := List.map_congr_left fun r hm => hE β r (hr.1 r (.inr hm))
          simp only [e1, e2, hg]
          exact h1 β
        · refine Acc.ok p h2 (by simpa using hb) (by simpa using hr.2) (by rw [he, Hy, List.append_assoc]) fun j => ?_
          have := ho (j + 1)
          simp only [G4, BB] at this
          rw [show i + 1 + j = i + (j + 1) by omega, this]
          simp

def lk (l : List BX) (N : List GE) (β : Nat → Value) (r : Nat) : BX := bif Nat.ble 500 r then (BB (.base .none) N (r - 500)).at β else BB .none l r
def ab (m c r : Nat) : Nat := bif Nat.ble 500 r then m + (c - 1 - (r - 500)) else r
def Mc (m c r : Nat) : Bool := bif Nat.ble 500 r then decide (r - 500 < c) else decide (r < m)
theorem HM {l : List BX} {N : List GE} {r : Nat} (h : Mc l.length N.length r = true) (β : Nat → Value) : lk l N β r = eN (l.map .base ++ N.reverse) β (ab l.length N.length r) ∧ ab l.length N.length r < l.length + N.length := by
  unfold lk eN ab
  unfold Mc at h
  cases hb : Nat.ble 500 r with
  | false =>
    simp only [hb, cond_false, decide_eq_true_eq] at h
    simp only [cond_false]
    rw [B8, if_pos (by simpa using h), FG .none _ _ _ _ h]
    exact ⟨rfl, by omega⟩
  | true =>
    simp only [hb, cond_true, decide_eq_true_eq] at h
    simp only [cond_true]
    rw [B8, if_neg (by simp)]
    refine ⟨?_, by omega⟩
    rw [CQ, CQ]
    simp only [List.getD, List.length_map, show l.length + (N.length - 1 - (r - 500)) - l.length = N.length - 1 - (r - 500) by omega]
    rw [List.getElem?_reverse (by omega), show N.length - 1 - (N.length - 1 - (r - 500)) = r - 500 by omega]
def FB : List GE → List GE → List GE
  | [], N => N
  | g :: gs, N => FB gs (g :: N)
theorem FA : ∀ (gs N : List GE), FB gs N = gs.reverse ++ N
  | [], _ => rfl
  | g :: gs, N => by simp [FB, FA gs]
inductive Ac (P : Program) (G : FP) (ops : Array Oper) (l : List BX) : List GE → Nat → List Oper → List Ha → List GE → Prop
  | nil {N : List GE} {i : Nat} : Ac P G ops l N i [] [] N
  | cons {N Nf : List GE} {i : Nat} {o : Oper} {os : List Oper} {ts : List Ha} (t : Ha)
    (h : ∀ β : Nat → Value, Bh P G ops o (t.BR.map (lk l N β)) (t.cons.map (lk l N β)) (fun v => t.BY.map fun g => g.at fun k => if k = i then v else β k))
    (hr : Ac P G ops l (FB t.BY N) (i + 1) os ts Nf) : Ac P G ops l N i (o :: os) (t :: ts) Nf
def cv (m : Nat) : Nat → List Ha → List Ha
  | _, [] => []
  | c, t :: ts => ⟨t.BR.map (ab m c), t.cons.map (ab m c), t.BY⟩ :: cv m (c + t.BY.length) ts
def Me (m : Nat) : Nat → List Ha → Bool
  | _, [] => true
  | c, t :: ts => (t.BR ++ t.cons).all (Mc m c) && Me m (c + t.BY.length) ts
theorem JU (m : Nat) : ∀ (ts : List Ha) (c : Nat), Hy (cv m c ts) = Hy ts
  | [], _ => rfl
  | t :: ts, c => by simp [cv, Hy, JU m ts]
theorem Ac.acc {P : Program} {G : FP} {ops : Array Oper} {l : List BX} : ∀ {os : List Oper} {N Nf : List GE} {i : Nat} {ts : List Ha}, Ac P G ops l N i os ts Nf → Me l.length N.length ts = true →
    Acc P G ops (l.map .base ++ N.reverse) i os (cv l.length N.length ts) ∧ LL (l.length + N.length) (cv l.length N.length ts) = true ∧ Nf = (Hy ts).reverse ++ N
  | [], _, _, _, _, h, _ => by cases h; exact ⟨.nil, rfl, rfl⟩
  | o :: os, N, Nf, i, _, h, hq => by
    cases h with
    | @cons _ _ _ _ _ ts t h1 h2 =>
      simp only [Me, Bool.and_eq_true, List.all_eq_true, List.mem_append] at hq
      have hlen : (FB t.BY N).length = N.length + t.BY.length := by rw [FA]; simp; omega
      obtain ⟨a1, a2, a3⟩ := Ac.acc h2 (by rw [hlen]; exact hq.2)
      rw [hlen] at a1 a2
      refine ⟨?_, ?_, ?_⟩
      · refine Acc.cons _ (fun β => ?_) (by rw [List.append_assoc, show N.reverse ++ t.BY = (FB t.BY N).reverse by rw [FA]; simp]; exact a1)
        have e1 : (t.BR.map (ab l.length N.length)).map (eN (l.map .base ++ N.reverse) β) = t.BR.map (lk l N β) := by
          rw [List.map_map]; exact List.map_congr_left fun r hr => (HM (hq.1 r (.inl hr)) β).1.symm
        have e2 : (t.cons.map (ab l.length N.length)).map (eN (l.map .base ++ N.reverse) β) = t.cons.map (lk l N β) := by
          rw [List.map_map]; exact List.map_congr_left fun r hr => (HM (hq.1 r (.inr hr)) β).1.symm
        simp only [e1, e2]
        exact h1 β
      · simp only [cv, LL, Bool.and_eq_true, List.all_eq_true, decide_eq_true_eq, List.mem_append, List.mem_map]
        refine ⟨?_, by rw [← Nat.add_assoc] at a2; exact a2⟩
        rintro r (⟨q, hm, rfl⟩ | ⟨q, hm, rfl⟩)
        · exact (HM (hq.1 q (.inl hm)) (fun _ => undef)).2
        · exact (HM (hq.1 q (.inr hm)) (fun _ => undef)).2
      · rw [a3, FA, Hy]; simp

def JB (l : List BX) (N : List GE) (r : Nat) : GE := bif Nat.ble 500 r then BB (.base .none) N (r - 500) else .base (BB .none l r)
theorem K8 (l : List BX) (N : List GE) (r : Nat) (β : Nat → Value) : (JB l N r).at β = lk l N β r := by
  unfold JB lk; cases Nat.ble 500 r <;> rfl
inductive Ch (l : List BX) (N : List GE) : List Nat → ((Nat → Value) → List BX) → Prop
  | nil : Ch l N [] (fun _ => [])
  | cons {k : Nat} {ks : List Nat} {g : GE} {L : (Nat → Value) → List BX} (h : JB l N k = g) (hr : Ch l N ks L) : Ch l N (k :: ks) (fun β => g.at β :: L β)
section
variable {l : List BX} {N : List GE} {k : Nat} {ks : List Nat} {L : (Nat → Value) → List BX} {d i j m : Nat} {v : Value}
theorem Ch.bs {V : VP} (h : JB l N k = .base (.slot d V)) (hr : Ch l N ks L) : Ch l N (k :: ks) (fun β => .slot d V :: L β) := Ch.cons h hr
theorem Ch.br {R : RP} (h : JB l N k = .base (.res R)) (hr : Ch l N ks L) : Ch l N (k :: ks) (fun β => .res R :: L β) := Ch.cons h hr
theorem Ch.bf {V : VP} (h : JB l N k = .base (.fact V v)) (hr : Ch l N ks L) : Ch l N (k :: ks) (fun β => .fact V v :: L β) := Ch.cons h hr
theorem Ch.bn (h : JB l N k = .base .none) (hr : Ch l N ks L) : Ch l N (k :: ks) (fun β => .none :: L β) := Ch.cons h hr
theorem Ch.s {V : Value → Value → VP} (h : JB l N k = .slot d i j V) (hr : Ch l N ks L) : Ch l N (k :: ks) (fun β => .slot d (V (β i) (β j)) :: L β) := Ch.cons h hr
theorem Ch.r {R : Value → Value → RP} (h : JB l N k = .res i j R) (hr : Ch l N ks L) : Ch l N (k :: ks) (fun β => .res (R (β i) (β j)) :: L β) := Ch.cons h hr
theorem Ch.s3 {V : Value → Value → Value → VP} (h : JB l N k = .slot3 d i j m V) (hr : Ch l N ks L) : Ch l N (k :: ks) (fun β => .slot d (V (β i) (β j) (β m)) :: L β) := Ch.cons h hr
theorem Ch.r3 {R : Value → Value → Value → RP} (h : JB l N k = .res3 i j m R) (hr : Ch l N ks L) : Ch l N (k :: ks) (fun β => .res (R (β i) (β j) (β m)) :: L β) := Ch.cons h hr
end
theorem Ch.eq {l : List BX} {N : List GE} : ∀ {ks : List Nat} {L : (Nat → Value) → List BX}, Ch l N ks L → ∀ β, L β = ks.map (lk l N β)
  | [], _, h, β => by cases h; rfl
  | k :: ks, _, h, β => by
    cases h with
    | cons h hr => simp only [List.map_cons, Ch.eq hr β, ← K8, h]
inductive C9 (l : List BX) : List Nat → List BX → Prop
  | nil : C9 l [] []
  | cons {k : Nat} {ks : List Nat} {e : BX} {L : List BX} (h : BB .none l k = e) (hr : C9 l ks L) : C9 l (k :: ks) (e :: L)
theorem C9.s {l : List BX} {k : Nat} {ks : List Nat} {d : Nat} {V : VP} {L : List BX} (h : BB .none l k = .slot d V) (hr : C9 l ks L) : C9 l (k :: ks) (.slot d V :: L) := C9.cons h hr
theorem C9.r {l : List BX} {k : Nat} {ks : List Nat} {R : RP} {L : List BX} (h : BB .none l k = .res R) (hr : C9 l ks L) : C9 l (k :: ks) (.res R :: L) := C9.cons h hr
theorem C9.f {l : List BX} {k : Nat} {ks : List Nat} {V : VP} {v : Value} {L : List BX} (h : BB .none l k = .fact V v) (hr : C9 l ks L) : C9 l (k :: ks) (.fact V v :: L) := C9.cons h hr
theorem C9.n {l : List BX} {k : Nat} {ks : List Nat} {L : List BX} (h : BB .none l k = .none) (hr : C9 l ks L) : C9 l (k :: ks) (.none :: L) := C9.cons h hr
theorem C9.eq {l : List BX} : ∀ {ks : List Nat} {L : List BX}, C9 l ks L → L = ks.map (BB .none l)
  | [], _, h => by cases h; rfl
  | k :: ks, _, h => by
    cases h with
    | cons h hr => simp only [List.map_cons, ← C9.eq hr, h]

def K5 (n : Nat) (l : List BX) (ts : List Ha) (ops : Array Oper) (draw : Bool) (ks : List Nat) : Bool :=
  Me l.length 0 ts && decide ((ML ops draw).length = ops.toList.length) && ks.all (Mc l.length (Hy ts).length) &&
    GA (DJ n l (Hy (cv l.length 0 ts)) (IJ 0 (cv l.length 0 ts)) (G4 l.length (cv l.length 0 ts) ops.toList (ML ops draw))) ops draw (Hy (cv l.length 0 ts)).length (IJ 0 (cv l.length 0 ts)).length (ks.map (ab l.length (Hy ts).length))

theorem Dm {P : Program} {c : Cx} {id n : Nat} {ops : Array Oper} {draw : Bool} {Q : Exit → Act → World → Prop} {a : Act} {w : World} {l : List BX} {G : FP} {ts : List Ha} {Nf : List GE} {L : (Nat → Value) → List BX} (hm : P.follows .mixedOrders = true) (hn : c.n = n) (hG : c.G = G)
    (h : AX c l a w) (ks : List Nat) (hA : Ac P G ops l [] 0 ops.toList ts Nf)
    (hQ : ∀ (β : Nat → Value) (a : Act) (w : World), AX c (L β) a w → Q .normal a w)
    (hL : Ch l Nf ks L := by repeat first | exact Ch.nil | (apply Ch.bs; exact rfl) | (apply Ch.br; exact rfl) | (apply Ch.s; exact rfl) | (apply Ch.r; exact rfl) | (apply Ch.bf; exact rfl) | (apply Ch.bn; exact rfl) | (apply Ch.s3; exact rfl) | (apply Ch.r3; exact rfl))
    (hc : K5 n l ts ops draw ks = true := by kernel_rfl) : (Code.region id ops draw).wp P Q a w := by
  simp only [K5, Bool.and_eq_true, decide_eq_true_eq] at hc
  obtain ⟨⟨⟨c1, c2⟩, c3⟩, c4⟩ := hc
  obtain ⟨a1, a2, a3⟩ := Ac.acc hA (by simpa using c1)
  simp only [List.length_nil, List.reverse_nil, List.append_nil, Nat.add_zero] at a1 a2 a3
  refine Ew (Hy (cv l.length 0 ts)) _ _ _ hm hn hG h c4 (Acc.ok _ a1 c2 (by simpa using a2) rfl fun j => ?_) fun β a w hs => hQ β a w ?_
  · simp [Cn.op, DJ]
  · rw [hL.eq β, a3]
    have e : ks.map (lk l (Hy ts).reverse β) = (ks.map (ab l.length (Hy ts).length)).map ((DJ n l (Hy (cv l.length 0 ts)) (IJ 0 (cv l.length 0 ts)) (G4 l.length (cv l.length 0 ts) ops.toList (ML ops draw))).E β) := by
      rw [List.map_map]
      refine List.map_congr_left fun r hr => ?_
      have := (HM (l := l) (N := (Hy ts).reverse) (r := r) (by simpa using (List.all_eq_true.1 c3) r hr) β).1
      rw [this]
      simp [eN, Cn.E, DJ, JU]
    rw [e]; exact hs
theorem AU {P : Program} {c : Cx} {id n : Nat} {ops : Array Oper} {draw : Bool} {Q : Exit → Act → World → Prop} {y : Code} {a : Act} {w : World} {l : List BX} {G : FP} {ts : List Ha} {Nf : List GE} {L : (Nat → Value) → List BX} (hm : P.follows .mixedOrders = true) (hn : c.n = n) (hG : c.G = G)
    (h : AX c l a w) (ks : List Nat) (hA : Ac P G ops l [] 0 ops.toList ts Nf)
    (hQ : ∀ (β : Nat → Value) (a : Act) (w : World), AX c (L β) a w → y.wp P Q a w)
    (hL : Ch l Nf ks L := by repeat first | exact Ch.nil | (apply Ch.bs; exact rfl) | (apply Ch.br; exact rfl) | (apply Ch.s; exact rfl) | (apply Ch.r; exact rfl) | (apply Ch.bf; exact rfl) | (apply Ch.bn; exact rfl) | (apply Ch.s3; exact rfl) | (apply Ch.r3; exact rfl))
    (hc : K5 n l ts ops draw ks = true := by kernel_rfl) : (Code.seq (Code.region id ops draw) y).wp P Q a w :=
  wp_seq (Dm hm hn hG h ks hA hQ hL hc)

section
variable {P : Program} {G : FP} {ops : Array Oper} {l : List BX} {N Nf : List GE} {i : Nat} {o : Oper} {os : List Oper} {ts : List Ha} {dst : Option Nat} {op : Op} {ty : TypeId} {pos : String} {af : Array Edge}
theorem og (BR cons : List Nat) (BY : List GE) (h : ∀ {β : Nat → Value}, Bh P G ops o (BR.map (lk l N β)) (cons.map (lk l N β)) (fun v => BY.map fun g => g.at fun k => if k = i then v else β k))
    (hr : Ac P G ops l (FB BY N) (i + 1) os ts Nf) : Ac P G ops l N i (o :: os) (⟨BR, cons, BY⟩ :: ts) Nf := Ac.cons ⟨BR, cons, BY⟩ (fun _ => h) hr
theorem oe (BR cons : List Nat) {Gs : List BX} (h : ∀ {β : Nat → Value}, Bh P G ops o (BR.map (lk l N β)) (cons.map (lk l N β)) (fun _ => Gs))
    (hr : Ac P G ops l (FB (Gs.map .base) N) (i + 1) os ts Nf) : Ac P G ops l N i (o :: os) (⟨BR, cons, Gs.map .base⟩ :: ts) Nf :=
  Ac.cons ⟨BR, cons, Gs.map .base⟩ (fun β => by
    have e : (fun v : Value => (Gs.map GE.base).map fun g => g.at fun k => if k = i then v else β k) = fun _ => Gs := by
      funext v
      rw [List.map_map]
      exact (List.map_congr_left fun x _ => rfl).trans (List.map_id _)
    simp only [e]
    exact h) hr
theorem ov (BR : List Nat) {d : Nat} {V : VP} (h : ∀ {β : Nat → Value}, Bu P G ⟨dst, op, ty, pos, af, none⟩ (BR.map (lk l N β)) [] (fun _ => [.slot d V]))
    (hr : Ac P G ops l (.base (.slot d V) :: N) (i + 1) os ts Nf) : Ac P G ops l N i (⟨dst, op, ty, pos, af, none⟩ :: os) (⟨BR, [], [.base (.slot d V)]⟩ :: ts) Nf :=
  oe BR [] (Gs := [.slot d V]) (Bh.plain h rfl) hr
theorem od (BR : List Nat) (k : Nat) {d : Nat} {V : VP} (h : ∀ {β : Nat → Value}, Bu P G ⟨dst, op, ty, pos, af, none⟩ (BR.map (lk l N β)) [] (fun _ => [.slot d V]))
    (hr : Ac P G ops l (.base (.slot d V) :: N) (i + 1) os ts Nf) : Ac P G ops l N i (⟨dst, op, ty, pos, af, none⟩ :: os) (⟨BR, [k], [.base (.slot d V)]⟩ :: ts) Nf :=
  oe BR [k] (Gs := [.slot d V]) (Bh.drop _ (Bh.plain h rfl)) hr
theorem ou (BR : List Nat) (k : Nat) {R : RP} (h : ∀ {β : Nat → Value}, Bu P G ⟨dst, op, ty, pos, af, none⟩ (BR.map (lk l N β)) [lk l N β k] (fun _ => [.res R]))
    (hr : Ac P G ops l (.base (.res R) :: N) (i + 1) os ts Nf) : Ac P G ops l N i (⟨dst, op, ty, pos, af, none⟩ :: os) (⟨BR, [k], [.base (.res R)]⟩ :: ts) Nf :=
  oe BR [k] (Gs := [.res R]) (Bh.plain h rfl) hr
theorem ob (BR : List Nat) {d : Nat} {T : TypeId} {L : List Ck} (h : ∀ {β : Nat → Value}, Bu P G ⟨dst, op, ty, pos, af, none⟩ (BR.map (lk l N β)) [] (fun v => [.slot d (BH v 0), .res (lb v T L)]))
    (hr : Ac P G ops l (.res i 100000 (fun v _ => lb v T L) :: .slot d i 100000 (fun v _ => BH v 0) :: N) (i + 1) os ts Nf) :
    Ac P G ops l N i (⟨dst, op, ty, pos, af, none⟩ :: os) (⟨BR, [], [.slot d i 100000 (fun v _ => BH v 0), .res i 100000 (fun v _ => lb v T L)]⟩ :: ts) Nf :=
  og BR [] _ (Bh.plain (by simpa [GE.at] using h) rfl) hr
variable {d : Nat}
theorem oc (BR cons : List Nat) {f : FuncId} {xs : List Operand} {tys : Array TypeId} {args : List VP} {pre post : List RP} {res : VP} (hcall : ∀ args w, (callFunc f args).run P w = .ok (.enter f args) w)
    (hc : AR P G f args pre (fun _ => post) res) (hx : ∀ {β : Nat → Value}, EL G (BR.map (lk l N β)) xs args) (hr : Ac P G ops l (FB ((.slot d res :: post.map .res).map .base) N) (i + 1) os ts Nf)
    (hC : ∀ β, cons.map (lk l N β) = pre.map .res := by intro β; rfl) :
    Ac P G ops l N i (⟨some d, .call ⟨.value (.func f), xs.toArray, tys⟩, ty, pos, af, none⟩ :: os) (⟨BR, cons, (.slot d res :: post.map .res).map .base⟩ :: ts) Nf :=
  oe BR cons (fun {β} => Bh.plain (by rw [hC]; exact DH hcall hc hx) rfl) hr
end

section
variable {G : FP} {N : List BX} {t : Nat} {V : VP} {e0 e1 e2 : BX}
theorem q0 : A3 G (.slot t V :: N) (.tmp t) V := opt 0 rfl
theorem q1 : A3 G (e0 :: .slot t V :: N) (.tmp t) V := opt 1 rfl
theorem q2 : A3 G (e0 :: e1 :: .slot t V :: N) (.tmp t) V := opt 2 rfl
theorem q3 : A3 G (e0 :: e1 :: e2 :: .slot t V :: N) (.tmp t) V := opt 3 rfl
theorem qi {k : IntKind} {x : Int} (h : CH k x := by decide) : A3 G N (.const (.int k x)) (Ab k x) := C4 (ic h)
theorem qb {b : Bool} : A3 G N (.const (.bool b)) (Ak b) := C4 (bc b)
end
theorem DL {P : Program} {G : FP} {N : List BX} {d : Nat} {ty : TypeId} {pos : String} {af : Array Edge} {gd : Option (Nat × Bool)} {T T0 : TypeId} {x : Operand} {p : Value} {n : Nat} {L : List Ck} (j : Nat) (ha : ∀ w, (isAgg T).run P w = .ok true w) (hs : ∀ w, (sizeOf T).run P w = .ok n w)
    (hx : A3 G N x (BH p 0)) (he : BB .none N j = .res (lb p T0 L) := by rfl) (hn : lens L = n := by kernel_rfl) :
    Bu P G ⟨some d, .load T x, ty, pos, af, gd⟩ N [] (fun _ => [.slot d (Cs L)]) :=
  BL [] L [] j ha hs hx (by simpa using he) rfl hn
theorem CM {P : Program} {G : FP} {N : List BX} {ty : TypeId} {pos : String} {af : Array Edge} {gd : Option (Nat × Bool)} {T T0 : TypeId} {x y : Operand} {p : Value} {n : Nat} {V : VP} {L M : List Ck} (hs : ∀ w, (sizeOf T).run P w = .ok n w)
    (hx : A3 G N x (BH p 0)) (hy : A3 G N y V) (hc : Cells V M) (hm : lens L = n := by kernel_rfl) (hM : lens M = n := by kernel_rfl) :
    Bu P G ⟨none, .store T x y, ty, pos, af, gd⟩ N [.res (lb p T0 L)] (fun _ => [.res (lb p T0 M)]) := by
  have := D6 (P := P) (G := G) (N := N) (ty := ty) (pos := pos) (af := af) (gd := gd) (T0 := T0) (p := p) (k := 0) [] L [] M hs hx hy hc rfl hm hM
  simpa using this

theorem Ea {P : Program} {c : Cx} {l l1 l2 : List BX} {a : Act} {w : World} {Q : Exit → Act → World → Prop} {t : Nat} {b : Bool} {x y : Code} {α : Type} {X Y : Option α} {r : Option α} (h : AX c l a w) (hF : (if b = true then X else Y) = r) (i : Nat) (k1 k2 : List Nat)
    (ht : b = true → X = r → AX c l1 a w → x.wp P Q a w) (hf : b = false → Y = r → AX c l2 a w → y.wp P Q a w)
    (he : BB .none l i = .slot t (Ak b) := by rfl)
    (h1 : C9 l k1 l1 := by repeat first | exact C9.nil | (apply C9.s; exact rfl) | (apply C9.r; exact rfl) | (apply C9.f; exact rfl) | (apply C9.n; exact rfl))
    (h2 : C9 l k2 l2 := by repeat first | exact C9.nil | (apply C9.s; exact rfl) | (apply C9.r; exact rfl) | (apply C9.f; exact rfl) | (apply C9.n; exact rfl))
    (d1 : (distinct k1 && k1.all fun k => decide (k < l.length)) = true := by rfl) (d2 : (distinct k2 && k2.all fun k => decide (k < l.length)) = true := by rfl) :
    (Code.cond (.tmp t) x y).wp P Q a w :=
  Ir h i he (fun hb => ht hb (Dj hb hF) (by rw [h1.eq]; exact h.sub k1 d1)) (fun hb => hf hb (Dn hb hF) (by rw [h2.eq]; exact h.sub k2 d2))
theorem AX.sel {c : Cx} {l l1 : List BX} {a : Act} {w : World} (h : AX c l a w) (ks : List Nat)
    (h1 : C9 l ks l1 := by repeat first | exact C9.nil | (apply C9.s; exact rfl) | (apply C9.r; exact rfl) | (apply C9.f; exact rfl) | (apply C9.n; exact rfl))
    (hk : (distinct ks && ks.all fun k => decide (k < l.length)) = true := by rfl) : AX c l1 a w := by
  rw [h1.eq]; exact h.sub ks hk
end
section
open Go Go.RowKit Go.Proofs
set_option linter.unusedVariables false
set_option linter.unusedSimpArgs false

theorem DD.append {Φ : BC} : ∀ {l m : List VP} {us vs : List Value}, DD Φ l us → DD Φ m vs → DD Φ (l ++ m) (us ++ vs)
  | [], m, [], vs, _, k => k
  | V :: l, m, u :: us, vs, h, k => ⟨h.1, DD.append h.2 k⟩
  | [], _, _ :: _, _, h, _ => h.elim
  | _ :: _, _, [], _, h, _ => h.elim
end
section
open Go Go.RowKit Go.Proofs
set_option linter.unusedVariables false
set_option linter.unusedSimpArgs false

section ops
variable {P : Program} {G : FP} {N : List BX} {d : Nat} {ty : TypeId} {pos : String} {af : Array Edge} {gd : Option (Nat × Bool)}
inductive EM : List BX → List Ck → List Ck → Prop
  | nil {C : List BX} : EM C [] []
  | K9 {C : List BX} {k : Ck} {L L' : List Ck} (h : EM C L L') : EM C (k :: L) (k :: L')
  | sub {C : List BX} {L L' : List Ck} {α : Type} {q : Value} {T : TypeId} {sz : Nat} {c : α → List Ck} {xs : List α} (j : Nat) (hr : BB .none C j = .res (acc q T sz c xs)) (h : EM C L L') : EM C (one (A4 q) :: L) (one (Ah c xs) :: L')
theorem EM.rel {C : List BX} {Φ : BC} {tmps : Array Value} {w : World} {f : List (List Nat)} (hC : BW Φ tmps w C f) : ∀ {L L' : List Ck} {cs : List Value}, EM C L L' → Bg Φ cs L → Bg Φ cs L'
  | _, _, _, .nil, h => h
  | _, _, _, .K9 k, ⟨xs, ys, e, h1, h2⟩ => ⟨xs, ys, e, h1, EM.rel hC k h2⟩
  | _, _, _, .sub j hr k, ⟨xs, ys, e, ⟨v, hv, h1, h2⟩, h3⟩ => by
    obtain ⟨g, ho⟩ := hC.res j hr
    have h2 : v = _ := h2
    subst h2
    exact ⟨xs, ys, e, ⟨v, hv, h1, J3 ho⟩, EM.rel hC k h3⟩
end ops

end
section
open Go Go.RowKit Go.Proofs
set_option linter.unusedVariables false
set_option linter.unusedSimpArgs false

section ops
variable {P : Program} {G : FP} {N : List BX} {d : Nat} {ty : TypeId} {pos : String} {af : Array Edge} {gd : Option (Nat × Bool)}
theorem Jx {k : IntKind} {x y : Operand} {m n : Int} {tys : Array TypeId} (hx : A3 G N x (Ab k m)) (hy : A3 G N y (Ab k n)) :
    Bu P G ⟨some d, .call ⟨.builtin .min, #[x, y], tys⟩, ty, pos, af, gd⟩ N [] (fun _ => [.slot d (Ab k (if n < m then n else m))]) :=
  Bu.val fun Φ a w f _ hG hN => by
    obtain ⟨h1, h2⟩ := hx Φ a w f hG hN
    obtain ⟨h3, h4⟩ := hy Φ a w f hG hN
    refine ⟨.int k (if n < m then n else m), ?_, rfl, by split <;> assumption⟩
    simp [execOp, resolve, h1, h3, invoke, builtin, Builtin.min_, Builtin.min2]
theorem Jy {k : IntKind} {x y : Operand} {m n : Int} {tys : Array TypeId} (hx : A3 G N x (Ab k m)) (hy : A3 G N y (Ab k n)) :
    Bu P G ⟨some d, .call ⟨.builtin .max, #[x, y], tys⟩, ty, pos, af, gd⟩ N [] (fun _ => [.slot d (Ab k (if m < n then n else m))]) :=
  Bu.val fun Φ a w f _ hG hN => by
    obtain ⟨h1, h2⟩ := hx Φ a w f hG hN
    obtain ⟨h3, h4⟩ := hy Φ a w f hG hN
    refine ⟨.int k (if m < n then n else m), ?_, rfl, by split <;> assumption⟩
    simp [execOp, resolve, h1, h3, invoke, builtin, Builtin.max_, Builtin.max2]
end ops

end
section
open Go Go.RowKit Go.Proofs
set_option linter.unusedVariables false
set_option linter.unusedSimpArgs false
def Ej (s : List UInt8) (p : Nat) : Int := ((Utf8.decode ⟨s.toArray⟩ p).1 : Int)
def Eh (s : List UInt8) (p : Nat) : Nat := if p < s.length then p + (Utf8.decode ⟨s.toArray⟩ p).2 else p
def Fy (it : Value) (s : List UInt8) (p : Nat) : RP := ⟨fun Φ f w => ∃ b, it = .pointer (some ⟨b, 0, none⟩) ∧ f = [b] ∧ w.heap[b]? = some (.stringIter ⟨s.toArray⟩ p) ∧ s.length ≤ Cp, by
  rintro Φ Φ' f w w' hle hs hb ⟨b, h1, rfl, h2, h3⟩
  exact ⟨b, h1, rfl, by rw [hb b (by simp)]; exact h2, h3⟩⟩
def Fb (s : List UInt8) (p : Nat) : VP := ⟨fun _ v => if p < s.length then v = .tuple #[.bool true, .int .i64 p, .int .i32 (Ej s p)] ∧ s.length ≤ Cp else v = .tuple #[.bool false], fun _ h => h⟩
section ops
variable {P : Program} {G : FP} {N : List BX} {d : Nat} {ty : TypeId} {pos : String} {af : Array Edge} {gd : Option (Nat × Bool)}
theorem Hi {t : TypeId} {x : Operand} {s : List UInt8} (hu : P.underlying t = some .string) (hx : A3 G N x (AJ s)) :
    Bu P G ⟨some d, .range t x, ty, pos, af, gd⟩ N [] (fun it => [.slot d (A4 it), .res (Fy it s 0)]) := by
  intro Φ a w fN fC h1 h2 h3 h4 h5 h6 h7 Kk Q hK
  match fC, h4 with
  | [], _ =>
    obtain ⟨hv, hl⟩ := hx Φ a w fN h2 h3
    have hrun : (execOp a.eval ⟨some d, .range t x, ty, pos, af, gd⟩).run P w = .ok (.value (.pointer (some ⟨w.heap.size, 0, none⟩))) (w.alloc (.stringIter ⟨s.toArray⟩ 0)) := by
      simp only [execOp, hv, Sem.run_bind, run_range_string w t _ hu, Result.andThen_ok]
      rfl
    have hold : ∀ c, c < w.heap.size → (w.alloc (.stringIter ⟨s.toArray⟩ 0)).heap[c]? = w.heap[c]? := fun c hc => @Go.heap_alloc_old w _ _ hc
    unfold Oper.wp
    rw [hrun, Oper.upon_value]
    refine hK _ _ Φ [[], [w.heap.size]] ⟨rfl, rfl, rfl, by simp, fun c hc _ => hold c hc, BC.le_refl _, fun _ _ _ => rfl⟩ (FV h1 _) ⟨⟨rfl, _, C3 a _ d (h7 d rfl), rfl⟩, ⟨w.heap.size, rfl, rfl, heap_alloc_new _ _, hl⟩, trivial⟩ (by simp) ?_
    intro c hc
    have hc : c = w.heap.size := by simpa using hc
    subst hc
    exact ⟨by simp, .inr (Nat.le_refl _)⟩
theorem HK {t : Nat} {it : Value} {s : List UInt8} {p : Nat} (i : Nat) (he : BB .none N i = .slot t (A4 it)) :
    Bu P G ⟨some d, .next (.tmp t) true, ty, pos, af, gd⟩ N [.res (Fy it s p)] (fun _ => [.slot d (Fb s p), .res (Fy it s (Eh s p))]) := by
  intro Φ a w fN fC h1 h2 h3 h4 h5 h6 h7 Kk Q hK
  match fC, h4 with
  | [f], ⟨⟨b, hitt, hf, hb, hl⟩, _⟩ =>
    subst hitt
    subst hf
    have hbl : b < w.heap.size := h6 b (by simp)
    have hv : a.eval (.tmp t) = .pointer (some ⟨b, 0, none⟩) := opt (G := G) i he Φ a w fN h2 h3
    have hsz : (⟨s.toArray⟩ : ByteArray).size = s.length := by simp [ByteArray.size]
    by_cases hp : p < s.length
    · have hrun : (execOp a.eval ⟨some d, .next (.tmp t) true, ty, pos, af, gd⟩).run P w = .ok (.value (.tuple #[.bool true, .int .i64 p, .int .i32 (Ej s p)])) (Go.ChangeMaps.setBlock w b (.stringIter ⟨s.toArray⟩ (Eh s p))) := by
        simp only [execOp, hv, Sem.run_bind, Instr.next, getObj, setObj, Sem.run, hb, Result.andThen, hsz, hp, if_true, Eh]
        simp [goInt, Ej, Go.ChangeMaps.setBlock]
      have hsize : (Go.ChangeMaps.setBlock w b (.stringIter ⟨s.toArray⟩ (Eh s p))).heap.size = w.heap.size := by simp [Go.ChangeMaps.setBlock]
      have hother : ∀ c, c ≠ b → (Go.ChangeMaps.setBlock w b (.stringIter ⟨s.toArray⟩ (Eh s p))).heap[c]? = w.heap[c]? := fun c hc => by
        simp [Go.ChangeMaps.setBlock, Array.getElem?_setIfInBounds, Ne.symm hc]
      have hself : (Go.ChangeMaps.setBlock w b (.stringIter ⟨s.toArray⟩ (Eh s p))).heap[b]? = some (.stringIter ⟨s.toArray⟩ (Eh s p)) := by
        simp [Go.ChangeMaps.setBlock, Array.getElem?_setIfInBounds, hbl]
      have hpr : ∀ o, Φ b o = none := fun o => by
        cases e : Φ b o with
        | none => rfl
        | some u =>
          have := h1.cell b o u e
          simp [World.cell?, hb] at this
      unfold Oper.wp
      rw [hrun, Oper.upon_value]
      refine hK _ _ Φ [[], [b]] ⟨rfl, rfl, rfl, Nat.le_of_eq hsize.symm, fun c hc hne => hother c (fun e => hne (by simp [e])), BC.le_refl _, fun _ _ _ => rfl⟩ ⟨fun c o u e => by rw [hsize]; exact h1.lt c o u e, fun c o u e => ?_⟩
        ⟨⟨rfl, _, C3 a _ d (h7 d rfl), by simp [Fb, hp, hl]⟩, ⟨b, rfl, rfl, hself, hl⟩, trivial⟩ (by simp) (fun c hc => by
          have hc : c = b := by simpa using hc
          subst hc
          exact ⟨by rw [hsize]; exact hbl, .inl (by simp)⟩)
      have hne : c ≠ b := fun e' => by rw [e', hpr o] at e; cases e
      exact (World.cell?_of_block (w := w) (hother c hne)).trans (h1.cell c o u e)
    · have hrun : (execOp a.eval ⟨some d, .next (.tmp t) true, ty, pos, af, gd⟩).run P w = .ok (.value (.tuple #[.bool false])) w := by
        simp only [execOp, hv, Sem.run_bind, Instr.next, getObj, setObj, Sem.run, hb, Result.andThen, hsz, hp, if_false]
        simp
      have hx : Eh s p = p := by simp [Eh, hp]
      unfold Oper.wp
      rw [hrun, Oper.upon_value]
      refine hK _ _ Φ [[], [b]] (Step.refl _ _ _) h1 ⟨⟨rfl, _, C3 a _ d (h7 d rfl), by simp [Fb, hp]⟩, ⟨b, rfl, rfl, by rw [hx]; exact hb, hl⟩, trivial⟩ (by simp) (fun c hc => by
          have hc : c = b := by simpa using hc
          subst hc
          exact ⟨hbl, .inl (by simp)⟩)
theorem Kg {x : Operand} {s : List UInt8} {p : Nat} (hx : A3 G N x (Fb s p)) : Bu P G ⟨some d, .extract x 0, ty, pos, af, gd⟩ N [] (fun _ => [.slot d (Ak (decide (p < s.length)))]) :=
  Bu.val fun Φ a w f _ hG hN => by
    have hv := hx Φ a w f hG hN
    by_cases hp : p < s.length
    · simp only [Fb, hp, if_true] at hv
      exact ⟨.bool true, by simp [execOp, hv.1, Instr.extract], by simp [Ak, hp]⟩
    · simp only [Fb, hp, if_false] at hv
      exact ⟨.bool false, by simp [execOp, hv, Instr.extract], by simp [Ak, hp]⟩
theorem Kf {x : Operand} {s : List UInt8} {p : Nat} (hx : A3 G N x (Fb s p)) (hp : p < s.length) : Bu P G ⟨some d, .extract x 1, ty, pos, af, gd⟩ N [] (fun _ => [.slot d (Ab .i64 (p : Int))]) :=
  Bu.val fun Φ a w f _ hG hN => by
    have hv := hx Φ a w f hG hN
    simp only [Fb, hp, if_true] at hv
    refine ⟨.int .i64 p, by simp [execOp, hv.1, Instr.extract], rfl, ?_⟩
    exact EG (by omega)
theorem Ke {x : Operand} {s : List UInt8} {p : Nat} (hx : A3 G N x (Fb s p)) (hp : p < s.length) : Bu P G ⟨some d, .extract x 2, ty, pos, af, gd⟩ N [] (fun _ => [.slot d (Ab .i32 (Ej s p))]) :=
  Bu.val fun Φ a w f _ hG hN => by
    have hv := hx Φ a w f hG hN
    simp only [Fb, hp, if_true] at hv
    refine ⟨.int .i32 (Ej s p), by simp [execOp, hv.1, Instr.extract], rfl, ?_⟩
    have := decode_le ⟨s.toArray⟩ p
    unfold Ej
    simp [CH, IntKind.min, IntKind.max, IntKind.bits, IntKind.signed]
    omega
end ops
end
section
open Go Go.RowKit Go.Proofs
set_option linter.unusedVariables false
theorem AR.GF {P : Program} {G : FP} {f : FuncId} {args : List VP} {res : VP} (h : ∀ (Φ : BC) (vs : List Value) (w : World), CR Φ w → G.p Φ → DD Φ args vs → ∃ u, (∀ Φ', res.p Φ' u) ∧ Calls P f vs.toArray w fun e w' => e = .returned u ∧ Below w.heap.size w w') :
    AR P G f args [] (fun _ => []) res := by
  intro Φ w vs fs h1 h2 h3 h4 h5 h6
  match fs, h4 with
  | [], _ =>
    obtain ⟨u, hu, hc⟩ := h Φ vs w h1 h2 h3
    refine hc.mono fun e w' hq => ?_
    obtain ⟨rfl, hb⟩ := hq
    exact ⟨u, Φ, [], rfl, ⟨hb.os, hb.tape, hb.output, hb.size, fun b hlt _ => hb.block b hlt, BC.le_refl _, fun _ _ _ => rfl⟩, ⟨fun b o v e => Nat.lt_of_lt_of_le (h1.lt b o v e) hb.size, fun b o v e => (World.cell?_of_block (w := w) (hb.block b (h1.lt b o v e))).trans (h1.cell b o v e)⟩, hu Φ, trivial, by simp, by simp⟩
  | _ :: _, h4 => exact h4.elim
theorem Iy {Φ : BC} : ∀ {xs : List (List UInt8)} {cs : List Value}, Cl Φ Fk cs xs → ∀ (j : Nat) (x : List UInt8), xs[j]? = some x → cs[j]? = some (.string ⟨x.toArray⟩)
  | [], cs, _, j, x, hx => by cases hx
  | y :: ys, cs, ⟨us, vs, e, h1, h2⟩, j, x, hx => by
    obtain ⟨a1, b1, e1, ⟨v, rfl, _, hv⟩, hb⟩ := h1
    have hb : b1 = [] := hb
    subst hb
    obtain ⟨hv, _⟩ := hv
    subst e
    subst e1
    cases j with
    | zero =>
      simp only [List.getElem?_cons_zero, Option.some.injEq] at hx
      subst hx
      simp [hv]
    | succ j =>
      have := Iy h2 j x (by simpa using hx)
      simpa using this
theorem Jf {P : Program} {a : Act} {w : World} {Q : Exit → Act → World → Prop} {x y : Code} (h : y.wp P Q a w) : (Code.cond (.const (.bool false)) x y).wp P Q a w := wp_cond_false rfl h
theorem HH {G : FP} {N : List BX} {x : Operand} (h : A3 G N x (A4 (.pointer none))) : A3 G N x (KH (.pointer none) false) := fun Φ a w f hG hN => ⟨h Φ a w f hG hN, rfl⟩
section ops
variable {P : Program} {G : FP} {N : List BX} {d : Nat} {ty : TypeId} {pos : String} {af : Array Edge} {gd : Option (Nat × Bool)}
theorem Ey {α : Type} [Inhabited α] {t e : TypeId} {x y : Operand} {ki : IntKind} {c : α → List Ck} {xs : List α} {n sz : Nat} {le : ∀ x, lens (c x) = sz} {i : Int} {post : List Ck} (hu : P.underlying t = some (.array n e)) (hs : ∀ w, (sizeOf e).run P w = .ok sz w)
    (hx : A3 G N x (Eb (Bd n sz c le xs :: post))) (hy : A3 G N y (Ab ki i)) (hi : 0 ≤ i ∧ i < n) : Bu P G ⟨some d, .indexAddr t x y, ty, pos, af, gd⟩ N [] (fun _ => [.slot d (Eb (c (xs.getD i.toNat default)))]) :=
  Bu.val fun Φ a w f _ hG hN => by
    obtain ⟨hy1, _⟩ := hy Φ a w f hG hN
    obtain ⟨b, o, cs, hv, ⟨ys, zs, rfl, ⟨hl, hA⟩, h2⟩, hp⟩ := hx Φ a w f hG hN
    have hit : i.toNat < xs.length := by omega
    obtain ⟨us, vs, ws, rfl, h1, h3, _⟩ := hA.at le i.toNat hit
    refine ⟨.pointer (some ⟨b, o + i.toNat * sz, none⟩), ?_, b, o + i.toNat * sz, vs, rfl, ?_, ?_⟩
    · simp only [execOp, hv, hy1]
      simp [Instr.indexAt, run_underlying hu, asIntOf, Instr.sureAddr, hi, hs, Addr.add_lit]
    · simpa [List.getD, hit] using h3
    · rw [← h1]; exact (hp.left.left).right
theorem FX {t e : TypeId} {x y : Operand} {ki : IntKind} {l : List UInt8} {n : Nat} {i : Int} {post : List Ck} (hu : P.underlying t = some (.array n e)) (hs : ∀ w, (sizeOf e).run P w = .ok 1 w)
    (hx : A3 G N x (Eb (Af n l :: post))) (hy : A3 G N y (Ab ki i)) (hi : 0 ≤ i ∧ i < n) : Bu P G ⟨some d, .indexAddr t x y, ty, pos, af, gd⟩ N [] (fun _ => [.slot d (Eb [one (Ab .u8 ((l.getD i.toNat default).toNat : Int))])]) :=
  Bu.val fun Φ a w f _ hG hN => by
    obtain ⟨hy1, _⟩ := hy Φ a w f hG hN
    obtain ⟨b, o, cs, hv, ⟨ys, zs, rfl, ⟨hl, rfl⟩, h2⟩, hp⟩ := hx Φ a w f hG hN
    have hit : i.toNat < l.length := by omega
    refine ⟨.pointer (some ⟨b, o + i.toNat * 1, none⟩), ?_, b, o + i.toNat * 1, [Dc (l.getD i.toNat default)], rfl, ⟨[_], [], rfl, ⟨_, rfl, rfl, rfl, FM _⟩, rfl⟩, fun j v hj => ?_⟩
    · simp only [execOp, hv, hy1]
      simp [Instr.indexAt, run_underlying hu, asIntOf, Instr.sureAddr, hi, hs, Addr.add_lit]
    · cases j with
      | zero =>
        simp at hj
        subst hj
        have := hp (i.toNat) (Dc (l.getD i.toNat default)) (by rw [List.getElem?_append_left (by simpa using hit)]; simp [List.getD, hit])
        simpa using this
      | succ j => simp at hj
theorem FD {x : Operand} {p : Value} {R : RP} (j : Nat) (hx : A3 G N x (A4 p)) (he : BB .none N j = .res R) (hR : ∀ Φ f w, R.p Φ f w → ∃ b, p = .pointer (some ⟨b, 0, none⟩)) : Bu P G ⟨some d, .nilCheck x, ty, pos, af, gd⟩ N [] (fun _ => [.slot d (A4 p)]) :=
  Bu.val fun Φ a w f _ hG hN => by
    obtain ⟨g, hr⟩ := hN.res j he
    obtain ⟨b, hp⟩ := hR Φ g w hr
    have hv : a.eval x = p := hx Φ a w f hG hN
    exact ⟨a.eval x, by simp [execOp, hv, hp], hv⟩
theorem Fc {s : TypeId} {x : Operand} {p : Value} {R : RP} {fields : Array Field} {n : Nat} {fd : Field} (j : Nat) (hu : P.underlying s = some (.struct fields)) (hi : fields[0]? = some fd) (h0 : fd.offset = 0) (hs : ∀ w, (sizeOf fd.type).run P w = .ok n w) (hn : n ≠ 0) (hx : A3 G N x (A4 p)) (he : BB .none N j = .res R) (hR : ∀ Φ f w, R.p Φ f w → ∃ b, p = .pointer (some ⟨b, 0, none⟩)) :
    Bu P G ⟨some d, .fieldAddr s x 0, ty, pos, af, gd⟩ N [] (fun _ => [.slot d (A4 p)]) :=
  Bu.val fun Φ a w f _ hG hN => by
    obtain ⟨g, hr⟩ := hN.res j he
    obtain ⟨b, hp⟩ := hR Φ g w hr
    have hv : a.eval x = p := hx Φ a w f hG hN
    refine ⟨p, ?_, rfl⟩
    have := F8 (P := P) (b := b) (k := 0) (w := w) hu hi hs hn
    rw [h0, Nat.zero_add, ← hp] at this
    simp [execOp, hv, this]
end ops

end
end Go.Proofs.YtemnhknjphjpnaaDoor
