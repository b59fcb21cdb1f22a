/- Contracts of calls, a body's begin and end, tests, loops. No program in sight. -/
import Derived.Test.YtklikgigjdgjaaaGreatDoorRRRA2
namespace Go.Proofs.YtklikgigjdgjaaaGreatDoorRRR
open Go Go.RowKit

def ArgsL (Φ : Pub) : List VP → List Value → Prop
  | [], [] => True
  | V :: Vs, v :: vs => V.p Φ v ∧ ArgsL Φ Vs vs
  | _, _ => False

def ResL (Φ : Pub) (w : World) : List RP → List (List Nat) → Prop
  | [], [] => True
  | R :: Rs, f :: fs => R.p Φ f w ∧ ResL Φ w Rs fs
  | _, _ => False

/-- What a call hands back: a value, and what it owns. -/
def RetOk (P : Program) (fn : Func) (c : Cx) (res : VP) (post : Value → List RP) (a : Act) (w : World) : Prop :=
  a.defers = [] ∧ ∃ (v : Value) (Φ : Pub) (fs : List (List Nat)), (results fn a.tmps).run P w = .ok v w ∧ Step c.w0 c.Φ0 c.F0 w Φ ∧ PubOk Φ w ∧ res.p Φ v ∧ ResL Φ w (post v) fs ∧
    fs.flatten.Nodup ∧ ∀ b ∈ fs.flatten, b < w.heap.size ∧ (b ∈ c.F0 ∨ c.w0.heap.size ≤ b)

/-- The contract of a call: of arguments as told, and objects as told, it returns, and steps. -/
def CallOk (P : Program) (G : FP) (f : FuncId) (args : List VP) (pre : List RP) (post : Value → List RP) (res : VP) : Prop :=
  ∀ (Φ : Pub) (w : World) (vs : List Value) (fs : List (List Nat)), PubOk Φ w → G.p Φ → ArgsL Φ args vs → ResL Φ w pre fs → fs.flatten.Nodup → (∀ b ∈ fs.flatten, b < w.heap.size) →
    Calls P f vs.toArray w fun e w' => ∃ (v : Value) (Φ' : Pub) (fs' : List (List Nat)), e = .returned v ∧ Step w Φ fs.flatten w' Φ' ∧ PubOk Φ' w' ∧ res.p Φ' v ∧ ResL Φ' w' (post v) fs' ∧
      fs'.flatten.Nodup ∧ ∀ b ∈ fs'.flatten, b < w'.heap.size ∧ (b ∈ fs.flatten ∨ w.heap.size ≤ b)

def argE : Nat → List VP → List Ent
  | _, [] => []
  | i, V :: Vs => .slot i V :: argE (i + 1) Vs

theorem argE_length : ∀ (l : List VP) (i : Nat), (argE i l).length = l.length
  | [], _ => rfl
  | V :: l, i => by simp [argE, argE_length l]

theorem ArgsL.length {Φ : Pub} : ∀ {Vs : List VP} {vs : List Value}, ArgsL Φ Vs vs → vs.length = Vs.length
  | [], [], _ => rfl
  | V :: Vs, v :: vs, h => by simp [ArgsL.length h.2]
  | [], _ :: _, h => h.elim
  | _ :: _, [], h => h.elim

theorem argE_get {Φ : Pub} : ∀ {Vs : List VP} {vs : List Value} (i k : Nat), ArgsL Φ Vs vs → k < Vs.length → ∃ V v, nthD .none (argE i Vs) k = .slot (i + k) V ∧ vs[k]? = some v ∧ V.p Φ v
  | V :: Vs, v :: vs, i, 0, h, _ => ⟨V, v, rfl, rfl, h.1⟩
  | V :: Vs, v :: vs, i, k + 1, h, hk => by
    obtain ⟨V', v', h1, h2, h3⟩ := argE_get (i + 1) k h.2 (by simpa using hk)
    exact ⟨V', v', by rw [show i + (k + 1) = i + 1 + k by omega]; exact h1, by simpa using h2, h3⟩
  | [], _, _, k, _, hk => by simp at hk
  | _ :: _, [], _, _, h, _ => h.elim

theorem ResL.length {Φ : Pub} {w : World} : ∀ {Rs : List RP} {fs : List (List Nat)}, ResL Φ w Rs fs → fs.length = Rs.length
  | [], [], _ => rfl
  | R :: Rs, f :: fs, h => by simp [ResL.length h.2]
  | [], _ :: _, h => h.elim
  | _ :: _, [], h => h.elim

theorem ResL.get {Φ : Pub} {w : World} : ∀ {Rs : List RP} {fs : List (List Nat)} (k : Nat), ResL Φ w Rs fs → k < Rs.length → ∃ R f, Rs[k]? = some R ∧ fs[k]? = some f ∧ R.p Φ f w
  | R :: Rs, f :: fs, 0, h, _ => ⟨R, f, rfl, rfl, h.1⟩
  | R :: Rs, f :: fs, k + 1, h, hk => by simpa using ResL.get k h.2 (by simpa using hk)
  | [], _, k, _, hk => by simp at hk
  | _ :: _, [], _, h, _ => h.elim

theorem nthD_append {α : Type _} (d : α) (l m : List α) (i : Nat) : nthD d (l ++ m) i = if i < l.length then nthD d l i else nthD d m (i - l.length) := by
  simp only [nthD_eq, List.getD]
  split
  · rename_i h; rw [List.getElem?_append_left h]
  · rename_i h; rw [List.getElem?_append_right (by omega)]

theorem nthD_map {α β : Type _} (d : α) (e : β) (f : α → β) (l : List α) (i : Nat) (h : i < l.length) : nthD e (l.map f) i = f (nthD d l i) := by
  simp only [nthD_eq, List.getD, List.getElem?_map, List.getElem?_eq_getElem h]
  rfl

/-- To prove a contract: the body, from the arguments' state to what is handed back. -/
theorem CallOk.intro {P : Program} {G : FP} {f : FuncId} {fn : Func} {code : Code} {args : List VP} {pre : List RP} {post : Value → List RP} {res : VP} (n : Nat)
    (hf : P.funcs[f]? = some fn) (hb : fn.body = some code) (hn : fn.ntmps = n) (hle : args.length ≤ n)
    (h : ∀ (c : Cx) (a : Act) (w : World), c.G = G → c.n = n → SatL c (argE 0 args ++ pre.map .res) a w → code.wp P (fun e a w => (e = .ret ∨ e = .normal) ∧ RetOk P fn c res post a w) a w) :
    CallOk P G f args pre post res := by
  intro Φ w vs fs h1 h2 h3 h4 h5 h6
  have hvl := h3.length
  have hfl := h4.length
  have hsat : SatL ⟨w, Φ, fs.flatten, n, G⟩ (argE 0 args ++ pre.map .res) { tmps := vs.toArray ++ Array.replicate (fn.ntmps - vs.toArray.size) undef, defers := [] } w := by
    have hal := argE_length args 0
    have hgetR : ∀ i, ¬ i < args.length → i < (argE 0 args ++ pre.map Ent.res).length → ∃ R f, nthD .none (argE 0 args ++ pre.map .res) i = .res R ∧ fs[i - args.length]? = some f ∧ R.p Φ f w := by
      intro i hi hlt
      have hlt' : i - args.length < pre.length := by simp [hal] at hlt; omega
      obtain ⟨R, f, e1, e2, e3⟩ := ResL.get (i - args.length) h4 hlt'
      refine ⟨R, f, ?_, e2, e3⟩
      rw [nthD_append, if_neg (by rw [hal]; exact hi), hal, nthD_eq]
      simp [List.getD, e1]
    refine ⟨Φ, fun i => if i < args.length then [] else fs.getD (i - args.length) [], rfl, by simp [hvl, hn]; omega, h1, h2, Step.refl _ _ _, fun i hi => ?_, fun i hi => ?_, fun i j hi hj hne => ?_⟩
    · by_cases hlt : i < args.length
      · obtain ⟨V, v, e1, e2, e3⟩ := argE_get 0 i h3 hlt
        rw [if_pos hlt, nthD_append, if_pos (by rw [hal]; exact hlt), e1]
        refine ⟨rfl, v, ?_, e3⟩
        have hiv : i < vs.length := by omega
        simp only [Nat.zero_add]
        rw [Array.getElem?_append_left (by simpa using hiv)]
        simpa using e2
      · obtain ⟨R, f, e1, e2, e3⟩ := hgetR i hlt hi
        rw [e1, if_neg hlt]
        simp only [List.getD, e2, Option.getD_some]
        exact e3
    · by_cases hlt : i < args.length
      · simp [hlt]
      · obtain ⟨R, f, e1, e2, e3⟩ := hgetR i hlt hi
        simp only [if_neg hlt, List.getD, e2, Option.getD_some]
        have hm := List.mem_of_getElem? e2
        exact ⟨nodup_of_flatten h5 f hm, fun b hb => ⟨h6 b (List.mem_flatten.2 ⟨f, hm, hb⟩), .inl (List.mem_flatten.2 ⟨f, hm, hb⟩)⟩⟩
    · by_cases hlt : i < args.length
      · simp [hlt]
      · by_cases hlt2 : j < args.length
        · simp [hlt2]
        · obtain ⟨R, f, e1, e2, e3⟩ := hgetR i hlt hi
          obtain ⟨R', f', e1', e2', e3'⟩ := hgetR j hlt2 hj
          simp only [if_neg hlt, if_neg hlt2, List.getD, e2, e2', Option.getD_some]
          exact apart_of_flatten h5 _ _ f f' e2 e2' (by omega)
  have hwp := h ⟨w, Φ, fs.flatten, n, G⟩ _ w rfl rfl hsat
  refine calls_of_wp hf hb (wp_mono hwp fun e a w' hq => ?_)
  obtain ⟨he, hd, v, Φ', fs', hr, q1, q2, q3, q4, q5, q6⟩ := hq
  rcases he with rfl | rfl
  · exact ⟨hd, v, hr, v, Φ', fs', rfl, q1, q2, q3, q4, q5, q6⟩
  · exact ⟨hd, v, hr, v, Φ', fs', rfl, q1, q2, q3, q4, q5, q6⟩

/-- A test on a slot. -/
theorem cond_L {P : Program} {c : Cx} {l : List Ent} {a : Act} {w : World} {Q : Exit → Act → World → Prop} {t : Nat} {b : Bool} {x y : Code} (h : SatL c l a w) (i : Nat) (he : nthD .none l i = .slot t (boolVP b))
    (ht : b = true → x.wp P Q a w) (hf : b = false → y.wp P Q a w) : (Code.cond (.tmp t) x y).wp P Q a w := by
  obtain ⟨Φ, fp, hs⟩ := h
  have hi : i < l.length := by
    rcases Nat.lt_or_ge i l.length with q | q
    · exact q
    · rw [nthD_eq, List.getD, List.getElem?_eq_none q] at he
      cases he
  have := hs.holds i hi
  rw [he] at this
  obtain ⟨_, v, hv, hb⟩ := this
  have hb : v = .bool b := hb
  subst hb
  refine wp_cond_split (t := b) ?_ ht hf
  simp [Act.eval, hv]

/-- The rest of a sequence, from a state that its first part comes to. -/
theorem seq_cut {P : Program} {x y : Code} {Q : Exit → Act → World → Prop} {a : Act} {w : World} (J : Act → World → Prop) (hy : ∀ a w, J a w → y.wp P Q a w) (hx : x.wp P (Exit.then J Q) a w) : (Code.seq x y).wp P Q a w :=
  wp_seq (wp_mono hx fun e a w q => by cases e <;> first | exact hy _ _ q | exact q)

inductive Flow (R S : Type) where
  | ret (r : R)
  | brk (s : S)
  | cont (s : S)
inductive Ctl (R S : Type) where
  | ret (r : R)
  | next (s : S)

/-- A loop, round by round: at most so many. -/
def loopN {R S : Type} (body : S → Option (Flow R S)) : Nat → S → Option (Ctl R S)
  | 0, _ => none
  | k + 1, s =>
    match body s with
    | none => none
    | some (.ret r) => some (.ret r)
    | some (.brk s') => some (.next s')
    | some (.cont s') => loopN body k s'

theorem wp_loopN {P : Program} {R S : Type} {body : S → Option (Flow R S)} {code : Code} (I : S → Act → World → Prop) (Qo : Ctl R S → Exit → Act → World → Prop)
    (hbody : ∀ s a w o, I s a w → body s = some o → code.wp P (fun e a' w' => match o with
      | .cont s' => e = .normal ∧ I s' a' w'
      | .brk s' => e ≠ .normal ∧ Qo (.next s') e a' w'
      | .ret r => e ≠ .normal ∧ Qo (.ret r) e a' w') a w) :
    ∀ (k : Nat) (s : S) (a : Act) (w : World) (r : Ctl R S), I s a w → loopN body k s = some r → (Code.loop code).wp P (Qo r) a w := by
  intro k s a w r hI hl b kk cs
  have key : ∀ (k : Nat) (s : S) (a : Act) (w : World), I s a w → loopN body k s = some r →
      ∃ e a' w', Qo r e a' w' ∧ Arrives P (lone (b.at a (.code code :: .inLoop code :: kk)) cs w) b kk cs e a' w' := by
    intro k
    induction k with
    | zero => intro s a w _ hl; simp [loopN] at hl
    | succ k ih =>
      intro s a w hI hl
      cases hb : body s with
      | none => simp [loopN, hb] at hl
      | some o =>
        obtain ⟨e, a₁, w₁, hq, harr⟩ := hbody s a w o hI hb b (.inLoop code :: kk) cs
        cases o with
        | cont s' =>
          obtain ⟨rfl, hI'⟩ := hq
          simp only [loopN, hb] at hl
          obtain ⟨e₂, a₂, w₂, hq₂, harr₂⟩ := ih s' a₁ w₁ hI' hl
          exact ⟨e₂, a₂, w₂, hq₂, .of_steps (Steps.trans harr (.one step_inLoop)) harr₂⟩
        | brk s' =>
          simp only [loopN, hb, Option.some.injEq] at hl
          subst hl
          exact ⟨e, a₁, w₁, hq.2, .pass (x := .inLoop code) rfl (fun _ _ => .inl hq.1) harr⟩
        | ret x =>
          simp only [loopN, hb, Option.some.injEq] at hl
          subst hl
          exact ⟨e, a₁, w₁, hq.2, .pass (x := .inLoop code) rfl (fun _ _ => .inl hq.1) harr⟩
  obtain ⟨e, a', w', hq, harr⟩ := key k s a w hI hl
  exact ⟨e, a', w', hq, .of_steps (.one step_loop) harr⟩

end Go.Proofs.YtklikgigjdgjaaaGreatDoorRRR
