/- Values' properties, rows of cells, and the operations that turn no memory. -/
import Derived.Test.YtklikgigjdgjaaaGreatDoorRRRA3
namespace Go.Proofs.YtklikgigjdgjaaaGreatDoorRRR
open Go Go.RowKit

def InR (k : IntKind) (x : Int) : Prop := k.min ≤ x ∧ x ≤ k.max
theorem wrap_in (k : IntKind) (x : Int) : InR k (k.wrap x) := by
  cases k <;> simp only [InR, IntKind.wrap, IntKind.min, IntKind.max, IntKind.bits, IntKind.signed] <;> simp <;> (try split) <;> constructor <;> omega

def intVP (k : IntKind) (x : Int) : VP := ⟨fun _ v => v = .int k x ∧ InR k x, fun _ h => h⟩
/-- The greatest length that is spoken of. -/
def mxl : Nat := 9223372036854775807
theorem len_in {n : Nat} (h : n ≤ mxl) : InR .i64 n := by
  unfold mxl at h
  simp only [InR, IntKind.min, IntKind.max, IntKind.bits, IntKind.signed]
  simp
  omega
def strVP (l : List UInt8) : VP := ⟨fun _ v => v = .string ⟨l.toArray⟩ ∧ l.length ≤ mxl, fun _ h => h⟩
def eqVP (u : Value) : VP := ⟨fun _ v => v = u, fun _ h => h⟩
def anyVP : VP := ⟨fun _ _ => True, fun _ h => h⟩
def nilpVP : VP := eqVP (.pointer none)
def nilIVP : VP := eqVP .nilIface
theorem ArgsL.mono {Φ Φ' : Pub} (hle : Pub.le Φ Φ') : ∀ {l : List VP} {vs : List Value}, ArgsL Φ l vs → ArgsL Φ' l vs
  | [], [], _ => trivial
  | V :: _, _ :: _, h => ⟨V.mono hle h.1, ArgsL.mono hle h.2⟩
  | [], _ :: _, h => h.elim
  | _ :: _, [], h => h.elim
def tupVP (l : List VP) : VP := ⟨fun Φ v => ∃ vs, v = .tuple vs.toArray ∧ ArgsL Φ l vs, by rintro Φ Φ' v hle ⟨vs, h1, h2⟩; exact ⟨vs, h1, h2.mono hle⟩⟩

/-- A piece of a row of cells. -/
structure Ck where
  n : Nat
  rel : Pub → List Value → Prop
  len : ∀ {Φ cs}, rel Φ cs → cs.length = n
  cell : ∀ {Φ cs}, rel Φ cs → ∀ v ∈ cs, v.oneCell' = true
  mono : ∀ {Φ Φ' : Pub} {cs}, Pub.le Φ Φ' → rel Φ cs → rel Φ' cs

def Lrel (Φ : Pub) : List Value → List Ck → Prop
  | cs, [] => cs = []
  | cs, c :: L => ∃ xs ys, cs = xs ++ ys ∧ c.rel Φ xs ∧ Lrel Φ ys L

def lens : List Ck → Nat
  | [] => 0
  | c :: L => c.n + lens L

theorem Lrel.len {Φ : Pub} : ∀ {L : List Ck} {cs : List Value}, Lrel Φ cs L → cs.length = lens L
  | [], cs, h => by have : cs = [] := h; simp [this, lens]
  | c :: L, cs, h => by
    obtain ⟨xs, ys, rfl, h1, h2⟩ := h
    simp [lens, c.len h1, Lrel.len h2]
theorem Lrel.cell {Φ : Pub} : ∀ {L : List Ck} {cs : List Value}, Lrel Φ cs L → ∀ v ∈ cs, v.oneCell' = true
  | [], cs, h, v, hv => by have : cs = [] := h; simp [this] at hv
  | c :: L, cs, h, v, hv => by
    obtain ⟨xs, ys, rfl, h1, h2⟩ := h
    rcases List.mem_append.1 hv with hv | hv
    · exact c.cell h1 v hv
    · exact Lrel.cell h2 v hv
theorem Lrel.mono {Φ Φ' : Pub} (hle : Pub.le Φ Φ') : ∀ {L : List Ck} {cs : List Value}, Lrel Φ cs L → Lrel Φ' cs L
  | [], _, h => h
  | c :: L, cs, h => by
    obtain ⟨xs, ys, rfl, h1, h2⟩ := h
    exact ⟨xs, ys, rfl, c.mono hle h1, Lrel.mono hle h2⟩
theorem Lrel.append {Φ : Pub} : ∀ {L M : List Ck} {xs ys : List Value}, Lrel Φ xs L → Lrel Φ ys M → Lrel Φ (xs ++ ys) (L ++ M)
  | [], M, xs, ys, h, k => by have : xs = [] := h; subst this; exact k
  | c :: L, M, xs, ys, h, k => by
    obtain ⟨x1, x2, rfl, h1, h2⟩ := h
    exact ⟨x1, x2 ++ ys, by simp, h1, Lrel.append h2 k⟩
theorem Lrel.split {Φ : Pub} : ∀ {L M : List Ck} {cs : List Value}, Lrel Φ cs (L ++ M) → ∃ xs ys, cs = xs ++ ys ∧ Lrel Φ xs L ∧ Lrel Φ ys M
  | [], M, cs, h => ⟨[], cs, rfl, rfl, h⟩
  | c :: L, M, cs, h => by
    obtain ⟨x1, x2, rfl, h1, h2⟩ := h
    obtain ⟨xs, ys, rfl, h3, h4⟩ := Lrel.split h2
    exact ⟨x1 ++ xs, ys, by simp, ⟨x1, xs, rfl, h1, h3⟩, h4⟩
theorem lens_append : ∀ (L M : List Ck), lens (L ++ M) = lens L + lens M
  | [], M => by simp [lens]
  | c :: L, M => by simp [lens, lens_append L M]; omega

def one (V : VP) : Ck := ⟨1, fun Φ cs => ∃ v, cs = [v] ∧ v.oneCell' = true ∧ V.p Φ v, fun ⟨v, h, _⟩ => by simp [h], fun ⟨v, h, h1, _⟩ u hu => by simp [h] at hu; rw [hu]; exact h1,
  fun hle ⟨v, h, h1, h2⟩ => ⟨v, h, h1, V.mono hle h2⟩⟩
def byteC (b : UInt8) : Value := .int .u8 b.toNat
theorem byte_in (b : UInt8) : InR .u8 b.toNat := by
  have := b.toNat_lt
  simp only [InR, IntKind.min, IntKind.max, IntKind.bits, IntKind.signed]
  simp
  omega
/-- An array of n bytes. -/
def bytesCk (n : Nat) (l : List UInt8) : Ck := ⟨n, fun _ cs => l.length = n ∧ cs = l.map byteC, fun ⟨h, e⟩ => by simp [e, h], fun ⟨_, e⟩ v hv => by
  subst e; obtain ⟨b, _, rfl⟩ := List.mem_map.1 hv; rfl, fun _ h => h⟩
/-- An array of n numbers. -/
def intsCk (k : IntKind) (n : Nat) (l : List Int) : Ck := ⟨n, fun _ cs => l.length = n ∧ cs = l.map (Value.int k) ∧ ∀ x ∈ l, InR k x, fun ⟨h, e, _⟩ => by simp [e, h], fun ⟨_, e, _⟩ v hv => by
  subst e; obtain ⟨b, _, rfl⟩ := List.mem_map.1 hv; rfl, fun _ h => h⟩

/-- Rows one behind the other, each of the cells that c tells. -/
def Arel {α : Type} (Φ : Pub) (c : α → List Ck) : List Value → List α → Prop
  | cs, [] => cs = []
  | cs, x :: xs => ∃ us vs, cs = us ++ vs ∧ Lrel Φ us (c x) ∧ Arel Φ c vs xs
theorem Arel.len {α : Type} {Φ : Pub} {c : α → List Ck} {sz : Nat} (hsz : ∀ x, lens (c x) = sz) : ∀ {xs : List α} {cs : List Value}, Arel Φ c cs xs → cs.length = xs.length * sz
  | [], cs, h => by have : cs = [] := h; simp [this]
  | x :: xs, cs, h => by
    obtain ⟨us, vs, rfl, h1, h2⟩ := h
    simp [h1.len, hsz, Arel.len hsz h2, Nat.succ_mul]; omega
theorem Arel.cell {α : Type} {Φ : Pub} {c : α → List Ck} : ∀ {xs : List α} {cs : List Value}, Arel Φ c cs xs → ∀ v ∈ cs, v.oneCell' = true
  | [], cs, h, v, hv => by have : cs = [] := h; simp [this] at hv
  | x :: xs, cs, h, v, hv => by
    obtain ⟨us, vs, rfl, h1, h2⟩ := h
    rcases List.mem_append.1 hv with hv | hv
    · exact h1.cell v hv
    · exact Arel.cell h2 v hv
theorem Arel.mono {α : Type} {Φ Φ' : Pub} {c : α → List Ck} (hle : Pub.le Φ Φ') : ∀ {xs : List α} {cs : List Value}, Arel Φ c cs xs → Arel Φ' c cs xs
  | [], _, h => h
  | x :: xs, cs, h => by
    obtain ⟨us, vs, rfl, h1, h2⟩ := h
    exact ⟨us, vs, rfl, h1.mono hle, Arel.mono hle h2⟩
theorem Arel.append {α : Type} {Φ : Pub} {c : α → List Ck} : ∀ {xs ys : List α} {us vs : List Value}, Arel Φ c us xs → Arel Φ c vs ys → Arel Φ c (us ++ vs) (xs ++ ys)
  | [], ys, us, vs, h, k => by have : us = [] := h; subst this; exact k
  | x :: xs, ys, us, vs, h, k => by
    obtain ⟨u1, u2, rfl, h1, h2⟩ := h
    exact ⟨u1, u2 ++ vs, by simp, h1, Arel.append h2 k⟩
theorem Arel.split {α : Type} {Φ : Pub} {c : α → List Ck} : ∀ {xs ys : List α} {cs : List Value}, Arel Φ c cs (xs ++ ys) → ∃ us vs, cs = us ++ vs ∧ Arel Φ c us xs ∧ Arel Φ c vs ys
  | [], ys, cs, h => ⟨[], cs, rfl, rfl, h⟩
  | x :: xs, ys, cs, h => by
    obtain ⟨u1, u2, rfl, h1, h2⟩ := h
    obtain ⟨us, vs, rfl, h3, h4⟩ := Arel.split h2
    exact ⟨u1 ++ us, vs, by simp, ⟨u1, us, rfl, h1, h3⟩, h4⟩
/-- An array of n elements of sz cells each. -/
def arrCk {α : Type} (n sz : Nat) (c : α → List Ck) (hsz : ∀ x, lens (c x) = sz) (xs : List α) : Ck := ⟨n * sz, fun Φ cs => xs.length = n ∧ Arel Φ c cs xs, fun ⟨h, k⟩ => by rw [k.len hsz, h], fun ⟨_, k⟩ => k.cell, fun hle ⟨h, k⟩ => ⟨h, k.mono hle⟩⟩

def aggVP (L : List Ck) : VP := ⟨fun Φ v => ∃ cs, v = .agg cs.toArray ∧ Lrel Φ cs L, by rintro Φ Φ' v hle ⟨cs, h, k⟩; exact ⟨cs, h, k.mono hle⟩⟩

/-- The cells from (b, o) on are published, and hold cs. -/
def PubAt (Φ : Pub) (b o : Nat) (cs : List Value) : Prop := ∀ j v, cs[j]? = some v → Φ b (o + j) = some v
theorem PubAt.mono {Φ Φ' : Pub} {b o : Nat} {cs : List Value} (hle : Pub.le Φ Φ') (h : PubAt Φ b o cs) : PubAt Φ' b o cs := fun j v hj => hle _ _ _ (h j v hj)
theorem PubAt.left {Φ : Pub} {b o : Nat} {xs ys : List Value} (h : PubAt Φ b o (xs ++ ys)) : PubAt Φ b o xs := fun j v hj => h j v (by
  have : j < xs.length := by rcases Nat.lt_or_ge j xs.length with h1 | h1
                             · exact h1
                             · simp [List.getElem?_eq_none h1] at hj
  rw [List.getElem?_append_left this]; exact hj)
theorem PubAt.right {Φ : Pub} {b o : Nat} {xs ys : List Value} (h : PubAt Φ b o (xs ++ ys)) : PubAt Φ b (o + xs.length) ys := fun j v hj => by
  have := h (xs.length + j) v (by rw [List.getElem?_append_right (by omega)]; simpa using hj)
  rwa [← Nat.add_assoc] at this
theorem PubAt.append {Φ : Pub} {b o : Nat} {xs ys : List Value} (h : PubAt Φ b o xs) (k : PubAt Φ b (o + xs.length) ys) : PubAt Φ b o (xs ++ ys) := fun j v hj => by
  rcases Nat.lt_or_ge j xs.length with h1 | h1
  · exact h j v (by rwa [List.getElem?_append_left h1] at hj)
  · rw [List.getElem?_append_right h1] at hj
    have := k (j - xs.length) v hj
    rwa [show o + xs.length + (j - xs.length) = o + j by omega] at this

/-- A pointer to published memory. -/
def ppVP (L : List Ck) : VP := ⟨fun Φ v => ∃ b o cs, v = .pointer (some ⟨b, o, none⟩) ∧ Lrel Φ cs L ∧ PubAt Φ b o cs, fun hle ⟨b, o, cs, h, k, m⟩ => ⟨b, o, cs, h, k.mono hle, m.mono hle⟩⟩

/-- A slice of published memory that reads as the list xs. -/
def slVP {α : Type} (c : α → List Ck) (xs : List α) : VP := ⟨fun Φ v => xs.length ≤ mxl ∧ ((v = .slice none 0 0 ∧ xs = []) ∨
    (∃ b o cap cs, v = .slice (some ⟨b, o, none⟩) xs.length cap ∧ xs.length ≤ cap ∧ Arel Φ c cs xs ∧ PubAt Φ b o cs) ∨ (xs = [] ∧ ∃ a cap, v = .slice (some a) 0 cap)),
  fun hle h => ⟨h.1, h.2.imp id fun h => h.imp (fun ⟨b, o, cap, cs, h1, h2, h3, h4⟩ => ⟨b, o, cap, cs, h1, h2, h3.mono hle, h4.mono hle⟩) id⟩⟩

/-- An operand's property, out of the entries N. -/
def OpndOk (G : FP) (N : List Ent) (x : Operand) (V : VP) : Prop := ∀ (Φ : Pub) (a : Act) (w : World) (f : List (List Nat)), G.p Φ → HoldL Φ a.tmps w N f → V.p Φ (a.eval x)
theorem HoldL.nth {Φ : Pub} {tmps : Array Value} {w : World} : ∀ {es : List Ent} {fs : List (List Nat)} (i : Nat), HoldL Φ tmps w es fs → i < es.length → ∃ f, (nthD .none es i).holds Φ tmps w f ∧ f ∈ fs
  | e :: es, f :: fs, 0, h, _ => ⟨f, h.1, by simp⟩
  | e :: es, f :: fs, i + 1, h, hi => by
    obtain ⟨g, h1, h2⟩ := HoldL.nth i h.2 (by simpa using hi)
    exact ⟨g, h1, by simp [h2]⟩
  | [], _, i, _, hi => by simp at hi
  | _ :: _, [], _, h, _ => h.elim
theorem nthD_lt {N : List Ent} {i : Nat} {e : Ent} (h : nthD .none N i = e) (hne : e ≠ .none) : i < N.length := by
  rcases Nat.lt_or_ge i N.length with q | q
  · exact q
  · rw [nthD_eq, List.getD, List.getElem?_eq_none q] at h
    exact absurd h.symm hne
theorem opt {G : FP} {N : List Ent} {t : Nat} {V : VP} (i : Nat) (h : nthD .none N i = .slot t V) : OpndOk G N (.tmp t) V := by
  intro Φ a w f _ hN
  have hi := nthD_lt h (by simp)
  obtain ⟨g, hg, _⟩ := hN.nth i hi
  rw [h] at hg
  obtain ⟨_, v, hv, hV⟩ := hg
  simpa [Act.eval, hv] using hV
theorem opc {G : FP} {N : List Ent} {v : Value} {V : VP} (h : ∀ Φ, V.p Φ v) : OpndOk G N (.const v) V := fun Φ _ _ _ _ _ => h Φ
theorem opg {G : FP} {N : List Ent} {g : Nat} {V : VP} (h : ∀ Φ, G.p Φ → V.p Φ (.pointer (some ⟨g, 0, none⟩))) : OpndOk G N (.global g) V := fun Φ _ _ _ hG _ => h Φ hG
theorem ic {k : IntKind} {x : Int} (h : InR k x) : ∀ Φ, (intVP k x).p Φ (.int k x) := fun _ => ⟨rfl, h⟩
theorem bc (b : Bool) : ∀ Φ, (boolVP b).p Φ (.bool b) := fun _ => rfl
theorem sc (l : List UInt8) (h : l.length ≤ mxl) : ∀ Φ, (strVP l).p Φ (.string ⟨l.toArray⟩) := fun _ => ⟨rfl, h⟩
theorem ec (v : Value) : ∀ Φ, (eqVP v).p Φ v := fun _ => rfl

section ops
variable {P : Program} {G : FP} {N : List Ent} {d : Nat} {ty : TypeId} {pos : String} {af : Array Edge} {gd : Option (Nat × Bool)}

/-- An operation that hands back a value and leaves the world as it was. -/
theorem OpOk.val {op : Op} {V : Value → VP}
    (h : ∀ (Φ : Pub) (a : Act) (w : World) (f : List (List Nat)), PubOk Φ w → G.p Φ → HoldL Φ a.tmps w N f → ∃ v, (execOp a.eval ⟨some d, op, ty, pos, af, gd⟩).run P w = .ok (.value v) w ∧ (V v).p Φ v) :
    OpOk P G ⟨some d, op, ty, pos, af, gd⟩ N [] (fun v => [.slot d (V v)]) := by
  intro Φ a w fN fC h1 h2 h3 h4 h5 h6 h7 K Q hK
  obtain ⟨v, hr, hv⟩ := h Φ a w fN h1 h2 h3
  match fC, h4 with
  | [], _ =>
    unfold Oper.wp
    rw [hr, Oper.upon_value]
    refine hK v w Φ [[]] (Step.refl _ _ _) h1 ⟨⟨rfl, v, put_get a v d (h7 d rfl), hv⟩, trivial⟩ (by simp) (by simp)

theorem op_move {x : Operand} {V : VP} (hx : OpndOk G N x V) : OpOk P G ⟨some d, .move x, ty, pos, af, gd⟩ N [] (fun _ => [.slot d V]) :=
  OpOk.val fun Φ a w f _ hG hN => ⟨a.eval x, rfl, hx Φ a w f hG hN⟩
theorem op_assign {x : Operand} {V : VP} (hx : OpndOk G N x V) : OpOk P G ⟨some d, .assign x, ty, pos, af, gd⟩ N [] (fun _ => [.slot d V]) :=
  OpOk.val fun Φ a w f _ hG hN => ⟨a.eval x, rfl, hx Φ a w f hG hN⟩
theorem op_pick {c x y : Operand} {b : Bool} {V : VP} (hc : OpndOk G N c (boolVP b)) (hx : OpndOk G N (if b then x else y) V) : OpOk P G ⟨some d, .pick c x y, ty, pos, af, gd⟩ N [] (fun _ => [.slot d V]) :=
  OpOk.val fun Φ a w f _ hG hN => ⟨a.eval (if b then x else y), by
    have hb : a.eval c = .bool b := hc Φ a w f hG hN
    cases b <;> simp [execOp, hb, asBool], hx Φ a w f hG hN⟩
theorem op_extract {x : Operand} {i : Nat} {l : List VP} {V : VP} (hx : OpndOk G N x (tupVP l)) (hi : l[i]? = some V) : OpOk P G ⟨some d, .extract x i, ty, pos, af, gd⟩ N [] (fun _ => [.slot d V]) :=
  OpOk.val fun Φ a w f _ hG hN => by
    obtain ⟨vs, hv, hl⟩ := hx Φ a w f hG hN
    have key : ∀ (l : List VP) (vs : List Value) (i : Nat), ArgsL Φ l vs → l[i]? = some V → ∃ v, vs[i]? = some v ∧ V.p Φ v := by
      intro l
      induction l with
      | nil => intro vs i _ h; simp at h
      | cons W l ih =>
        intro vs i hl h
        cases vs with
        | nil => exact hl.elim
        | cons v vs =>
          cases i with
          | zero => simp at h; subst h; exact ⟨v, rfl, hl.1⟩
          | succ i => simpa using ih vs i hl.2 (by simpa using h)
    obtain ⟨v, h1, h2⟩ := key l vs i hl hi
    exact ⟨v, by simp [execOp, hv, Instr.extract, h1], h2⟩

/-- A binary operation on values of such properties. -/
def Bin (P : Program) (op : BinOp) (t : TypeId) (X Y Z : VP) : Prop := ∀ (Φ : Pub) (u v : Value) (w : World) (x y : Operand), X.p Φ u → Y.p Φ v → ∃ r, (do eqGuard op t x y u v; binOp op t u v : Sem Value).run P w = .ok r w ∧ Z.p Φ r
theorem op_bin {op : BinOp} {t t' : TypeId} {x y : Operand} {X Y Z : VP} (hb : Bin P op t X Y Z) (hx : OpndOk G N x X) (hy : OpndOk G N y Y) : OpOk P G ⟨some d, .binOp op t x y t', ty, pos, af, gd⟩ N [] (fun _ => [.slot d Z]) :=
  OpOk.val fun Φ a w f _ hG hN => by
    obtain ⟨r, hr, hz⟩ := hb Φ _ _ w x y (hx Φ a w f hG hN) (hy Φ a w f hG hN)
    refine ⟨r, ?_, hz⟩
    simp only [execOp, Sem.run_bind, Sem.run_pure] at hr ⊢
    cases h1 : (eqGuard op t x y (a.eval x) (a.eval y)).run P w with
    | ok _ w1 => simp only [h1, Result.andThen_ok] at hr ⊢; rw [hr]; rfl
    | halt _ w1 => simp [h1] at hr

section bins
variable {t : TypeId} {k : IntKind} {m n : Int}
theorem bin_add : Bin P .add t (intVP k m) (intVP k n) (intVP k (k.wrap (m + n))) := by rintro Φ u v w x y ⟨rfl, _⟩ ⟨rfl, _⟩; exact ⟨_, by simp [eqGuard_add, binOp_add, Op.intArith] <;> rfl, rfl, wrap_in _ _⟩
theorem bin_sub : Bin P .sub t (intVP k m) (intVP k n) (intVP k (k.wrap (m - n))) := by rintro Φ u v w x y ⟨rfl, _⟩ ⟨rfl, _⟩; exact ⟨_, by simp [eqGuard_sub, binOp_sub, Op.intArith] <;> rfl, rfl, wrap_in _ _⟩
theorem bin_mul : Bin P .mul t (intVP k m) (intVP k n) (intVP k (k.wrap (m * n))) := by rintro Φ u v w x y ⟨rfl, _⟩ ⟨rfl, _⟩; exact ⟨_, by simp [eqGuard_mul, binOp_mul, Op.intArith] <;> rfl, rfl, wrap_in _ _⟩
theorem bin_quo (h : n ≠ 0) : Bin P .quo t (intVP k m) (intVP k n) (intVP k (k.wrap (m.tdiv n))) := by rintro Φ u v w x y ⟨rfl, _⟩ ⟨rfl, _⟩; exact ⟨_, by simp [eqGuard_quo, binOp_quo, Op.intDiv, h] <;> rfl, rfl, wrap_in _ _⟩
theorem bits_in (op : BinOp) (k : IntKind) (m n : Int) : InR k (bits op k m n) := wrap_in _ _
theorem bin_and : Bin P .and t (intVP k m) (intVP k n) (intVP k (bits .and k m n)) := by rintro Φ u v w x y ⟨rfl, _⟩ ⟨rfl, _⟩; exact ⟨_, by simp [eqGuard_and, binOp_and, intBits_and] <;> rfl, rfl, bits_in _ _ _ _⟩
theorem bin_or : Bin P .or t (intVP k m) (intVP k n) (intVP k (bits .or k m n)) := by rintro Φ u v w x y ⟨rfl, _⟩ ⟨rfl, _⟩; exact ⟨_, by simp [eqGuard_or, binOp_or, intBits_or] <;> rfl, rfl, bits_in _ _ _ _⟩
theorem bin_xor : Bin P .xor t (intVP k m) (intVP k n) (intVP k (bits .xor k m n)) := by rintro Φ u v w x y ⟨rfl, _⟩ ⟨rfl, _⟩; exact ⟨_, by simp [eqGuard_xor, binOp_xor, intBits_xor] <;> rfl, rfl, bits_in _ _ _ _⟩
theorem bin_lss : Bin P .lss t (intVP k m) (intVP k n) (boolVP (decide (m < n))) := by rintro Φ u v w x y ⟨rfl, _⟩ ⟨rfl, _⟩; exact ⟨_, by simp [eqGuard_lss, binOp_lss] <;> rfl, rfl⟩
theorem bin_leq : Bin P .leq t (intVP k m) (intVP k n) (boolVP (decide (m ≤ n))) := by rintro Φ u v w x y ⟨rfl, _⟩ ⟨rfl, _⟩; exact ⟨_, by simp [eqGuard_leq, binOp_leq] <;> rfl, rfl⟩
theorem bin_gtr : Bin P .gtr t (intVP k m) (intVP k n) (boolVP (decide (n < m))) := by rintro Φ u v w x y ⟨rfl, _⟩ ⟨rfl, _⟩; exact ⟨_, by simp [eqGuard_gtr, binOp_gtr] <;> rfl, rfl⟩
theorem bin_geq : Bin P .geq t (intVP k m) (intVP k n) (boolVP (decide (n ≤ m))) := by rintro Φ u v w x y ⟨rfl, _⟩ ⟨rfl, _⟩; exact ⟨_, by simp [eqGuard_geq, binOp_geq] <;> rfl, rfl⟩
theorem bin_eql : Bin P .eql t (intVP k m) (intVP k n) (boolVP (decide (m = n))) := by rintro Φ u v w x y ⟨rfl, _⟩ ⟨rfl, _⟩; exact ⟨_, by simp [eqGuard_at_int, binOp_eql] <;> rfl, by rfl⟩
theorem bin_neq : Bin P .neq t (intVP k m) (intVP k n) (boolVP (!decide (m = n))) := by rintro Φ u v w x y ⟨rfl, _⟩ ⟨rfl, _⟩; exact ⟨_, by simp [eqGuard_at_int, binOp_neq] <;> rfl, by rfl⟩
end bins
end ops
end Go.Proofs.YtklikgigjdgjaaaGreatDoorRRR
