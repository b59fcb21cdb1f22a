/- Calls, returns, slices of strings and arrays, comparisons of byte arrays, pointers against nil. -/
import Derived.Test.YtklikgigjdgjaaaGreatDoorRRRA6
import Derived.Laws.BytesString
namespace Go.Proofs.YtklikgigjdgjaaaGreatDoorRRR
open Go Go.RowKit

section ops
variable {P : Program} {G : FP} {N : List Ent} {d : Nat} {ty : TypeId} {pos : String} {af : Array Edge} {gd : Option (Nat × Bool)}

/-- The arguments of a call. -/
def OpndsOk (G : FP) (N : List Ent) : List Operand → List VP → Prop
  | [], [] => True
  | x :: xs, V :: Vs => OpndOk G N x V ∧ OpndsOk G N xs Vs
  | _, _ => False
theorem OpndsOk.eval {Φ : Pub} {a : Act} {w : World} {f : List (List Nat)} (hG : G.p Φ) (hN : HoldL Φ a.tmps w N f) : ∀ {xs : List Operand} {Vs : List VP}, OpndsOk G N xs Vs → ArgsL Φ Vs (xs.map a.eval)
  | [], [], _ => trivial
  | _ :: _, _ :: _, h => ⟨h.1 Φ a w f hG hN, OpndsOk.eval hG hN h.2⟩
  | [], _ :: _, h => h.elim
  | _ :: _, [], h => h.elim
theorem HoldL.res_of {Φ : Pub} {tmps : Array Value} {w : World} : ∀ {Rs : List RP} {fs : List (List Nat)}, HoldL Φ tmps w (Rs.map .res) fs → ResL Φ w Rs fs
  | [], [], _ => trivial
  | _ :: _, _ :: _, h => ⟨h.1, HoldL.res_of h.2⟩
  | [], _ :: _, h => h.elim
  | _ :: _, [], h => h.elim
theorem HoldL.of_res {Φ : Pub} {tmps : Array Value} {w : World} : ∀ {Rs : List RP} {fs : List (List Nat)}, ResL Φ w Rs fs → HoldL Φ tmps w (Rs.map .res) fs
  | [], [], _ => trivial
  | _ :: _, _ :: _, h => ⟨h.1, HoldL.of_res h.2⟩
  | [], _ :: _, h => h.elim
  | _ :: _, [], h => h.elim

/-- A call of a function of the program. -/
theorem op_call {f : FuncId} {xs : List Operand} {tys : Array TypeId} {args : List VP} {pre : List RP} {post : Value → List RP} {res : VP} (hcall : ∀ args w, (callFunc f args).run P w = .ok (.enter f args) w)
    (hc : CallOk P G f args pre post res) (hx : OpndsOk G N xs args) :
    OpOk P G ⟨some d, .call ⟨.value (.func f), xs.toArray, tys⟩, ty, pos, af, gd⟩ N (pre.map .res) (fun v => .slot d res :: (post v).map .res) := by
  intro Φ a w fN fC h1 h2 h3 h4 h5 h6 h7 K Q hK
  have hargs := hx.eval h2 h3
  have hres := HoldL.res_of h4
  rw [List.nodup_append] at h5
  have hcl := hc Φ w _ fC h1 h2 hargs hres h5.2.1 (fun b hb => h6 b (by simp [hb]))
  have hrun : (execOp a.eval ⟨some d, .call ⟨.value (.func f), xs.toArray, tys⟩, ty, pos, af, gd⟩).run P w = .ok (.enter f (xs.map a.eval).toArray) w := by
    simp [execOp, resolve, Act.eval, Deferred.ofValue, invoke, hcall]
  unfold Oper.wp
  rw [hrun, Oper.upon_enter]
  refine hcl.mono fun e w' hq => ?_
  obtain ⟨v, Φ', fs', rfl, q1, q2, q3, q4, q5, q6⟩ := hq
  exact hK v w' Φ' ([] :: fs') q1 q2 ⟨⟨rfl, v, put_get a v d (h7 d rfl), q3⟩, HoldL.of_res q4⟩ (by simpa using q5) (by simpa using q6)

/-- A literal slice, or a variadic call's arguments: published at once. -/
theorem op_buildSlice {α : Type} {t e : TypeId} {n sz : Nat} {parts : Array (Nat × Operand)} {c : α → List Ck} {xs : List α} (h : ∀ (Φ : Pub) (a : Act) (w : World) (f : List (List Nat)), PubOk Φ w → G.p Φ → HoldL Φ a.tmps w N f →
      ∃ cs : List Value, (Instr.buildSlice t n (parts.map fun (i, x) => (i, a.eval x))).run P w = .ok (.slice (some ⟨w.heap.size, 0, none⟩) n n) (w.alloc (.cells cs.toArray e)) ∧ Arel Φ c cs xs) (hn : xs.length = n) (hm : n ≤ mxl) (_hsz : ∀ x, lens (c x) = sz) :
    OpOk P G ⟨some d, .buildSlice t n parts, ty, pos, af, gd⟩ N [] (fun _ => [.slot d (slVP c xs)]) := by
  intro Φ a w fN fC h1 h2 h3 h4 h5 h6 h7 K Q hK
  obtain ⟨cs, hr, hA⟩ := h Φ a w fN h1 h2 h3
  match fC, h4 with
  | [], _ =>
    have hrun : (execOp a.eval ⟨some d, .buildSlice t n parts, ty, pos, af, gd⟩).run P w = .ok (.value (.slice (some ⟨w.heap.size, 0, none⟩) n n)) (w.alloc (.cells cs.toArray e)) := by
      simp only [execOp, Sem.run_bind, hr]
      rfl
    unfold Oper.wp
    rw [hrun, Oper.upon_value]
    let Φ' : Pub := fun b o => if b = w.heap.size then cs[o]? else Φ b o
    have hle : Pub.le Φ Φ' := fun b o v e => by
      have := h1.lt b o v e
      simp only [Φ', if_neg (by omega : ¬ b = w.heap.size)]
      exact e
    refine hK _ _ Φ' [[]] ⟨rfl, rfl, rfl, by simp, fun b hb _ => heap_alloc_old w _ b hb, hle, fun b hb _ => by funext o; simp only [Φ', if_neg (by omega : ¬ b = w.heap.size)]⟩ ⟨fun b o v e => ?_, fun b o v e => ?_⟩
      ⟨⟨rfl, _, put_get a _ d (h7 d rfl), by rw [hn]; exact hm, .inr (.inl ⟨w.heap.size, 0, n, cs, by rw [hn], by omega, hA.mono hle, fun j v hj => by simp only [Φ', if_pos trivial, Nat.zero_add]; exact hj⟩)⟩, trivial⟩ (by simp) (by simp)
    · by_cases hb : b = w.heap.size
      · simp [hb]
      · simp only [Φ', if_neg hb] at e
        have := h1.lt b o v e
        simp; omega
    · by_cases hb : b = w.heap.size
      · subst hb
        simp only [Φ', if_pos trivial] at e
        rw [World.cell?_alloc_new]
        simpa using e
      · simp only [Φ', if_neg hb] at e
        rw [World.cell?_alloc_lt _ _ _ (h1.lt b o v e)]
        exact h1.cell b o v e

/-- A slice of one element of one cell. -/
theorem op_buildSlice1 {α : Type} {t e : TypeId} {x : Operand} {V : VP} {c : α → List Ck} {y : α} (hu : P.underlying t = some (.slice e)) (hs : ∀ w, (sizeOf e).run P w = .ok 1 w) {z : Value} (hz : ∀ w, (zeroValue e).run P w = .ok z w) (hz1 : z.cells.size = 1)
    (hx : OpndOk G N x V) (hV : OneV V) (hc : c y = [one V]) (hsz : ∀ x, lens (c x) = 1) : OpOk P G ⟨some d, .buildSlice t 1 #[(0, x)], ty, pos, af, gd⟩ N [] (fun _ => [.slot d (slVP c [y])]) :=
  op_buildSlice (e := e) (sz := 1) (fun Φ a w f hP hG hN => by
    have hv := hx Φ a w f hG hN
    have h1 := hV Φ _ hv
    have hcell : (a.eval x).cells = #[a.eval x] := by generalize a.eval x = v at h1; cases v <;> first | rfl | (simp [Value.oneCell'] at h1)
    refine ⟨[a.eval x], ?_, [a.eval x], [], rfl, by rw [hc]; exact ⟨[a.eval x], [], rfl, ⟨_, rfl, h1, hv⟩, rfl⟩, rfl⟩
    have hrow : ∀ f : Nat → Value, (Array.map f (Array.range 1)).setIfInBounds 0 (a.eval x) = #[a.eval x] := fun f => by
      rw [show Array.range 1 = #[0] from rfl]
      simp
    simp [Instr.buildSlice, run_underlying hu, hs, hz, Instr.fill, hcell, newRow, hz1, hrow]) rfl (by decide) hsz

/-- A bound of a slice expression: none, or a number. -/
def BndOk (v : Option Value) (dflt r : Nat) : Prop :=
  match v with
  | none => r = dflt
  | some u => ∃ k i, u = .int k i ∧ 0 ≤ i ∧ i.toNat = r
theorem run_bounds {w : World} (isS : Bool) (len cap : Nat) {lo hi : Option Value} {a b : Nat} (hlo : BndOk lo 0 a) (hhi : BndOk hi len b) (hab : a ≤ b) (hb : b ≤ cap) :
    (Instr.sliceBounds isS len cap lo hi none).run P w = .ok (a, b, cap) w := by
  have sb : ∀ (k : IntKind) (i : Int) (y : Nat) (code : BoundsCode), 0 ≤ i → i.toNat ≤ y → (Instr.sliceBound (.int k i) y code).run P w = .ok i.toNat w := by
    intro k i y code h0 h1
    simp [Instr.sliceBound, asIntOf, show 0 ≤ i ∧ i ≤ (y : Int) by omega]
  unfold Instr.sliceBounds
  cases hi with
  | none =>
    have hhi : b = len := hhi
    subst hhi
    cases lo with
    | none =>
      have hlo : a = 0 := hlo
      subst hlo
      simp
    | some u =>
      obtain ⟨k, i, rfl, h0, rfl⟩ := hlo
      simp [sb k i b _ h0 hab]
  | some u' =>
    obtain ⟨k', i', rfl, h0', rfl⟩ := hhi
    cases lo with
    | none =>
      have hlo : a = 0 := hlo
      subst hlo
      cases isS <;> simp [sb k' i' cap _ h0' hb]
    | some u =>
      obtain ⟨k, i, rfl, h0, rfl⟩ := hlo
      cases isS <;> simp [sb k' i' cap _ h0' hb, sb k i i'.toNat _ h0 hab]

/-- A bound out of the entries. -/
def BndE (G : FP) (N : List Ent) (x : Option Operand) (dflt : Nat) (i : Int) : Prop :=
  match x with
  | none => i = dflt
  | some y => ∃ k, OpndOk G N y (intVP k i)
theorem BndE.ok {Φ : Pub} {a : Act} {w : World} {f : List (List Nat)} (hG : G.p Φ) (hN : HoldL Φ a.tmps w N f) {x : Option Operand} {dflt : Nat} {i : Int} (h : BndE G N x dflt i) (h0 : 0 ≤ i) : BndOk (x.map a.eval) dflt i.toNat := by
  cases x with
  | none => have h : i = dflt := h; subst h; simp [BndOk]
  | some y =>
    obtain ⟨k, hk⟩ := h
    exact ⟨k, i, (hk Φ a w f hG hN).1, h0, rfl⟩

/-- s[lo:hi] of a string. -/
theorem op_slice_str {t : TypeId} {x : Operand} {l : List UInt8} {lo hi : Option Operand} {a b : Int} (hu : P.underlying t = some .string) (hx : OpndOk G N x (strVP l))
    (hlo : BndE G N lo 0 a) (hhi : BndE G N hi l.length b) (h : 0 ≤ a ∧ a ≤ b ∧ b ≤ l.length) :
    OpOk P G ⟨some d, .slice t x lo hi none, ty, pos, af, gd⟩ N [] (fun _ => [.slot d (strVP ((l.take b.toNat).drop a.toNat))]) :=
  OpOk.val fun Φ ac w f _ hG hN => by
    obtain ⟨hv, hl⟩ := hx Φ ac w f hG hN
    refine ⟨.string ⟨((l.take b.toNat).drop a.toNat).toArray⟩, ?_, rfl, by simp; omega⟩
    have hsb := run_bounds (P := P) (w := w) false l.length l.length (hlo.ok hG hN h.1) (hhi.ok hG hN (by omega)) (by omega) (by omega)
    simp only [execOp, hv, Instr.sliceAt, Sem.run_bind, run_underlying hu, Result.andThen_ok, Instr.slice, Option.map_none, Option.isSome_none, Bool.false_eq_true, if_false, str_size]
    simp [hsb, str_extract]
theorem op_index_str {t : TypeId} {x y : Operand} {l : List UInt8} {k : IntKind} {i : Int} (hu : P.underlying t = some .string) (hx : OpndOk G N x (strVP l)) (hy : OpndOk G N y (intVP k i)) (h : 0 ≤ i ∧ i < l.length) :
    OpOk P G ⟨some d, .index t x y, ty, pos, af, gd⟩ N [] (fun _ => [.slot d (intVP .u8 (l.getD i.toNat 0).toNat)]) :=
  OpOk.val fun Φ ac w f _ hG hN => by
    obtain ⟨hv, hl⟩ := hx Φ ac w f hG hN
    obtain ⟨hy, _⟩ := hy Φ ac w f hG hN
    refine ⟨.int .u8 (l.getD i.toNat 0).toNat, ?_, rfl, byte_in _⟩
    have hg := str_get l i.toNat (by omega)
    simp only [execOp, hv, hy, Instr.index, Sem.run_bind, asIntOf, Sem.run_pure, Result.andThen_ok, run_underlying hu, if_pos h.1, hg]

/-- A slice of an array of one's own. -/
def lslVP (p : Value) (k len cap : Nat) : VP := ⟨fun _ v => ∃ b, p = .pointer (some ⟨b, 0, none⟩) ∧ v = .slice (some ⟨b, k, none⟩) len cap, fun _ h => h⟩
theorem one_lsl (p : Value) (k n m : Nat) : OneV (lslVP p k n m) := by rintro Φ v ⟨b, _, rfl⟩; rfl
theorem op_slice_lb {t e : TypeId} {x : Operand} {p : Value} {n k sz : Nat} {lo hi : Option Operand} {a b : Int} (hu : P.underlying t = some (.array n e)) (hs : ∀ w, (sizeOf e).run P w = .ok sz w) (hx : OpndOk G N x (lpVP p k))
    (hlo : BndE G N lo 0 a) (hhi : BndE G N hi n b) (h : 0 ≤ a ∧ a ≤ b ∧ b ≤ n ∧ a < n) :
    OpOk P G ⟨some d, .slice t x lo hi none, ty, pos, af, gd⟩ N [] (fun _ => [.slot d (lslVP p (k + a.toNat * sz) (b.toNat - a.toNat) (n - a.toNat))]) :=
  OpOk.val fun Φ ac w f _ hG hN => by
    obtain ⟨bb, hp, hv⟩ := hx Φ ac w f hG hN
    refine ⟨.slice (some ⟨bb, k + a.toNat * sz, none⟩) (b.toNat - a.toNat) (n - a.toNat), ?_, bb, hp, rfl⟩
    have hsb := run_bounds (P := P) (w := w) false n n (hlo.ok hG hN h.1) (hhi.ok hG hN (by omega)) (by omega) (by omega)
    have hne : ¬ n = a.toNat := by omega
    simp [execOp, hv, Instr.sliceAt, run_underlying hu, Instr.sureAddr, hsb, hs, hne, Addr.add_lit]

theorem run_bytesToString {b k : Nat} {l : List UInt8} {cap : Nat} {w : World} (h : ∀ j v, (l.map byteC)[j]? = some v → w.cell? ⟨b, k + j, none⟩ = some v) :
    (Conv.bytesToString (.slice (some ⟨b, k, none⟩) l.length cap)).run P w = .ok (.string ⟨l.toArray⟩) w := by
  have hc := run_loadCells_list (P := P) w ⟨b, k, none⟩ (l.map byteC) (fun j v hj => by rw [Addr.add_lit]; exact h j v hj)
  rw [List.length_map] at hc
  have e1 : l.map byteC = (l.map fun x => (x.toNat : Int)).map (Value.int .u8) := by simp [byteC, Function.comp_def]
  rw [e1] at hc
  rw [Go.run_bytesToString (P := P) w ⟨b, k, none⟩ l.length cap _ hc]
  have key : ∀ (l : List UInt8) (acc : ByteArray), (l.map fun x => (x.toNat : Int)).foldl (fun r n => r.push (UInt8.ofNat n.toNat)) acc = ⟨(acc.data.toList ++ l).toArray⟩ := by
    intro l
    induction l with
    | nil => intro acc; simp
    | cons x l ih => intro acc; simp only [List.map_cons, List.foldl_cons, ih]; simp [ByteArray.push]
  rw [key l ByteArray.empty]
  rfl

/-- string(b[..]) of an array of one's own. -/
theorem op_str_lsl {s t e : TypeId} {x : Operand} {p : Value} {T0 : TypeId} {k n m cap : Nat} {l : List UInt8} (pre post : List Ck) (j : Nat) (hs : P.underlying s = some (.slice e)) (he : P.underlying e = some (.int .u8)) (ht : P.underlying t = some .string)
    (hx : OpndOk G N x (lslVP p k m cap)) (hR : nthD .none N j = .res (lb p T0 (pre ++ [bytesCk n l] ++ post))) (hk : lens pre = k) (hm : m ≤ n) (hn : n ≤ mxl) :
    OpOk P G ⟨some d, .convert s t x, ty, pos, af, gd⟩ N [] (fun _ => [.slot d (strVP (l.take m))]) :=
  OpOk.val fun Φ ac w f _ hG hN => by
    obtain ⟨b, hp, hv⟩ := hx Φ ac w f hG hN
    obtain ⟨g, b', cs, hp', _, hb, hL, _⟩ := hN.res j hR
    have : b' = b := by rw [hp] at hp'; simpa using hp'.symm
    subst this
    obtain ⟨xs, ys, zs, rfl, h1, h2, h3⟩ := take_mid hL
    obtain ⟨y1, y2, rfl, ⟨hl, rfl⟩, h4⟩ := h2
    have h4 : y2 = [] := h4
    subst h4
    refine ⟨.string ⟨(l.take m).toArray⟩, ?_, rfl, by simp; omega⟩
    have hlen : (l.take m).length = m := by simp; omega
    have hr := run_bytesToString (P := P) (b := b') (k := k) (l := l.take m) (cap := cap) (w := w) (fun i v hi => by
      have hi' : i < m := by
        rcases Nat.lt_or_ge i (l.take m).length with q | q
        · omega
        · rw [List.getElem?_eq_none (by simpa using q)] at hi; cases hi
      rw [cell_of hb, ← hk, ← h1.len, List.append_assoc, List.getElem?_append_right (by omega), show xs.length + i - xs.length = i by omega, List.append_nil, List.getElem?_append_left (by simp; omega)]
      rw [List.map_take, List.getElem?_take_of_lt hi'] at hi
      exact hi)
    rw [hlen] at hr
    simp only [execOp, hv, Sem.run_bind, run_convert_bytes_string w s t e _ _ _ hs he ht, hr]
    rfl

end ops
end Go.Proofs.YtklikgigjdgjaaaGreatDoorRRR
