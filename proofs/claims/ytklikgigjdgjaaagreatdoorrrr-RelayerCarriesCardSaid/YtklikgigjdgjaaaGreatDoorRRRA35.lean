/- Ranges over strings; arrays compared. -/
import Derived.Test.YtklikgigjdgjaaaGreatDoorRRRA34
import Derived.Laws.RangeAny
namespace Go.Proofs.YtklikgigjdgjaaaGreatDoorRRR
open Go Go.RowKit Go.Proofs
set_option linter.unusedVariables false
set_option linter.unusedSimpArgs false
/-- The letter at a place of a string. -/
def rnAt (s : List UInt8) (p : Nat) : Int := ((Utf8.decode ⟨s.toArray⟩ p).1 : Int)
/-- The place behind it. -/
def rxAt (s : List UInt8) (p : Nat) : Nat := if p < s.length then p + (Utf8.decode ⟨s.toArray⟩ p).2 else p
/-- A string under a range. -/
def strIt (it : Value) (s : List UInt8) (p : Nat) : RP := ⟨fun Φ f w => ∃ b, it = .pointer (some ⟨b, 0, none⟩) ∧ f = [b] ∧ w.heap[b]? = some (.stringIter ⟨s.toArray⟩ p) ∧ s.length ≤ mxl, by
  rintro Φ Φ' f w w' hle hs hb ⟨b, h1, rfl, h2, h3⟩
  exact ⟨b, h1, rfl, by rw [hb b (by simp)]; exact h2, h3⟩⟩
def snxVP (s : List UInt8) (p : Nat) : VP := ⟨fun _ v => if p < s.length then v = .tuple #[.bool true, .int .i64 p, .int .i32 (rnAt s p)] ∧ s.length ≤ mxl else v = .tuple #[.bool false], fun _ h => h⟩
section ops
variable {P : Program} {G : FP} {N : List Ent} {d : Nat} {ty : TypeId} {pos : String} {af : Array Edge} {gd : Option (Nat × Bool)}
theorem op_range_str {t : TypeId} {x : Operand} {s : List UInt8} (hu : P.underlying t = some .string) (hx : OpndOk G N x (strVP s)) :
    OpOk P G ⟨some d, .range t x, ty, pos, af, gd⟩ N [] (fun it => [.slot d (eqVP it), .res (strIt it s 0)]) := by
  intro Φ a w fN fC h1 h2 h3 h4 h5 h6 h7 Kk Q hK
  match fC, h4 with
  | [], _ =>
    obtain ⟨hv, hl⟩ := hx Φ a w fN h2 h3
    have hrun : (execOp a.eval ⟨some d, .range t x, ty, pos, af, gd⟩).run P w = .ok (.value (.pointer (some ⟨w.heap.size, 0, none⟩))) (w.alloc (.stringIter ⟨s.toArray⟩ 0)) := by
      simp only [execOp, hv, Sem.run_bind, run_range_string w t _ hu, Result.andThen_ok]
      rfl
    have hold : ∀ c, c < w.heap.size → (w.alloc (.stringIter ⟨s.toArray⟩ 0)).heap[c]? = w.heap[c]? := fun c hc => heap_alloc_old w _ hc
    unfold Oper.wp
    rw [hrun, Oper.upon_value]
    refine hK _ _ Φ [[], [w.heap.size]] ⟨rfl, rfl, rfl, by simp, fun c hc _ => hold c hc, Pub.le_refl _, fun _ _ _ => rfl⟩ (pub_alloc h1 _) ⟨⟨rfl, _, put_get a _ d (h7 d rfl), rfl⟩, ⟨w.heap.size, rfl, rfl, heap_alloc_new _ _, hl⟩, trivial⟩ (by simp) ?_
    intro c hc
    have hc : c = w.heap.size := by simpa using hc
    subst hc
    exact ⟨by simp, .inr (Nat.le_refl _)⟩
theorem op_next_str {t : Nat} {it : Value} {s : List UInt8} {p : Nat} (i : Nat) (he : nthD .none N i = .slot t (eqVP it)) :
    OpOk P G ⟨some d, .next (.tmp t) true, ty, pos, af, gd⟩ N [.res (strIt it s p)] (fun _ => [.slot d (snxVP s p), .res (strIt it s (rxAt s p))]) := by
  intro Φ a w fN fC h1 h2 h3 h4 h5 h6 h7 Kk Q hK
  match fC, h4 with
  | [f], ⟨⟨b, hitt, hf, hb, hl⟩, _⟩ =>
    subst hitt
    subst hf
    have hbl : b < w.heap.size := h6 b (by simp)
    have hv : a.eval (.tmp t) = .pointer (some ⟨b, 0, none⟩) := opt (G := G) i he Φ a w fN h2 h3
    have hsz : (⟨s.toArray⟩ : ByteArray).size = s.length := by simp [ByteArray.size]
    by_cases hp : p < s.length
    · have hrun : (execOp a.eval ⟨some d, .next (.tmp t) true, ty, pos, af, gd⟩).run P w = .ok (.value (.tuple #[.bool true, .int .i64 p, .int .i32 (rnAt s p)])) (Go.ChangeMaps.setBlock w b (.stringIter ⟨s.toArray⟩ (rxAt s p))) := by
        simp only [execOp, hv, Sem.run_bind, Instr.next, getObj, setObj, Sem.run, hb, Result.andThen, hsz, hp, if_true, rxAt]
        simp [goInt, rnAt, Go.ChangeMaps.setBlock]
      have hsize : (Go.ChangeMaps.setBlock w b (.stringIter ⟨s.toArray⟩ (rxAt s p))).heap.size = w.heap.size := by simp [Go.ChangeMaps.setBlock]
      have hother : ∀ c, c ≠ b → (Go.ChangeMaps.setBlock w b (.stringIter ⟨s.toArray⟩ (rxAt s p))).heap[c]? = w.heap[c]? := fun c hc => by
        simp [Go.ChangeMaps.setBlock, Array.getElem?_setIfInBounds, Ne.symm hc]
      have hself : (Go.ChangeMaps.setBlock w b (.stringIter ⟨s.toArray⟩ (rxAt s p))).heap[b]? = some (.stringIter ⟨s.toArray⟩ (rxAt s p)) := by
        simp [Go.ChangeMaps.setBlock, Array.getElem?_setIfInBounds, hbl]
      have hpr : ∀ o, Φ b o = none := fun o => by
        cases e : Φ b o with
        | none => rfl
        | some u =>
          have := h1.cell b o u e
          simp [World.cell?, hb] at this
      unfold Oper.wp
      rw [hrun, Oper.upon_value]
      refine hK _ _ Φ [[], [b]] ⟨rfl, rfl, rfl, Nat.le_of_eq hsize.symm, fun c hc hne => hother c (fun e => hne (by simp [e])), Pub.le_refl _, fun _ _ _ => rfl⟩ ⟨fun c o u e => by rw [hsize]; exact h1.lt c o u e, fun c o u e => ?_⟩
        ⟨⟨rfl, _, put_get a _ d (h7 d rfl), by simp [snxVP, hp, hl]⟩, ⟨b, rfl, rfl, hself, hl⟩, trivial⟩ (by simp) (fun c hc => by
          have hc : c = b := by simpa using hc
          subst hc
          exact ⟨by rw [hsize]; exact hbl, .inl (by simp)⟩)
      have hne : c ≠ b := fun e' => by rw [e', hpr o] at e; cases e
      exact (World.cell?_of_block (w := w) (hother c hne)).trans (h1.cell c o u e)
    · have hrun : (execOp a.eval ⟨some d, .next (.tmp t) true, ty, pos, af, gd⟩).run P w = .ok (.value (.tuple #[.bool false])) w := by
        simp only [execOp, hv, Sem.run_bind, Instr.next, getObj, setObj, Sem.run, hb, Result.andThen, hsz, hp, if_false]
        simp
      have hx : rxAt s p = p := by simp [rxAt, hp]
      unfold Oper.wp
      rw [hrun, Oper.upon_value]
      refine hK _ _ Φ [[], [b]] (Step.refl _ _ _) h1 ⟨⟨rfl, _, put_get a _ d (h7 d rfl), by simp [snxVP, hp]⟩, ⟨b, rfl, rfl, by rw [hx]; exact hb, hl⟩, trivial⟩ (by simp) (fun c hc => by
          have hc : c = b := by simpa using hc
          subst hc
          exact ⟨hbl, .inl (by simp)⟩)
theorem op_snx0 {x : Operand} {s : List UInt8} {p : Nat} (hx : OpndOk G N x (snxVP s p)) : OpOk P G ⟨some d, .extract x 0, ty, pos, af, gd⟩ N [] (fun _ => [.slot d (boolVP (decide (p < s.length)))]) :=
  OpOk.val fun Φ a w f _ hG hN => by
    have hv := hx Φ a w f hG hN
    by_cases hp : p < s.length
    · simp only [snxVP, hp, if_true] at hv
      exact ⟨.bool true, by simp [execOp, hv.1, Instr.extract], by simp [boolVP, hp]⟩
    · simp only [snxVP, hp, if_false] at hv
      exact ⟨.bool false, by simp [execOp, hv, Instr.extract], by simp [boolVP, hp]⟩
theorem op_snx1 {x : Operand} {s : List UInt8} {p : Nat} (hx : OpndOk G N x (snxVP s p)) (hp : p < s.length) : OpOk P G ⟨some d, .extract x 1, ty, pos, af, gd⟩ N [] (fun _ => [.slot d (intVP .i64 (p : Int))]) :=
  OpOk.val fun Φ a w f _ hG hN => by
    have hv := hx Φ a w f hG hN
    simp only [snxVP, hp, if_true] at hv
    refine ⟨.int .i64 p, by simp [execOp, hv.1, Instr.extract], rfl, ?_⟩
    exact len_in (by omega)
theorem op_snx2 {x : Operand} {s : List UInt8} {p : Nat} (hx : OpndOk G N x (snxVP s p)) (hp : p < s.length) : OpOk P G ⟨some d, .extract x 2, ty, pos, af, gd⟩ N [] (fun _ => [.slot d (intVP .i32 (rnAt s p))]) :=
  OpOk.val fun Φ a w f _ hG hN => by
    have hv := hx Φ a w f hG hN
    simp only [snxVP, hp, if_true] at hv
    refine ⟨.int .i32 (rnAt s p), by simp [execOp, hv.1, Instr.extract], rfl, ?_⟩
    have := decode_le ⟨s.toArray⟩ p
    unfold rnAt
    simp [InR, IntKind.min, IntKind.max, IntKind.bits, IntKind.signed]
    omega
/-- A slice of one's own is sliced; what comes of it is not used. -/
theorem op_slice_own {α : Type} {t e T : TypeId} {x : Operand} {v : Value} {c : α → List Ck} {xs : List α} {sz sz' : Nat} {lo hi : Option Operand} {a b : Int} (j : Nat) (hu : P.underlying t = some (.slice e)) (hs : ∀ w, (sizeOf e).run P w = .ok sz' w) (hx : OpndOk G N x (eqVP v)) (hf : nthD .none N j = .res (own v T sz c xs))
    (hlo : BndE G N lo 0 a) (hhi : BndE G N hi xs.length b) (h : 0 ≤ a ∧ a ≤ b ∧ b ≤ xs.length) :
    OpOk P G ⟨some d, .slice t x lo hi none, ty, pos, af, gd⟩ N [] (fun _ => [.slot d anyVP]) :=
  OpOk.val fun Φ ac w f _ hG hN => by
    have hv : ac.eval x = v := hx Φ ac w f hG hN
    obtain ⟨g, hm, ⟨rfl, rfl, _⟩ | ⟨bb, cap, cs, zs, rfl, _, _, _, _, hcap, _⟩⟩ := hN.res j hf
    · have ha : a = 0 := by simp at h; omega
      have hb : b = 0 := by simp at h; omega
      subst ha; subst hb
      have hsb := run_bounds (P := P) (w := w) true 0 0 (lo := lo.map ac.eval) (hi := hi.map ac.eval) (a := 0) (b := 0) (hlo.ok hG hN (by omega)) (hhi.ok hG hN (by omega)) (by omega) (by omega)
      refine ⟨.slice none 0 0, ?_, trivial⟩
      simp [execOp, hv, Instr.sliceAt, Instr.slice, run_underlying hu, hsb, hs]
    · have hsb := run_bounds (P := P) (w := w) true xs.length cap (lo := lo.map ac.eval) (hi := hi.map ac.eval) (a := a.toNat) (b := b.toNat) (hlo.ok hG hN h.1) (hhi.ok hG hN (by omega)) (by omega) (by omega)
      by_cases hc : cap = a.toNat
      · refine ⟨.slice (some ⟨bb, 0, none⟩) (b.toNat - a.toNat) (cap - a.toNat), ?_, trivial⟩
        subst hc
        simp [execOp, hv, Instr.sliceAt, Instr.slice, run_underlying hu, hsb, hs]
      · refine ⟨.slice (some ⟨bb, 0 + a.toNat * sz', none⟩) (b.toNat - a.toNat) (cap - a.toNat), ?_, trivial⟩
        simp [execOp, hv, Instr.sliceAt, Instr.slice, run_underlying hu, hsb, hs, hc, Addr.add_lit]
/-- A function value over published variables. -/
theorem op_makeFunc_pp {α β : Type} {A : α → List VP} {B : β → VP} {g : α → Option β} {f : FuncId} {xs : List Operand} {Cs : List VP} (hcall : ∀ args w, (callFunc f args).run P w = .ok (.enter f args) w)
    (hF : ∀ x r, g x = some r → CallOk P G f (A x ++ Cs) [] (fun _ => []) (B r)) (hx : OpndsOk G N xs Cs) :
    OpOk P G ⟨some d, .makeFunc (.func f) #[] xs.toArray, ty, pos, af, gd⟩ N [] (fun _ => [.slot d (fnVP P G A B g)]) :=
  OpOk.val fun Φ a w fp _ hG hN => ⟨.func (.func f) #[] (xs.map a.eval).toArray, by simp [execOp, Instr.makeFunc], fn_of hcall hF (hx.eval hG hN)⟩
/-- A slice of one's own that is handed back is one that may grow. -/
theorem OpOk.giveacc {o : Oper} {α : Type} {T : TypeId} {sz : Nat} {ck : α → List Ck} {xs : List α} {C : List Ent} (h : OpOk P G o N C (fun v => [.slot d (eqVP v), .res (own v T sz ck xs)])) : OpOk P G o N C (fun v => [.slot d (eqVP v), .res (acc v T sz ck xs)]) := by
  intro Φ a w fN fC h1 h2 h3 h4 h5 h6 h7 K Q hK
  refine h Φ a w fN fC h1 h2 h3 h4 h5 h6 h7 K Q fun v w' Φ' fG q1 q2 q3 q4 q5 => ?_
  match fG, q3 with
  | [f1, f2], ⟨⟨e1, u, hu, e2⟩, e3, _⟩ =>
    subst e1
    have e3 : (own v T sz ck xs).p Φ' f2 w' := e3
    obtain ⟨Φ1, k1, k2, k3, k4⟩ := own_pub q2 e3 (fun b hb => (q5 b (by simp [hb])).1)
    refine hK v w' Φ1 [[], f2] (q1.trans k1 fun b hb hlt => ?_) k2 ⟨⟨rfl, u, hu, e2⟩, k3, trivial⟩ q4 q5
    rcases (q5 b (by simp [hb])).2 with h | h
    · exact h
    · omega
end ops
section eqs
variable {P : Program}
theorem eqItems_arr {α : Type} [DecidableEq α] {d : Nat} {e : TypeId} {sz : Nat} {c : α → List Ck} (hsz : ∀ x, lens (c x) = sz) (hE : ∀ x y, EqC P d e (c x) (c y) (decide (x = y))) (Φ : Pub) (w : World) (dd : Nat) :
    ∀ (xs ys : List α) (cs ds pre pre' : List Value) (k : Nat), xs.length = ys.length → Arel Φ c cs xs → Arel Φ c ds ys → pre.length = k * sz → pre'.length = k * sz →
      (Op.eqItems (dd + d) e sz (pre ++ cs).toArray (pre' ++ ds).toArray (List.range' k xs.length)).run P w = .ok (decide (xs = ys)) w
  | [], ys, cs, ds, pre, pre', k, hl, h1, h2, h3, h4 => by
    have : ys = [] := List.eq_nil_of_length_eq_zero hl.symm
    subst this
    simp [Op.eqItems]
  | x :: xs, [], cs, ds, pre, pre', k, hl, h1, h2, h3, h4 => by simp at hl
  | x :: xs, y :: ys, cs, ds, pre, pre', k, hl, h1, h2, h3, h4 => by
    obtain ⟨c1, c2, rfl, k1, k2⟩ := h1
    obtain ⟨d1, d2, rfl, q1, q2⟩ := h2
    obtain ⟨u, v, e1, e2, e3⟩ := hE x y Φ w dd pre c2 pre' d2 c1 d1 k1 q1 (by omega)
    have hc1 : c1.length = sz := by rw [k1.len, hsz]
    have hd1 : d1.length = sz := by rw [q1.len, hsz]
    have ih := eqItems_arr hsz hE Φ w dd xs ys c2 d2 (pre ++ c1) (pre' ++ d1) (k + 1) (by simpa using hl) k2 q2 (by rw [List.length_append, h3, hc1, Nat.succ_mul]) (by rw [List.length_append, h4, hd1, Nat.succ_mul])
    rw [h3] at e1 e2
    simp only [List.length_cons, List.range'_succ, Op.eqItems, Sem.run_bind]
    simp only [← List.append_assoc]
    rw [e1]
    simp only [Result.andThen_ok]
    rw [e2]
    simp only [Result.andThen_ok]
    rw [e3]
    simp only [Result.andThen_ok]
    by_cases hh : x = y
    · subst hh
      simp only [decide_true, Bool.not_true, Bool.false_eq_true, if_false, ih, List.cons.injEq, true_and]
    · simp only [hh, decide_false, Bool.not_false, if_true, Sem.run_pure, List.cons.injEq, false_and]
theorem run_eq_arr {α : Type} [DecidableEq α] {d n sz : Nat} {t e : TypeId} {i : TypeInfo} {c : α → List Ck} {hsz : ∀ x, lens (c x) = sz} {xs ys : List α} (hu : P.underlying t = some (.array n e)) (hi : P.info? e = some i) (hs : ∀ w, (sizeOf e).run P w = .ok sz w) (hE : ∀ x y, EqC P d e (c x) (c y) (decide (x = y)))
    (Φ : Pub) (w : World) (dd : Nat) (cs ds : List Value) (hx : xs.length = n) (hy : ys.length = n) (h1 : Arel Φ c cs xs) (h2 : Arel Φ c ds ys) : (Op.equalIn (dd + (d + 1)) t (.agg cs.toArray) (.agg ds.toArray)).run P w = .ok (decide (xs = ys)) w := by
  have hc : P.cellsOf e = sz := by
    have h1 := hs w
    rw [run_sizeOf w hi] at h1
    simpa using h1
  rw [← Nat.add_assoc, run_equalIn_array w (dd + d) _ _ hu hi, List.range_eq_range', hc, ← hx]
  exact eqItems_arr hsz hE Φ w dd xs ys cs ds [] [] 0 (by omega) h1 h2 (by simp) (by simp)
theorem eqc_arr {α : Type} [DecidableEq α] {d n sz : Nat} {t e : TypeId} {i : TypeInfo} {c : α → List Ck} {hsz : ∀ x, lens (c x) = sz} {xs ys : List α} (hu : P.underlying t = some (.array n e)) (hi : P.info? e = some i) (hs : ∀ w, (sizeOf e).run P w = .ok sz w)
    (hat : ∀ w, (isAgg t).run P w = .ok true w) (hst : ∀ w, (sizeOf t).run P w = .ok (n * sz) w) (hE : ∀ x y, EqC P d e (c x) (c y) (decide (x = y))) : EqC P (d + 1) t [arrCk n sz c hsz xs] [arrCk n sz c hsz ys] (decide (xs = ys)) := by
  rintro Φ w dd pre post pre' post' cs ds ⟨x1, y1, rfl, ⟨hx, k1⟩, h1⟩ ⟨x2, y2, rfl, ⟨hy, k2⟩, h2⟩ hp
  have h1 : y1 = [] := h1
  have h2 : y2 = [] := h2
  subst h1 h2
  simp only [List.append_nil]
  refine ⟨_, _, part_agg hat (by rw [k1.len hsz, hx]; exact hst), ?_, run_eq_arr (hsz := hsz) hu hi hs hE Φ w dd x1 x2 hx hy k1 k2⟩
  rw [hp]
  exact part_agg hat (by rw [k2.len hsz, hy]; exact hst)
/-- Numbers one behind the other. -/
def nC (k : IntKind) (x : Int) : List Ck := [one (intVP k x)]
theorem arel_nums {Φ : Pub} {k : IntKind} : ∀ {l : List Int}, (∀ x ∈ l, InR k x) → Arel Φ (nC k) (l.map (Value.int k)) l
  | [], _ => rfl
  | x :: l, h => ⟨[.int k x], l.map (Value.int k), rfl, ⟨[.int k x], [], rfl, ⟨.int k x, rfl, rfl, rfl, h x (by simp)⟩, rfl⟩, arel_nums fun y hy => h y (by simp [hy])⟩
theorem eqc_ints {k : IntKind} {n : Nat} {t e : TypeId} {i : TypeInfo} {xs ys : List Int} (hu : P.underlying t = some (.array n e)) (he : P.underlying e = some (.int k)) (hi : P.info? e = some i) (hs : ∀ w, (sizeOf e).run P w = .ok 1 w) (ha : ∀ w, (isAgg e).run P w = .ok false w)
    (hat : ∀ w, (isAgg t).run P w = .ok true w) (hst : ∀ w, (sizeOf t).run P w = .ok n w) : EqC P 2 t [intsCk k n xs] [intsCk k n ys] (decide (xs = ys)) := by
  rintro Φ w dd pre post pre' post' cs ds ⟨x1, y1, rfl, ⟨hx, rfl, k1⟩, h1⟩ ⟨x2, y2, rfl, ⟨hy, rfl, k2⟩, h2⟩ hp
  have h1 : y1 = [] := h1
  have h2 : y2 = [] := h2
  subst h1 h2
  simp only [List.append_nil]
  refine ⟨_, _, part_agg hat (by simpa [hx] using hst), ?_, run_eq_arr (c := nC k) (sz := 1) (hsz := fun _ => rfl) hu hi hs (fun x y => eqc_int he ha) Φ w dd _ _ hx hy (arel_nums k1) (arel_nums k2)⟩
  rw [hp]
  exact part_agg hat (by simpa [hy] using hst)
theorem bin_aggeql {d n : Nat} {t : TypeId} {L M : List Ck} {b : Bool} (hat : ∀ w, (isAgg t).run P w = .ok true w) (hst : ∀ w, (sizeOf t).run P w = .ok n w) (hl : lens L = n) (hm : lens M = n) (hg : P.eqGuardType P.depth t = false) (h : EqC P d t L M b) (hd : d < 9999 := by decide) : Bin P .eql t (aggVP L) (aggVP M) (boolVP b) := by
  rintro Φ u v w x y ⟨cs, rfl, h1⟩ ⟨ds, rfl, h2⟩
  obtain ⟨u, v, e1, e2, e3⟩ := h Φ w (10000 - d) [] [] [] [] cs ds h1 h2 rfl
  have q1 := part_agg (P := P) (w := w) (pre := []) (post := []) (cs := cs) hat (by rw [h1.len, hl]; exact hst)
  have q2 := part_agg (P := P) (w := w) (pre := []) (post := []) (cs := ds) hat (by rw [h2.len, hm]; exact hst)
  rw [q1] at e1
  rw [q2] at e2
  injection e1 with e1 _
  injection e2 with e2 _
  subst e1 e2
  rw [show 10000 - d + d = 10000 by omega] at e3
  refine ⟨.bool b, ?_, rfl⟩
  simp only [Sem.run_bind, run_eqGuard_agg w .eql t x y _ _ hg, Result.andThen_ok, run_eql_struct w, e3]
theorem bin_aggneq {d n : Nat} {t : TypeId} {L M : List Ck} {b : Bool} (hat : ∀ w, (isAgg t).run P w = .ok true w) (hst : ∀ w, (sizeOf t).run P w = .ok n w) (hl : lens L = n) (hm : lens M = n) (hg : P.eqGuardType P.depth t = false) (h : EqC P d t L M b) (hd : d < 9999 := by decide) : Bin P .neq t (aggVP L) (aggVP M) (boolVP (!b)) := by
  rintro Φ u v w x y ⟨cs, rfl, h1⟩ ⟨ds, rfl, h2⟩
  obtain ⟨u, v, e1, e2, e3⟩ := h Φ w (10000 - d) [] [] [] [] cs ds h1 h2 rfl
  have q1 := part_agg (P := P) (w := w) (pre := []) (post := []) (cs := cs) hat (by rw [h1.len, hl]; exact hst)
  have q2 := part_agg (P := P) (w := w) (pre := []) (post := []) (cs := ds) hat (by rw [h2.len, hm]; exact hst)
  rw [q1] at e1
  rw [q2] at e2
  injection e1 with e1 _
  injection e2 with e2 _
  subst e1 e2
  rw [show 10000 - d + d = 10000 by omega] at e3
  refine ⟨.bool (!b), ?_, rfl⟩
  simp only [Sem.run_bind, run_eqGuard_agg w .neq t x y _ _ hg, Result.andThen_ok, run_neq_struct w, e3]
end eqs
end Go.Proofs.YtklikgigjdgjaaaGreatDoorRRR
