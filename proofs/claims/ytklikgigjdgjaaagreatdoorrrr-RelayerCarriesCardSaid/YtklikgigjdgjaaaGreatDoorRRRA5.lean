/- Operations that make, read and write memory; calls; what is handed back. -/
import Derived.Test.YtklikgigjdgjaaaGreatDoorRRRA4
namespace Go.Proofs.YtklikgigjdgjaaaGreatDoorRRR
open Go Go.RowKit

/-- A pointer k cells into the block that p points to. -/
def lpVP (p : Value) (k : Nat) : VP := ⟨fun _ v => ∃ b, p = .pointer (some ⟨b, 0, none⟩) ∧ v = .pointer (some ⟨b, k, none⟩), fun _ h => h⟩

/-- A block of the call's own: p points to it; its cells. -/
def lb (p : Value) (T : TypeId) (L : List Ck) : RP := ⟨fun Φ f w => ∃ b cs, p = .pointer (some ⟨b, 0, none⟩) ∧ f = [b] ∧ w.heap[b]? = some (.cells cs.toArray T (0, 0)) ∧ Lrel Φ cs L ∧ ∀ o, Φ b o = none, by
  rintro Φ Φ' f w w' hle hs hb ⟨b, cs, rfl, rfl, h1, h2, h3⟩
  exact ⟨b, cs, rfl, rfl, by rw [hb b (by simp)]; exact h1, h2.mono hle, fun o => by rw [hs b (by simp)]; exact h3 o⟩⟩

/-- The cells of a value. -/
def Cells (V : VP) (L : List Ck) : Prop := ∀ Φ v, V.p Φ v → Lrel Φ v.cells.toList L
def OneV (V : VP) : Prop := ∀ Φ v, V.p Φ v → v.oneCell' = true
theorem cells_agg (L : List Ck) : Cells (aggVP L) L := by rintro Φ v ⟨cs, rfl, h⟩; simpa [Value.cells] using h
theorem cells_one {V : VP} (h : OneV V) : Cells V [one V] := fun Φ v hv => by
  have h1 := h Φ v hv
  have h2 : v.cells.toList = [v] := by cases v <;> first | rfl | (simp [Value.oneCell'] at h1)
  rw [h2]
  exact ⟨[v], [], rfl, ⟨v, rfl, h1, hv⟩, rfl⟩
theorem one_int (k : IntKind) (x : Int) : OneV (intVP k x) := by rintro Φ v ⟨rfl, _⟩; rfl
theorem one_bool (b : Bool) : OneV (boolVP b) := by rintro Φ v h; have h : v = .bool b := h; subst h; rfl
theorem one_str (l : List UInt8) : OneV (strVP l) := by rintro Φ v ⟨rfl, _⟩; rfl
theorem one_eq {u : Value} (hu : u.oneCell' = true) : OneV (eqVP u) := by rintro Φ v h; have h : v = u := h; subst h; exact hu
theorem one_lp (p : Value) (k : Nat) : OneV (lpVP p k) := by rintro Φ v ⟨b, _, rfl⟩; rfl
theorem one_pp (L : List Ck) : OneV (ppVP L) := by rintro Φ v ⟨b, o, cs, rfl, _⟩; rfl
theorem one_sl {α : Type} (c : α → List Ck) (xs : List α) : OneV (slVP c xs) := by rintro Φ v ⟨_, ⟨rfl, _⟩ | ⟨b, o, cap, cs, rfl, _⟩ | ⟨_, a, cap, rfl⟩⟩ <;> rfl

section runs
variable {P : Program} {w : World}
theorem cell_of {b j : Nat} {cs : List Value} {T : TypeId} {fr : Nat × Nat} (h : w.heap[b]? = some (.cells cs.toArray T fr)) : w.cell? ⟨b, j, none⟩ = cs[j]? := by
  simp [World.cell?, h]
theorem run_loadAt_agg {T : TypeId} {n b k : Nat} {cs : List Value} (ha : ∀ w, (isAgg T).run P w = .ok true w) (hs : ∀ w, (sizeOf T).run P w = .ok n w) (hl : cs.length = n) (h : ∀ j v, cs[j]? = some v → w.cell? ⟨b, k + j, none⟩ = some v) :
    (Instr.loadAt T (.pointer (some ⟨b, k, none⟩))).run P w = .ok (.agg cs.toArray) w := by
  have hc := run_loadCells_list (P := P) w ⟨b, k, none⟩ cs (fun j v hj => by rw [Addr.add_lit]; exact h j v hj)
  rw [hl] at hc
  simp [Instr.loadAt, Instr.sureAddr, loadVar, ha, hs, hc]
theorem run_loadAt_one {T : TypeId} {b k : Nat} {v : Value} (ha : ∀ w, (isAgg T).run P w = .ok false w) (h : w.cell? ⟨b, k, none⟩ = some v) :
    (Instr.loadAt T (.pointer (some ⟨b, k, none⟩))).run P w = .ok v w := by
  simp [Instr.loadAt, Instr.sureAddr, loadVar, ha, h]

theorem setCell_row {b j : Nat} {cs : List Value} {T : TypeId} {v : Value} (h : w.heap[b]? = some (.cells cs.toArray T (0, 0))) :
    (w.setCell ⟨b, j, none⟩ v).heap[b]? = some (.cells (cs.set j v).toArray T (0, 0)) := by
  simp [World.setCell, Array.getElem?_modify, h]
theorem setCell_other {b j b' : Nat} {v : Value} (h : b' ≠ b) : (w.setCell ⟨b, j, none⟩ v).heap[b']? = w.heap[b']? := Below.heap_setCell _ _ _ _ h

theorem run_storeCells {b k : Nat} {T : TypeId} : ∀ (vs : List Value) (i : Nat) (w : World) (cs : List Value), w.heap[b]? = some (.cells cs.toArray T (0, 0)) → k + i + vs.length ≤ cs.length → (∀ v ∈ vs, v.oneCell' = true) →
    ∃ w', (storeCells ⟨b, k, none⟩ vs i).run P w = .ok () w' ∧ w'.heap[b]? = some (.cells (cs.take (k + i) ++ vs ++ cs.drop (k + i + vs.length)).toArray T (0, 0)) ∧ (∀ b', b' ≠ b → w'.heap[b']? = w.heap[b']?) ∧
      w'.heap.size = w.heap.size ∧ w'.os = w.os ∧ w'.tape = w.tape ∧ w'.output = w.output
  | [], i, w, cs, h, hl, _ => ⟨w, rfl, by simpa using h, fun _ _ => rfl, rfl, rfl, rfl, rfl⟩
  | v :: vs, i, w, cs, h, hl, hv => by
    simp only [List.length_cons] at hl
    have hst : (store (Addr.add ⟨b, k, none⟩ i) v).run P w = .ok () (w.setCell ⟨b, k + i, none⟩ v) := by
      rw [run_store P w _ v .plain (hv v (by simp)), Addr.add_lit]
      have hc : w.cell? ⟨b, k + i, none⟩ = some cs[k + i] := by rw [cell_of h]; simp [show k + i < cs.length by omega]
      simp only [hc]
      have hf : w.frozen? ⟨b, k + i, none⟩ = false := by simp [World.frozen?, h]
      simp [hf]
    obtain ⟨w', h1, h2, h3, h4, h5, h6, h7⟩ := run_storeCells (b := b) (k := k) vs (i + 1) (w.setCell ⟨b, k + i, none⟩ v) (cs.set (k + i) v) (setCell_row h) (by simp; omega) (fun u hu => hv u (by simp [hu]))
    refine ⟨w', ?_, ?_, fun b' hb' => (h3 b' hb').trans (setCell_other hb'), by rw [h4]; simp, h5, h6, h7⟩
    · simp only [storeCells, Sem.run_bind, hst, Result.andThen_ok]; exact h1
    · rw [h2]
      congr 3
      have e1 : (cs.set (k + i) v).take (k + (i + 1)) = cs.take (k + i) ++ [v] := by
        rw [← Nat.add_assoc, List.take_add_one, List.take_set_of_le (by omega)]
        simp [show k + i < cs.length by omega]
      have e2 : (cs.set (k + i) v).drop (k + (i + 1) + vs.length) = cs.drop (k + i + (vs.length + 1)) := by
        rw [List.drop_set_of_lt (by omega)]
        congr 1; omega
      rw [e1, e2]
      simp
end runs

section ops
variable {P : Program} {G : FP} {N : List Ent} {d : Nat} {ty : TypeId} {pos : String} {af : Array Edge} {gd : Option (Nat × Bool)}

theorem pub_none {Φ : Pub} {w : World} (h : PubOk Φ w) (o : Nat) : Φ w.heap.size o = none := by
  cases e : Φ w.heap.size o with
  | none => rfl
  | some v => exact absurd (h.lt _ _ _ e) (Nat.lt_irrefl _)
theorem pub_alloc {Φ : Pub} {w : World} (h : PubOk Φ w) (o : Obj) : PubOk Φ (w.alloc o) :=
  ⟨fun b o' v e => by have := h.lt b o' v e; simp; omega, fun b o' v e => by rw [World.cell?_alloc_lt _ _ _ (h.lt b o' v e)]; exact h.cell b o' v e⟩
theorem step_alloc (w : World) (Φ : Pub) (o : Obj) : Step w Φ [] (w.alloc o) Φ :=
  ⟨rfl, rfl, rfl, by simp, fun b hb _ => heap_alloc_old w o b hb, Pub.le_refl _, fun _ _ _ => rfl⟩

/-- A new block of one's own. -/
theorem OpOk.new {op : Op} {T : TypeId} {L : List Ck}
    (h : ∀ (Φ : Pub) (a : Act) (w : World) (f : List (List Nat)), PubOk Φ w → G.p Φ → HoldL Φ a.tmps w N f → ∃ cs : List Value, (execOp a.eval ⟨some d, op, ty, pos, af, gd⟩).run P w = .ok (.value (.pointer (some ⟨w.heap.size, 0, none⟩))) (w.alloc (.cells cs.toArray T)) ∧ Lrel Φ cs L) :
    OpOk P G ⟨some d, op, ty, pos, af, gd⟩ N [] (fun v => [.slot d (lpVP v 0), .res (lb v T L)]) := by
  intro Φ a w fN fC h1 h2 h3 h4 h5 h6 h7 K Q hK
  obtain ⟨cs, hr, hL⟩ := h Φ a w fN h1 h2 h3
  match fC, h4 with
  | [], _ =>
    unfold Oper.wp
    rw [hr, Oper.upon_value]
    refine hK _ _ Φ [[], [w.heap.size]] (step_alloc w Φ _) (pub_alloc h1 _) ⟨⟨rfl, _, put_get a _ d (h7 d rfl), w.heap.size, rfl, rfl⟩, ⟨w.heap.size, cs, rfl, rfl, heap_alloc_new _ _, hL, pub_none h1⟩, trivial⟩ (by simp) (by simp)

theorem op_alloc {T : TypeId} {z : Value} {L : List Ck} (hz : ∀ w, (zeroValue T).run P w = .ok z w) (hL : ∀ Φ, Lrel Φ z.cells.toList L) :
    OpOk P G ⟨some d, .alloc T, ty, pos, af, gd⟩ N [] (fun v => [.slot d (lpVP v 0), .res (lb v T L)]) :=
  OpOk.new fun Φ a w f _ _ _ => ⟨z.cells.toList, by simp [execOp, Instr.alloc, hz, newVar, newRow], hL Φ⟩
theorem op_box {T : TypeId} {x : Operand} {V : VP} {L : List Ck} (hx : OpndOk G N x V) (hc : Cells V L) :
    OpOk P G ⟨some d, .box T x, ty, pos, af, gd⟩ N [] (fun v => [.slot d (lpVP v 0), .res (lb v T L)]) :=
  OpOk.new fun Φ a w f _ hG hN => ⟨(a.eval x).cells.toList, by simp [execOp, Instr.box, newVar, newRow], hc Φ _ (hx Φ a w f hG hN)⟩

/-- What a resource among the entries tells. -/
theorem HoldL.res {Φ : Pub} {tmps : Array Value} {w : World} {es : List Ent} {fs : List (List Nat)} {R : RP} (j : Nat) (h : HoldL Φ tmps w es fs) (he : nthD .none es j = .res R) : ∃ f, R.p Φ f w := by
  have hj := nthD_lt he (by simp)
  obtain ⟨f, hf, _⟩ := h.nth j hj
  rw [he] at hf
  exact ⟨f, hf⟩

theorem take_mid {pre mid post : List Ck} {Φ : Pub} {cs : List Value} (h : Lrel Φ cs (pre ++ mid ++ post)) : ∃ xs ys zs, cs = xs ++ ys ++ zs ∧ Lrel Φ xs pre ∧ Lrel Φ ys mid ∧ Lrel Φ zs post := by
  obtain ⟨u, zs, rfl, h1, h2⟩ := h.split
  obtain ⟨xs, ys, rfl, h3, h4⟩ := h1.split
  exact ⟨xs, ys, zs, rfl, h3, h4, h2⟩

/-- A part of a block of one's own, as a struct or an array. -/
theorem op_load_lb {T T0 : TypeId} {x : Operand} {p : Value} {k n : Nat} (pre mid post : List Ck) (j : Nat) (ha : ∀ w, (isAgg T).run P w = .ok true w) (hs : ∀ w, (sizeOf T).run P w = .ok n w)
    (hx : OpndOk G N x (lpVP p k)) (he : nthD .none N j = .res (lb p T0 (pre ++ mid ++ post))) (hk : lens pre = k) (hn : lens mid = n) :
    OpOk P G ⟨some d, .load T x, ty, pos, af, gd⟩ N [] (fun _ => [.slot d (aggVP mid)]) :=
  OpOk.val fun Φ a w f _ hG hN => by
    obtain ⟨b, hp, hv⟩ := hx Φ a w f hG hN
    obtain ⟨g, b', cs, hp', _, hb, hL, _⟩ := hN.res j he
    have : b' = b := by rw [hp] at hp'; simpa using hp'.symm
    subst this
    obtain ⟨xs, ys, zs, rfl, h1, h2, h3⟩ := take_mid hL
    refine ⟨.agg ys.toArray, ?_, ys, rfl, h2⟩
    simp only [execOp, hv]
    rw [Sem.run_bind, run_loadAt_agg (cs := ys) ha hs (by rw [h2.len, hn]) (fun i v hi => by
      rw [cell_of hb, ← hk, ← h1.len, List.append_assoc, List.getElem?_append_right (by omega)]
      have : i < ys.length := by rcases Nat.lt_or_ge i ys.length with q | q
                                 · exact q
                                 · simp [List.getElem?_eq_none q] at hi
      rw [show xs.length + i - xs.length = i by omega, List.getElem?_append_left this]; exact hi)]
    rfl
/-- A single cell of a block of one's own. -/
theorem op_load_lb1 {T T0 : TypeId} {x : Operand} {p : Value} {k : Nat} {V : VP} (pre post : List Ck) (j : Nat) (ha : ∀ w, (isAgg T).run P w = .ok false w)
    (hx : OpndOk G N x (lpVP p k)) (he : nthD .none N j = .res (lb p T0 (pre ++ [one V] ++ post))) (hk : lens pre = k) :
    OpOk P G ⟨some d, .load T x, ty, pos, af, gd⟩ N [] (fun _ => [.slot d V]) :=
  OpOk.val fun Φ a w f _ hG hN => by
    obtain ⟨b, hp, hv⟩ := hx Φ a w f hG hN
    obtain ⟨g, b', cs, hp', _, hb, hL, _⟩ := hN.res j he
    have : b' = b := by rw [hp] at hp'; simpa using hp'.symm
    subst this
    obtain ⟨xs, ys, zs, rfl, h1, h2, h3⟩ := take_mid hL
    obtain ⟨y1, y2, rfl, ⟨v, rfl, _, hV⟩, h4⟩ := h2
    refine ⟨v, ?_, hV⟩
    simp only [execOp, hv]
    rw [Sem.run_bind, run_loadAt_one ha (v := v) (by rw [cell_of hb, ← hk, ← h1.len]; simp)]
    rfl
theorem op_load_pp {T : TypeId} {x : Operand} {n : Nat} (mid post : List Ck) (ha : ∀ w, (isAgg T).run P w = .ok true w) (hs : ∀ w, (sizeOf T).run P w = .ok n w)
    (hx : OpndOk G N x (ppVP (mid ++ post))) (hn : lens mid = n) : OpOk P G ⟨some d, .load T x, ty, pos, af, gd⟩ N [] (fun _ => [.slot d (aggVP mid)]) :=
  OpOk.val fun Φ a w f hP hG hN => by
    obtain ⟨b, o, cs, hv, hL, hp⟩ := hx Φ a w f hG hN
    obtain ⟨ys, zs, rfl, h1, h2⟩ := hL.split
    refine ⟨.agg ys.toArray, ?_, ys, rfl, h1⟩
    simp only [execOp, hv]
    rw [Sem.run_bind, run_loadAt_agg (cs := ys) ha hs (by rw [h1.len, hn]) (fun i v hi => hP.cell _ _ _ (hp.left i v hi))]
    rfl
theorem op_load_pp1 {T : TypeId} {x : Operand} {V : VP} (post : List Ck) (ha : ∀ w, (isAgg T).run P w = .ok false w)
    (hx : OpndOk G N x (ppVP (one V :: post))) : OpOk P G ⟨some d, .load T x, ty, pos, af, gd⟩ N [] (fun _ => [.slot d V]) :=
  OpOk.val fun Φ a w f hP hG hN => by
    obtain ⟨b, o, cs, hv, ⟨ys, zs, rfl, ⟨v, rfl, _, hV⟩, h2⟩, hp⟩ := hx Φ a w f hG hN
    refine ⟨v, ?_, hV⟩
    simp only [execOp, hv]
    rw [Sem.run_bind, run_loadAt_one ha (v := v) (hP.cell _ _ _ (by simpa using hp 0 v (by simp)))]
    rfl

/-- A store into a block of one's own. -/
theorem op_store_lb {T T0 : TypeId} {x y : Operand} {p : Value} {k n : Nat} {V : VP} (pre mid post M : List Ck) (hs : ∀ w, (sizeOf T).run P w = .ok n w)
    (hx : OpndOk G N x (lpVP p k)) (hy : OpndOk G N y V) (hc : Cells V M) (hk : lens pre = k) (hm : lens mid = n) (hM : lens M = n) :
    OpOk P G ⟨none, .store T x y, ty, pos, af, gd⟩ N [.res (lb p T0 (pre ++ mid ++ post))] (fun _ => [.res (lb p T0 (pre ++ M ++ post))]) := by
  intro Φ a w fN fC h1 h2 h3 h4 h5 h6 h7 K Q hK
  match fC, h4 with
  | [f], ⟨⟨b, cs, hp, hf, hb, hL, hn⟩, _⟩ =>
    subst hf
    obtain ⟨b', hp', hv⟩ := hx Φ a w fN h2 h3
    have : b' = b := by rw [hp] at hp'; simpa using hp'.symm
    subst this
    obtain ⟨xs, ys, zs, rfl, q1, q2, q3⟩ := take_mid hL
    have hVL := hc Φ _ (hy Φ a w fN h2 h3)
    have hlen := hVL.len
    obtain ⟨w', r1, r2, r3, r4, r5, r6, r7⟩ := run_storeCells (P := P) (b := b') (k := k) (a.eval y).cells.toList 0 w (xs ++ ys ++ zs) hb (by
      simp only [List.length_append, q1.len, q2.len, q3.len] at *; omega) (fun v hv => hVL.cell v hv)
    have hblk : w'.heap[b']? = some (.cells (xs ++ (a.eval y).cells.toList ++ zs).toArray T0 (0, 0)) := by
      rw [r2]
      congr 3
      have e1 : (xs ++ ys ++ zs).take (k + 0) = xs := by rw [Nat.add_zero, ← hk, ← q1.len, List.append_assoc, List.take_left]
      have e2 : (xs ++ ys ++ zs).drop (k + 0 + (a.eval y).cells.toList.length) = zs := by
        have : k + 0 + (a.eval y).cells.toList.length = (xs ++ ys).length := by simp only [List.length_append, q1.len, q2.len]; omega
        rw [this, List.drop_left]
      rw [e1, e2]
    have hrun : (execOp a.eval ⟨none, .store T x y, ty, pos, af, gd⟩).run P w = .ok .skip w' := by
      have hsz : ¬ (a.eval y).cells.size ≠ n := by have : (a.eval y).cells.size = (a.eval y).cells.toList.length := by simp
                                                   rw [this, hlen, hM]; simp
      simp only [execOp, hv, Instr.storeAt, Instr.sureAddr, storeVar, Sem.run_bind, Sem.run_pure, Result.andThen_ok, hs]
      simp only [if_neg hsz]
      simp [r1]
    unfold Oper.wp
    rw [hrun, Oper.upon_skip]
    refine hK undef w' Φ [[b']] ⟨r5, r6, r7, Nat.le_of_eq r4.symm, fun c hc' hne => r3 c (fun e => hne (by simp [e])), Pub.le_refl _, fun _ _ _ => rfl⟩
      ⟨fun c o v e => by rw [r4]; exact h1.lt c o v e, fun c o v e => ?_⟩ ⟨⟨b', xs ++ (a.eval y).cells.toList ++ zs, hp, rfl, hblk, (q1.append hVL).append q3, hn⟩, trivial⟩ (by simp) (fun c hc' => ?_)
    · have hne : c ≠ b' := fun e' => by rw [e', hn o] at e; cases e
      exact (World.cell?_of_block (w := w) (r3 c hne)).trans (h1.cell c o v e)
    · simp at hc'
      subst hc'
      have := h6 c (by simp)
      exact ⟨by rw [r4]; exact this, .inl (by simp)⟩

theorem run_fieldAt {s : TypeId} {fields : Array Field} {i : Nat} {fd : Field} {n b k : Nat} {w : World} (hu : P.underlying s = some (.struct fields)) (hi : fields[i]? = some fd) (hs : ∀ w, (sizeOf fd.type).run P w = .ok n w) (hn : n ≠ 0) :
    (Instr.fieldAt s (.pointer (some ⟨b, k, none⟩)) i).run P w = .ok (.pointer (some ⟨b, k + fd.offset, none⟩)) w := by
  simp [Instr.fieldAt, run_underlying hu, hi, Instr.sureAddr, fieldPlace, hs, hn, Addr.add_lit]
theorem op_fieldAddr_lb {s : TypeId} {x : Operand} {p : Value} {fields : Array Field} {i k n : Nat} {fd : Field} (hu : P.underlying s = some (.struct fields)) (hi : fields[i]? = some fd) (hs : ∀ w, (sizeOf fd.type).run P w = .ok n w) (hn : n ≠ 0)
    (hx : OpndOk G N x (lpVP p k)) : OpOk P G ⟨some d, .fieldAddr s x i, ty, pos, af, gd⟩ N [] (fun _ => [.slot d (lpVP p (k + fd.offset))]) :=
  OpOk.val fun Φ a w f _ hG hN => by
    obtain ⟨b, hp, hv⟩ := hx Φ a w f hG hN
    refine ⟨_, ?_, b, hp, rfl⟩
    simp only [execOp, hv]
    rw [Sem.run_bind, run_fieldAt hu hi hs hn]
    rfl
theorem op_fieldAddr_pp {s : TypeId} {x : Operand} {fields : Array Field} {i n : Nat} {fd : Field} (pre post : List Ck) (hu : P.underlying s = some (.struct fields)) (hi : fields[i]? = some fd) (hs : ∀ w, (sizeOf fd.type).run P w = .ok n w) (hn : n ≠ 0)
    (hx : OpndOk G N x (ppVP (pre ++ post))) (hk : lens pre = fd.offset) : OpOk P G ⟨some d, .fieldAddr s x i, ty, pos, af, gd⟩ N [] (fun _ => [.slot d (ppVP post)]) :=
  OpOk.val fun Φ a w f _ hG hN => by
    obtain ⟨b, o, cs, hv, hL, hp⟩ := hx Φ a w f hG hN
    obtain ⟨xs, ys, rfl, h1, h2⟩ := hL.split
    refine ⟨_, ?_, b, o + fd.offset, ys, rfl, h2, by rw [← hk, ← h1.len]; exact hp.right⟩
    simp only [execOp, hv]
    rw [Sem.run_bind, run_fieldAt hu hi hs hn]
    rfl
def PtrV (V : VP) : Prop := ∀ Φ v, V.p Φ v → ∃ a, v = .pointer (some a)
theorem ptr_lp (p : Value) (k : Nat) : PtrV (lpVP p k) := by rintro Φ v ⟨b, _, rfl⟩; exact ⟨_, rfl⟩
theorem ptr_pp (L : List Ck) : PtrV (ppVP L) := by rintro Φ v ⟨b, o, cs, rfl, _⟩; exact ⟨_, rfl⟩
theorem op_nilCheck {x : Operand} {V : VP} (hx : OpndOk G N x V) (hp : PtrV V) : OpOk P G ⟨some d, .nilCheck x, ty, pos, af, gd⟩ N [] (fun _ => [.slot d V]) :=
  OpOk.val fun Φ a w f _ hG hN => by
    obtain ⟨q, hq⟩ := hp Φ _ (hx Φ a w f hG hN)
    exact ⟨a.eval x, by simp [execOp, hq], hx Φ a w f hG hN⟩

theorem Arel.at {α : Type} {Φ : Pub} {c : α → List Ck} {sz : Nat} (hsz : ∀ x, lens (c x) = sz) {xs : List α} {cs : List Value} (h : Arel Φ c cs xs) (i : Nat) (hi : i < xs.length) :
    ∃ us vs ws, cs = us ++ vs ++ ws ∧ us.length = i * sz ∧ Lrel Φ vs (c xs[i]) ∧ Arel Φ c us (xs.take i) ∧ Arel Φ c ws (xs.drop (i + 1)) := by
  have e : xs = xs.take i ++ (xs[i] :: xs.drop (i + 1)) := by simp
  rw [e] at h
  obtain ⟨us, rs, rfl, h1, h2⟩ := h.split
  obtain ⟨vs, ws, rfl, h3, h4⟩ := h2
  exact ⟨us, vs, ws, by simp, by rw [h1.len hsz, List.length_take, Nat.min_eq_left (by omega)], h3, h1, h4⟩

/-- An element's address in a published slice. -/
theorem op_indexAddr_sl {α : Type} [Inhabited α] {t e : TypeId} {x y : Operand} {c : α → List Ck} {xs : List α} {k : IntKind} {i : Int} {sz : Nat} (hu : P.underlying t = some (.slice e)) (hs : ∀ w, (sizeOf e).run P w = .ok sz w) (hsz : ∀ x, lens (c x) = sz)
    (hx : OpndOk G N x (slVP c xs)) (hy : OpndOk G N y (intVP k i)) (hi : 0 ≤ i ∧ i < xs.length) : OpOk P G ⟨some d, .indexAddr t x y, ty, pos, af, gd⟩ N [] (fun _ => [.slot d (ppVP (c (xs.getD i.toNat default)))]) :=
  OpOk.val fun Φ a w f _ hG hN => by
    obtain ⟨hy1, _⟩ := hy Φ a w f hG hN
    rcases (hx Φ a w f hG hN).2 with ⟨_, rfl⟩ | ⟨b, o, cap, cs, hv, _, hA, hp⟩ | ⟨rfl, _⟩
    · simp at hi; omega
    rotate_left
    · simp at hi; omega
    · have hit : i.toNat < xs.length := by omega
      obtain ⟨us, vs, ws, rfl, h1, h2, _⟩ := hA.at hsz i.toNat hit
      refine ⟨.pointer (some ⟨b, o + i.toNat * sz, none⟩), ?_, b, o + i.toNat * sz, vs, rfl, ?_, ?_⟩
      · simp only [execOp, hv, hy1]
        simp [Instr.indexAt, run_underlying hu, asIntOf, hi, hs, Addr.add_lit]
      · simpa [List.getD, hit] using h2
      · rw [← h1]; exact (hp.left).right
/-- An element's address in an array of one's own. -/
theorem op_indexAddr_lb {t e : TypeId} {x y : Operand} {p : Value} {k : Nat} {kk : IntKind} {i : Int} {n sz : Nat} (hu : P.underlying t = some (.array n e)) (hs : ∀ w, (sizeOf e).run P w = .ok sz w)
    (hx : OpndOk G N x (lpVP p k)) (hy : OpndOk G N y (intVP kk i)) (hi : 0 ≤ i ∧ i < n) : OpOk P G ⟨some d, .indexAddr t x y, ty, pos, af, gd⟩ N [] (fun _ => [.slot d (lpVP p (k + i.toNat * sz))]) :=
  OpOk.val fun Φ a w f _ hG hN => by
    obtain ⟨hy1, _⟩ := hy Φ a w f hG hN
    obtain ⟨b, hp, hv⟩ := hx Φ a w f hG hN
    refine ⟨_, ?_, b, hp, rfl⟩
    simp only [execOp, hv, hy1]
    simp [Instr.indexAt, run_underlying hu, asIntOf, Instr.sureAddr, hi, hs, Addr.add_lit]
/-- A byte of an array of one's own. -/
theorem op_load_lbB {T T0 : TypeId} {x : Operand} {p : Value} {k n : Nat} {l : List UInt8} {i : Int} (pre post : List Ck) (j : Nat) (ha : ∀ w, (isAgg T).run P w = .ok false w)
    (hx : OpndOk G N x (lpVP p k)) (he : nthD .none N j = .res (lb p T0 (pre ++ [bytesCk n l] ++ post))) (hk : k = lens pre + i.toNat * 1) (hi : 0 ≤ i ∧ i < n) :
    OpOk P G ⟨some d, .load T x, ty, pos, af, gd⟩ N [] (fun _ => [.slot d (intVP .u8 (l.getD i.toNat 0).toNat)]) :=
  OpOk.val fun Φ a w f _ hG hN => by
    obtain ⟨b, hp, hv⟩ := hx Φ a w f hG hN
    obtain ⟨g, b', cs, hp', _, hb, hL, _⟩ := hN.res j he
    have : b' = b := by rw [hp] at hp'; simpa using hp'.symm
    subst this
    obtain ⟨xs, ys, zs, rfl, h1, h2, h3⟩ := take_mid hL
    obtain ⟨y1, y2, rfl, ⟨hl, rfl⟩, h4⟩ := h2
    have h4 : y2 = [] := h4
    subst h4
    have hit : i.toNat < l.length := by omega
    refine ⟨byteC (l.getD i.toNat 0), ?_, rfl, byte_in _⟩
    simp only [execOp, hv]
    rw [Sem.run_bind, run_loadAt_one ha (v := byteC (l.getD i.toNat 0)) (by
      rw [cell_of hb, hk, ← h1.len, Nat.mul_one, List.append_assoc, List.getElem?_append_right (by omega), show xs.length + i.toNat - xs.length = i.toNat by omega, List.append_nil, List.getElem?_append_left (by simpa using hit)]
      simp [hit, List.getD])]
    rfl

end ops
end Go.Proofs.YtklikgigjdgjaaaGreatDoorRRR
