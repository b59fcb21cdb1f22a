/- Elements of arrays; comparisons of byte arrays and pointers; returns; appends to a slice of one's own. -/
import Derived.Test.YtklikgigjdgjaaaGreatDoorRRRA7
import Derived.ChangeKeysEq
import Derived.Laws.Pointers
namespace Go.Proofs.YtklikgigjdgjaaaGreatDoorRRR
open Go Go.RowKit

section eqs
variable {P : Program}
theorem eqItems_bytes {e : TypeId} {sz : Nat} (he : P.underlying e = some (.int .u8)) (ha : ∀ w, (isAgg e).run P w = .ok false w) (dd : Nat) (w : World) (cs ds : List UInt8) (hl : cs.length = ds.length) (hsz : sz = 1) :
    ∀ (n k : Nat), k + n = cs.length → (Op.eqItems (dd + 1) e sz (cs.map byteC).toArray (ds.map byteC).toArray (List.range' k n)).run P w = .ok (decide (cs.drop k = ds.drop k)) w
  | 0, k, hk => by
    have h1 : cs.drop k = [] := List.drop_eq_nil_of_le (by omega)
    have h2 : ds.drop k = [] := List.drop_eq_nil_of_le (by omega)
    simp [Op.eqItems, h1, h2]
  | n + 1, k, hk => by
    have ih := eqItems_bytes he ha dd w cs ds hl hsz n (k + 1) (by omega)
    have hc : cs.drop k = cs[k] :: cs.drop (k + 1) := by simp
    have hd : ds.drop k = ds[k] :: ds.drop (k + 1) := by simp
    have pc : ∀ (l : List UInt8) (h : k < l.length), (part e (l.map byteC).toArray (k * sz)).run P w = .ok (byteC l[k]) w := by
      intro l h
      subst hsz
      simp [part, ha, h]
    simp only [List.range'_succ, Op.eqItems, Sem.run_bind, pc cs (by omega), pc ds (by omega), Result.andThen_ok, byteC, run_equalIn_int w dd e _ _ _ _ he]
    rw [hc, hd]
    by_cases hh : cs[k] = ds[k]
    · simp only [hh, beq_self_eq_true, Bool.not_true, Bool.false_eq_true, if_false, ih, List.cons.injEq, true_and]
    · have : ((cs[k].toNat : Int) == (ds[k].toNat : Int)) = false := by
        simp only [beq_eq_false_iff_ne, ne_eq]
        intro e1
        exact hh (UInt8.toNat_inj.1 (by omega))
      simp only [this, Bool.not_false, if_true, Sem.run_pure, List.cons.injEq, hh, false_and, decide_false]
theorem run_eq_bytes {t e : TypeId} {n : Nat} {i : TypeInfo} {l m : List UInt8} (hu : P.underlying t = some (.array n e)) (he : P.underlying e = some (.int .u8)) (hi : P.info? e = some i) (hs : ∀ w, (sizeOf e).run P w = .ok 1 w)
    (ha : ∀ w, (isAgg e).run P w = .ok false w) (hl : l.length = n) (hm : m.length = n) (dd : Nat) (w : World) :
    (Op.equalIn (dd + 2) t (.agg (l.map byteC).toArray) (.agg (m.map byteC).toArray)).run P w = .ok (decide (l = m)) w := by
  have hsz : P.cellsOf e = 1 := by
    have h1 := hs w
    rw [run_sizeOf w hi] at h1
    simpa using h1
  rw [run_equalIn_array w (dd + 1) _ _ hu hi, List.range_eq_range']
  have := eqItems_bytes (P := P) he ha dd w l m (by omega) hsz n 0 (by omega)
  simpa using this
theorem bin_aeql {t e : TypeId} {n : Nat} {i : TypeInfo} {l m : List UInt8} (hu : P.underlying t = some (.array n e)) (he : P.underlying e = some (.int .u8)) (hi : P.info? e = some i) (hs : ∀ w, (sizeOf e).run P w = .ok 1 w)
    (ha : ∀ w, (isAgg e).run P w = .ok false w) (hg : P.eqGuardType P.depth t = false) : Bin P .eql t (aggVP [bytesCk n l]) (aggVP [bytesCk n m]) (boolVP (decide (l = m))) := by
  rintro Φ u v w x y ⟨cs, rfl, a1, b1, rfl, ⟨hl, rfl⟩, hb1⟩ ⟨ds, rfl, a2, b2, rfl, ⟨hm, rfl⟩, hb2⟩
  have hb1 : b1 = [] := hb1
  have hb2 : b2 = [] := hb2
  subst hb1; subst hb2
  refine ⟨.bool (decide (l = m)), ?_, rfl⟩
  simp only [List.append_nil, Sem.run_bind, run_eqGuard_agg w .eql t x y _ _ hg, Result.andThen_ok, run_eql_struct w, run_eq_bytes hu he hi hs ha hl hm 9998 w]
theorem bin_aneq {t e : TypeId} {n : Nat} {i : TypeInfo} {l m : List UInt8} (hu : P.underlying t = some (.array n e)) (he : P.underlying e = some (.int .u8)) (hi : P.info? e = some i) (hs : ∀ w, (sizeOf e).run P w = .ok 1 w)
    (ha : ∀ w, (isAgg e).run P w = .ok false w) (hg : P.eqGuardType P.depth t = false) : Bin P .neq t (aggVP [bytesCk n l]) (aggVP [bytesCk n m]) (boolVP (!decide (l = m))) := by
  rintro Φ u v w x y ⟨cs, rfl, a1, b1, rfl, ⟨hl, rfl⟩, hb1⟩ ⟨ds, rfl, a2, b2, rfl, ⟨hm, rfl⟩, hb2⟩
  have hb1 : b1 = [] := hb1
  have hb2 : b2 = [] := hb2
  subst hb1; subst hb2
  refine ⟨.bool (!decide (l = m)), ?_, rfl⟩
  simp only [List.append_nil, Sem.run_bind, run_eqGuard_agg w .neq t x y _ _ hg, Result.andThen_ok, run_neq_struct w, run_eq_bytes hu he hi hs ha hl hm 9998 w]
end eqs

section ops
variable {P : Program} {G : FP} {N : List Ent} {d : Nat} {ty : TypeId} {pos : String} {af : Array Edge} {gd : Option (Nat × Bool)}

theorem mid_get {pre post : List Ck} {ck : Ck} {Φ : Pub} {cs : List Value} (h : Lrel Φ cs (pre ++ [ck] ++ post)) : ∃ xs ys zs, cs = xs ++ ys ++ zs ∧ xs.length = lens pre ∧ ck.rel Φ ys ∧ Lrel Φ xs pre ∧ Lrel Φ zs post := by
  obtain ⟨xs, ys, zs, rfl, h1, h2, h3⟩ := take_mid h
  obtain ⟨y1, y2, rfl, hr, h4⟩ := h2
  have h4 : y2 = [] := h4
  subst h4
  exact ⟨xs, y1, zs, by simp, h1.len, hr, h1, h3⟩
theorem get_mid {xs ys zs : List Value} {i : Nat} (h : i < ys.length) : (xs ++ ys ++ zs)[xs.length + i]? = ys[i]? := by
  rw [List.append_assoc, List.getElem?_append_right (by omega), show xs.length + i - xs.length = i by omega, List.getElem?_append_left h]

/-- A number of an array of one's own. -/
theorem op_load_lbI {T T0 : TypeId} {x : Operand} {p : Value} {k n : Nat} {kk : IntKind} {l : List Int} {i : Int} (pre post : List Ck) (j : Nat) (ha : ∀ w, (isAgg T).run P w = .ok false w)
    (hx : OpndOk G N x (lpVP p k)) (he : nthD .none N j = .res (lb p T0 (pre ++ [intsCk kk n l] ++ post))) (hk : k = lens pre + i.toNat * 1) (hi : 0 ≤ i ∧ i < n) :
    OpOk P G ⟨some d, .load T x, ty, pos, af, gd⟩ N [] (fun _ => [.slot d (intVP kk (l.getD i.toNat 0))]) :=
  OpOk.val fun Φ a w f _ hG hN => by
    obtain ⟨b, hp, hv⟩ := hx Φ a w f hG hN
    obtain ⟨g, b', cs, hp', _, hb, hL, _⟩ := hN.res j he
    have : b' = b := by rw [hp] at hp'; simpa using hp'.symm
    subst this
    obtain ⟨xs, ys, zs, rfl, h1, ⟨hl, rfl, hin⟩, _, _⟩ := mid_get hL
    have hit : i.toNat < l.length := by omega
    refine ⟨.int kk (l.getD i.toNat 0), ?_, rfl, hin _ (by simp [List.getD, hit])⟩
    simp only [execOp, hv]
    rw [Sem.run_bind, run_loadAt_one ha (v := .int kk (l.getD i.toNat 0)) (by
      rw [cell_of hb, hk, ← h1, Nat.mul_one, get_mid (by simpa using hit)]
      simp [hit, List.getD])]
    rfl
/-- A number of a published array. -/
theorem op_load_ppI {T : TypeId} {x : Operand} {kk : IntKind} {l : List Int} {i : Int} {n : Nat} (ha : ∀ w, (isAgg T).run P w = .ok false w) (hx : OpndOk G N x (ppVP [one (intVP kk (l.getD i.toNat 0))])) (_hi : 0 ≤ i ∧ i < n) :
    OpOk P G ⟨some d, .load T x, ty, pos, af, gd⟩ N [] (fun _ => [.slot d (intVP kk (l.getD i.toNat 0))]) := op_load_pp1 [] ha hx
/-- An element's address in a published array of numbers. -/
theorem op_indexAddr_ppI {t e : TypeId} {x y : Operand} {kk ki : IntKind} {l : List Int} {n : Nat} {i : Int} {post : List Ck} (hu : P.underlying t = some (.array n e)) (hs : ∀ w, (sizeOf e).run P w = .ok 1 w)
    (hx : OpndOk G N x (ppVP (intsCk kk n l :: post))) (hy : OpndOk G N y (intVP ki i)) (hi : 0 ≤ i ∧ i < n) : OpOk P G ⟨some d, .indexAddr t x y, ty, pos, af, gd⟩ N [] (fun _ => [.slot d (ppVP [one (intVP kk (l.getD i.toNat 0))])]) :=
  OpOk.val fun Φ a w f _ hG hN => by
    obtain ⟨hy1, _⟩ := hy Φ a w f hG hN
    obtain ⟨b, o, cs, hv, ⟨ys, zs, rfl, ⟨hl, rfl, hin⟩, h2⟩, hp⟩ := hx Φ a w f hG hN
    have hit : i.toNat < l.length := by omega
    refine ⟨.pointer (some ⟨b, o + i.toNat * 1, none⟩), ?_, b, o + i.toNat * 1, [.int kk (l.getD i.toNat 0)], rfl, ⟨[_], [], rfl, ⟨_, rfl, rfl, rfl, hin _ (by simp [List.getD, hit])⟩, rfl⟩, fun j v hj => ?_⟩
    · simp only [execOp, hv, hy1]
      simp [Instr.indexAt, run_underlying hu, asIntOf, Instr.sureAddr, hi, hs, Addr.add_lit]
    · cases j with
      | zero =>
        simp at hj
        subst hj
        have := hp (i.toNat) (.int kk (l.getD i.toNat 0)) (by rw [List.getElem?_append_left (by simpa using hit)]; simp [List.getD, hit])
        simpa using this
      | succ j => simp at hj
/-- An element of an array of structs or arrays of one's own. -/
theorem op_load_lbA {α : Type} [Inhabited α] {T T0 : TypeId} {x : Operand} {p : Value} {k n sz : Nat} {c : α → List Ck} {hsz : ∀ x, lens (c x) = sz} {l : List α} {i : Int} (pre post : List Ck) (j : Nat) (ha : ∀ w, (isAgg T).run P w = .ok true w) (hs : ∀ w, (sizeOf T).run P w = .ok sz w)
    (hx : OpndOk G N x (lpVP p k)) (he : nthD .none N j = .res (lb p T0 (pre ++ [arrCk n sz c hsz l] ++ post))) (hk : k = lens pre + i.toNat * sz) (hi : 0 ≤ i ∧ i < n) :
    OpOk P G ⟨some d, .load T x, ty, pos, af, gd⟩ N [] (fun _ => [.slot d (aggVP (c (l.getD i.toNat default)))]) :=
  OpOk.val fun Φ a w f _ hG hN => by
    obtain ⟨b, hp, hv⟩ := hx Φ a w f hG hN
    obtain ⟨g, b', cs, hp', _, hb, hL, _⟩ := hN.res j he
    have : b' = b := by rw [hp] at hp'; simpa using hp'.symm
    subst this
    obtain ⟨xs, ys, zs, rfl, h1, ⟨hl, hA⟩, _, _⟩ := mid_get hL
    have hit : i.toNat < l.length := by omega
    obtain ⟨us, vs, ws, rfl, q1, q2, _⟩ := hA.at hsz i.toNat hit
    have e1 : l.getD i.toNat default = l[i.toNat] := by simp [List.getD, hit]
    refine ⟨.agg vs.toArray, ?_, vs, rfl, by rw [e1]; exact q2⟩
    simp only [execOp, hv]
    rw [Sem.run_bind, run_loadAt_agg (cs := vs) ha hs (by rw [q2.len, hsz]) (fun r v hr => by
      have hr' : r < vs.length := by
        rcases Nat.lt_or_ge r vs.length with q | q
        · exact q
        · rw [List.getElem?_eq_none q] at hr; cases hr
      rw [cell_of hb, hk, ← h1, ← q1, Nat.add_assoc, get_mid (by simp; omega), List.append_assoc, List.getElem?_append_right (by omega), show us.length + r - us.length = r by omega, List.getElem?_append_left hr']
      exact hr)]
    rfl

theorem set_mid {α : Type _} (l : List α) (i : Nat) (v : α) (h : i < l.length) : l.set i v = l.take i ++ v :: l.drop (i + 1) := by
  rw [List.set_eq_take_append_cons_drop, if_pos h]

/-- A store of one element into an array of one's own: what the array holds then. -/
theorem store_elem {T T0 : TypeId} {x y : Operand} {p : Value} {k n : Nat} {V : VP} (pre post : List Ck) (ck ck' : Ck) (off : Nat) (hs : ∀ w, (sizeOf T).run P w = .ok n w)
    (hx : OpndOk G N x (lpVP p k)) (hy : OpndOk G N y V) (hk : k = lens pre + off)
    (hv : ∀ Φ cs v, ck.rel Φ cs → V.p Φ v → v.cells.size = n ∧ (∀ u ∈ v.cells.toList, u.oneCell' = true) ∧ off + n ≤ cs.length ∧ ck'.rel Φ (cs.take off ++ v.cells.toList ++ cs.drop (off + n))) :
    OpOk P G ⟨none, .store T x y, ty, pos, af, gd⟩ N [.res (lb p T0 (pre ++ [ck] ++ post))] (fun _ => [.res (lb p T0 (pre ++ [ck'] ++ post))]) := by
  intro Φ a w fN fC h1 h2 h3 h4 h5 h6 h7 K Q hK
  match fC, h4 with
  | [f], ⟨⟨b, cs, hp, hf, hb, hL, hn⟩, _⟩ =>
    subst hf
    obtain ⟨b', hp', hv'⟩ := hx Φ a w fN h2 h3
    have : b' = b := by rw [hp] at hp'; simpa using hp'.symm
    subst this
    obtain ⟨xs, ys, zs, rfl, q1, q2, q3, q4⟩ := mid_get hL
    obtain ⟨s1, s2, s3, s4⟩ := hv Φ ys _ q2 (hy Φ a w fN h2 h3)
    have hlen : (a.eval y).cells.toList.length = n := by simpa using s1
    obtain ⟨w', r1, r2, r3, r4, r5, r6, r7⟩ := run_storeCells (P := P) (b := b') (k := k) (a.eval y).cells.toList 0 w (xs ++ ys ++ zs) hb (by
      simp only [List.length_append] at *; omega) s2
    have hblk : w'.heap[b']? = some (.cells (xs ++ (ys.take off ++ (a.eval y).cells.toList ++ ys.drop (off + n)) ++ zs).toArray T0 (0, 0)) := by
      rw [r2]
      congr 3
      have e1 : (xs ++ ys ++ zs).take (k + 0) = xs ++ ys.take off := by
        rw [Nat.add_zero, hk, ← q1, List.append_assoc, List.take_length_add_append, List.take_append_of_le_length (by omega)]
      have e2 : (xs ++ ys ++ zs).drop (k + 0 + (a.eval y).cells.toList.length) = ys.drop (off + n) ++ zs := by
        rw [Nat.add_zero, hk, ← q1, hlen, Nat.add_assoc, List.append_assoc, List.drop_length_add_append, List.drop_append_of_le_length (by omega)]
      rw [e1, e2]
      simp
    have hrun : (execOp a.eval ⟨none, .store T x y, ty, pos, af, gd⟩).run P w = .ok .skip w' := by
      have hsz : ¬ (a.eval y).cells.size ≠ n := by simp [s1]
      simp only [execOp, hv', Instr.storeAt, Instr.sureAddr, storeVar, Sem.run_bind, Sem.run_pure, Result.andThen_ok, hs]
      simp only [if_neg hsz]
      simp [r1]
    unfold Oper.wp
    rw [hrun, Oper.upon_skip]
    refine hK undef w' Φ [[b']] ⟨r5, r6, r7, Nat.le_of_eq r4.symm, fun c hc' hne => r3 c (fun e => hne (by simp [e])), Pub.le_refl _, fun _ _ _ => rfl⟩
      ⟨fun c o v e => by rw [r4]; exact h1.lt c o v e, fun c o v e => ?_⟩ ⟨⟨b', _, hp, rfl, hblk, (q3.append (M := [ck']) ⟨_, [], (List.append_nil _).symm, s4, rfl⟩).append q4, hn⟩, trivial⟩ (by simp) (fun c hc' => ?_)
    · have hne : c ≠ b' := fun e' => by rw [e', hn o] at e; cases e
      exact (World.cell?_of_block (w := w) (r3 c hne)).trans (h1.cell c o v e)
    · simp at hc'
      subst hc'
      have := h6 c (by simp)
      exact ⟨by rw [r4]; exact this, .inl (by simp)⟩
theorem op_store_lbI {T T0 : TypeId} {x y : Operand} {p : Value} {k n : Nat} {kk : IntKind} {l : List Int} {i m : Int} (pre post : List Ck) (hs : ∀ w, (sizeOf T).run P w = .ok 1 w)
    (hx : OpndOk G N x (lpVP p k)) (hy : OpndOk G N y (intVP kk m)) (hk : k = lens pre + i.toNat * 1) (hi : 0 ≤ i ∧ i < n) :
    OpOk P G ⟨none, .store T x y, ty, pos, af, gd⟩ N [.res (lb p T0 (pre ++ [intsCk kk n l] ++ post))] (fun _ => [.res (lb p T0 (pre ++ [intsCk kk n (l.set i.toNat m)] ++ post))]) :=
  store_elem pre post _ _ (i.toNat * 1) hs hx hy hk (by
    rintro Φ cs v ⟨hl, rfl, hin⟩ ⟨rfl, hm⟩
    have hit : i.toNat < l.length := by omega
    refine ⟨rfl, by simp [Value.cells, Value.oneCell'], by rw [List.length_map]; omega, by simpa using hl, ?_, fun z hz => ?_⟩
    · rw [set_mid _ _ _ hit]
      simp [Value.cells]
    · rcases List.mem_or_eq_of_mem_set hz with h | h
      · exact hin z h
      · rw [h]; exact hm)
def u8of (m : Int) : UInt8 := UInt8.ofNat m.toNat
theorem byteC_u8of {m : Int} (h : InR .u8 m) : byteC (u8of m) = .int .u8 m := by
  simp only [InR, IntKind.min, IntKind.max, IntKind.bits, IntKind.signed] at h
  simp at h
  unfold byteC u8of
  congr 1
  have h1 : m.toNat < 256 := by omega
  have h2 : (UInt8.ofNat m.toNat).toNat = m.toNat := by simp; omega
  omega
theorem op_store_lbB {T T0 : TypeId} {x y : Operand} {p : Value} {k n : Nat} {l : List UInt8} {i m : Int} (pre post : List Ck) (hs : ∀ w, (sizeOf T).run P w = .ok 1 w)
    (hx : OpndOk G N x (lpVP p k)) (hy : OpndOk G N y (intVP .u8 m)) (hk : k = lens pre + i.toNat * 1) (hi : 0 ≤ i ∧ i < n) :
    OpOk P G ⟨none, .store T x y, ty, pos, af, gd⟩ N [.res (lb p T0 (pre ++ [bytesCk n l] ++ post))] (fun _ => [.res (lb p T0 (pre ++ [bytesCk n (l.set i.toNat (u8of m))] ++ post))]) :=
  store_elem pre post _ _ (i.toNat * 1) hs hx hy hk (by
    rintro Φ cs v ⟨hl, rfl⟩ ⟨rfl, hm⟩
    have hit : i.toNat < l.length := by omega
    refine ⟨rfl, by simp [Value.cells, Value.oneCell'], by rw [List.length_map]; omega, by simpa using hl, ?_⟩
    rw [set_mid _ _ _ hit]
    simp [Value.cells, byteC_u8of hm])
theorem op_store_lbA {α : Type} {T T0 : TypeId} {x y : Operand} {p : Value} {k n sz : Nat} {c : α → List Ck} {hsz : ∀ x, lens (c x) = sz} {l : List α} {i : Int} {z : α} (pre post : List Ck) (hs : ∀ w, (sizeOf T).run P w = .ok sz w)
    (hx : OpndOk G N x (lpVP p k)) (hy : OpndOk G N y (aggVP (c z))) (hk : k = lens pre + i.toNat * sz) (hi : 0 ≤ i ∧ i < n) :
    OpOk P G ⟨none, .store T x y, ty, pos, af, gd⟩ N [.res (lb p T0 (pre ++ [arrCk n sz c hsz l] ++ post))] (fun _ => [.res (lb p T0 (pre ++ [arrCk n sz c hsz (l.set i.toNat z)] ++ post))]) :=
  store_elem pre post _ _ (i.toNat * sz) hs hx hy hk (by
    rintro Φ cs v ⟨hl, hA⟩ ⟨vs, rfl, hv⟩
    have hit : i.toNat < l.length := by omega
    obtain ⟨us, ms, ws, rfl, q1, q2, q3, q4⟩ := hA.at hsz i.toNat hit
    have hvl : vs.length = sz := by rw [hv.len, hsz]
    have hml : ms.length = sz := by rw [q2.len, hsz]
    refine ⟨by simp [Value.cells, hvl], by simpa [Value.cells] using hv.cell, by simp; omega, by simpa using hl, ?_⟩
    have e1 : (us ++ ms ++ ws).take (i.toNat * sz) = us := by rw [← q1, List.append_assoc, List.take_left]
    have e2 : (us ++ ms ++ ws).drop (i.toNat * sz + sz) = ws := by rw [← q1, show us.length + sz = (us ++ ms).length by simp [hml], List.drop_left]
    rw [e1, e2, set_mid _ _ _ hit]
    simp only [Value.cells, List.append_assoc]
    exact Arel.append q3 ⟨vs, ws, rfl, hv, q4⟩)

/-- A number of an array that is a value. -/
theorem op_index_aggI {t e : TypeId} {x y : Operand} {kk ki : IntKind} {l : List Int} {n : Nat} {i : Int} (hu : P.underlying t = some (.array n e)) (hs : ∀ w, (sizeOf e).run P w = .ok 1 w) (ha : ∀ w, (isAgg e).run P w = .ok false w)
    (hx : OpndOk G N x (aggVP [intsCk kk n l])) (hy : OpndOk G N y (intVP ki i)) (hi : 0 ≤ i ∧ i < n) : OpOk P G ⟨some d, .index t x y, ty, pos, af, gd⟩ N [] (fun _ => [.slot d (intVP kk (l.getD i.toNat 0))]) :=
  OpOk.val fun Φ a w f _ hG hN => by
    obtain ⟨hy1, _⟩ := hy Φ a w f hG hN
    obtain ⟨cs, hv, ys, zs, rfl, ⟨hl, rfl, hin⟩, hz⟩ := hx Φ a w f hG hN
    have hz : zs = [] := hz
    subst hz
    have hit : i.toNat < l.length := by omega
    refine ⟨.int kk (l.getD i.toNat 0), ?_, rfl, hin _ (by simp [List.getD, hit])⟩
    simp only [execOp, hv, hy1]
    simp [Instr.index, asIntOf, run_underlying hu, hi, hs, part, ha, hit]
theorem op_index_aggB {t e : TypeId} {x y : Operand} {ki : IntKind} {l : List UInt8} {n : Nat} {i : Int} (hu : P.underlying t = some (.array n e)) (hs : ∀ w, (sizeOf e).run P w = .ok 1 w) (ha : ∀ w, (isAgg e).run P w = .ok false w)
    (hx : OpndOk G N x (aggVP [bytesCk n l])) (hy : OpndOk G N y (intVP ki i)) (hi : 0 ≤ i ∧ i < n) : OpOk P G ⟨some d, .index t x y, ty, pos, af, gd⟩ N [] (fun _ => [.slot d (intVP .u8 (l.getD i.toNat 0).toNat)]) :=
  OpOk.val fun Φ a w f _ hG hN => by
    obtain ⟨hy1, _⟩ := hy Φ a w f hG hN
    obtain ⟨cs, hv, ys, zs, rfl, ⟨hl, rfl⟩, hz⟩ := hx Φ a w f hG hN
    have hz : zs = [] := hz
    subst hz
    have hit : i.toNat < l.length := by omega
    refine ⟨byteC (l.getD i.toNat 0), ?_, rfl, byte_in _⟩
    simp only [execOp, hv, hy1]
    simp [Instr.index, asIntOf, run_underlying hu, hi, hs, part, ha, hit]

/-- A pointer that may be nil. -/
def optp (p : Value) (nn : Bool) : Prop := if nn then ∃ a, p = .pointer (some a) else p = .pointer none
def ptrVP (p : Value) (nn : Bool) : VP := ⟨fun _ v => v = p ∧ optp p nn, fun _ h => h⟩
theorem bin_pnil {t e : TypeId} {p : Value} {nn : Bool} (hu : P.underlying t = some (.pointer e)) : Bin P .eql t (ptrVP p nn) (eqVP (.pointer none)) (boolVP (!nn)) := by
  rintro Φ u v w x y ⟨rfl, hp⟩ hv
  have hv : v = .pointer none := hv
  subst hv
  refine ⟨.bool (!nn), ?_, rfl⟩
  have hu' : P.underlying t = some (.pointer (P.pointee t)) := by rw [hu]; simp [Program.pointee, hu]
  cases nn with
  | true => obtain ⟨q, rfl⟩ := hp; simp [eqGuard_at_pointer, run_eql_pointer_nil w t (some q) hu']
  | false =>
    have hp : u = .pointer none := hp
    subst hp
    simp [eqGuard_at_pointer, run_eql_pointer_nil w t none hu']
theorem bin_pnn {t e : TypeId} {p : Value} {nn : Bool} (hu : P.underlying t = some (.pointer e)) : Bin P .neq t (ptrVP p nn) (eqVP (.pointer none)) (boolVP nn) := by
  rintro Φ u v w x y ⟨rfl, hp⟩ hv
  have hv : v = .pointer none := hv
  subst hv
  refine ⟨.bool nn, ?_, rfl⟩
  have hu' : P.underlying t = some (.pointer (P.pointee t)) := by rw [hu]; simp [Program.pointee, hu]
  cases nn with
  | true => obtain ⟨q, rfl⟩ := hp; simp [eqGuard_at_pointer, run_neq_pointer_nil w t (some q) hu']
  | false =>
    have hp : u = .pointer none := hp
    subst hp
    simp [eqGuard_at_pointer, run_neq_pointer_nil w t none hu']
end ops
end Go.Proofs.YtklikgigjdgjaaaGreatDoorRRR
