/- Pointers to objects; objects handed back; memory published; strings.Builder's words. -/
import Derived.Test.YtklikgigjdgjaaaGreatDoorRRRA18
import Derived.Lib.UnsafeStr
namespace Go.Proofs.YtklikgigjdgjaaaGreatDoorRRR
open Go Go.RowKit

theorem lp_ptr {G : FP} {N : List Ent} {x : Operand} {p : Value} (h : OpndOk G N x (lpVP p 0)) : OpndOk G N x (ptrVP p true) := by
  intro Φ a w f hG hN
  obtain ⟨b, h1, h2⟩ := h Φ a w f hG hN
  exact ⟨h2.trans h1.symm, ⟨b, 0, none⟩, h1⟩
/-- A builder's own address, or nil. -/
def selfVP (p : Value) : VP := ⟨fun _ v => (v = .pointer none ∨ v = p) ∧ ∃ b, p = .pointer (some ⟨b, 0, none⟩), fun _ h => h⟩
theorem one_self (p : Value) : OneV (selfVP p) := by
  rintro Φ v ⟨rfl | rfl, b, h⟩
  · rfl
  · rw [h]; rfl

section ops
variable {P : Program} {G : FP} {N : List Ent} {d : Nat} {ty : TypeId} {pos : String} {af : Array Edge} {gd : Option (Nat × Bool)}
/-- Where a slice's first element lies. -/
def usd : Value → Value
  | .slice a _ _ => .pointer a
  | v => v
theorem op_usd {T t : TypeId} {x : Operand} {v : Value} {l : List UInt8} (j : Nat) (hx : OpndOk G N x (eqVP v)) (hR : nthD .none N j = .res (acc v T 1 bC l)) (hl : l ≠ []) :
    OpOk P G ⟨some d, .call ⟨.builtin .unsafeSliceData, #[x], #[t]⟩, ty, pos, af, gd⟩ N [] (fun _ => [.slot d (eqVP (usd v))]) :=
  OpOk.val fun Φ a w f _ hG hN => by
    have hv : a.eval x = v := hx Φ a w f hG hN
    obtain ⟨g, _, ⟨_, h1, _⟩ | ⟨b, cap, cs, zs, rfl, _, _, _, _, hc, _⟩⟩ := hN.res j hR
    · exact absurd h1 hl
    · refine ⟨.pointer (some ⟨b, 0, none⟩), ?_, rfl⟩
      have hpos : 0 < l.length := List.length_pos_iff.2 hl
      have := Lib.run_unsafeSliceData_row (P := P) (w := w) #[t] ty ⟨b, 0, none⟩ l.length cap (by omega)
      simp only [execOp, resolve, hv, invoke, builtin, List.map_toArray, List.map_cons, List.map_nil, Sem.run_bind, Sem.run_pure, Result.andThen_ok, this]
theorem freeze_other {w : World} {a : Addr} {n c : Nat} (h : c ≠ a.block) : (w.freeze a n).heap[c]? = w.heap[c]? := by
  unfold World.freeze
  split
  · rfl
  · simp [Array.getElem?_modify, Ne.symm h]
theorem freeze_size {w : World} {a : Addr} {n : Nat} : (w.freeze a n).heap.size = w.heap.size := by
  unfold World.freeze
  split <;> simp
theorem freeze_cell {w : World} {a : Addr} {n : Nat} (x : Addr) : (w.freeze a n).cell? x = w.cell? x := by
  by_cases hb : x.block = a.block
  · unfold World.freeze
    split
    · rfl
    · unfold World.cell?
      simp only [hb, Array.getElem?_modify, if_true]
      cases h : w.heap[a.block]? with
      | none => simp
      | some o => cases o <;> simp
  · unfold World.cell?
    rw [freeze_other hb]
theorem op_ustr {T pt it : TypeId} {x y : Operand} {v : Value} {l : List UInt8} (hp : P.underlying pt = some (.pointer T)) (hc : P.cellsOf T = 1) (hx : OpndOk G N x (eqVP (usd v))) (hy : OpndOk G N y (intVP .i64 l.length)) (hl : l ≠ []) :
    OpOk P G ⟨some d, .call ⟨.builtin .unsafeString, #[x, y], #[pt, it]⟩, ty, pos, af, gd⟩ N [.res (acc v T 1 bC l)] (fun _ => [.slot d (strVP l)]) := by
  intro Φ a w fN fC h1 h2 h3 h4 h5 h6 h7 K Q hK
  match fC, h4 with
  | [f], ⟨⟨hm, .inl ⟨_, e1, _⟩⟩, _⟩ => exact absurd e1 hl
  | [f], ⟨⟨hm, .inr ⟨b, cap, cs, zs, hveq, hf, hb, hA, hlen, hcap, hpub, hfree⟩⟩, _⟩ =>
    subst hf; subst hveq
    have hxv : a.eval x = .pointer (some ⟨b, 0, none⟩) := hx Φ a w fN h2 h3
    obtain ⟨hyv, _⟩ := hy Φ a w fN h2 h3
    have hcs := arel_byteC l cs hA
    have hlc : cs.length = l.length := by rw [hcs]; simp
    have hr := Lib.run_unsafeString_row (P := P) w pt it ty T hp hc b (cs ++ zs).length (by simp [World.shape?, hb]) l hl (by simp; omega) (by have := (len_in hm).2; simp [IntKind.max, IntKind.bits, IntKind.signed] at this; omega) (fun j x' hj => by
      rw [Addr.add_lit, cell_of hb, Nat.zero_add, List.getElem?_append_left (by
        have : j < l.length := by
          rcases Nat.lt_or_ge j l.length with q | q
          · exact q
          · rw [List.getElem?_eq_none q] at hj; cases hj
        omega), hcs, List.getElem?_map, hj]
      rfl)
    have hrun : (execOp a.eval ⟨some d, .call ⟨.builtin .unsafeString, #[x, y], #[pt, it]⟩, ty, pos, af, gd⟩).run P w = .ok (.value (.string ⟨l.toArray⟩)) (w.freeze ⟨b, 0, none⟩ l.length) := by
      simp only [execOp, resolve, hxv, hyv, invoke, builtin, List.map_toArray, List.map_cons, List.map_nil, Sem.run_bind, Sem.run_pure, Result.andThen_ok, hr]
    unfold Oper.wp
    rw [hrun, Oper.upon_value]
    have hos : (w.freeze ⟨b, 0, none⟩ l.length).os = w.os ∧ (w.freeze ⟨b, 0, none⟩ l.length).tape = w.tape ∧ (w.freeze ⟨b, 0, none⟩ l.length).output = w.output := by
      unfold World.freeze
      split <;> exact ⟨rfl, rfl, rfl⟩
    exact hK _ _ Φ [[]] ⟨hos.1, hos.2.1, hos.2.2, by rw [freeze_size]; exact Nat.le_refl _, fun c _ hne => freeze_other (by simpa using hne), Pub.le_refl _, fun _ _ _ => rfl⟩
      ⟨fun c o u e => by rw [freeze_size]; exact h1.lt c o u e, fun c o u e => by rw [freeze_cell]; exact h1.cell c o u e⟩ ⟨⟨rfl, _, put_get a _ d (h7 d rfl), rfl, hm⟩, trivial⟩ (by simp) (by simp)

/-- A slice of a published array of bytes. -/
theorem op_slice_ppB {t e : TypeId} {x : Operand} {n : Nat} {l : List UInt8} {post : List Ck} {lo hi : Option Operand} {a b : Int} (hu : P.underlying t = some (.array n e)) (hs : ∀ w, (sizeOf e).run P w = .ok 1 w) (hx : OpndOk G N x (ppVP (bytesCk n l :: post)))
    (hlo : BndE G N lo 0 a) (hhi : BndE G N hi n b) (h : 0 ≤ a ∧ a ≤ b ∧ b ≤ n ∧ n ≤ mxl) :
    OpOk P G ⟨some d, .slice t x lo hi none, ty, pos, af, gd⟩ N [] (fun _ => [.slot d (slVP bC ((l.take b.toNat).drop a.toNat))]) :=
  OpOk.val fun Φ ac w f _ hG hN => by
    obtain ⟨bb, o, cs, hv, ⟨ys, zs, rfl, ⟨hl, rfl⟩, hz⟩, hp⟩ := hx Φ ac w f hG hN
    have hsb := run_bounds (P := P) (w := w) false n n (lo := lo.map ac.eval) (hi := hi.map ac.eval) (a := a.toNat) (b := b.toNat) (hlo.ok hG hN h.1) (hhi.ok hG hN (by omega)) (by omega) (by omega)
    have hlen : ((l.take b.toNat).drop a.toNat).length = b.toNat - a.toNat := by simp; omega
    have hp2 : PubAt Φ bb (o + a.toNat) (((l.take b.toNat).drop a.toNat).map byteC) := fun j v hj => by
      have hj' : j < b.toNat - a.toNat := by
        rcases Nat.lt_or_ge j (b.toNat - a.toNat) with q | q
        · exact q
        · rw [List.getElem?_eq_none (by rw [List.length_map, hlen]; exact q)] at hj; cases hj
      have := hp (a.toNat + j) v (by
        rw [List.getElem?_append_left (by simp; omega)]
        rw [List.getElem?_map, List.getElem?_drop, List.getElem?_take_of_lt (by omega)] at hj
        rw [List.getElem?_map]; exact hj)
      rwa [← Nat.add_assoc] at this
    by_cases hc : n = a.toNat
    · have h0 : (l.take b.toNat).drop a.toNat = [] := List.eq_nil_of_length_eq_zero (by omega)
      refine ⟨.slice (some ⟨bb, o, none⟩) (b.toNat - a.toNat) (n - a.toNat), ?_, by rw [hlen]; omega, .inr (.inl ⟨bb, o, n - a.toNat, [], by rw [hlen], by rw [hlen]; omega, by rw [h0]; rfl, fun j v hj => by simp at hj⟩)⟩
      simp [execOp, hv, Instr.sliceAt, run_underlying hu, Instr.sureAddr, hsb, hs, ← hc]
    · refine ⟨.slice (some ⟨bb, o + a.toNat, none⟩) (b.toNat - a.toNat) (n - a.toNat), ?_, by rw [hlen]; omega, .inr (.inl ⟨bb, o + a.toNat, n - a.toNat, _, by rw [hlen], by rw [hlen]; omega, arel_bytes Φ _, hp2⟩)⟩
      simp [execOp, hv, Instr.sliceAt, run_underlying hu, Instr.sureAddr, hsb, hs, hc, Addr.add_lit]
end ops

/-- What is handed back is the pointer p; with it goes what post tells. -/
theorem ret1v {P : Program} {fn : Func} {r : ResultVar} {c : Cx} {l : List Ent} {a : Act} {w : World} {p : Value} (h : SatL c l a w) (hr : fn.results = #[r]) (hV : ROk P c l r (eqVP p)) (js : List Nat) (post : Value → List RP) (hd : distinct js = true) (hlt : (js.all fun j => decide (j < l.length)) = true) (hR : (post p).map .res = js.map (nthD .none l)) :
    RetOk P fn c anyVP post a w := by
  obtain ⟨Φ, fp, h⟩ := h
  obtain ⟨v, h1, h2⟩ := hV a w Φ fp h
  obtain ⟨fs, q1, q2, q3⟩ := h.resl js hd (fun j hj => by simpa using (List.all_eq_true.1 hlt) j hj) (post p) hR
  have h2 : v = p := h2
  subst h2
  refine ⟨h.defers, v, Φ, fs, ?_, h.step, h.pub, trivial, q1, q2, q3⟩
  rw [results_rval, hr]
  simp [h1]
theorem r_lp {P : Program} {c : Cx} {l : List Ent} {t : Nat} {p : Value} (i : Nat) (he : nthD .none l i = .slot t (lpVP p 0)) : ROk P c l (.tmp t) (eqVP p) := by
  intro a w Φ fp h
  obtain ⟨v, h1, b, h2, h3⟩ := r_tmp (P := P) i he a w Φ fp h
  exact ⟨v, h1, h3.trans h2.symm⟩

/-- A contract over two resources put together, taken apart. -/
theorem CallOk.split {P : Program} {G : FP} {f : FuncId} {args : List VP} {R S : RP} {R' S' : Value → RP} {pre : List RP} {post : Value → List RP} {res : VP} (h : CallOk P G f args (RP.sep R S :: pre) (fun v => RP.sep (R' v) (S' v) :: post v) res) :
    CallOk P G f args (R :: S :: pre) (fun v => R' v :: S' v :: post v) res := by
  intro Φ w vs fs h1 h2 h3 h4 h5 h6
  match fs, h4 with
  | f1 :: f2 :: fs, ⟨q1, q2, q3⟩ =>
    have e : ((f1 ++ f2) :: fs).flatten = (f1 :: f2 :: fs).flatten := by simp
    have := h Φ w vs ((f1 ++ f2) :: fs) h1 h2 h3 ⟨⟨f1, f2, rfl, q1, q2⟩, q3⟩ (by rw [e]; exact h5) (by rw [e]; exact h6)
    rw [e] at this
    refine this.mono fun e' w' hq => ?_
    obtain ⟨v, Φ', fs', r0, r1, r2, r3, r4, r5, r6⟩ := hq
    match fs', r4 with
    | g :: gs, ⟨⟨g1, g2, hg, s1, s2⟩, s3⟩ =>
      subst hg
      have e2 : ((g1 ++ g2) :: gs).flatten = (g1 :: g2 :: gs).flatten := by simp
      rw [e2] at r5 r6
      exact ⟨v, Φ', g1 :: g2 :: gs, r0, r1, r2, r3, ⟨s1, s2, s3⟩, r5, r6⟩
    | [], r4 => exact r4.elim
  | [_], ⟨_, h4⟩ => exact h4.elim
  | [], h4 => exact h4.elim

/-- A block of one's own is published: no one will change it any more. -/
theorem SatL.publish {c : Cx} {l : List Ent} {a : Act} {w : World} {p : Value} {T : TypeId} {L : List Ck} (h : SatL c l a w) (j : Nat) (hj : nthD .none l j = .res (lb p T L)) : SatL c (l.set j (.fact (ppVP L) p)) a w := by
  obtain ⟨Φ, fp, h⟩ := h
  have hjl := nthD_lt hj (by simp)
  have hx := h.holds j hjl
  rw [hj] at hx
  obtain ⟨b, cs, hp, hf, hb, hL, hn⟩ := hx
  have hown := (h.own j hjl).2 b (by rw [hf]; simp)
  let Φ' : Pub := fun b' o => if b' = b then cs[o]? else Φ b' o
  have hle : Pub.le Φ Φ' := fun b' o v e => by
    by_cases hbb : b' = b
    · rw [hbb, hn o] at e; cases e
    · simp only [Φ', if_neg hbb]; exact e
  have hap : ∀ i, i < l.length → i ≠ j → ∀ x ∈ fp i, x ≠ b := fun i hi hne x hx e => h.apart i j hi hjl hne x hx (by rw [hf, e]; simp)
  refine ⟨Φ', fun i => if i = j then [] else fp i, h.defers, h.size, ⟨fun b' o v e => ?_, fun b' o v e => ?_⟩, c.G.mono hle h.know, h.step.trans (G := [b]) ⟨rfl, rfl, rfl, Nat.le_refl _, fun _ _ _ => rfl, hle, fun b' _ hne => by funext o; simp only [Φ', if_neg (by simpa using hne : ¬ b' = b)]⟩ (fun b' hb' hlt => by
      simp only [List.mem_singleton] at hb'
      subst hb'
      rcases hown.2 with q | q
      · exact q
      · omega), fun i hi => ?_, fun i hi => ?_, fun i k hi hk hne x hx hx' => ?_⟩
  · by_cases hbb : b' = b
    · rw [hbb]; exact hown.1
    · simp only [Φ', if_neg hbb] at e; exact h.pub.lt b' o v e
  · by_cases hbb : b' = b
    · subst hbb
      simp only [Φ', if_pos trivial] at e
      rw [cell_of hb]; exact e
    · simp only [Φ', if_neg hbb] at e; exact h.pub.cell b' o v e
  · have hi : i < l.length := by simpa using hi
    by_cases q : j = i
    · subst q
      have e1 : nthD .none (l.set j (.fact (ppVP L) p)) j = .fact (ppVP L) p := by rw [nthD_set, if_pos ⟨rfl, hjl⟩]
      rw [e1]
      simp only [if_true]
      exact ⟨rfl, b, 0, cs, hp, hL.mono hle, fun o v hv => by simp only [Φ', if_pos trivial, Nat.zero_add]; exact hv⟩
    · have e1 : nthD .none (l.set j (.fact (ppVP L) p)) i = nthD .none l i := by rw [nthD_set, if_neg (fun hc => q hc.1)]
      rw [e1]
      simp only [if_neg (fun e : i = j => q e.symm)]
      exact Ent.holds_mono (h.holds i hi) hle (fun x hx => by funext o; simp only [Φ', if_neg (hap i hi (fun e => q e.symm) x hx)]) (fun _ _ => rfl) (fun _ _ => rfl)
  · have hi : i < l.length := by simpa using hi
    by_cases q : i = j
    · simp only [if_pos q]; exact ⟨List.nodup_nil, by simp⟩
    · simp only [if_neg q]; exact h.own i hi
  · have hi : i < l.length := by simpa using hi
    have hk : k < l.length := by simpa using hk
    by_cases q : i = j
    · simp [if_pos q] at hx
    · by_cases r : k = j
      · simp [if_pos r] at hx'
      · simp only [if_neg q] at hx
        simp only [if_neg r] at hx'
        exact h.apart i k hi hk hne x hx hx'
/-- A slot that points to what has been published. -/
theorem SatL.factslot {c : Cx} {l : List Ent} {a : Act} {w : World} {d : Nat} {p : Value} {L : List Ck} (h : SatL c l a w) (i j : Nat) (hi : nthD .none l i = .slot d (lpVP p 0)) (hj : nthD .none l j = .fact (ppVP L) p) : SatL c (l.set i (.slot d (ppVP L))) a w := by
  obtain ⟨Φ, fp, h⟩ := h
  have hil := nthD_lt hi (by simp)
  have hjl := nthD_lt hj (by simp)
  have h1 := h.holds i hil
  rw [hi] at h1
  obtain ⟨q1, v, q2, b, q3, q4⟩ := h1
  have h2 := h.holds j hjl
  rw [hj] at h2
  refine ⟨Φ, fp, h.defers, h.size, h.pub, h.know, h.step, fun k hk => ?_, fun k hk => h.own k (by simpa using hk), fun k m hk hm => h.apart k m (by simpa using hk) (by simpa using hm)⟩
  have hk : k < l.length := by simpa using hk
  rw [nthD_set]
  by_cases q : i = k
  · subst q
    rw [if_pos ⟨rfl, hil⟩]
    refine ⟨q1, v, q2, ?_⟩
    rw [q4, ← q3]
    exact h2.2
  · rw [if_neg (fun hc => q hc.1)]
    exact h.holds k hk

/-- The library's contract on copyCheck, in this house's words. -/
theorem copyCheck_of {P : Program} {G : FP} {f : FuncId} {T : TypeId} {p v : Value} (hfresh : ∀ (b : Nat) (w : World), w.cell? ⟨b, 0, none⟩ = some (.pointer none) → w.shape? b = some (T, 2) → w.frozen? ⟨b, 0, none⟩ = false → Calls P f #[.pointer (some ⟨b, 0, none⟩)] w fun e w' => e = .returned (.tuple #[]) ∧ w' = w.setCell ⟨b, 0, none⟩ (.pointer (some ⟨b, 0, none⟩)))
    (hused : ∀ (b : Nat) (w : World), w.cell? ⟨b, 0, none⟩ = some (.pointer (some ⟨b, 0, none⟩)) → Calls P f #[.pointer (some ⟨b, 0, none⟩)] w fun e w' => e = .returned (.tuple #[]) ∧ w' = w) :
    CallOk P G f [eqVP p] [lb p T [one (selfVP p), one (eqVP v)]] (fun _ => [lb p T [one (selfVP p), one (eqVP v)]]) (tupVP []) := by
  intro Φ w vs fs h1 h2 h3 h4 h5 h6
  match vs, h3, fs, h4 with
  | [u], ⟨hu, _⟩, [f], ⟨⟨b, cs, hp, hf, hb, hL, hn⟩, _⟩ =>
    have hu : u = p := hu
    subst hu; subst hp; subst hf
    obtain ⟨c1, c2, rfl, ⟨q, rfl, hq1, hq, _⟩, d1, d2, rfl, ⟨x, rfl, hx1, hx⟩, hd⟩ := hL
    have hd : d2 = [] := hd
    have hx : x = v := hx
    subst hd; subst hx
    have hpack : ∀ (w' : World) (q' : Value), Step w Φ [b] w' Φ → PubOk Φ w' → w'.heap[b]? = some (.cells [q', x].toArray T (0, 0)) → (q' = .pointer none ∨ q' = .pointer (some ⟨b, 0, none⟩)) → w'.heap.size = w.heap.size →
        ∃ (v' : Value) (Φ' : Pub) (fs' : List (List Nat)), Ending.returned (.tuple #[]) = .returned v' ∧ Step w Φ [[b]].flatten w' Φ' ∧ PubOk Φ' w' ∧ (tupVP []).p Φ' v' ∧ ResL Φ' w' [lb (.pointer (some ⟨b, 0, none⟩)) T [one (selfVP (.pointer (some ⟨b, 0, none⟩))), one (eqVP x)]] fs' ∧ fs'.flatten.Nodup ∧ ∀ c ∈ fs'.flatten, c < w'.heap.size ∧ (c ∈ [[b]].flatten ∨ w.heap.size ≤ c) := by
      intro w' q' hs hP hblk hq' hsz
      refine ⟨.tuple #[], Φ, [[b]], rfl, by simpa using hs, hP, ⟨[], rfl, trivial⟩, ⟨⟨b, [q', x], rfl, rfl, hblk, ⟨[q'], [x], rfl, ⟨q', rfl, ?_, hq', b, rfl⟩, [x], [], rfl, ⟨x, rfl, hx1, rfl⟩, rfl⟩, hn⟩, trivial⟩, by simp, fun c hc => ?_⟩
      · rcases hq' with rfl | rfl <;> rfl
      · simp at hc
        subst hc
        have := h6 c (by simp)
        exact ⟨by rw [hsz]; exact this, .inl (by simp)⟩
    have c0 : w.cell? ⟨b, 0, none⟩ = some q := by rw [cell_of hb]; rfl
    rcases hq with rfl | rfl
    · refine (hfresh b w c0 (by simp [World.shape?, hb]) (by simp [World.frozen?, hb])).mono fun e w' hq => ?_
      obtain ⟨rfl, rfl⟩ := hq
      refine hpack _ (.pointer (some ⟨b, 0, none⟩)) ⟨rfl, rfl, rfl, by simp, fun c hc hne => setCell_other (by simpa using hne), Pub.le_refl _, fun _ _ _ => rfl⟩ ⟨fun c o u e => by simpa using h1.lt c o u e, fun c o u e => ?_⟩ (setCell_row hb) (.inr rfl) (by simp)
      have hne : c ≠ b := fun e' => by rw [e', hn o] at e; cases e
      exact (World.cell?_of_block (w := w) (setCell_other hne)).trans (h1.cell c o u e)
    · refine (hused b w c0).mono fun e w' hq => ?_
      obtain ⟨rfl, rfl⟩ := hq
      exact hpack w' _ (Step.refl _ _ _) h1 hb (.inr rfl) rfl

/-- A contract of the library that leaves all that was there. -/
theorem CallOk.ofBelow {P : Program} {G : FP} {f : FuncId} {args : List VP} {res : VP} (h : ∀ (Φ : Pub) (vs : List Value) (w : World), ArgsL Φ args vs → ∃ u, (∀ Φ', res.p Φ' u) ∧ Calls P f vs.toArray w fun e w' => e = .returned u ∧ Below w.heap.size w w') :
    CallOk P G f args [] (fun _ => []) res := by
  intro Φ w vs fs h1 h2 h3 h4 h5 h6
  match fs, h4 with
  | [], _ =>
    obtain ⟨u, hu, hc⟩ := h Φ vs w h3
    refine hc.mono fun e w' hq => ?_
    obtain ⟨rfl, hb⟩ := hq
    exact ⟨u, Φ, [], rfl, ⟨hb.os, hb.tape, hb.output, hb.size, fun b hlt _ => hb.block b hlt, Pub.le_refl _, fun _ _ _ => rfl⟩, ⟨fun b o v e => Nat.lt_of_lt_of_le (h1.lt b o v e) hb.size, fun b o v e => (World.cell?_of_block (w := w) (hb.block b (h1.lt b o v e))).trans (h1.cell b o v e)⟩, hu Φ, trivial, by simp, by simp⟩
  | _ :: _, h4 => exact h4.elim

/-- A handle: the value itself, one cell. -/
def hVP (v : Value) : VP := ⟨fun _ u => u = v ∧ v.oneCell' = true, fun _ h => h⟩
theorem cells_h (v : Value) : Cells (hVP v) [one (eqVP v)] := by
  rintro Φ u ⟨rfl, h⟩
  have h2 : u.cells.toList = [u] := by cases u <;> first | rfl | (simp [Value.oneCell'] at h)
  rw [h2]
  exact ⟨[u], [], rfl, ⟨u, rfl, h, rfl⟩, rfl⟩
theorem acc_one {α : Type} {v : Value} {T : TypeId} {sz : Nat} {c : α → List Ck} {xs : List α} : ∀ Φ f w, (acc v T sz c xs).p Φ f w → v.oneCell' = true := by
  rintro Φ f w ⟨_, ⟨rfl, _⟩ | ⟨b, cap, cs, zs, rfl, _⟩⟩ <;> rfl
theorem map_one {K V : Type} {v : Value} {kV : K → Value} {kOk : K → Prop} {eR : Value → V → RP} {m : List (K × V)} : ∀ Φ f w, (mapR v kV kOk eR m).p Φ f w → v.oneCell' = true := by
  rintro Φ f w ⟨b, es, clock, fs, rfl, _⟩; rfl
theorem opone {G : FP} {N : List Ent} {t : Nat} {v : Value} {R0 : RP} (i j : Nat) (he : nthD .none N i = .slot t (eqVP v)) (hf : nthD .none N j = .res R0) (h1 : ∀ Φ f w, R0.p Φ f w → v.oneCell' = true) : OpndOk G N (.tmp t) (hVP v) := by
  intro Φ a w f hG hN
  obtain ⟨g, hr⟩ := hN.res j hf
  exact ⟨opt (G := G) i he Φ a w f hG hN, h1 _ _ _ hr⟩
theorem hk_str {l : List UInt8} : ∀ Φ u, (strVP l).p Φ u → u = strK l ∧ True := fun _ _ h => ⟨h.1, trivial⟩
theorem hk_arr {n : Nat} {l : List UInt8} : ∀ Φ u, (aggVP [bytesCk n l]).p Φ u → u = arrK l ∧ l.length = n := by
  rintro Φ u ⟨cs, rfl, a1, b1, rfl, ⟨hl, rfl⟩, hb⟩
  have hb : b1 = [] := hb
  subst hb
  exact ⟨by simp [arrK], hl⟩
theorem res_id {R : RP} : ∀ Φ f w, R.p Φ f w → ∃ g, R.p Φ g w := fun _ f _ h => ⟨f, h⟩
theorem lp_eqv {p v : Value} {Φ : Pub} (h : (lpVP p 0).p Φ v) : (eqVP p).p Φ v := by
  obtain ⟨b, h1, h2⟩ := h
  exact h2.trans h1.symm
theorem eq_lp {p v : Value} {Φ : Pub} (h : (eqVP p).p Φ v) (hp : ∃ b, p = .pointer (some ⟨b, 0, none⟩)) : (lpVP p 0).p Φ v := by
  obtain ⟨b, hb⟩ := hp
  have h : v = p := h
  exact ⟨b, hb, h.trans hb⟩
theorem CallOk.split2 {P : Program} {G : FP} {f : FuncId} {args : List VP} {R S T : RP} {res : VP} (h : CallOk P G f args [RP.sep R (RP.sep S T)] (fun _ => [RP.sep R (RP.sep S T)]) res) :
    CallOk P G f args [R, S, T] (fun _ => [R, S, T]) res := by
  intro Φ w vs fs h1 h2 h3 h4 h5 h6
  match fs, h4 with
  | [f1, f2, f3], ⟨q1, q2, q3, _⟩ =>
    have e : [f1 ++ (f2 ++ f3)].flatten = [f1, f2, f3].flatten := by simp
    have := h Φ w vs [f1 ++ (f2 ++ f3)] h1 h2 h3 ⟨⟨f1, f2 ++ f3, rfl, q1, f2, f3, rfl, q2, q3⟩, trivial⟩ (by rw [e]; exact h5) (by rw [e]; exact h6)
    rw [e] at this
    refine this.mono fun e' w' hq => ?_
    obtain ⟨v, Φ', fs', r0, r1, r2, r3, r4, r5, r6⟩ := hq
    match fs', r4 with
    | [g], ⟨⟨g1, g23, hg, s1, g2, g3, hg2, s2, s3⟩, _⟩ =>
      subst hg2; subst hg
      have e2 : [g1 ++ (g2 ++ g3)].flatten = [g1, g2, g3].flatten := by simp
      rw [e2] at r5 r6
      exact ⟨v, Φ', [g1, g2, g3], r0, r1, r2, r3, ⟨s1, s2, s3, trivial⟩, r5, r6⟩
    | [], r4 => exact r4.elim
    | _ :: _ :: _, ⟨_, r4⟩ => exact r4.elim
  | [_, _], ⟨_, _, h4⟩ => exact h4.elim
  | [_], ⟨_, h4⟩ => exact h4.elim
  | [], h4 => exact h4.elim
  | _ :: _ :: _ :: _ :: _, ⟨_, _, _, h4⟩ => exact h4.elim
theorem op_fieldAddr_lbm {P : Program} {G : FP} {N : List Ent} {d : Nat} {ty : TypeId} {pos : String} {af : Array Edge} {gd : Option (Nat × Bool)} {s : TypeId} {x : Operand} {p : Value} {fields : Array Field} {i n : Nat} {fd : Field} (k m : Nat) (hu : P.underlying s = some (.struct fields)) (hi : fields[i]? = some fd) (hs : ∀ w, (sizeOf fd.type).run P w = .ok n w) (hn : n ≠ 0)
    (hx : OpndOk G N x (lpVP p k)) (hm : k + fd.offset = m) : OpOk P G ⟨some d, .fieldAddr s x i, ty, pos, af, gd⟩ N [] (fun _ => [.slot d (lpVP p m)]) := by
  subst hm; exact op_fieldAddr_lb hu hi hs hn hx
/-- An operation that is passed by: its slot holds nothing. -/
theorem GOk.off_v {P : Program} {G : FP} {ops : Array Oper} {o : Oper} {k d d' : Nat} {want b : Bool} {ok : Oper} (hb : b = !want) (hg : o.guard = some (k, want)) (hk : ops[k]? = some ok) (hd : ok.dst = some d) (hd' : o.dst = some d') :
    GOk P G ops o [.slot d (boolVP b)] [] (fun _ => [.slot d' (eqVP undef)]) := by
  subst hb
  intro Φ a w fN fC h1 h2 h3 h4 h5 h6 h7 K Q hK
  match fN, h3 with
  | [f], h3 =>
    match fC, h4 with
    | [], _ =>
      obtain ⟨⟨rfl, v, hv, hb⟩, _⟩ := h3
      have hb : v = .bool !want := hb
      subst hb
      unfold OpDo
      rw [if_neg (by cases want <;> simp [Region.wanted, hg, yielded, hk, hd, hv])]
      exact hK undef w Φ [[]] (Step.refl _ _ _) h1 ⟨⟨rfl, undef, by rw [hd']; exact put_get a undef d' (h7 d' hd'), rfl⟩, trivial⟩ (by simp) (by simp)
theorem GOk.off_u {P : Program} {G : FP} {ops : Array Oper} {o : Oper} {k d d' : Nat} {want : Bool} {ok : Oper} (hg : o.guard = some (k, want)) (hk : ops[k]? = some ok) (hd : ok.dst = some d) (hd' : o.dst = some d') :
    GOk P G ops o [.slot d (eqVP undef)] [] (fun _ => [.slot d' (eqVP undef)]) := by
  intro Φ a w fN fC h1 h2 h3 h4 h5 h6 h7 K Q hK
  match fN, h3 with
  | [f], h3 =>
    match fC, h4 with
    | [], _ =>
      obtain ⟨⟨rfl, v, hv, hb⟩, _⟩ := h3
      have hb : v = undef := hb
      subst hb
      unfold OpDo
      rw [if_neg (by cases want <;> simp [Region.wanted, hg, yielded, hk, hd, hv, undef])]
      exact hK undef w Φ [[]] (Step.refl _ _ _) h1 ⟨⟨rfl, undef, by rw [hd']; exact put_get a undef d' (h7 d' hd'), rfl⟩, trivial⟩ (by simp) (by simp)
end Go.Proofs.YtklikgigjdgjaaaGreatDoorRRR
