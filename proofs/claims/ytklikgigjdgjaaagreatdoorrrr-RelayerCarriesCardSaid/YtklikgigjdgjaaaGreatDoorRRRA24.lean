/- Slices of one's own that may be written: nothing of them is published. -/
import Derived.Test.YtklikgigjdgjaaaGreatDoorRRRA23
namespace Go.Proofs.YtklikgigjdgjaaaGreatDoorRRR
open Go Go.RowKit Go.Proofs
set_option linter.unusedVariables false
set_option linter.unusedSimpArgs false

def own {α : Type} (v : Value) (T : TypeId) (sz : Nat) (c : α → List Ck) (xs : List α) : RP := ⟨fun Φ f w => xs.length ≤ mxl ∧ ((v = .slice none 0 0 ∧ xs = [] ∧ f = []) ∨
    ∃ b cap cs zs, v = .slice (some ⟨b, 0, none⟩) xs.length cap ∧ f = [b] ∧ w.heap[b]? = some (.cells (cs ++ zs).toArray T (0, 0)) ∧ Arel Φ c cs xs ∧ (cs ++ zs).length = cap * sz ∧ xs.length ≤ cap ∧ ∀ o, Φ b o = none), by
  rintro Φ Φ' f w w' hle hs hb ⟨hm, ⟨h1, h2, h3⟩ | ⟨b, cap, cs, zs, h1, h2, h3, h4, h5, h6, h8⟩⟩
  · exact ⟨hm, .inl ⟨h1, h2, h3⟩⟩
  · refine ⟨hm, .inr ⟨b, cap, cs, zs, h1, h2, ?_, h4.mono hle, h5, h6, fun o => ?_⟩⟩
    · rw [hb b (by simp [h2])]; exact h3
    · rw [hs b (by simp [h2])]; exact h8 o⟩
theorem SatL.nilown {c : Cx} {l : List Ent} {a : Act} {w : World} {α : Type} (T : TypeId) (sz : Nat) (ck : α → List Ck) (h : SatL c l a w) : SatL c (l ++ [.res (own (.slice none 0 0) T sz ck ([] : List α))]) a w := by
  obtain ⟨Φ, fp, h⟩ := h
  have hx : ∀ i, i < l.length → nthD Ent.none (l ++ [.res (own (.slice none 0 0) T sz ck ([] : List α))]) i = nthD .none l i := fun i hi => by rw [nthD_append, if_pos hi]
  refine ⟨Φ, fun i => if i < l.length then fp i else [], h.defers, h.size, h.pub, h.know, h.step, fun i hi => ?_, fun i hi => ?_, fun i j hi hj hne => ?_⟩
  · by_cases hlt : i < l.length
    · rw [hx i hlt]; simp only [if_pos hlt]; exact h.holds i hlt
    · have : i = l.length := by simp at hi; omega
      subst this
      rw [nthD_append, if_neg hlt]
      simp only [if_neg hlt]
      simp only [Nat.sub_self]
      exact ⟨by simp [mxl], .inl ⟨rfl, rfl, rfl⟩⟩
  · by_cases hlt : i < l.length
    · simp only [if_pos hlt]; exact h.own i hlt
    · simp [hlt]
  · by_cases hlt : i < l.length
    · by_cases hlt2 : j < l.length
      · simp only [if_pos hlt, if_pos hlt2]; exact h.apart i j hlt hlt2 hne
      · simp [hlt2]
    · simp [hlt]
theorem own_append {α : Type} {P : Program} {w : World} {sT xT ty e : TypeId} {i : TypeInfo} {z : Value} {u v : Value} {c : α → List Ck} {xs ys : List α} {ds : List Value} {Φ : Pub} {f : List Nat} (hS : Src P w sT xT ty e i z u ys.length ds) (hsz : ∀ x, lens (c x) = i.size) (hpos : 0 < i.size) (hzs : z.cells.size = i.size)
    (hP : PubOk Φ w) (hf : ∀ b ∈ f, b < w.heap.size) (h : (own v e i.size c xs).p Φ f w) (hA : Arel Φ c ds ys) (hm : xs.length + ys.length ≤ mxl) (hb : (xs.length + ys.length) * i.bytes ≤ 140737488355328) :
    ∃ (v' : Value) (w' : World) (f' : List Nat), (Builtin.append_ #[sT, xT] ty #[v, u]).run P w = .ok v' w' ∧ (own v' e i.size c (xs ++ ys)).p Φ f' w' ∧ Step w Φ f w' Φ ∧ PubOk Φ w' ∧ f'.Nodup ∧ ∀ b ∈ f', b < w'.heap.size ∧ (b ∈ f ∨ w.heap.size ≤ b) := by
  have hdl : ds.length = ys.length * i.size := hA.len hsz
  have h63 : ((xs.length + ys.length : Nat) : Int) ≤ 9223372036854775807 := by have := (len_in hm).2; simp [IntKind.max, IntKind.bits, IntKind.signed] at this; omega
  have hnew : ∀ (cs : List Value) (cap : Nat) (v0 : Value), Arel Φ c cs xs → xs.length + ys.length ≤ cap → v0 = .slice (some ⟨w.heap.size, 0, none⟩) (xs.length + ys.length) cap →
      ∀ w', w' = w.drew.alloc (.cells (cs.toArray ++ ds.toArray ++ Builtin.zeroCells z.cells (cap - (xs.length + ys.length))) e) →
      (Builtin.append_ #[sT, xT] ty #[v, u]).run P w = .ok v0 w' →
      ∃ (v' : Value) (w' : World) (f' : List Nat), (Builtin.append_ #[sT, xT] ty #[v, u]).run P w = .ok v' w' ∧ (own v' e i.size c (xs ++ ys)).p Φ f' w' ∧ Step w Φ f w' Φ ∧ PubOk Φ w' ∧ f'.Nodup ∧ ∀ b ∈ f', b < w'.heap.size ∧ (b ∈ f ∨ w.heap.size ≤ b) := by
    intro cs cap v0 hcs hcap hv w' hw hr
    subst hw
    refine ⟨v0, _, [w.heap.size], hr, ⟨by simpa using hm, .inr ⟨w.heap.size, cap, cs ++ ds, (Builtin.zeroCells z.cells (cap - (xs.length + ys.length))).toList, by rw [hv]; simp, rfl, ?_, hcs.append hA, ?_, by simpa using hcap, fun o => ?_⟩⟩, ?_, ⟨fun b o v e => ?_, fun b o v e => ?_⟩, by simp, by simp⟩
    · rw [show w.heap.size = w.drew.heap.size from rfl, heap_alloc_new]
      congr 2
      apply Array.ext'
      simp
    · have h1 := hcs.len hsz
      simp only [List.length_append, h1, hdl, zeroCells_len, hzs]
      rw [← Nat.add_mul, ← Nat.add_mul]
      congr 1
      omega
    · cases e : Φ w.heap.size o with
      | none => rfl
      | some v => have := hP.lt _ o v e; omega
    · exact ⟨rfl, rfl, rfl, by simp, fun b hb _ => heap_alloc_old w.drew _ b hb, Pub.le_refl _, fun b hb _ => rfl⟩
    · have := hP.lt b o v e
      simp; omega
    · rw [World.cell?_alloc_lt _ _ _ (show b < w.drew.heap.size from hP.lt b o v e)]
      exact hP.cell b o v e
  obtain ⟨hm0, ⟨rfl, rfl, rfl⟩ | ⟨b, cap, cs, zs, rfl, rfl, hblk, hcs, hlen, hcap, hfree⟩⟩ := h
  · by_cases h0 : ys.length = 0
    · have hy : ys = [] := List.eq_nil_of_length_eq_zero h0
      subst hy
      exact ⟨.slice none 0 0, w, [], hS.idle rfl, ⟨by simp [mxl], .inl ⟨rfl, rfl, rfl⟩⟩, Step.refl _ _ _, hP, List.nodup_nil, by simp⟩
    · have hr := hS.fresh (by omega) (by simpa using h63) (by simp at hb; omega)
      refine hnew [] (grownCap w ys.length 0 e) _ rfl ?_ (by simp) _ ?_ hr
      · have := grownCap_ge w ys.length 0 e; simpa using this
      · simp
  · have hcl := hcs.len hsz
    by_cases hroom : xs.length + ys.length ≤ cap
    · have hfit : xs.length * i.size + ds.length ≤ (cs ++ zs).toArray.size := by
        simp only [List.size_toArray, hlen, hdl, ← Nat.add_mul]
        exact Nat.mul_le_mul_right _ hroom
      have hr := hS.room b xs.length cap (cs ++ zs).toArray hblk hroom hfit
      have hrow : ((cs ++ zs).toArray.toList.take (xs.length * i.size) ++ ds ++ (cs ++ zs).toArray.toList.drop (xs.length * i.size + ds.length)) = cs ++ ds ++ zs.drop ds.length := by
        simp only [← hcl]
        rw [List.take_left, List.drop_length_add_append]
      rw [hrow] at hr
      have hb0 := hf b (by simp)
      have hnb : (w.setRow b (cs ++ ds ++ zs.drop ds.length).toArray).heap[b]? = some (.cells (cs ++ ds ++ zs.drop ds.length).toArray e (0, 0)) := setRow_heap w b _ _ e _ hblk
      refine ⟨_, _, [b], hr, ⟨by simpa using hm, .inr ⟨b, cap, cs ++ ds, zs.drop ds.length, by simp, rfl, hnb, hcs.append hA, ?_, by simpa using hroom, hfree⟩⟩, ?_, ⟨fun b' o v' e' => ?_, fun b' o v' e' => ?_⟩, by simp, by simpa using hb0⟩
      · simp only [List.length_append, List.length_drop] at hlen ⊢
        have : (xs.length + ys.length) * i.size ≤ cap * i.size := Nat.mul_le_mul_right _ hroom
        rw [Nat.add_mul] at this
        omega
      · exact ⟨rfl, rfl, rfl, by simp, fun b' hb' hne => setRow_other w b b' _ (by simpa using hne), Pub.le_refl _, fun b' hb' hne => rfl⟩
      · rw [setRow_size]; exact hP.lt b' o v' e'
      · by_cases hbb : b' = b
        · subst hbb; rw [hfree o] at e'; cases e'
        · exact (World.cell?_of_block (w := w) (setRow_other w b b' _ hbb)).trans (hP.cell b' o v' e')
    · have hold : ∀ j v, cs[j]? = some v → w.cell? ((⟨b, 0, none⟩ : Addr).add j) = some v := fun j v hj => by
        rw [Addr.add_lit, Nat.zero_add, cell_of hblk]
        have : j < cs.length := by
          rcases Nat.lt_or_ge j cs.length with q | q
          · exact q
          · rw [List.getElem?_eq_none q] at hj; cases hj
        rw [List.getElem?_append_left this]; exact hj
      have hr := hS.grow ⟨b, 0, none⟩ xs.length cap cs hcl hold hcap (by omega) h63 (growslice_fits (by omega) hb)
      refine hnew cs (grownCap w (xs.length + ys.length) cap e) _ hcs (grownCap_ge w _ _ e) rfl _ rfl hr
section ops
variable {P : Program} {G : FP} {N : List Ent} {d : Nat} {ty : TypeId} {pos : String} {af : Array Edge} {gd : Option (Nat × Bool)}
theorem op_ownAppend_of {α : Type} {v : Value} {e sT xT : TypeId} {i : TypeInfo} {z : Value} {c : α → List Ck} {xs ys : List α} {s x : Operand} (hsz : ∀ x, lens (c x) = i.size) (hpos : 0 < i.size) (hzs : z.cells.size = i.size) (hs : OpndOk G N s (eqVP v))
    (hx : ∀ (Φ : Pub) (a : Act) (w : World) (f : List (List Nat)), PubOk Φ w → G.p Φ → HoldL Φ a.tmps w N f → ∃ ds, Src P w sT xT ty e i z (a.eval x) ys.length ds ∧ Arel Φ c ds ys) (hm : xs.length + ys.length ≤ mxl) (hb : (xs.length + ys.length) * i.bytes ≤ 140737488355328) :
    OpOk P G ⟨some d, .call ⟨.builtin .append, #[s, x], #[sT, xT]⟩, ty, pos, af, gd⟩ N [.res (own v e i.size c xs)] (fun v' => [.slot d (eqVP v'), .res (own v' e i.size c (xs ++ ys))]) := by
  intro Φ a w fN fC h1 h2 h3 h4 h5 h6 h7 K Q hK
  match fC, h4 with
  | [f], ⟨hacc, _⟩ =>
  obtain ⟨ds, hS, hA⟩ := hx Φ a w fN h1 h2 h3
  have hv : a.eval s = v := hs Φ a w fN h2 h3
  obtain ⟨v', w', f', hr, hacc', hst, hP', hnd, hfb⟩ := own_append hS hsz hpos hzs h1 (fun b hb => h6 b (by simp [hb])) hacc hA hm hb
  have hrun : (execOp a.eval ⟨some d, .call ⟨.builtin .append, #[s, x], #[sT, xT]⟩, ty, pos, af, gd⟩).run P w = .ok (.value v') w' := by
    simp only [execOp, resolve, List.map_toArray, List.map_cons, List.map_nil, hv, Sem.run_bind, Sem.run_pure, Result.andThen_ok, invoke, builtin, hr]
  unfold Oper.wp
  rw [hrun, Oper.upon_value]
  exact hK v' w' Φ [[], f'] (by simpa using hst) hP' ⟨⟨rfl, v', put_get a v' d (h7 d rfl), rfl⟩, hacc', trivial⟩ (by simpa using hnd) (by simpa using hfb)
theorem op_ownAppend {α : Type} {v : Value} {e sT : TypeId} {i : TypeInfo} {z : Value} {c : α → List Ck} {xs ys : List α} {s x : Operand} (ht : P.underlying sT = some (.slice e)) (hi : P.info? e = some i) (hz : i.zero = some z) (hsz : ∀ x, lens (c x) = i.size) (hpos : 0 < i.size) (hzs : z.cells.size = i.size)
    (hs : OpndOk G N s (eqVP v)) (hx : OpndOk G N x (slVP c ys)) (hb : xs.length + ys.length ≤ mxl ∧ (xs.length + ys.length) * i.bytes ≤ 140737488355328) :
    OpOk P G ⟨some d, .call ⟨.builtin .append, #[s, x], #[sT, sT]⟩, ty, pos, af, gd⟩ N [.res (own v e i.size c xs)] (fun v' => [.slot d (eqVP v'), .res (own v' e i.size c (xs ++ ys))]) :=
  op_ownAppend_of hsz hpos hzs hs (fun Φ a w f hP hG hN => by
    obtain ⟨_, ⟨hv, rfl⟩ | ⟨b, o, cap, ds, hv, _, hA, hp⟩ | ⟨rfl, b, cap, hv⟩⟩ := hx Φ a w f hG hN
    · rw [hv]; exact ⟨[], Src.nil ht hi, rfl⟩
    rotate_left
    · rw [hv]; exact ⟨[], Src.slice ht hi hz (by simp) (fun j v hj => by simp at hj) (by simp), rfl⟩
    · rw [hv]; exact ⟨ds, Src.slice ht hi hz (hA.len hsz) (fun j v hj => by rw [Addr.add_lit]; exact hP.cell _ _ _ (hp j v hj)) hA.cell, hA⟩) hb.1 hb.2
/-- A pointer into such a slice. -/
def eapVP (q : Value) (off : Nat) : VP := ⟨fun _ v => ∃ b len cap, q = .slice (some ⟨b, 0, none⟩) len cap ∧ v = .pointer (some ⟨b, off, none⟩), fun _ h => h⟩
theorem op_indexAddr_own {α : Type} {t e : TypeId} {x : Nat} {y : Operand} {c : α → List Ck} {xs : List α} {k : IntKind} {i : Int} {sz : Nat} {q : Value} (i0 j : Nat) (hu : P.underlying t = some (.slice e)) (hs : ∀ w, (sizeOf e).run P w = .ok sz w)
    (hx : nthD .none N i0 = .slot x (eqVP q)) (hr : nthD .none N j = .res (own q e sz c xs)) (hy : OpndOk G N y (intVP k i)) (hi : 0 ≤ i ∧ i < xs.length) : OpOk P G ⟨some d, .indexAddr t (.tmp x) y, ty, pos, af, gd⟩ N [] (fun _ => [.slot d (eapVP q (i.toNat * sz))]) :=
  OpOk.val fun Φ a w f _ hG hN => by
    obtain ⟨hy1, _⟩ := hy Φ a w f hG hN
    have hv : a.eval (.tmp x) = q := opt (G := G) i0 hx Φ a w f hG hN
    obtain ⟨g, _, ⟨_, rfl, _⟩ | ⟨b, cap, cs, zs, hq, _⟩⟩ := hN.res j hr
    · simp at hi; omega
    · refine ⟨.pointer (some ⟨b, i.toNat * sz, none⟩), ?_, b, _, _, hq, rfl⟩
      simp only [execOp, hv, hy1, hq]
      simp [Instr.indexAt, run_underlying hu, asIntOf, hi, hs, Addr.add_lit]
theorem op_indexAddr_ownE {t e : TypeId} {x y : Operand} {q : Value} {k : Nat} {kk : IntKind} {i : Int} {n sz : Nat} (hu : P.underlying t = some (.array n e)) (hs : ∀ w, (sizeOf e).run P w = .ok sz w)
    (hx : OpndOk G N x (eapVP q k)) (hy : OpndOk G N y (intVP kk i)) (hi : 0 ≤ i ∧ i < n) : OpOk P G ⟨some d, .indexAddr t x y, ty, pos, af, gd⟩ N [] (fun _ => [.slot d (eapVP q (k + i.toNat * sz))]) :=
  OpOk.val fun Φ a w f _ hG hN => by
    obtain ⟨hy1, _⟩ := hy Φ a w f hG hN
    obtain ⟨b, len, cap, hq, hv⟩ := hx Φ a w f hG hN
    refine ⟨_, ?_, b, len, cap, hq, rfl⟩
    simp only [execOp, hv, hy1]
    simp [Instr.indexAt, run_underlying hu, asIntOf, Instr.sureAddr, hi, hs, Addr.add_lit]
/-- A byte of an element of such a slice of byte arrays. -/
theorem op_load_ownB {T T0 : TypeId} {x : Operand} {q : Value} {k n : Nat} {l : List (List UInt8)} {i m : Int} (j : Nat) (ha : ∀ w, (isAgg T).run P w = .ok false w)
    (hx : OpndOk G N x (eapVP q k)) (he : nthD .none N j = .res (own q T0 n (dC n) l)) (hk : k = i.toNat * n + m.toNat * 1) (hi : 0 ≤ i ∧ i < l.length) (hm : 0 ≤ m ∧ m < n) :
    OpOk P G ⟨some d, .load T x, ty, pos, af, gd⟩ N [] (fun _ => [.slot d (intVP .u8 ((l.getD i.toNat default).getD m.toNat 0).toNat)]) :=
  OpOk.val fun Φ a w f _ hG hN => by
    obtain ⟨b, len, cap, hq, hv⟩ := hx Φ a w f hG hN
    obtain ⟨g, _, ⟨h1, _⟩ | ⟨b', cap', cs, zs, h1, _, hb, hA, _⟩⟩ := hN.res j he
    · rw [h1] at hq; cases hq
    · have : b' = b := by rw [hq] at h1; simp at h1; exact h1.1.symm
      subst this
      have hit : i.toNat < l.length := by omega
      obtain ⟨us, vs, ws, rfl, q1, ⟨y1, y2, rfl, ⟨hl, rfl⟩, h4⟩, _⟩ := hA.at (lens_dC n) i.toNat hit
      have h4 : y2 = [] := h4
      subst h4
      have hmt : m.toNat < l[i.toNat].length := by omega
      have e1 : l.getD i.toNat default = l[i.toNat] := by simp [List.getD, hit]
      refine ⟨byteC ((l.getD i.toNat default).getD m.toNat 0), ?_, rfl, byte_in _⟩
      simp only [execOp, hv]
      rw [Sem.run_bind, run_loadAt_one ha (v := byteC ((l.getD i.toNat default).getD m.toNat 0)) (by
        rw [cell_of hb, hk, ← q1, Nat.mul_one, e1]
        simp only [List.append_assoc]
        rw [List.getElem?_append_right (by omega), show us.length + m.toNat - us.length = m.toNat by omega, List.getElem?_append_left (by simpa using hmt)]
        simp [hmt, List.getD])]
      rfl
theorem op_store_ownB {T T0 : TypeId} {x y : Operand} {q : Value} {k n : Nat} {l : List (List UInt8)} {i m b0 : Int} (hs : ∀ w, (sizeOf T).run P w = .ok 1 w)
    (hx : OpndOk G N x (eapVP q k)) (hy : OpndOk G N y (intVP .u8 b0)) (hk : k = i.toNat * n + m.toNat * 1) (hi : 0 ≤ i ∧ i < l.length) (hm : 0 ≤ m ∧ m < n) :
    OpOk P G ⟨none, .store T x y, ty, pos, af, gd⟩ N [.res (own q T0 n (dC n) l)] (fun _ => [.res (own q T0 n (dC n) (l.set i.toNat ((l.getD i.toNat default).set m.toNat (u8of b0))))]) := by
  intro Φ a w fN fC h1 h2 h3 h4 h5 h6 h7 K Q hK
  match fC, h4 with
  | [f], ⟨⟨hmx, hc⟩, _⟩ =>
    obtain ⟨b, len, cap, hq, hv⟩ := hx Φ a w fN h2 h3
    rcases hc with ⟨e, _⟩ | ⟨b', cap', cs, zs, e, hf, hb, hA, hlen, hcap, hn⟩
    · rw [e] at hq; cases hq
    · subst hf
      have : b' = b := by rw [hq] at e; simp at e; exact e.1.symm
      subst this
      have hit : i.toNat < l.length := by omega
      obtain ⟨us, vs, ws, rfl, q1, ⟨y1, y2, rfl, ⟨hl, rfl⟩, h4'⟩, q2, q3⟩ := hA.at (lens_dC n) i.toNat hit
      have h4' : y2 = [] := h4'
      subst h4'
      have hmt : m.toNat < l[i.toNat].length := by omega
      have e1 : l.getD i.toNat default = l[i.toNat] := by simp [List.getD, hit]
      obtain ⟨hy1, hy2⟩ := hy Φ a w fN h2 h3
      have hone : [Value.int .u8 b0] = [byteC (u8of b0)] := by rw [byteC_u8of hy2]
      obtain ⟨w', r1, r2, r3, r4, r5, r6, r7⟩ := run_storeCells (P := P) (b := b') (k := k) [Value.int .u8 b0] 0 w ((us ++ (l[i.toNat].map byteC ++ []) ++ ws) ++ zs) hb (by
        simp only [List.length_append, List.length_map, List.length_cons, List.length_nil] at *; omega) (by simp [Value.oneCell'])
      have hblk : w'.heap[b']? = some (.cells ((us ++ ((l[i.toNat].set m.toNat (u8of b0)).map byteC ++ []) ++ ws) ++ zs).toArray T0 (0, 0)) := by
        rw [r2]
        congr 3
        have t1 : ((us ++ (l[i.toNat].map byteC ++ []) ++ ws) ++ zs).take (k + 0) = us ++ (l[i.toNat].map byteC).take m.toNat := by
          rw [Nat.add_zero, hk, ← q1, Nat.mul_one]
          simp only [List.append_nil, List.append_assoc]
          rw [List.take_length_add_append, List.take_append_of_le_length (by simp; omega)]
        have t2 : ((us ++ (l[i.toNat].map byteC ++ []) ++ ws) ++ zs).drop (k + 0 + [Value.int .u8 b0].length) = (l[i.toNat].map byteC).drop (m.toNat + 1) ++ ws ++ zs := by
          rw [Nat.add_zero, hk, ← q1, Nat.mul_one]
          simp only [List.append_nil, List.append_assoc, List.length_cons, List.length_nil, Nat.zero_add]
          rw [Nat.add_assoc, List.drop_length_add_append, List.drop_append_of_le_length (by simp; omega)]
        rw [t1, t2, hone, set_mid _ _ _ hmt]
        simp
      have hrun : (execOp a.eval ⟨none, .store T x y, ty, pos, af, gd⟩).run P w = .ok .skip w' := by
        simp only [execOp, hv, hy1, Instr.storeAt, Instr.sureAddr, storeVar, Sem.run_bind, Sem.run_pure, Result.andThen_ok, hs]
        simp [Value.cells, r1]
      unfold Oper.wp
      rw [hrun, Oper.upon_skip]
      have hl' : (l.set i.toNat ((l.getD i.toNat default).set m.toNat (u8of b0))) = l.take i.toNat ++ (l[i.toNat].set m.toNat (u8of b0)) :: l.drop (i.toNat + 1) := by rw [e1, set_mid _ _ _ hit]
      refine hK undef w' Φ [[b']] ⟨r5, r6, r7, Nat.le_of_eq r4.symm, fun c hc' hne => r3 c (fun e => hne (by simp [e])), Pub.le_refl _, fun _ _ _ => rfl⟩
        ⟨fun c o v e => by rw [r4]; exact h1.lt c o v e, fun c o v e => ?_⟩ ⟨⟨by simpa using hmx, .inr ⟨b', cap', _, zs, by simpa using e, rfl, hblk, ?_, ?_, by simpa using hcap, hn⟩⟩, trivial⟩ (by simp) (fun c hc' => ?_)
      · have hne : c ≠ b' := fun e' => by rw [e', hn o] at e; cases e
        exact (World.cell?_of_block (w := w) (r3 c hne)).trans (h1.cell c o v e)
      · rw [hl', List.append_assoc]
        refine q2.append ⟨_, ws, rfl, ⟨(l[i.toNat].set m.toNat (u8of b0)).map byteC, [], rfl, ⟨by simpa using hl, rfl⟩, rfl⟩, q3⟩
      · simp only [List.length_append, List.length_map, List.length_set] at hlen ⊢; exact hlen
      · simp at hc'
        subst hc'
        have := h6 c (by simp)
        exact ⟨by rw [r4]; exact this, .inl (by simp)⟩
def tupAt (i : Nat) (v : Value) : Value := match v with | .tuple xs => xs[i]?.getD .nilIface | _ => .nilIface
theorem op_extract_own {α : Type} {t k : Nat} {v : Value} {T : TypeId} {sz : Nat} {c : α → List Ck} {xs : List α} (i j : Nat) (he : nthD .none N i = .slot t (eqVP v)) (hr : nthD .none N j = .res (own (tupAt k v) T sz c xs)) :
    OpOk P G ⟨some d, .extract (.tmp t) k, ty, pos, af, gd⟩ N [] (fun _ => [.slot d (eqVP (tupAt k v))]) :=
  OpOk.val fun Φ a w f _ hG hN => by
    have hv : a.eval (.tmp t) = v := opt (G := G) i he Φ a w f hG hN
    have hsl : ∃ x n m, tupAt k v = .slice x n m := by
      obtain ⟨g, _, ⟨h, _⟩ | ⟨b, cap, cs, zs, h, _⟩⟩ := hN.res j hr
      · exact ⟨_, _, _, h⟩
      · exact ⟨_, _, _, h⟩
    obtain ⟨x, n, m, hx⟩ := hsl
    refine ⟨tupAt k v, ?_, rfl⟩
    simp only [execOp, hv]
    cases v with
    | tuple vs =>
      unfold tupAt at hx ⊢
      cases hk : vs[k]? with
      | none => simp [hk] at hx
      | some u => simp [Instr.extract, hk]
    | _ => cases hx
end ops
/-- Two such slices, handed back. -/
theorem ret2own {P : Program} {fn : Func} {r0 r1 : ResultVar} {c : Cx} {l : List Ent} {a : Act} {w : World} {u0 u1 : Value} (h : SatL c l a w) (hr : fn.results = #[r0, r1]) (h0 : ROk P c l r0 (eqVP u0)) (h1 : ROk P c l r1 (eqVP u1)) (js : List Nat) (post : Value → List RP) (hd : distinct js = true) (hlt : (js.all fun j => decide (j < l.length)) = true) (hR : (post (.tuple #[u0, u1])).map .res = js.map (nthD .none l)) :
    RetOk P fn c anyVP post a w := by
  obtain ⟨Φ, fp, h⟩ := h
  obtain ⟨v0, k1, k2⟩ := h0 a w Φ fp h
  obtain ⟨v1, k3, k4⟩ := h1 a w Φ fp h
  obtain ⟨fs, q1, q2, q3⟩ := h.resl js hd (fun j hj => by simpa using (List.all_eq_true.1 hlt) j hj) (post (.tuple #[u0, u1])) hR
  have k2 : v0 = u0 := k2
  have k4 : v1 = u1 := k4
  subst k2 k4
  refine ⟨h.defers, .tuple #[v0, v1], Φ, fs, ?_, h.step, h.pub, trivial, q1, q2, q3⟩
  rw [results_rval, hr]
  simp [k1, k3]
theorem PubAt.of_eq {Φ : Pub} {b : Nat} {cs : List Value} (h : ∀ o, Φ b o = cs[o]?) : PubAt Φ b 0 cs := fun j v hj => by rw [Nat.zero_add, h]; exact hj
/-- Such a slice is published: from then on it only grows. -/
theorem SatL.ownacc {c : Cx} {l : List Ent} {a : Act} {w : World} {α : Type} {v : Value} {T : TypeId} {sz : Nat} {ck : α → List Ck} {xs : List α} (h : SatL c l a w) (j : Nat) (hj : nthD .none l j = .res (own v T sz ck xs)) : SatL c (l.set j (.res (acc v T sz ck xs))) a w := by
  obtain ⟨Φ, fp, h⟩ := h
  have hjl := nthD_lt hj (by simp)
  have hx := h.holds j hjl
  rw [hj] at hx
  have hset : ∀ i, i ≠ j → nthD Ent.none (l.set j (.res (acc v T sz ck xs))) i = nthD .none l i := fun i hi => by rw [nthD_set, if_neg (fun hc => hi hc.1.symm)]
  have hsame : nthD Ent.none (l.set j (.res (acc v T sz ck xs))) j = .res (acc v T sz ck xs) := by rw [nthD_set, if_pos ⟨rfl, hjl⟩]
  obtain ⟨hm, ⟨hv, hxs, hf⟩ | ⟨b, cap, cs, zs, hv, hf, hb, hA, hlen, hcap, hn⟩⟩ := hx
  · refine ⟨Φ, fp, h.defers, h.size, h.pub, h.know, h.step, fun i hi => ?_, fun i hi => h.own i (by simpa using hi), fun i k hi hk => h.apart i k (by simpa using hi) (by simpa using hk)⟩
    have hi : i < l.length := by simpa using hi
    by_cases q : i = j
    · subst q; rw [hsame]; exact ⟨hm, .inl ⟨hv, hxs, hf⟩⟩
    · rw [hset i q]; exact h.holds i hi
  · have hown := (h.own j hjl).2 b (by rw [hf]; simp)
    let Φ' : Pub := fun b' o => if b' = b then cs[o]? else Φ b' o
    have hle : Pub.le Φ Φ' := fun b' o v e => by
      by_cases hbb : b' = b
      · rw [hbb, hn o] at e; cases e
      · simp only [Φ', if_neg hbb]; exact e
    have hap : ∀ i, i < l.length → i ≠ j → ∀ x ∈ fp i, x ≠ b := fun i hi hne x hx e => h.apart i j hi hjl hne x hx (by rw [hf, e]; simp)
    refine ⟨Φ', fp, h.defers, h.size, ⟨fun b' o v e => ?_, fun b' o v e => ?_⟩, c.G.mono hle h.know, h.step.trans (G := [b]) ⟨rfl, rfl, rfl, Nat.le_refl _, fun _ _ _ => rfl, hle, fun b' _ hne => by funext o; simp only [Φ', if_neg (by simpa using hne : ¬ b' = b)]⟩ (fun b' hb' hlt => by
      simp only [List.mem_singleton] at hb'
      subst hb'
      rcases hown.2 with q | q
      · exact q
      · omega), fun i hi => ?_, fun i hi => h.own i (by simpa using hi), fun i k hi hk => h.apart i k (by simpa using hi) (by simpa using hk)⟩
    · by_cases hbb : b' = b
      · rw [hbb]; exact hown.1
      · simp only [Φ', if_neg hbb] at e; exact h.pub.lt b' o v e
    · by_cases hbb : b' = b
      · subst hbb
        simp only [Φ', if_pos trivial] at e
        rw [cell_of hb]
        have : o < cs.length := by
          rcases Nat.lt_or_ge o cs.length with q | q
          · exact q
          · rw [List.getElem?_eq_none q] at e; cases e
        rw [List.getElem?_append_left this]; exact e
      · simp only [Φ', if_neg hbb] at e; exact h.pub.cell b' o v e
    · have hi : i < l.length := by simpa using hi
      by_cases q : i = j
      · subst q
        rw [hsame]
        exact ⟨hm, .inr ⟨b, cap, cs, zs, hv, hf, hb, hA.mono hle, hlen, hcap, PubAt.of_eq (fun o => by simp only [Φ', if_pos trivial]), fun o ho => by simp only [Φ', if_pos trivial]; exact List.getElem?_eq_none ho⟩⟩
      · rw [hset i q]
        exact Ent.holds_mono (h.holds i hi) hle (fun x hx => by funext o; simp only [Φ', if_neg (hap i hi q x hx)]) (fun _ _ => rfl) (fun _ _ => rfl)
end Go.Proofs.YtklikgigjdgjaaaGreatDoorRRR
