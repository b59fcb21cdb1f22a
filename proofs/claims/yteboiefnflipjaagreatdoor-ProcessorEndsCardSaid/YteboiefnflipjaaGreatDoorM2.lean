/- The program logic, as far as this claim leans on it: part 2. -/
import Derived.Test.YteboiefnflipjaaGreatDoorM1
namespace Go.Proofs.YteboiefnflipjaaGreatDoor
section
open Go Go.RowKit Go.Proofs
set_option linter.unusedVariables false
set_option linter.unusedSimpArgs false

def own {α : Type} (v : Value) (T : TypeId) (sz : Nat) (c : α → List Ck) (xs : List α) : RP := ⟨fun Φ f w => xs.length ≤ CG ∧ ((v = .slice none 0 0 ∧ xs = [] ∧ f = []) ∨
    ∃ b cap cs zs, v = .slice (some ⟨b, 0, none⟩) xs.length cap ∧ f = [b] ∧ w.heap[b]? = some (.cells (cs ++ zs).toArray T (0, 0)) ∧ CS Φ c cs xs ∧ (cs ++ zs).length = cap * sz ∧ xs.length ≤ cap ∧ ∀ o, Φ b o = none), by
  rintro Φ Φ' f w w' hle hs hb ⟨hm, ⟨h1, h2, h3⟩ | ⟨b, cap, cs, zs, h1, h2, h3, h4, h5, h6, h8⟩⟩
  · exact ⟨hm, .inl ⟨h1, h2, h3⟩⟩
  · refine ⟨hm, .inr ⟨b, cap, cs, zs, h1, h2, ?_, h4.mono hle, h5, h6, fun o => ?_⟩⟩
    · rw [hb b (by simp [h2])]; exact h3
    · rw [hs b (by simp [h2])]; exact h8 o⟩
theorem Ar.NR {c : Cx} {l : List B1} {a : Act} {w : World} {α : Type} (T : TypeId) (sz : Nat) (ck : α → List Ck) (h : Ar c l a w) : Ar c (l ++ [.res (own (.slice none 0 0) T sz ck ([] : List α))]) a w := by
  obtain ⟨Φ, fp, h⟩ := h
  have hx : ∀ i, i < l.length → Br B1.none (l ++ [.res (own (.slice none 0 0) T sz ck ([] : List α))]) i = Br .none l i := fun i hi => by rw [B8, if_pos hi]
  refine ⟨Φ, fun i => if i < l.length then fp i else [], h.defers, h.size, h.I0, h.G3, h.step, fun i hi => ?_, fun i hi => ?_, fun i j hi hj hne => ?_⟩
  · by_cases hlt : i < l.length
    · rw [hx i hlt]; simp only [if_pos hlt]; exact h.holds i hlt
    · have : i = l.length := by simp at hi; omega
      subst this
      rw [B8, if_neg hlt]
      simp only [if_neg hlt]
      simp only [Nat.sub_self]
      exact ⟨by simp [CG], .inl ⟨rfl, rfl, rfl⟩⟩
  · by_cases hlt : i < l.length
    · simp only [if_pos hlt]; exact h.own i hlt
    · simp [hlt]
  · by_cases hlt : i < l.length
    · by_cases hlt2 : j < l.length
      · simp only [if_pos hlt, if_pos hlt2]; exact h.apart i j hlt hlt2 hne
      · simp [hlt2]
    · simp [hlt]
theorem LW {α : Type} {P : Program} {w : World} {sT xT ty e : TypeId} {i : TypeInfo} {z : Value} {u v : Value} {c : α → List Ck} {xs ys : List α} {ds : List Value} {Φ : BR} {f : List Nat} (hS : Src P w sT xT ty e i z u ys.length ds) (hsz : ∀ x, lens (c x) = i.size) (hpos : 0 < i.size) (hzs : z.cells.size = i.size)
    (hP : Cv Φ w) (hf : ∀ b ∈ f, b < w.heap.size) (h : (own v e i.size c xs).p Φ f w) (hA : CS Φ c ds ys) (hm : xs.length + ys.length ≤ CG) (hb : (xs.length + ys.length) * i.bytes ≤ 140737488355328) :
    ∃ (v' : Value) (w' : World) (f' : List Nat), (Builtin.append_ #[sT, xT] ty #[v, u]).run P w = .ok v' w' ∧ (own v' e i.size c (xs ++ ys)).p Φ f' w' ∧ Step w Φ f w' Φ ∧ Cv Φ w' ∧ f'.Nodup ∧ ∀ b ∈ f', b < w'.heap.size ∧ (b ∈ f ∨ w.heap.size ≤ b) := by
  have hdl : ds.length = ys.length * i.size := hA.len hsz
  have h63 : ((xs.length + ys.length : Nat) : Int) ≤ 9223372036854775807 := by have := (FY hm).2; simp [IntKind.max, IntKind.bits, IntKind.signed] at this; omega
  have hnew : ∀ (cs : List Value) (cap : Nat) (v0 : Value), CS Φ c cs xs → xs.length + ys.length ≤ cap → v0 = .slice (some ⟨w.heap.size, 0, none⟩) (xs.length + ys.length) cap →
      ∀ w', w' = w.drew.alloc (.cells (cs.toArray ++ ds.toArray ++ Builtin.zeroCells z.cells (cap - (xs.length + ys.length))) e) →
      (Builtin.append_ #[sT, xT] ty #[v, u]).run P w = .ok v0 w' →
      ∃ (v' : Value) (w' : World) (f' : List Nat), (Builtin.append_ #[sT, xT] ty #[v, u]).run P w = .ok v' w' ∧ (own v' e i.size c (xs ++ ys)).p Φ f' w' ∧ Step w Φ f w' Φ ∧ Cv Φ w' ∧ f'.Nodup ∧ ∀ b ∈ f', b < w'.heap.size ∧ (b ∈ f ∨ w.heap.size ≤ b) := by
    intro cs cap v0 hcs hcap hv w' hw hr
    subst hw
    refine ⟨v0, _, [w.heap.size], hr, ⟨by simpa using hm, .inr ⟨w.heap.size, cap, cs ++ ds, (Builtin.zeroCells z.cells (cap - (xs.length + ys.length))).toList, by rw [hv]; simp, rfl, ?_, hcs.append hA, ?_, by simpa using hcap, fun o => ?_⟩⟩, ?_, ⟨fun b o v e => ?_, fun b o v e => ?_⟩, by simp, by simp⟩
    · rw [show w.heap.size = w.drew.heap.size from rfl, heap_alloc_new]
      congr 2
      apply Array.ext'
      simp
    · have h1 := hcs.len hsz
      simp only [List.length_append, h1, hdl, Hj, hzs]
      rw [← Nat.add_mul, ← Nat.add_mul]
      congr 1
      omega
    · cases e : Φ w.heap.size o with
      | none => rfl
      | some v => have := hP.lt _ o v e; omega
    · exact ⟨rfl, rfl, rfl, by simp, fun b hb _ => @Go.heap_alloc_old w.drew _ b hb, BR.le_refl _, fun b hb _ => rfl⟩
    · have := hP.lt b o v e
      simp; omega
    · rw [World.cell?_alloc_lt _ _ _ (show b < w.drew.heap.size from hP.lt b o v e)]
      exact hP.cell b o v e
  obtain ⟨hm0, ⟨rfl, rfl, rfl⟩ | ⟨b, cap, cs, zs, rfl, rfl, hblk, hcs, hlen, hcap, hfree⟩⟩ := h
  · by_cases h0 : ys.length = 0
    · have hy : ys = [] := List.eq_nil_of_length_eq_zero h0
      subst hy
      exact ⟨.slice none 0 0, w, [], hS.idle rfl, ⟨by simp [CG], .inl ⟨rfl, rfl, rfl⟩⟩, Step.refl _ _ _, hP, List.nodup_nil, by simp⟩
    · have hr := hS.fresh (by omega) (by simpa using h63) (by simp at hb; omega)
      refine hnew [] (grownCap w ys.length 0 e) _ rfl ?_ (by simp) _ ?_ hr
      · have := grownCap_ge w ys.length 0 e; simpa using this
      · simp
  · have hcl := hcs.len hsz
    by_cases hroom : xs.length + ys.length ≤ cap
    · have hfit : xs.length * i.size + ds.length ≤ (cs ++ zs).toArray.size := by
        simp only [List.size_toArray, hlen, hdl, ← Nat.add_mul]
        exact Nat.mul_le_mul_right _ hroom
      have hr := hS.room b xs.length cap (cs ++ zs).toArray hblk hroom hfit
      have hrow : ((cs ++ zs).toArray.toList.take (xs.length * i.size) ++ ds ++ (cs ++ zs).toArray.toList.drop (xs.length * i.size + ds.length)) = cs ++ ds ++ zs.drop ds.length := by
        simp only [← hcl]
        rw [List.take_left, List.drop_length_add_append]
      rw [hrow] at hr
      have hb0 := hf b (by simp)
      have hnb : (w.setRow b (cs ++ ds ++ zs.drop ds.length).toArray).heap[b]? = some (.cells (cs ++ ds ++ zs.drop ds.length).toArray e (0, 0)) := setRow_heap w b _ _ e _ hblk
      refine ⟨_, _, [b], hr, ⟨by simpa using hm, .inr ⟨b, cap, cs ++ ds, zs.drop ds.length, by simp, rfl, hnb, hcs.append hA, ?_, by simpa using hroom, hfree⟩⟩, ?_, ⟨fun b' o v' e' => ?_, fun b' o v' e' => ?_⟩, by simp, by simpa using hb0⟩
      · simp only [List.length_append, List.length_drop] at hlen ⊢
        have : (xs.length + ys.length) * i.size ≤ cap * i.size := Nat.mul_le_mul_right _ hroom
        rw [Nat.add_mul] at this
        omega
      · exact ⟨rfl, rfl, rfl, by simp, fun b' hb' hne => setRow_other w b b' _ (by simpa using hne), BR.le_refl _, fun b' hb' hne => rfl⟩
      · rw [setRow_size]; exact hP.lt b' o v' e'
      · by_cases hbb : b' = b
        · subst hbb; rw [hfree o] at e'; cases e'
        · exact (World.cell?_of_block (w := w) (setRow_other w b b' _ hbb)).trans (hP.cell b' o v' e')
    · have hold : ∀ j v, cs[j]? = some v → w.cell? ((⟨b, 0, none⟩ : Addr).add j) = some v := fun j v hj => by
        rw [Addr.add_lit, Nat.zero_add, cell_of hblk]
        have : j < cs.length := by
          rcases Nat.lt_or_ge j cs.length with q | q
          · exact q
          · rw [List.getElem?_eq_none q] at hj; cases hj
        rw [List.getElem?_append_left this]; exact hj
      have hr := hS.grow ⟨b, 0, none⟩ xs.length cap cs hcl hold hcap (by omega) h63 (growslice_fits (by omega) hb)
      refine hnew cs (grownCap w (xs.length + ys.length) cap e) _ hcs (grownCap_ge w _ _ e) rfl _ rfl hr
section ops
variable {P : Program} {G : FP} {N : List B1} {d : Nat} {ty : TypeId} {pos : String} {af : Array Edge} {gd : Option (Nat × Bool)}
theorem IP {α : Type} {v : Value} {e sT xT : TypeId} {i : TypeInfo} {z : Value} {c : α → List Ck} {xs ys : List α} {s x : Operand} (hsz : ∀ x, lens (c x) = i.size) (hpos : 0 < i.size) (hzs : z.cells.size = i.size) (hs : AM G N s (Am v))
    (hx : ∀ (Φ : BR) (a : Act) (w : World) (f : List (List Nat)), Cv Φ w → G.p Φ → BT Φ a.tmps w N f → ∃ ds, Src P w sT xT ty e i z (a.eval x) ys.length ds ∧ CS Φ c ds ys) (hm : xs.length + ys.length ≤ CG) (hb : (xs.length + ys.length) * i.bytes ≤ 140737488355328) :
    Ba P G ⟨some d, .call ⟨.builtin .append, #[s, x], #[sT, xT]⟩, ty, pos, af, gd⟩ N [.res (own v e i.size c xs)] (fun v' => [.slot d (Am v'), .res (own v' e i.size c (xs ++ ys))]) := by
  intro Φ a w fN fC h1 h2 h3 h4 h5 h6 h7 K Q hK
  match fC, h4 with
  | [f], ⟨hacc, _⟩ =>
  obtain ⟨ds, hS, hA⟩ := hx Φ a w fN h1 h2 h3
  have hv : a.eval s = v := hs Φ a w fN h2 h3
  obtain ⟨v', w', f', hr, hacc', hst, hP', hnd, hfb⟩ := LW hS hsz hpos hzs h1 (fun b hb => h6 b (by simp [hb])) hacc hA hm hb
  have hrun : (execOp a.eval ⟨some d, .call ⟨.builtin .append, #[s, x], #[sT, xT]⟩, ty, pos, af, gd⟩).run P w = .ok (.value v') w' := by
    simp only [execOp, resolve, List.map_toArray, List.map_cons, List.map_nil, hv, Sem.run_bind, Sem.run_pure, Result.andThen_ok, invoke, builtin, hr]
  unfold Oper.wp
  rw [hrun, Oper.upon_value]
  exact hK v' w' Φ [[], f'] (by simpa using hst) hP' ⟨⟨rfl, v', C0 a v' d (h7 d rfl), rfl⟩, hacc', trivial⟩ (by simpa using hnd) (by simpa using hfb)
theorem GB {α : Type} {v : Value} {e sT : TypeId} {i : TypeInfo} {z : Value} {c : α → List Ck} {xs ys : List α} {s x : Operand} (ht : P.underlying sT = some (.slice e)) (hi : P.info? e = some i) (hz : i.zero = some z) (hsz : ∀ x, lens (c x) = i.size) (hpos : 0 < i.size) (hzs : z.cells.size = i.size)
    (hs : AM G N s (Am v)) (hx : AM G N x (An c ys)) (hb : xs.length + ys.length ≤ CG ∧ (xs.length + ys.length) * i.bytes ≤ 140737488355328) :
    Ba P G ⟨some d, .call ⟨.builtin .append, #[s, x], #[sT, sT]⟩, ty, pos, af, gd⟩ N [.res (own v e i.size c xs)] (fun v' => [.slot d (Am v'), .res (own v' e i.size c (xs ++ ys))]) :=
  IP hsz hpos hzs hs (fun Φ a w f hP hG hN => by
    obtain ⟨_, ⟨hv, rfl⟩ | ⟨b, o, cap, ds, hv, _, hA, hp⟩ | ⟨rfl, b, cap, hv⟩⟩ := hx Φ a w f hG hN
    · rw [hv]; exact ⟨[], Src.nil ht hi, rfl⟩
    rotate_left
    · rw [hv]; exact ⟨[], Src.slice ht hi hz (by simp) (fun j v hj => by simp at hj) (by simp), rfl⟩
    · rw [hv]; exact ⟨ds, Src.slice ht hi hz (hA.len hsz) (fun j v hj => by rw [Addr.add_lit]; exact hP.cell _ _ _ (hp j v hj)) hA.cell, hA⟩) hb.1 hb.2
def Lq (q : Value) (off : Nat) : VP := ⟨fun _ v => ∃ b len cap, q = .slice (some ⟨b, 0, none⟩) len cap ∧ v = .pointer (some ⟨b, off, none⟩), fun _ h => h⟩
theorem Gp {α : Type} {t e : TypeId} {x : Nat} {y : Operand} {c : α → List Ck} {xs : List α} {k : IntKind} {i : Int} {sz : Nat} {q : Value} (i0 j : Nat) (hu : P.underlying t = some (.slice e)) (hs : ∀ w, (sizeOf e).run P w = .ok sz w)
    (hx : Br .none N i0 = .slot x (Am q)) (hr : Br .none N j = .res (own q e sz c xs)) (hy : AM G N y (Ab k i)) (hi : 0 ≤ i ∧ i < xs.length) : Ba P G ⟨some d, .indexAddr t (.tmp x) y, ty, pos, af, gd⟩ N [] (fun _ => [.slot d (Lq q (i.toNat * sz))]) :=
  Ba.val fun Φ a w f _ hG hN => by
    obtain ⟨hy1, _⟩ := hy Φ a w f hG hN
    have hv : a.eval (.tmp x) = q := opt (G := G) i0 hx Φ a w f hG hN
    obtain ⟨g, _, ⟨_, rfl, _⟩ | ⟨b, cap, cs, zs, hq, _⟩⟩ := hN.res j hr
    · simp at hi; omega
    · refine ⟨.pointer (some ⟨b, i.toNat * sz, none⟩), ?_, b, _, _, hq, rfl⟩
      simp only [execOp, hv, hy1, hq]
      simp [Instr.indexAt, run_underlying hu, asIntOf, hi, hs, Addr.add_lit]
end ops
theorem EE.of_eq {Φ : BR} {b : Nat} {cs : List Value} (h : ∀ o, Φ b o = cs[o]?) : EE Φ b 0 cs := fun j v hj => by rw [Nat.zero_add, h]; exact hj
theorem Ar.Kq {c : Cx} {l : List B1} {a : Act} {w : World} {α : Type} {v : Value} {T : TypeId} {sz : Nat} {ck : α → List Ck} {xs : List α} (h : Ar c l a w) (j : Nat) (hj : Br .none l j = .res (own v T sz ck xs)) : Ar c (l.set j (.res (acc v T sz ck xs))) a w := by
  obtain ⟨Φ, fp, h⟩ := h
  have hjl := Dv hj (by simp)
  have hx := h.holds j hjl
  rw [hj] at hx
  have hset : ∀ i, i ≠ j → Br B1.none (l.set j (.res (acc v T sz ck xs))) i = Br .none l i := fun i hi => by rw [Di, if_neg (fun hc => hi hc.1.symm)]
  have hsame : Br B1.none (l.set j (.res (acc v T sz ck xs))) j = .res (acc v T sz ck xs) := by rw [Di, if_pos ⟨rfl, hjl⟩]
  obtain ⟨hm, ⟨hv, hxs, hf⟩ | ⟨b, cap, cs, zs, hv, hf, hb, hA, hlen, hcap, hn⟩⟩ := hx
  · refine ⟨Φ, fp, h.defers, h.size, h.I0, h.G3, h.step, fun i hi => ?_, fun i hi => h.own i (by simpa using hi), fun i k hi hk => h.apart i k (by simpa using hi) (by simpa using hk)⟩
    have hi : i < l.length := by simpa using hi
    by_cases q : i = j
    · subst q; rw [hsame]; exact ⟨hm, .inl ⟨hv, hxs, hf⟩⟩
    · rw [hset i q]; exact h.holds i hi
  · have hown := (h.own j hjl).2 b (by rw [hf]; simp)
    let Φ' : BR := fun b' o => if b' = b then cs[o]? else Φ b' o
    have hle : BR.le Φ Φ' := fun b' o v e => by
      by_cases hbb : b' = b
      · rw [hbb, hn o] at e; cases e
      · simp only [Φ', if_neg hbb]; exact e
    have hap : ∀ i, i < l.length → i ≠ j → ∀ x ∈ fp i, x ≠ b := fun i hi hne x hx e => h.apart i j hi hjl hne x hx (by rw [hf, e]; simp)
    refine ⟨Φ', fp, h.defers, h.size, ⟨fun b' o v e => ?_, fun b' o v e => ?_⟩, c.G.mono hle h.G3, h.step.trans (G := [b]) ⟨rfl, rfl, rfl, Nat.le_refl _, fun _ _ _ => rfl, hle, fun b' _ hne => by funext o; simp only [Φ', if_neg (by simpa using hne : ¬ b' = b)]⟩ (fun b' hb' hlt => by
      simp only [List.mem_singleton] at hb'
      subst hb'
      rcases hown.2 with q | q
      · exact q
      · omega), fun i hi => ?_, fun i hi => h.own i (by simpa using hi), fun i k hi hk => h.apart i k (by simpa using hi) (by simpa using hk)⟩
    · by_cases hbb : b' = b
      · rw [hbb]; exact hown.1
      · simp only [Φ', if_neg hbb] at e; exact h.I0.lt b' o v e
    · by_cases hbb : b' = b
      · subst hbb
        simp only [Φ', if_pos trivial] at e
        rw [cell_of hb]
        have : o < cs.length := by
          rcases Nat.lt_or_ge o cs.length with q | q
          · exact q
          · rw [List.getElem?_eq_none q] at e; cases e
        rw [List.getElem?_append_left this]; exact e
      · simp only [Φ', if_neg hbb] at e; exact h.I0.cell b' o v e
    · have hi : i < l.length := by simpa using hi
      by_cases q : i = j
      · subst q
        rw [hsame]
        exact ⟨hm, .inr ⟨b, cap, cs, zs, hv, hf, hb, hA.mono hle, hlen, hcap, EE.of_eq (fun o => by simp only [Φ', if_pos trivial]), fun o ho => by simp only [Φ', if_pos trivial]; exact List.getElem?_eq_none ho⟩⟩
      · rw [hset i q]
        exact B1.F1 (h.holds i hi) hle (fun x hx => by funext o; simp only [Φ', if_neg (hap i hi q x hx)]) (fun _ _ => rfl) (fun _ _ => rfl)

end
section
open Go Go.RowKit Go.Proofs
set_option linter.unusedVariables false
set_option linter.unusedSimpArgs false

def Mu : VP := ⟨fun _ v => v = .slice none 0 0 ∨ ∃ a, v = .slice (some a) 0 0, fun _ h => h⟩
section ops
variable {P : Program} {G : FP} {N : List B1} {d : Nat} {ty : TypeId} {pos : String} {af : Array Edge} {gd : Option (Nat × Bool)}
theorem IK {w : World} {sT ty e : TypeId} {i : TypeInfo} (ht : P.underlying sT = some (.slice e)) (hi : P.info? e = some i) (a : Addr) (u : Value) (hu : u = .slice none 0 0 ∨ ∃ b cap, u = .slice (some b) 0 cap) :
    (Builtin.append_ #[sT, sT] ty #[.slice (some a) 0 0, u]).run P w = .ok (.slice (some a) 0 0) w := by
  rcases hu with rfl | ⟨b, cap, rfl⟩
  · simp [Builtin.append_, run_underlying ht, sizeOf, typeInfo, hi, Builtin.lenOf, Builtin.firstCells, storeCells]
  · simp [Builtin.append_, run_underlying ht, sizeOf, typeInfo, hi, Builtin.lenOf, Builtin.firstCells, storeCells, loadCells, loadCellsFrom]
theorem Hl {α : Type} {e sT : TypeId} {i : TypeInfo} {z : Value} {c : α → List Ck} {ys : List α} {s x : Operand} (ht : P.underlying sT = some (.slice e)) (hi : P.info? e = some i) (hz : i.zero = some z) (hsz : ∀ x, lens (c x) = i.size) (hpos : 0 < i.size) (hzs : z.cells.size = i.size)
    (hs : AM G N s Mu) (hx : AM G N x (An c ys)) (hb : ys.length * i.bytes ≤ 140737488355328) :
    Ba P G ⟨some d, .call ⟨.builtin .append, #[s, x], #[sT, sT]⟩, ty, pos, af, gd⟩ N [] (fun _ => [.slot d (An c ys)]) := by
  intro Φ a w fN fC h1 h2 h3 h4 h5 h6 h7 K Q hK
  match fC, h4 with
  | [], _ =>
  have hxv := hx Φ a w fN h2 h3
  have hsv := hs Φ a w fN h2 h3
  have hmx := hxv.1
  have h63 : ((ys.length : Nat) : Int) ≤ 9223372036854775807 := by have := (FY hmx).2; simp [IntKind.max, IntKind.bits, IntKind.signed] at this; omega
  have hexec : ∀ v' w', (Builtin.append_ #[sT, sT] ty #[a.eval s, a.eval x]).run P w = .ok v' w' → (execOp a.eval ⟨some d, .call ⟨.builtin .append, #[s, x], #[sT, sT]⟩, ty, pos, af, gd⟩).run P w = .ok (.value v') w' := by
    intro v' w' hr
    simp only [execOp, resolve, List.map_toArray, List.map_cons, List.map_nil, Sem.run_bind, Sem.run_pure, Result.andThen_ok, invoke, builtin, hr]
  by_cases h0 : ys.length = 0
  · have hy : ys = [] := List.eq_nil_of_length_eq_zero h0
    subst hy
    have hxe : a.eval x = .slice none 0 0 ∨ ∃ b cap, a.eval x = .slice (some b) 0 cap := by
      rcases hxv.2 with ⟨h, _⟩ | ⟨b, o, cap, cs, h, _⟩ | ⟨_, b, cap, h⟩
      · exact .inl h
      · exact .inr ⟨_, _, h⟩
      · exact .inr ⟨_, _, h⟩
    rcases hsv with hv | ⟨ad, hv⟩
    · have hr : (Builtin.append_ #[sT, sT] ty #[a.eval s, a.eval x]).run P w = .ok (.slice none 0 0) w := by
        rw [hv]
        rcases hxe with h | ⟨b, cap, h⟩
        · rw [h]; exact (Src.nil (w := w) (z := z) ht hi).idle rfl
        · rw [h]; exact (Src.slice (w := w) (z := z) (n := 0) (ds := []) ht hi hz (by simp) (fun j v hj => by simp at hj) (by simp)).idle rfl
      unfold Oper.wp
      rw [hexec _ _ hr, Oper.upon_value]
      exact hK _ w Φ [[]] (Step.refl _ _ _) h1 ⟨⟨rfl, _, C0 a _ d (h7 d rfl), by simp [CG], .inl ⟨rfl, rfl⟩⟩, trivial⟩ (by simp) (by simp)
    · have hr : (Builtin.append_ #[sT, sT] ty #[a.eval s, a.eval x]).run P w = .ok (.slice (some ad) 0 0) w := by
        rw [hv]; exact IK ht hi ad _ hxe
      unfold Oper.wp
      rw [hexec _ _ hr, Oper.upon_value]
      exact hK _ w Φ [[]] (Step.refl _ _ _) h1 ⟨⟨rfl, _, C0 a _ d (h7 d rfl), by simp [CG], .inr (.inr ⟨rfl, ad, 0, rfl⟩)⟩, trivial⟩ (by simp) (by simp)
  · obtain ⟨ds, hS, hA⟩ : ∃ ds, Src P w sT sT ty e i z (a.eval x) ys.length ds ∧ CS Φ c ds ys := by
      rcases hxv.2 with ⟨h, rfl⟩ | ⟨b, o, cap, ds, hv, _, hA, hp⟩ | ⟨rfl, b, cap, hv⟩
      · exact absurd rfl h0
      · rw [hv]; exact ⟨ds, Src.slice ht hi hz (hA.len hsz) (fun j v hj => by rw [Addr.add_lit]; exact h1.cell _ _ _ (hp j v hj)) hA.cell, hA⟩
      · exact absurd rfl h0
    have hdl : ds.length = ys.length * i.size := hA.len hsz
    have hnew : ∃ cap, ys.length ≤ cap ∧ (Builtin.append_ #[sT, sT] ty #[a.eval s, a.eval x]).run P w = .ok (.slice (some ⟨w.heap.size, 0, none⟩) ys.length cap) (w.drew.alloc (.cells (ds.toArray ++ Builtin.zeroCells z.cells (cap - ys.length)) e)) := by
      rcases hsv with hv | ⟨ad, hv⟩
      · refine ⟨grownCap w ys.length 0 e, by have := grownCap_ge w ys.length 0 e; simpa using this, ?_⟩
        rw [hv]; exact hS.fresh (by omega) h63 (by omega)
      · refine ⟨grownCap w (0 + ys.length) 0 e, by have := grownCap_ge w (0 + ys.length) 0 e; simpa using this, ?_⟩
        rw [hv]
        have hr := hS.grow ad 0 0 [] (by simp) (fun j v hj => by simp at hj) (Nat.le_refl _) (by omega) (by simpa using h63) (growslice_fits (by omega) (by simpa using hb))
        simpa using hr
    obtain ⟨cap, hcap, hr⟩ := hnew
    let Φ' : BR := fun b o => if b = w.heap.size then ds[o]? else Φ b o
    have hle : BR.le Φ Φ' := fun b o v e => by
      have := h1.lt b o v e
      simp only [Φ', if_neg (by omega : ¬ b = w.heap.size)]
      exact e
    unfold Oper.wp
    rw [hexec _ _ hr, Oper.upon_value]
    refine hK _ _ Φ' [[]] ⟨rfl, rfl, rfl, by simp, fun b hb _ => @Go.heap_alloc_old w.drew _ b hb, hle, fun b hb _ => by funext o; simp only [Φ', if_neg (by omega : ¬ b = w.heap.size)]⟩ ⟨fun b o v e => ?_, fun b o v e => ?_⟩
      ⟨⟨rfl, _, C0 a _ d (h7 d rfl), hmx, .inr (.inl ⟨w.heap.size, 0, cap, ds, rfl, hcap, hA.mono hle, fun j v hj => by simp only [Φ', if_pos trivial, Nat.zero_add]; exact hj⟩)⟩, trivial⟩ (by simp) (by simp)
    · by_cases hbb : b = w.heap.size
      · simp [hbb]
      · simp only [Φ', if_neg hbb] at e
        have := h1.lt b o v e
        simp; omega
    · by_cases hbb : b = w.heap.size
      · subst hbb
        simp only [Φ', if_pos trivial] at e
        rw [show w.heap.size = w.drew.heap.size from rfl, World.cell?_alloc_new]
        have hlt : o < ds.length := by
          rcases Nat.lt_or_ge o ds.length with q | q
          · exact q
          · rw [List.getElem?_eq_none q] at e; cases e
        rw [Array.getElem?_append_left (by simpa using hlt)]
        simpa using e
      · simp only [Φ', if_neg hbb] at e
        rw [World.cell?_alloc_lt _ _ _ (show b < w.drew.heap.size from h1.lt b o v e)]
        exact h1.cell b o v e
end ops

end
section
open Go Go.RowKit Go.Proofs
set_option linter.unusedVariables false
set_option linter.unusedSimpArgs false

def Gf {α : Type} (xs : List α) : VP := ⟨fun _ v => ∃ b : Bool, v = .bool b ∧ (b = true → xs = []), fun _ h => h⟩
theorem Hc {P : Program} {α : Type} {c : α → List Ck} {xs : List α} {t e : TypeId} (hu : P.underlying t = some (.slice e)) : II P .eql t (An c xs) (Am (.slice none 0 0)) (Gf xs) := by
  rintro Φ u v w x y ⟨_, hx⟩ hv
  have hv : v = .slice none 0 0 := hv
  subst hv
  have hrun : ∀ (a : Option Addr) (n cap : Nat), (do eqGuard .eql t x y (.slice a n cap) (.slice none 0 0); binOp .eql t (.slice a n cap) (.slice none 0 0) : Sem Value).run P w = .ok (.bool a.isNone) w := by
    intro a n cap
    simp only [eqGuard_at_slice, binOp]
    simp [Op.equal, Op.maxDepth, Lib.run_equalIn_slice_nil w 9999 t e a n cap 0 0 hu]
  rcases hx with ⟨rfl, rfl⟩ | ⟨b, o, cap, cs, rfl, _⟩ | ⟨rfl, a, cap, rfl⟩
  · exact ⟨_, hrun _ _ _, _, rfl, fun _ => rfl⟩
  · exact ⟨_, hrun _ _ _, _, rfl, fun h => by cases h⟩
  · exact ⟨_, hrun _ _ _, _, rfl, fun _ => rfl⟩
theorem Ar.OT {c : Cx} {l : List B1} {a : Act} {w : World} {α : Type} {xs : List α} {d : Nat} (h : Ar c l a w) (i : Nat) (he : Br .none l i = .slot d (Gf xs)) : ∃ b : Bool, (b = true → xs = []) ∧ Ar c (l.set i (.slot d (AE b))) a w := by
  obtain ⟨Φ, fp, h0⟩ := h
  have hi := Dv he (by simp)
  have hx := h0.holds i hi
  rw [he] at hx
  obtain ⟨hf, v, hv, b, hb, hq⟩ := hx
  subst hb
  refine ⟨b, hq, Φ, fp, h0.defers, h0.size, h0.I0, h0.G3, h0.step, fun j hj => ?_, fun j hj => h0.own j (by simpa using hj), fun j k hj hk => h0.apart j k (by simpa using hj) (by simpa using hk)⟩
  have hj : j < l.length := by simpa using hj
  by_cases e : i = j
  · subst e
    rw [Di, if_pos ⟨rfl, hi⟩]
    exact ⟨hf, _, hv, rfl⟩
  · rw [Di, if_neg (fun hc => e hc.1)]
    exact h0.holds j hj
section ops
variable {P : Program} {G : FP} {N : List B1} {d : Nat} {ty : TypeId} {pos : String} {af : Array Edge} {gd : Option (Nat × Bool)}
theorem Mj {t e : TypeId} {sz : Nat} (hu : P.underlying t = some (.slice e)) (hs : ∀ w, (sizeOf e).run P w = .ok sz w) {z : Value} (hz : ∀ w, (zeroValue e).run P w = .ok z w) :
    Ba P G ⟨some d, .buildSlice t 0 #[], ty, pos, af, gd⟩ N [] (fun _ => [.slot d Mu]) := by
  intro Φ a w fN fC h1 h2 h3 h4 h5 h6 h7 K Q hK
  match fC, h4 with
  | [], _ =>
    have hrun : (execOp a.eval ⟨some d, .buildSlice t 0 #[], ty, pos, af, gd⟩).run P w = .ok (.value (.slice (some ⟨w.heap.size, 0, none⟩) 0 0)) (w.alloc (.cells #[] e)) := by
      simp [execOp, Instr.buildSlice, run_underlying hu, hs, hz, Instr.fill, newRow]
      have e0 : (Array.range 0).map (fun _ => (default : Value)) = #[] := by apply Array.ext'; simp [Array.toList_range]
      rw [e0]
    unfold Oper.wp
    rw [hrun, Oper.upon_value]
    exact hK _ _ Φ [[]] (Gx w Φ _) (Ha h1 _) ⟨⟨rfl, _, C0 a _ d (h7 d rfl), .inr ⟨_, rfl⟩⟩, trivial⟩ (by simp) (by simp)
end ops
def RP.spare : RP := ⟨fun _ _ _ => True, fun _ _ _ _ => trivial⟩
theorem settle {α : Type} {p q : Value} {T T' : TypeId} {sz : Nat} {c : α → List Ck} {xs : List α} {pre post : List Ck} : RP.le (RP.sep (lb p T (pre ++ [one (Am q)] ++ post)) (acc q T' sz c xs)) (RP.sep (lb p T (pre ++ [one (An c xs)] ++ post)) RP.spare) := by
  rintro Φ f w ⟨f1, f2, rfl, ⟨b, cs, h1, h2, h3, hL, hn⟩, h4⟩
  refine ⟨f1, f2, rfl, ⟨b, cs, h1, h2, h3, ?_, hn⟩, trivial⟩
  obtain ⟨us, zs, rfl, g1, g2⟩ := hL.split
  obtain ⟨xs', ys, rfl, g3, ⟨y1, y2, rfl, ⟨v, rfl, hv1, hv2⟩, hy2⟩⟩ := g1.split
  have hv2 : v = q := hv2
  subst hv2
  exact (g3.append (M := [one (An c xs)]) ⟨[v], y2, rfl, ⟨v, rfl, hv1, Iu h4⟩, hy2⟩).append g2

end
section
open Go Go.RowKit Go.Proofs

structure Kd where
  Cj : List Nat
  cons : List Nat
  Cu : List GE
def eN (E : List GE) (β : Nat → Value) (r : Nat) : B1 := (Br (.base .none) E r).at β

inductive Acc (P : Program) (G : FP) (ops : Array Oper) : List GE → Nat → List Oper → List Kd → Prop
  | nil {E : List GE} {i : Nat} : Acc P G ops E i [] []
  | cons {E : List GE} {i : Nat} {o : Oper} {l : List Oper} {ts : List Kd} (t : Kd)
    (h : ∀ β : Nat → Value, AV P G ops o (t.Cj.map (eN E β)) (t.cons.map (eN E β)) (fun v => t.Cu.map fun g => g.at fun k => if k = i then v else β k))
    (hr : Acc P G ops (E ++ t.Cu) (i + 1) l ts) : Acc P G ops E i (o :: l) (t :: ts)

def Ol (l m : List Nat) : List Nat := m.foldl (fun acc x => if acc.contains x then acc else x :: acc) l
def Qt (ops : Array Oper) (k : Nat) (b : List (List Nat)) : List (List Nat) := b ++ [(direct ops k).foldl (fun acc j => Ol (Ol acc [j]) (Br [] b j)) []]
def Pu (ops : Array Oper) : Nat → List (List Nat)
  | 0 => []
  | k + 1 => Qt ops k (Pu ops k)
def Pt : Nat → List (List Nat)
  | 0 => []
  | k + 1 => Pt k ++ [List.range k]
def RD (ops : Array Oper) : Bool → List (List Nat)
  | true => Pu ops ops.size
  | false => Pt ops.size
def J4 : Nat → List Kd → List Oper → List (List Nat) → List H2
  | s, t :: ts, o :: os, b :: bs => ⟨t.Cj, t.cons, List.range' s t.Cu.length, b, o.dst⟩ :: J4 (s + t.Cu.length) ts os bs
  | _, _, _, _ => []
def Mo : Nat → List Kd → List Nat
  | _, [] => []
  | i, t :: ts => t.Cu.map (fun _ => i) ++ Mo (i + 1) ts
def KW : List Kd → List GE
  | [] => []
  | t :: ts => t.Cu ++ KW ts
def QY : Nat → List Kd → Bool
  | _, [] => true
  | s, t :: ts => (t.Cj ++ t.cons).all (fun r => decide (r < s)) && QY (s + t.Cu.length) ts

theorem Acc.ok {P : Program} {G : FP} {ops : Array Oper} (p : Dd) : ∀ {l : List Oper} {E : List GE} {i : Nat} {ts : List Kd} {bs : List (List Nat)}, Acc P G ops E i l ts → bs.length = l.length → QY E.length ts = true →
    p.G4 = E ++ KW ts → (∀ j, p.op (i + j) = Br H2.none (J4 E.length ts l bs) j) → p.Ok P G ops l i
  | [], _, _, _, _, _, _, _, _, _ => trivial
  | o :: l, E, i, ts, bs, h, hb, hr, he, ho => by
    cases h with
    | @cons _ _ _ _ ts t h1 h2 =>
      cases bs with
      | nil => simp at hb
      | cons b bs =>
        simp only [QY, Bool.and_eq_true, List.all_eq_true, decide_eq_true_eq, List.mem_append] at hr
        have h0 := ho 0
        simp only [Nat.add_zero, J4, Br] at h0
        have hE : ∀ β r, r < E.length → p.E β r = eN E β r := fun β r hlt => by
          simp only [Dd.E, eN, he]
          rw [B8, if_pos hlt]
        have hg : ∀ β, (List.range' E.length t.Cu.length).map (p.E β) = t.Cu.map fun g => g.at β := fun β => by
          refine List.ext_getElem (by simp) fun k hk1 hk2 => ?_
          simp only [List.length_map, List.length_range'] at hk1
          simp only [List.getElem_map, List.getElem_range', Nat.one_mul, Dd.E, he, KW]
          rw [B8, if_neg (by omega), B8, if_pos (by omega), DI]
          simp [List.getD, show E.length + k - E.length = k by omega, hk1]
        refine ⟨⟨by rw [h0], fun β => ?_⟩, ?_⟩
        · rw [h0]
          have e1 : t.Cj.map (p.E β) = t.Cj.map (eN E β) := List.map_congr_left fun r hm => hE β r (hr.1 r (.inl hm))
          have e2 : t.cons.map (p.E β) = t.cons.map (eN E β) := List.map_congr_left fun r hm => hE β r (hr.1 r (.inr hm))
          simp only [e1, e2, hg]
          exact h1 β
        · refine Acc.ok p h2 (by simpa using hb) (by simpa using hr.2) (by rw [he, KW, List.append_assoc]) fun j => ?_
          have := ho (j + 1)
          simp only [J4, Br] at this
          rw [show i + 1 + j = i + (j + 1) by omega, this]
          simp

def lk (l : List B1) (N : List GE) (β : Nat → Value) (r : Nat) : B1 := bif Nat.ble 500 r then (Br (.base .none) N (r - 500)).at β else Br .none l r
def ab (m c r : Nat) : Nat := bif Nat.ble 500 r then m + (c - 1 - (r - 500)) else r
def Rc (m c r : Nat) : Bool := bif Nat.ble 500 r then decide (r - 500 < c) else decide (r < m)
theorem Li {l : List B1} {N : List GE} {r : Nat} (h : Rc l.length N.length r = true) (β : Nat → Value) : lk l N β r = eN (l.map .base ++ N.reverse) β (ab l.length N.length r) ∧ ab l.length N.length r < l.length + N.length := by
  unfold lk eN ab
  unfold Rc at h
  cases hb : Nat.ble 500 r with
  | false =>
    simp only [hb, cond_false, decide_eq_true_eq] at h
    simp only [cond_false]
    rw [B8, if_pos (by simpa using h), HP .none _ _ _ _ h]
    exact ⟨rfl, by omega⟩
  | true =>
    simp only [hb, cond_true, decide_eq_true_eq] at h
    simp only [cond_true]
    rw [B8, if_neg (by simp)]
    refine ⟨?_, by omega⟩
    rw [DI, DI]
    simp only [List.getD, List.length_map, show l.length + (N.length - 1 - (r - 500)) - l.length = N.length - 1 - (r - 500) by omega]
    rw [List.getElem?_reverse (by omega), show N.length - 1 - (N.length - 1 - (r - 500)) = r - 500 by omega]
def HI : List GE → List GE → List GE
  | [], N => N
  | g :: gs, N => HI gs (g :: N)
theorem HH : ∀ (gs N : List GE), HI gs N = gs.reverse ++ N
  | [], _ => rfl
  | g :: gs, N => by simp [HI, HH gs]
inductive Ac (P : Program) (G : FP) (ops : Array Oper) (l : List B1) : List GE → Nat → List Oper → List Kd → List GE → Prop
  | nil {N : List GE} {i : Nat} : Ac P G ops l N i [] [] N
  | cons {N Nf : List GE} {i : Nat} {o : Oper} {os : List Oper} {ts : List Kd} (t : Kd)
    (h : ∀ β : Nat → Value, AV P G ops o (t.Cj.map (lk l N β)) (t.cons.map (lk l N β)) (fun v => t.Cu.map fun g => g.at fun k => if k = i then v else β k))
    (hr : Ac P G ops l (HI t.Cu N) (i + 1) os ts Nf) : Ac P G ops l N i (o :: os) (t :: ts) Nf
def cv (m : Nat) : Nat → List Kd → List Kd
  | _, [] => []
  | c, t :: ts => ⟨t.Cj.map (ab m c), t.cons.map (ab m c), t.Cu⟩ :: cv m (c + t.Cu.length) ts
def Rd (m : Nat) : Nat → List Kd → Bool
  | _, [] => true
  | c, t :: ts => (t.Cj ++ t.cons).all (Rc m c) && Rd m (c + t.Cu.length) ts
theorem N9 (m : Nat) : ∀ (ts : List Kd) (c : Nat), KW (cv m c ts) = KW ts
  | [], _ => rfl
  | t :: ts, c => by simp [cv, KW, N9 m ts]
theorem Ac.acc {P : Program} {G : FP} {ops : Array Oper} {l : List B1} : ∀ {os : List Oper} {N Nf : List GE} {i : Nat} {ts : List Kd}, Ac P G ops l N i os ts Nf → Rd l.length N.length ts = true →
    Acc P G ops (l.map .base ++ N.reverse) i os (cv l.length N.length ts) ∧ QY (l.length + N.length) (cv l.length N.length ts) = true ∧ Nf = (KW ts).reverse ++ N
  | [], _, _, _, _, h, _ => by cases h; exact ⟨.nil, rfl, rfl⟩
  | o :: os, N, Nf, i, _, h, hq => by
    cases h with
    | @cons _ _ _ _ _ ts t h1 h2 =>
      simp only [Rd, Bool.and_eq_true, List.all_eq_true, List.mem_append] at hq
      have hlen : (HI t.Cu N).length = N.length + t.Cu.length := by rw [HH]; simp; omega
      obtain ⟨a1, a2, a3⟩ := Ac.acc h2 (by rw [hlen]; exact hq.2)
      rw [hlen] at a1 a2
      refine ⟨?_, ?_, ?_⟩
      · refine Acc.cons _ (fun β => ?_) (by rw [List.append_assoc, show N.reverse ++ t.Cu = (HI t.Cu N).reverse by rw [HH]; simp]; exact a1)
        have e1 : (t.Cj.map (ab l.length N.length)).map (eN (l.map .base ++ N.reverse) β) = t.Cj.map (lk l N β) := by
          rw [List.map_map]; exact List.map_congr_left fun r hr => (Li (hq.1 r (.inl hr)) β).1.symm
        have e2 : (t.cons.map (ab l.length N.length)).map (eN (l.map .base ++ N.reverse) β) = t.cons.map (lk l N β) := by
          rw [List.map_map]; exact List.map_congr_left fun r hr => (Li (hq.1 r (.inr hr)) β).1.symm
        simp only [e1, e2]
        exact h1 β
      · simp only [cv, QY, Bool.and_eq_true, List.all_eq_true, decide_eq_true_eq, List.mem_append, List.mem_map]
        refine ⟨?_, by rw [← Nat.add_assoc] at a2; exact a2⟩
        rintro r (⟨q, hm, rfl⟩ | ⟨q, hm, rfl⟩)
        · exact (Li (hq.1 q (.inl hm)) (fun _ => undef)).2
        · exact (Li (hq.1 q (.inr hm)) (fun _ => undef)).2
      · rw [a3, HH, KW]; simp

def NX (l : List B1) (N : List GE) (r : Nat) : GE := bif Nat.ble 500 r then Br (.base .none) N (r - 500) else .base (Br .none l r)
theorem Qb (l : List B1) (N : List GE) (r : Nat) (β : Nat → Value) : (NX l N r).at β = lk l N β r := by
  unfold NX lk; cases Nat.ble 500 r <;> rfl
inductive C6 (l : List B1) (N : List GE) : List Nat → ((Nat → Value) → List B1) → Prop
  | nil : C6 l N [] (fun _ => [])
  | cons {k : Nat} {ks : List Nat} {g : GE} {L : (Nat → Value) → List B1} (h : NX l N k = g) (hr : C6 l N ks L) : C6 l N (k :: ks) (fun β => g.at β :: L β)
section
variable {l : List B1} {N : List GE} {k : Nat} {ks : List Nat} {L : (Nat → Value) → List B1} {d i j m : Nat} {v : Value}
theorem C6.bs {V : VP} (h : NX l N k = .base (.slot d V)) (hr : C6 l N ks L) : C6 l N (k :: ks) (fun β => .slot d V :: L β) := C6.cons h hr
theorem C6.br {R : RP} (h : NX l N k = .base (.res R)) (hr : C6 l N ks L) : C6 l N (k :: ks) (fun β => .res R :: L β) := C6.cons h hr
theorem C6.bf {V : VP} (h : NX l N k = .base (.fact V v)) (hr : C6 l N ks L) : C6 l N (k :: ks) (fun β => .fact V v :: L β) := C6.cons h hr
theorem C6.bn (h : NX l N k = .base .none) (hr : C6 l N ks L) : C6 l N (k :: ks) (fun β => .none :: L β) := C6.cons h hr
theorem C6.s {V : Value → Value → VP} (h : NX l N k = .slot d i j V) (hr : C6 l N ks L) : C6 l N (k :: ks) (fun β => .slot d (V (β i) (β j)) :: L β) := C6.cons h hr
theorem C6.r {R : Value → Value → RP} (h : NX l N k = .res i j R) (hr : C6 l N ks L) : C6 l N (k :: ks) (fun β => .res (R (β i) (β j)) :: L β) := C6.cons h hr
theorem C6.s3 {V : Value → Value → Value → VP} (h : NX l N k = .slot3 d i j m V) (hr : C6 l N ks L) : C6 l N (k :: ks) (fun β => .slot d (V (β i) (β j) (β m)) :: L β) := C6.cons h hr
theorem C6.r3 {R : Value → Value → Value → RP} (h : NX l N k = .res3 i j m R) (hr : C6 l N ks L) : C6 l N (k :: ks) (fun β => .res (R (β i) (β j) (β m)) :: L β) := C6.cons h hr
end
theorem C6.eq {l : List B1} {N : List GE} : ∀ {ks : List Nat} {L : (Nat → Value) → List B1}, C6 l N ks L → ∀ β, L β = ks.map (lk l N β)
  | [], _, h, β => by cases h; rfl
  | k :: ks, _, h, β => by
    cases h with
    | cons h hr => simp only [List.map_cons, C6.eq hr β, ← Qb, h]
inductive D8 (l : List B1) : List Nat → List B1 → Prop
  | nil : D8 l [] []
  | cons {k : Nat} {ks : List Nat} {e : B1} {L : List B1} (h : Br .none l k = e) (hr : D8 l ks L) : D8 l (k :: ks) (e :: L)
theorem D8.s {l : List B1} {k : Nat} {ks : List Nat} {d : Nat} {V : VP} {L : List B1} (h : Br .none l k = .slot d V) (hr : D8 l ks L) : D8 l (k :: ks) (.slot d V :: L) := D8.cons h hr
theorem D8.r {l : List B1} {k : Nat} {ks : List Nat} {R : RP} {L : List B1} (h : Br .none l k = .res R) (hr : D8 l ks L) : D8 l (k :: ks) (.res R :: L) := D8.cons h hr
theorem D8.f {l : List B1} {k : Nat} {ks : List Nat} {V : VP} {v : Value} {L : List B1} (h : Br .none l k = .fact V v) (hr : D8 l ks L) : D8 l (k :: ks) (.fact V v :: L) := D8.cons h hr
theorem D8.n {l : List B1} {k : Nat} {ks : List Nat} {L : List B1} (h : Br .none l k = .none) (hr : D8 l ks L) : D8 l (k :: ks) (.none :: L) := D8.cons h hr
theorem D8.eq {l : List B1} : ∀ {ks : List Nat} {L : List B1}, D8 l ks L → L = ks.map (Br .none l)
  | [], _, h => by cases h; rfl
  | k :: ks, _, h => by
    cases h with
    | cons h hr => simp only [List.map_cons, ← D8.eq hr, h]

def P5 (n : Nat) (l : List B1) (ts : List Kd) (ops : Array Oper) (draw : Bool) (ks : List Nat) : Bool :=
  Rd l.length 0 ts && decide ((RD ops draw).length = ops.toList.length) && ks.all (Rc l.length (KW ts).length) &&
    Je (ES n l (KW (cv l.length 0 ts)) (Mo 0 (cv l.length 0 ts)) (J4 l.length (cv l.length 0 ts) ops.toList (RD ops draw))) ops draw (KW (cv l.length 0 ts)).length (Mo 0 (cv l.length 0 ts)).length (ks.map (ab l.length (KW ts).length))

theorem CY {P : Program} {c : Cx} {id n : Nat} {ops : Array Oper} {draw : Bool} {Q : Exit → Act → World → Prop} {a : Act} {w : World} {l : List B1} {G : FP} {ts : List Kd} {Nf : List GE} {L : (Nat → Value) → List B1} (hm : P.follows .mixedOrders = true) (hn : c.n = n) (hG : c.G = G)
    (h : Ar c l a w) (ks : List Nat) (hA : Ac P G ops l [] 0 ops.toList ts Nf)
    (hQ : ∀ (β : Nat → Value) (a : Act) (w : World), Ar c (L β) a w → Q .normal a w)
    (hL : C6 l Nf ks L := by repeat first | exact C6.nil | (apply C6.bs; exact rfl) | (apply C6.br; exact rfl) | (apply C6.s; exact rfl) | (apply C6.r; exact rfl) | (apply C6.bf; exact rfl) | (apply C6.bn; exact rfl) | (apply C6.s3; exact rfl) | (apply C6.r3; exact rfl))
    (hc : P5 n l ts ops draw ks = true := by kernel_rfl) : (Code.region id ops draw).wp P Q a w := by
  simp only [P5, Bool.and_eq_true, decide_eq_true_eq] at hc
  obtain ⟨⟨⟨c1, c2⟩, c3⟩, c4⟩ := hc
  obtain ⟨a1, a2, a3⟩ := Ac.acc hA (by simpa using c1)
  simp only [List.length_nil, List.reverse_nil, List.append_nil, Nat.add_zero] at a1 a2 a3
  refine CL (KW (cv l.length 0 ts)) _ _ _ hm hn hG h c4 (Acc.ok _ a1 c2 (by simpa using a2) rfl fun j => ?_) fun β a w hs => hQ β a w ?_
  · simp [Dd.op, ES]
  · rw [hL.eq β, a3]
    have e : ks.map (lk l (KW ts).reverse β) = (ks.map (ab l.length (KW ts).length)).map ((ES n l (KW (cv l.length 0 ts)) (Mo 0 (cv l.length 0 ts)) (J4 l.length (cv l.length 0 ts) ops.toList (RD ops draw))).E β) := by
      rw [List.map_map]
      refine List.map_congr_left fun r hr => ?_
      have := (Li (l := l) (N := (KW ts).reverse) (r := r) (by simpa using (List.all_eq_true.1 c3) r hr) β).1
      rw [this]
      simp [eN, Dd.E, ES, N9]
    rw [e]; exact hs
theorem Ao {P : Program} {c : Cx} {id n : Nat} {ops : Array Oper} {draw : Bool} {Q : Exit → Act → World → Prop} {y : Code} {a : Act} {w : World} {l : List B1} {G : FP} {ts : List Kd} {Nf : List GE} {L : (Nat → Value) → List B1} (hm : P.follows .mixedOrders = true) (hn : c.n = n) (hG : c.G = G)
    (h : Ar c l a w) (ks : List Nat) (hA : Ac P G ops l [] 0 ops.toList ts Nf)
    (hQ : ∀ (β : Nat → Value) (a : Act) (w : World), Ar c (L β) a w → y.wp P Q a w)
    (hL : C6 l Nf ks L := by repeat first | exact C6.nil | (apply C6.bs; exact rfl) | (apply C6.br; exact rfl) | (apply C6.s; exact rfl) | (apply C6.r; exact rfl) | (apply C6.bf; exact rfl) | (apply C6.bn; exact rfl) | (apply C6.s3; exact rfl) | (apply C6.r3; exact rfl))
    (hc : P5 n l ts ops draw ks = true := by kernel_rfl) : (Code.seq (Code.region id ops draw) y).wp P Q a w :=
  wp_seq (CY hm hn hG h ks hA hQ hL hc)

section
variable {P : Program} {G : FP} {ops : Array Oper} {l : List B1} {N Nf : List GE} {i : Nat} {o : Oper} {os : List Oper} {ts : List Kd} {dst : Option Nat} {op : Op} {ty : TypeId} {pos : String} {af : Array Edge}
theorem og (Cj cons : List Nat) (Cu : List GE) (h : ∀ {β : Nat → Value}, AV P G ops o (Cj.map (lk l N β)) (cons.map (lk l N β)) (fun v => Cu.map fun g => g.at fun k => if k = i then v else β k))
    (hr : Ac P G ops l (HI Cu N) (i + 1) os ts Nf) : Ac P G ops l N i (o :: os) (⟨Cj, cons, Cu⟩ :: ts) Nf := Ac.cons ⟨Cj, cons, Cu⟩ (fun _ => h) hr
theorem oe (Cj cons : List Nat) {Gs : List B1} (h : ∀ {β : Nat → Value}, AV P G ops o (Cj.map (lk l N β)) (cons.map (lk l N β)) (fun _ => Gs))
    (hr : Ac P G ops l (HI (Gs.map .base) N) (i + 1) os ts Nf) : Ac P G ops l N i (o :: os) (⟨Cj, cons, Gs.map .base⟩ :: ts) Nf :=
  Ac.cons ⟨Cj, cons, Gs.map .base⟩ (fun β => by
    have e : (fun v : Value => (Gs.map GE.base).map fun g => g.at fun k => if k = i then v else β k) = fun _ => Gs := by
      funext v
      rw [List.map_map]
      exact (List.map_congr_left fun x _ => rfl).trans (List.map_id _)
    simp only [e]
    exact h) hr
theorem ov (Cj : List Nat) {d : Nat} {V : VP} (h : ∀ {β : Nat → Value}, Ba P G ⟨dst, op, ty, pos, af, none⟩ (Cj.map (lk l N β)) [] (fun _ => [.slot d V]))
    (hr : Ac P G ops l (.base (.slot d V) :: N) (i + 1) os ts Nf) : Ac P G ops l N i (⟨dst, op, ty, pos, af, none⟩ :: os) (⟨Cj, [], [.base (.slot d V)]⟩ :: ts) Nf :=
  oe Cj [] (Gs := [.slot d V]) (AV.plain h rfl) hr
theorem od (Cj : List Nat) (k : Nat) {d : Nat} {V : VP} (h : ∀ {β : Nat → Value}, Ba P G ⟨dst, op, ty, pos, af, none⟩ (Cj.map (lk l N β)) [] (fun _ => [.slot d V]))
    (hr : Ac P G ops l (.base (.slot d V) :: N) (i + 1) os ts Nf) : Ac P G ops l N i (⟨dst, op, ty, pos, af, none⟩ :: os) (⟨Cj, [k], [.base (.slot d V)]⟩ :: ts) Nf :=
  oe Cj [k] (Gs := [.slot d V]) (AV.drop _ (AV.plain h rfl)) hr
theorem ou (Cj : List Nat) (k : Nat) {R : RP} (h : ∀ {β : Nat → Value}, Ba P G ⟨dst, op, ty, pos, af, none⟩ (Cj.map (lk l N β)) [lk l N β k] (fun _ => [.res R]))
    (hr : Ac P G ops l (.base (.res R) :: N) (i + 1) os ts Nf) : Ac P G ops l N i (⟨dst, op, ty, pos, af, none⟩ :: os) (⟨Cj, [k], [.base (.res R)]⟩ :: ts) Nf :=
  oe Cj [k] (Gs := [.res R]) (AV.plain h rfl) hr
theorem ob (Cj : List Nat) {d : Nat} {T : TypeId} {L : List Ck} (h : ∀ {β : Nat → Value}, Ba P G ⟨dst, op, ty, pos, af, none⟩ (Cj.map (lk l N β)) [] (fun v => [.slot d (Au v 0), .res (lb v T L)]))
    (hr : Ac P G ops l (.res i 100000 (fun v _ => lb v T L) :: .slot d i 100000 (fun v _ => Au v 0) :: N) (i + 1) os ts Nf) :
    Ac P G ops l N i (⟨dst, op, ty, pos, af, none⟩ :: os) (⟨Cj, [], [.slot d i 100000 (fun v _ => Au v 0), .res i 100000 (fun v _ => lb v T L)]⟩ :: ts) Nf :=
  og Cj [] _ (AV.plain (by simpa [GE.at] using h) rfl) hr
variable {d : Nat}
theorem oc (Cj cons : List Nat) {f : FuncId} {xs : List Operand} {tys : Array TypeId} {args : List VP} {pre post : List RP} {res : VP} (hcall : ∀ args w, (callFunc f args).run P w = .ok (.enter f args) w)
    (hc : Az P G f args pre (fun _ => post) res) (hx : ∀ {β : Nat → Value}, Fs G (Cj.map (lk l N β)) xs args) (hr : Ac P G ops l (HI ((.slot d res :: post.map .res).map .base) N) (i + 1) os ts Nf)
    (hC : ∀ β, cons.map (lk l N β) = pre.map .res := by intro β; rfl) :
    Ac P G ops l N i (⟨some d, .call ⟨.value (.func f), xs.toArray, tys⟩, ty, pos, af, none⟩ :: os) (⟨Cj, cons, (.slot d res :: post.map .res).map .base⟩ :: ts) Nf :=
  oe Cj cons (fun {β} => AV.plain (by rw [hC]; exact HN hcall hc hx) rfl) hr
end

section
variable {G : FP} {N : List B1} {t : Nat} {V : VP} {e0 e1 e2 : B1}
theorem q0 : AM G (.slot t V :: N) (.tmp t) V := opt 0 rfl
theorem q1 : AM G (e0 :: .slot t V :: N) (.tmp t) V := opt 1 rfl
theorem q2 : AM G (e0 :: e1 :: .slot t V :: N) (.tmp t) V := opt 2 rfl
theorem q3 : AM G (e0 :: e1 :: e2 :: .slot t V :: N) (.tmp t) V := opt 3 rfl
theorem qi {k : IntKind} {x : Int} (h : H5 k x := by decide) : AM G N (.const (.int k x)) (Ab k x) := DZ (ic h)
theorem qb {b : Bool} : AM G N (.const (.bool b)) (AE b) := DZ (bc b)
end
theorem AA {P : Program} {G : FP} {N : List B1} {d : Nat} {ty : TypeId} {pos : String} {af : Array Edge} {gd : Option (Nat × Bool)} {T T0 : TypeId} {x : Operand} {p : Value} {n : Nat} {L : List Ck} (j : Nat) (ha : ∀ w, (isAgg T).run P w = .ok true w) (hs : ∀ w, (sizeOf T).run P w = .ok n w)
    (hx : AM G N x (Au p 0)) (he : Br .none N j = .res (lb p T0 L) := by rfl) (hn : lens L = n := by kernel_rfl) :
    Ba P G ⟨some d, .load T x, ty, pos, af, gd⟩ N [] (fun _ => [.slot d (AG L)]) :=
  DB [] L [] j ha hs hx (by simpa using he) rfl hn
theorem Aq {P : Program} {G : FP} {N : List B1} {ty : TypeId} {pos : String} {af : Array Edge} {gd : Option (Nat × Bool)} {T T0 : TypeId} {x y : Operand} {p : Value} {n : Nat} {V : VP} {L M : List Ck} (hs : ∀ w, (sizeOf T).run P w = .ok n w)
    (hx : AM G N x (Au p 0)) (hy : AM G N y V) (hc : Cells V M) (hm : lens L = n := by kernel_rfl) (hM : lens M = n := by kernel_rfl) :
    Ba P G ⟨none, .store T x y, ty, pos, af, gd⟩ N [.res (lb p T0 L)] (fun _ => [.res (lb p T0 M)]) := by
  have := B7 (P := P) (G := G) (N := N) (ty := ty) (pos := pos) (af := af) (gd := gd) (T0 := T0) (p := p) (k := 0) [] L [] M hs hx hy hc rfl hm hM
  simpa using this

theorem DL {P : Program} {c : Cx} {l l1 l2 : List B1} {a : Act} {w : World} {Q : Exit → Act → World → Prop} {t : Nat} {b : Bool} {x y : Code} {α : Type} {X Y : Option α} {r : Option α} (h : Ar c l a w) (hF : (if b = true then X else Y) = r) (i : Nat) (k1 k2 : List Nat)
    (ht : b = true → X = r → Ar c l1 a w → x.wp P Q a w) (hf : b = false → Y = r → Ar c l2 a w → y.wp P Q a w)
    (he : Br .none l i = .slot t (AE b) := by rfl)
    (h1 : D8 l k1 l1 := by repeat first | exact D8.nil | (apply D8.s; exact rfl) | (apply D8.r; exact rfl) | (apply D8.f; exact rfl) | (apply D8.n; exact rfl))
    (h2 : D8 l k2 l2 := by repeat first | exact D8.nil | (apply D8.s; exact rfl) | (apply D8.r; exact rfl) | (apply D8.f; exact rfl) | (apply D8.n; exact rfl))
    (d1 : (distinct k1 && k1.all fun k => decide (k < l.length)) = true := by rfl) (d2 : (distinct k2 && k2.all fun k => decide (k < l.length)) = true := by rfl) :
    (Code.cond (.tmp t) x y).wp P Q a w :=
  D6 h i he (fun hb => ht hb (EM hb hF) (by rw [h1.eq]; exact h.sub k1 d1)) (fun hb => hf hb (EO hb hF) (by rw [h2.eq]; exact h.sub k2 d2))
theorem Ar.LO {c : Cx} {l l1 : List B1} {a : Act} {w : World} (h : Ar c l a w) (ks : List Nat)
    (h1 : D8 l ks l1 := by repeat first | exact D8.nil | (apply D8.s; exact rfl) | (apply D8.r; exact rfl) | (apply D8.f; exact rfl) | (apply D8.n; exact rfl))
    (hk : (distinct ks && ks.all fun k => decide (k < l.length)) = true := by rfl) : Ar c l1 a w := by
  rw [h1.eq]; exact h.sub ks hk
end
section
open Go Go.RowKit Go.Proofs
set_option linter.unusedVariables false
set_option linter.unusedSimpArgs false

def Jw (P : Program) (G : FP) {α β : Type} (A : α → List VP) (B : β → VP) (g : α → Option β) : VP := ⟨fun Φ v => ∃ (f : FuncId) (cs : List Value), v = .func (.func f) #[] cs.toArray ∧ (∀ args w, (callFunc f args).run P w = .ok (.enter f args) w) ∧
    ∀ Φ', BR.le Φ Φ' → ∀ x r, g x = some r → ∀ w vs, Cv Φ' w → G.p Φ' → Ew Φ' (A x) vs → Calls P f (vs ++ cs).toArray w fun e w' => ∃ v Φ'', e = .returned v ∧ Step w Φ' [] w' Φ'' ∧ Cv Φ'' w' ∧ (B r).p Φ'' v,
  fun hle ⟨f, cs, h1, h2, h3⟩ => ⟨f, cs, h1, h2, fun Φ' hle' => h3 Φ' (BR.le_trans hle hle')⟩⟩
theorem Ew.append {Φ : BR} : ∀ {l m : List VP} {us vs : List Value}, Ew Φ l us → Ew Φ m vs → Ew Φ (l ++ m) (us ++ vs)
  | [], m, [], vs, _, k => k
  | V :: l, m, u :: us, vs, h, k => ⟨h.1, Ew.append h.2 k⟩
  | [], _, _ :: _, _, h, _ => h.elim
  | _ :: _, _, [], _, h, _ => h.elim
theorem QZ {P : Program} {G : FP} {α β : Type} {A : α → List VP} {B : β → VP} {g : α → Option β} {f : FuncId} {Cs : List VP} {cs : List Value} {Φ : BR} (hcall : ∀ args w, (callFunc f args).run P w = .ok (.enter f args) w)
    (hF : ∀ x r, g x = some r → Az P G f (A x ++ Cs) [] (fun _ => []) (B r)) (hc : Ew Φ Cs cs) : (Jw P G A B g).p Φ (.func (.func f) #[] cs.toArray) := by
  refine ⟨f, cs, rfl, hcall, fun Φ' hle x r hg w vs h1 h2 h3 => ?_⟩
  refine (hF x r hg Φ' w (vs ++ cs) [] h1 h2 (h3.append (hc.mono hle)) trivial (by simp) (by simp)).mono fun e w' hq => ?_
  obtain ⟨v, Φ'', fs', rfl, q1, q2, q3, _⟩ := hq
  exact ⟨v, Φ'', rfl, by simpa using q1, q2, q3⟩
section ops
variable {P : Program} {G : FP} {N : List B1} {d : Nat} {ty : TypeId} {pos : String} {af : Array Edge} {gd : Option (Nat × Bool)}
theorem J3 {α β : Type} {A : α → List VP} {B : β → VP} {g : α → Option β} {x : α} {r : β} {f : Operand} {xs : List Operand} {tys : Array TypeId} (hf : AM G N f (Jw P G A B g)) (hx : Fs G N xs (A x)) (hg : g x = some r) :
    Ba P G ⟨some d, .call ⟨.value f, xs.toArray, tys⟩, ty, pos, af, gd⟩ N [] (fun _ => [.slot d (B r)]) := by
  intro Φ a w fN fC h1 h2 h3 h4 h5 h6 h7 K Q hK
  match fC, h4 with
  | [], _ =>
  have hargs := hx.eval h2 h3
  obtain ⟨fi, cs, hv, hcall, hq⟩ := hf Φ a w fN h2 h3
  have hcl := hq Φ (BR.le_refl _) x r hg w _ h1 h2 hargs
  have hrun : (execOp a.eval ⟨some d, .call ⟨.value f, xs.toArray, tys⟩, ty, pos, af, gd⟩).run P w = .ok (.enter fi (xs.map a.eval ++ cs).toArray) w := by
    simp [execOp, resolve, hv, Deferred.ofValue, invoke, hcall]
  unfold Oper.wp
  rw [hrun, Oper.upon_enter]
  refine hcl.mono fun e w' hq => ?_
  obtain ⟨v, Φ', rfl, q1, q2, q3⟩ := hq
  exact hK v w' Φ' [[]] (by simpa using q1) q2 ⟨⟨rfl, v, C0 a v d (h7 d rfl), q3⟩, trivial⟩ (by simp) (by simp)
end ops

end
section
open Go Go.RowKit Go.Proofs
set_option linter.unusedVariables false
set_option linter.unusedSimpArgs false

theorem ON {α : Type} {v : Value} {T : TypeId} {sz : Nat} {ck : α → List Ck} {xs : List α} {Φ : BR} {f : List Nat} {w : World} (hP : Cv Φ w) (h : (own v T sz ck xs).p Φ f w) (hf : ∀ b ∈ f, b < w.heap.size) :
    ∃ Φ', Step w Φ f w Φ' ∧ Cv Φ' w ∧ (acc v T sz ck xs).p Φ' f w ∧ ∀ b, b ∉ f → Φ' b = Φ b := by
  obtain ⟨hm, ⟨hv, hxs, rfl⟩ | ⟨b, cap, cs, zs, hv, rfl, hb, hA, hlen, hcap, hn⟩⟩ := h
  · exact ⟨Φ, Step.refl _ _ _, hP, ⟨hm, .inl ⟨hv, hxs, rfl⟩⟩, fun _ _ => rfl⟩
  · let Φ' : BR := fun b' o => if b' = b then cs[o]? else Φ b' o
    have hle : BR.le Φ Φ' := fun b' o v e => by
      by_cases hbb : b' = b
      · rw [hbb, hn o] at e; cases e
      · simp only [Φ', if_neg hbb]; exact e
    have hs : ∀ b', b' ∉ [b] → Φ' b' = Φ b' := fun b' hne => by funext o; simp only [Φ', if_neg (by simpa using hne : ¬ b' = b)]
    refine ⟨Φ', ⟨rfl, rfl, rfl, Nat.le_refl _, fun _ _ _ => rfl, hle, fun b' _ hne => hs b' hne⟩, ⟨fun b' o v e => ?_, fun b' o v e => ?_⟩, ⟨hm, .inr ⟨b, cap, cs, zs, hv, rfl, hb, hA.mono hle, hlen, hcap, EE.of_eq (fun o => by simp only [Φ', if_pos trivial]), fun o ho => by simp only [Φ', if_pos trivial]; exact List.getElem?_eq_none ho⟩⟩, hs⟩
    · by_cases hbb : b' = b
      · rw [hbb]; exact hf b (by simp)
      · simp only [Φ', if_neg hbb] at e; exact hP.lt b' o v e
    · by_cases hbb : b' = b
      · subst hbb
        simp only [Φ', if_pos trivial] at e
        rw [cell_of hb]
        have : o < cs.length := by
          rcases Nat.lt_or_ge o cs.length with q | q
          · exact q
          · rw [List.getElem?_eq_none q] at e; cases e
        rw [List.getElem?_append_left this]; exact e
      · simp only [Φ', if_neg hbb] at e; exact hP.cell b' o v e
theorem BT.NB {Φ Φ1 : BR} {a : Act} {w : World} {f : List Nat} (hle : BR.le Φ Φ1) (k : ∀ b, b ∉ f → Φ1 b = Φ b) : ∀ {es : List B1} {gs : List (List Nat)}, (∀ b ∈ gs.flatten, b ∉ f) → BT Φ a.tmps w es gs → BT Φ1 a.tmps w es gs
  | [], [], _, _ => trivial
  | e :: es, g :: gs, hb, h => ⟨B1.F1 h.1 hle (fun b hb' => k b (hb b (by simp [hb']))) (fun _ _ => rfl) (fun _ _ => rfl), BT.NB hle k (fun b hb' => hb b (by simp only [List.flatten_cons, List.mem_append]; exact .inr hb')) h.2⟩
  | [], _ :: _, _, h => h.elim
  | _ :: _, [], _, h => h.elim
theorem Kr {α : Type} {v : Value} {T : TypeId} {sz : Nat} {c : α → List Ck} {xs : List α} : ∀ Φ f w, (own v T sz c xs).p Φ f w → v.oneCell' = true := by
  rintro Φ f w ⟨_, ⟨rfl, _⟩ | ⟨b, cap, cs, zs, rfl, _⟩⟩ <;> rfl
section ops
variable {P : Program} {G : FP} {N : List B1} {d : Nat} {ty : TypeId} {pos : String} {af : Array Edge} {gd : Option (Nat × Bool)}
theorem Ba.Kq {o : Oper} {α : Type} {v : Value} {T : TypeId} {sz : Nat} {ck : α → List Ck} {xs : List α} {C : List B1} {Gv : Value → List B1} (h : Ba P G o N (.res (acc v T sz ck xs) :: C) Gv) : Ba P G o N (.res (own v T sz ck xs) :: C) Gv := by
  intro Φ a w fN fC h1 h2 h3 h4 h5 h6 h7 K Q hK
  match fC, h4 with
  | f :: fC, h4 =>
    simp only [List.flatten_cons] at h5 h6 hK
    have hres : (own v T sz ck xs).p Φ f w := h4.1
    obtain ⟨Φ1, k1, k2, k3, k4⟩ := ON h1 hres (fun b hb => h6 b (by simp [hb]))
    rw [List.nodup_append] at h5
    obtain ⟨n1, n2, n3⟩ := h5
    have n2' := n2
    rw [List.nodup_append] at n2
    have hN1 := BT.NB k1.le k4 (fun b hb hf => n3 b hb b (by simp [hf]) rfl) h3
    have hC1 := BT.NB k1.le k4 (fun b hb hf => n2.2.2 b hf b hb rfl) h4.2
    refine h Φ1 a w fN (f :: fC) k2 (G.mono k1.le h2) hN1 ⟨k3, hC1⟩ (by simp only [List.flatten_cons]; rw [List.nodup_append]; exact ⟨n1, n2', n3⟩) (by simpa only [List.flatten_cons] using h6) h7 K Q fun v w' Φ' fG q1 q2 q3 q4 q5 => ?_
    simp only [List.flatten_cons] at q1 q5
    exact hK v w' Φ' fG ((k1.KY (F' := f ++ fC.flatten) fun b hb _ => by simp [hb]).trans q1 (fun b hb _ => hb)) q2 q3 q4 q5
theorem K9 {α : Type} {t e : TypeId} {sz : Nat} {c : α → List Ck} (hu : P.underlying t = some (.slice e)) (hs : ∀ w, (sizeOf e).run P w = .ok sz w) {z : Value} (hz : ∀ w, (zeroValue e).run P w = .ok z w) :
    Ba P G ⟨some d, .buildSlice t 0 #[], ty, pos, af, gd⟩ N [] (fun v => [.slot d (Am v), .res (own v e sz c ([] : List α))]) := by
  intro Φ a w fN fC h1 h2 h3 h4 h5 h6 h7 K Q hK
  match fC, h4 with
  | [], _ =>
    have hrun : (execOp a.eval ⟨some d, .buildSlice t 0 #[], ty, pos, af, gd⟩).run P w = .ok (.value (.slice (some ⟨w.heap.size, 0, none⟩) 0 0)) (w.alloc (.cells #[] e)) := by
      simp [execOp, Instr.buildSlice, run_underlying hu, hs, hz, Instr.fill, newRow]
      have e0 : (Array.range 0).map (fun _ => (default : Value)) = #[] := by apply Array.ext'; simp [Array.toList_range]
      rw [e0]
    unfold Oper.wp
    rw [hrun, Oper.upon_value]
    refine hK _ _ Φ [[], [w.heap.size]] (Gx w Φ _) (Ha h1 _) ⟨⟨rfl, _, C0 a _ d (h7 d rfl), rfl⟩, ⟨by simp [CG], .inr ⟨w.heap.size, 0, [], [], rfl, rfl, ?_, rfl, by simp, by simp, fun o => ?_⟩⟩, trivial⟩ (by simp) (by simp)
    · rw [heap_alloc_new]; rfl
    · cases e : Φ w.heap.size o with
      | none => rfl
      | some v => have := h1.lt _ o v e; omega
theorem Ih {s : TypeId} {x : Operand} {q : Value} {fields : Array Field} {i n : Nat} {fd : Field} (k m : Nat) (hu : P.underlying s = some (.struct fields)) (hi : fields[i]? = some fd) (hs : ∀ w, (sizeOf fd.type).run P w = .ok n w) (hn : n ≠ 0)
    (hx : AM G N x (Lq q k)) (hm : k + fd.offset = m) : Ba P G ⟨some d, .fieldAddr s x i, ty, pos, af, gd⟩ N [] (fun _ => [.slot d (Lq q m)]) :=
  Ba.val fun Φ a w f _ hG hN => by
    obtain ⟨b, len, cap, hp, hv⟩ := hx Φ a w f hG hN
    refine ⟨_, ?_, b, len, cap, hp, rfl⟩
    simp only [execOp, hv]
    rw [Sem.run_bind, GR hu hi hs hn, ← hm]
    rfl
theorem O0 {α : Type} {q : Value} {k : Nat} {Φ : BR} {v : Value} {T : TypeId} {sz : Nat} {c : α → List Ck} {xs : List α} {f : List Nat} {w : World} (h : (Lq q k).p Φ v) (ho : (own q T sz c xs).p Φ f w) :
    ∃ b cap cs zs, q = .slice (some ⟨b, 0, none⟩) xs.length cap ∧ f = [b] ∧ w.heap[b]? = some (.cells (cs ++ zs).toArray T (0, 0)) ∧ CS Φ c cs xs ∧ (cs ++ zs).length = cap * sz ∧ xs.length ≤ cap ∧ (∀ o, Φ b o = none) ∧ v = .pointer (some ⟨b, k, none⟩) := by
  obtain ⟨b, len, cap, hq, hv⟩ := h
  obtain ⟨hm, ⟨e, _⟩ | ⟨b', cap', cs, zs, e, hf, hb, hA, hlen, hcap, hn⟩⟩ := ho
  · rw [e] at hq; cases hq
  · have : b' = b := by rw [hq] at e; simp at e; exact e.1.symm
    subst this
    exact ⟨b', cap', cs, zs, e, hf, hb, hA, hlen, hcap, hn, hv⟩
theorem HM {α : Type} [Inhabited α] {T T0 : TypeId} {x y : Operand} {q : Value} {k sz n : Nat} {V : VP} {c : α → List Ck} {xs : List α} {i : Int} {z : α} (hsz : ∀ x, lens (c x) = sz) (pre mid post mid' : List Ck) (hs : ∀ w, (sizeOf T).run P w = .ok n w)
    (hx : AM G N x (Lq q k)) (hy : AM G N y V) (hV : Cells V mid') (hc : c (xs.getD i.toNat default) = pre ++ mid ++ post) (hz : c z = pre ++ mid' ++ post) (hn : lens mid = n) (hn' : lens mid' = n) (hk : k = i.toNat * sz + lens pre) (hi : 0 ≤ i ∧ i < xs.length) :
    Ba P G ⟨none, .store T x y, ty, pos, af, gd⟩ N [.res (own q T0 sz c xs)] (fun _ => [.res (own q T0 sz c (xs.set i.toNat z))]) := by
  intro Φ a w fN fC h1 h2 h3 h4 h5 h6 h7 K Q hK
  match fC, h4 with
  | [f], ⟨ho, _⟩ =>
    have hmx : xs.length ≤ CG := ho.1
    obtain ⟨b, cap, cs, zs, hq, rfl, hb, hA, hlen, hcap, hfree, hv⟩ := O0 (hx Φ a w fN h2 h3) ho
    have hit : i.toNat < xs.length := by omega
    obtain ⟨us, vs, ws, rfl, q1, q2, q3, q4⟩ := hA.at hsz i.toNat hit
    have e1 : xs.getD i.toNat default = xs[i.toNat] := by simp [List.getD, hit]
    rw [← e1, hc] at q2
    obtain ⟨v12, v3, rfl, r1, r2⟩ := q2.split
    obtain ⟨v1, v2, rfl, r3, r4⟩ := r1.split
    have hcell := hV Φ _ (hy Φ a w fN h2 h3)
    have hyl : (a.eval y).cells.toList.length = n := by rw [hcell.len, hn']
    have l1 := r3.len
    have l2 := r4.len
    obtain ⟨w', s1, s2, s3, s4, s5, s6, s7⟩ := E0 (P := P) (b := b) (k := k) (a.eval y).cells.toList 0 w ((us ++ (v1 ++ v2 ++ v3) ++ ws) ++ zs) hb (by
      simp only [List.length_append] at *; omega) hcell.cell
    have hblk : w'.heap[b]? = some (.cells ((us ++ (v1 ++ (a.eval y).cells.toList ++ v3) ++ ws) ++ zs).toArray T0 (0, 0)) := by
      rw [s2]
      congr 3
      have t1 : ((us ++ (v1 ++ v2 ++ v3) ++ ws) ++ zs).take (k + 0) = us ++ v1 := by
        rw [Nat.add_zero, hk, ← q1, ← l1]
        simp only [List.append_assoc]
        rw [List.take_length_add_append, List.take_left]
      have t2 : ((us ++ (v1 ++ v2 ++ v3) ++ ws) ++ zs).drop (k + 0 + (a.eval y).cells.toList.length) = v3 ++ ws ++ zs := by
        rw [Nat.add_zero, hk, ← q1, ← l1, hyl, ← hn, ← l2]
        simp only [List.append_assoc]
        rw [Nat.add_assoc, List.drop_length_add_append, List.drop_length_add_append, List.drop_left]
      rw [t1, t2]
      simp
    have hrun : (execOp a.eval ⟨none, .store T x y, ty, pos, af, gd⟩).run P w = .ok .skip w' := by
      have hsz' : ¬ (a.eval y).cells.size ≠ n := by rw [← Array.length_toList, hyl]; simp
      simp only [execOp, hv, Instr.storeAt, Instr.sureAddr, storeVar, Sem.run_bind, Sem.run_pure, Result.andThen_ok, hs]
      simp only [if_neg hsz']
      simp [s1]
    unfold Oper.wp
    rw [hrun, Oper.upon_skip]
    have hl' : xs.set i.toNat z = xs.take i.toNat ++ z :: xs.drop (i.toNat + 1) := HG _ _ _ hit
    have hnew : B0 Φ (v1 ++ (a.eval y).cells.toList ++ v3) (c z) := by rw [hz]; exact (r3.append hcell).append r2
    refine hK undef w' Φ [[b]] ⟨s5, s6, s7, Nat.le_of_eq s4.symm, fun c hc' hne => s3 c (fun e => hne (by simp [e])), BR.le_refl _, fun _ _ _ => rfl⟩
      ⟨fun c o v e => by rw [s4]; exact h1.lt c o v e, fun c o v e => ?_⟩ ⟨⟨by simpa using hmx, .inr ⟨b, cap, _, zs, by simpa using hq, rfl, hblk, ?_, ?_, by simpa using hcap, hfree⟩⟩, trivial⟩ (by simp) (fun c hc' => ?_)
    · have hne : c ≠ b := fun e' => by rw [e', hfree o] at e; cases e
      exact (World.cell?_of_block (w := w) (s3 c hne)).trans (h1.cell c o v e)
    · rw [hl', List.append_assoc]
      exact q3.append ⟨_, ws, rfl, hnew, q4⟩
    · simp only [List.length_append] at hlen ⊢; omega
    · simp at hc'
      subst hc'
      have := h6 c (by simp)
      exact ⟨by rw [s4]; exact this, .inl (by simp)⟩
inductive Gi : List B1 → List Ck → List Ck → Prop
  | nil {C : List B1} : Gi C [] []
  | IU {C : List B1} {k : Ck} {L L' : List Ck} (h : Gi C L L') : Gi C (k :: L) (k :: L')
  | sub {C : List B1} {L L' : List Ck} {α : Type} {q : Value} {T : TypeId} {sz : Nat} {c : α → List Ck} {xs : List α} (j : Nat) (hr : Br .none C j = .res (acc q T sz c xs)) (h : Gi C L L') : Gi C (one (Am q) :: L) (one (An c xs) :: L')
theorem Gi.rel {C : List B1} {Φ : BR} {tmps : Array Value} {w : World} {f : List (List Nat)} (hC : BT Φ tmps w C f) : ∀ {L L' : List Ck} {cs : List Value}, Gi C L L' → B0 Φ cs L → B0 Φ cs L'
  | _, _, _, .nil, h => h
  | _, _, _, .IU k, ⟨xs, ys, e, h1, h2⟩ => ⟨xs, ys, e, h1, Gi.rel hC k h2⟩
  | _, _, _, .sub j hr k, ⟨xs, ys, e, ⟨v, hv, h1, h2⟩, h3⟩ => by
    obtain ⟨g, ho⟩ := hC.res j hr
    have h2 : v = _ := h2
    subst h2
    exact ⟨xs, ys, e, ⟨v, hv, h1, Iu ho⟩, Gi.rel hC k h3⟩
theorem K8 {T T0 : TypeId} {x : Operand} {p : Value} {n : Nat} {L L' : List Ck} (Rs : List RP) (j : Nat) (ha : ∀ w, (isAgg T).run P w = .ok true w) (hs : ∀ w, (sizeOf T).run P w = .ok n w)
    (hx : AM G N x (Au p 0)) (he : Br .none N j = .res (lb p T0 L)) (hn : lens L = n) (hsub : Gi (Rs.map .res) L L') : Ba P G ⟨some d, .load T x, ty, pos, af, gd⟩ N (Rs.map .res) (fun _ => .slot d (AG L') :: Rs.map .res) := by
  intro Φ a w fN fC h1 h2 h3 h4 h5 h6 h7 K Q hK
  obtain ⟨b, hp, hv⟩ := hx Φ a w fN h2 h3
  obtain ⟨g, b', cs, hp', _, hb, hL, _⟩ := h3.res j he
  have : b' = b := by rw [hp] at hp'; simpa using hp'.symm
  subst this
  have hrun : (execOp a.eval ⟨some d, .load T x, ty, pos, af, gd⟩).run P w = .ok (.value (.agg cs.toArray)) w := by
    simp only [execOp, hv]
    rw [Sem.run_bind, EA (cs := cs) ha hs (by rw [hL.len, hn]) (fun r v hr => by rw [cell_of hb, Nat.zero_add]; exact hr)]
    rfl
  unfold Oper.wp
  rw [hrun, Oper.upon_value]
  rw [List.nodup_append] at h5
  exact hK _ w Φ ([] :: fC) ((Step.refl w Φ []).KY (by simp)) h1 ⟨⟨rfl, _, C0 a _ d (h7 d rfl), cs, rfl, hsub.rel h4 hL⟩, BT.Kv (BT.Jd h4)⟩ (by simpa using h5.2.1) (fun b hb => ⟨h6 b (by simp only [List.mem_append]; exact .inr (by simpa using hb)), .inl (by simpa using hb)⟩)
end ops

end
section
open Go Go.RowKit Go.Proofs
set_option linter.unusedVariables false
set_option linter.unusedSimpArgs false

theorem Kn {P : Program} (w : World) (dT sT ty elem : TypeId) (g o dLen dCap : Nat) (l : List UInt8) (cur : Array Value) (t : TypeId)
    (hu : P.underlying dT = some (.slice elem)) (hs : (P.info? elem).map (·.size) = some 1) (hg : w.heap[g]? = some (.cells cur t (0, 0))) (hfit : o + min l.length dLen ≤ cur.size) :
    (Builtin.copy_ #[dT, sT] ty #[.slice (some ⟨g, o, none⟩) dLen dCap, .string ⟨l.toArray⟩]).run P w =
      .ok (goInt (min l.length dLen : Nat)) (w.setRow g (cur.toList.take o ++ (l.take (min l.length dLen)).map B9 ++ cur.toList.drop (o + min l.length dLen)).toArray) := by
  have hlen : ((l.take (min l.length dLen)).map B9).length = min l.length dLen := by simp
  have hone : ∀ v ∈ (l.take (min l.length dLen)).map B9, v.oneCell' = true := by
    intro v hv
    obtain ⟨b, _, rfl⟩ := List.mem_map.1 hv
    rfl
  have hst := run_storeCells_at P g o t ((l.take (min l.length dLen)).map B9) 0 cur w hg (by rw [hlen]; simpa using hfit) hone
  rw [hlen] at hst
  simp only [Nat.add_zero] at hst
  cases hq : P.info? elem with
  | none => simp [hq] at hs
  | some i =>
    have hsz : (⟨l.toArray⟩ : ByteArray).size = l.length := by simp [ByteArray.size]
    have hmin : Nat.min l.length dLen = min l.length dLen := rfl
    simp only [Builtin.copy_, Sem.run_bind, run_underlying hu, Result.andThen_ok, Builtin.lenOf, Builtin.firstCells, sizeOf, typeInfo, hq, Sem.run_pure, List.getElem?_toArray, List.getElem?_cons_zero, List.getElem?_cons_succ, hsz, hmin]
    have hc : ((((⟨l.toArray⟩ : ByteArray).extract 0 (min l.length dLen)).data.map fun b => Value.int .u8 b.toNat)).toList = (l.take (min l.length dLen)).map B9 := by
      simp [B9]
      rfl
    simp [run_underlying hu, Builtin.lenOf, Builtin.firstCells, sizeOf, typeInfo, hq, hsz, hmin, hc]
    simp only [List.map_take] at hst
    rw [show (fun b : UInt8 => Value.int IntKind.u8 (b.toNat : Int)) = B9 from rfl, hst]
    simp [Result.andThen]
section ops
variable {P : Program} {G : FP} {N : List B1} {d : Nat} {ty : TypeId} {pos : String} {af : Array Edge} {gd : Option (Nat × Bool)}
theorem La {T0 e t1 t2 : TypeId} {x y : Operand} {p : Value} {n k m c i : Nat} {l s : List UInt8} (pre post : List Ck) (hu : P.underlying t1 = some (.slice e)) (hs : (P.info? e).map (·.size) = some 1)
    (hx : AM G N x (Lg p k m c)) (hy : AM G N y (As s)) (h1 : k = lens pre + i) (hm : i + m ≤ n) (hle : n ≤ CG) :
    Ba P G ⟨some d, .call ⟨.builtin .copy, #[x, y], #[t1, t2]⟩, ty, pos, af, gd⟩ N [.res (lb p T0 (pre ++ [Af n l] ++ post))]
      (fun _ => [.slot d (Ab .i64 (min s.length m : Nat)), .res (lb p T0 (pre ++ [Af n (l.take i ++ s.take (min s.length m) ++ l.drop (i + min s.length m))] ++ post))]) := by
  intro Φ a w fN fC q1 q2 q3 q4 q5 q6 q7 K Q hK
  match fC, q4 with
  | [f], ⟨⟨b, cs, hp, hf, hb, hL, hn⟩, _⟩ =>
    subst hf
    obtain ⟨b1, hp1, hv1⟩ := hx Φ a w fN q2 q3
    obtain ⟨hv2, _⟩ := hy Φ a w fN q2 q3
    obtain rfl : b1 = b := by rw [hp] at hp1; simpa using hp1.symm
    obtain ⟨xs, ys, zs, rfl, r1, r2, r3⟩ := EZ hL
    obtain ⟨y1, y2, rfl, ⟨hl, rfl⟩, hy2⟩ := r2
    have hy2 : y2 = [] := hy2
    subst hy2
    have hxs := r1.len
    have hmle : min s.length m ≤ m ∧ min s.length m ≤ s.length := by omega
    have hrun := Kn (P := P) w t1 t2 ty e b1 k m c s (xs ++ (l.map B9 ++ []) ++ zs).toArray T0 hu hs hb (by simp; omega)
    generalize min s.length m = mm at *
    have hrow : ((xs ++ (l.map B9 ++ []) ++ zs).toArray.toList.take k ++ (s.take mm).map B9 ++ (xs ++ (l.map B9 ++ []) ++ zs).toArray.toList.drop (k + mm)) = xs ++ ((l.take i ++ s.take mm ++ l.drop (i + mm)).map B9 ++ []) ++ zs := by
      subst h1
      rw [← hxs]
      simp only [List.append_nil, List.append_assoc, List.map_append, List.map_take, List.map_drop]
      rw [List.take_length_add_append, Nat.add_assoc, List.drop_length_add_append, List.take_append_of_le_length (by simp; omega), List.drop_append_of_le_length (by simp; omega)]
      simp only [List.append_assoc]
    rw [hrow] at hrun
    have hexec : (execOp a.eval ⟨some d, .call ⟨.builtin .copy, #[x, y], #[t1, t2]⟩, ty, pos, af, gd⟩).run P w = .ok (.value (goInt mm)) (w.setRow b1 (xs ++ ((l.take i ++ s.take mm ++ l.drop (i + mm)).map B9 ++ []) ++ zs).toArray) := by
      simp only [execOp, resolve, List.map_toArray, List.map_cons, List.map_nil, hv1, hv2, Sem.run_bind, Sem.run_pure, Result.andThen_ok, invoke, builtin, hrun]
    unfold Oper.wp
    rw [hexec, Oper.upon_value]
    have hmid : B0 Φ ((l.take i ++ s.take mm ++ l.drop (i + mm)).map B9 ++ []) [Af n (l.take i ++ s.take mm ++ l.drop (i + mm))] := ⟨_, [], rfl, ⟨by simp; omega, rfl⟩, rfl⟩
    have hnb := setRow_heap w b1 (xs ++ (l.map B9 ++ []) ++ zs).toArray (xs ++ ((l.take i ++ s.take mm ++ l.drop (i + mm)).map B9 ++ []) ++ zs).toArray T0 _ hb
    refine hK _ _ Φ [[], [b1]] ⟨rfl, rfl, rfl, by simp, fun c hc' hne => setRow_other w b1 c _ (by simpa using hne), BR.le_refl _, fun _ _ _ => rfl⟩ ⟨fun c o v e' => by rw [setRow_size]; exact q1.lt c o v e', fun c o v e' => ?_⟩
      ⟨⟨rfl, _, C0 a _ d (q7 d rfl), ⟨rfl, FY (by omega)⟩⟩, ⟨b1, _, hp, rfl, hnb, (r1.append hmid).append r3, hn⟩, trivial⟩ (by simp) (fun c hc' => ?_)
    · have hne : c ≠ b1 := fun e'' => by rw [e'', hn o] at e'; cases e'
      exact (World.cell?_of_block (w := w) (setRow_other w b1 c _ hne)).trans (q1.cell c o v e')
    · simp at hc'
      subst hc'
      have := q6 c (by simp)
      exact ⟨by rw [setRow_size]; exact this, .inl (by simp)⟩
theorem Kt {k : IntKind} {x y : Operand} {m n : Int} {tys : Array TypeId} (hx : AM G N x (Ab k m)) (hy : AM G N y (Ab k n)) :
    Ba P G ⟨some d, .call ⟨.builtin .min, #[x, y], tys⟩, ty, pos, af, gd⟩ N [] (fun _ => [.slot d (Ab k (if n < m then n else m))]) :=
  Ba.val fun Φ a w f _ hG hN => by
    obtain ⟨h1, h2⟩ := hx Φ a w f hG hN
    obtain ⟨h3, h4⟩ := hy Φ a w f hG hN
    refine ⟨.int k (if n < m then n else m), ?_, rfl, by split <;> assumption⟩
    simp [execOp, resolve, h1, h3, invoke, builtin, Builtin.min_, Builtin.min2]
theorem P7 {k : IntKind} {x y : Operand} {m n : Int} {tys : Array TypeId} (hx : AM G N x (Ab k m)) (hy : AM G N y (Ab k n)) :
    Ba P G ⟨some d, .call ⟨.builtin .max, #[x, y], tys⟩, ty, pos, af, gd⟩ N [] (fun _ => [.slot d (Ab k (if m < n then n else m))]) :=
  Ba.val fun Φ a w f _ hG hN => by
    obtain ⟨h1, h2⟩ := hx Φ a w f hG hN
    obtain ⟨h3, h4⟩ := hy Φ a w f hG hN
    refine ⟨.int k (if m < n then n else m), ?_, rfl, by split <;> assumption⟩
    simp [execOp, resolve, h1, h3, invoke, builtin, Builtin.max_, Builtin.max2]
end ops

end
section
open Go Go.RowKit Go.Proofs
set_option linter.unusedVariables false
section ops
variable {P : Program} {G : FP} {N : List B1} {d : Nat} {ty : TypeId} {pos : String} {af : Array Edge} {gd : Option (Nat × Bool)}
theorem Na {S : TypeId} {x : Operand} {i : Nat} {fields : Array Field} {fd : Field} {V : VP} (pre post : List Ck) (hu : P.underlying S = some (.struct fields)) (hi : fields[i]? = some fd) (ha : ∀ w, (isAgg fd.type).run P w = .ok false w)
    (hx : AM G N x (AG (pre ++ [one V] ++ post))) (hk : lens pre = fd.offset) : Ba P G ⟨some d, .field S x i, ty, pos, af, gd⟩ N [] (fun _ => [.slot d V]) :=
  Ba.val fun Φ a w f _ hG hN => by
    obtain ⟨cs, hv, hL⟩ := hx Φ a w f hG hN
    obtain ⟨xs, ys, zs, rfl, h1, h2, h3⟩ := EZ hL
    obtain ⟨y1, y2, rfl, ⟨v, rfl, _, hV⟩, h4⟩ := h2
    refine ⟨v, ?_, hV⟩
    have hc : (xs ++ ([v] ++ y2) ++ zs).toArray[fd.offset]? = some v := by
      rw [← hk, ← h1.len]; simp
    simp only [execOp, hv]
    rw [Sem.run_bind]
    have : (Instr.field S (.agg (xs ++ ([v] ++ y2) ++ zs).toArray) i).run P w = .ok v w := by
      simp only [Instr.field, Sem.run_bind, run_underlying hu, Result.andThen_ok, hi, asAgg, part, ha w, Sem.run_pure, hc]
      rfl
    rw [this]
    rfl
end ops

end
section
open Go Go.RowKit Go.Proofs
set_option linter.unusedVariables false
set_option linter.unusedSimpArgs false
section ops
variable {P : Program} {G : FP} {N : List B1} {d : Nat} {ty : TypeId} {pos : String} {af : Array Edge} {gd : Option (Nat × Bool)}
theorem GX {α β : Type} {A : α → List VP} {B : β → VP} {g : α → Option β} {f : FuncId} {xs : List Operand} {Cs : List VP} (hcall : ∀ args w, (callFunc f args).run P w = .ok (.enter f args) w)
    (hF : ∀ x r, g x = some r → Az P G f (A x ++ Cs) [] (fun _ => []) (B r)) (hx : Fs G N xs Cs) :
    Ba P G ⟨some d, .makeFunc (.func f) #[] xs.toArray, ty, pos, af, gd⟩ N [] (fun _ => [.slot d (Jw P G A B g)]) :=
  Ba.val fun Φ a w fp _ hG hN => ⟨.func (.func f) #[] (xs.map a.eval).toArray, by simp [execOp, Instr.makeFunc], QZ hcall hF (hx.eval hG hN)⟩
end ops
end
section
open Go Go.RowKit Go.Proofs
set_option linter.unusedVariables false
def Oc (G : FP) (N : List B1) : List Operand → List Value → Prop
  | [], [] => True
  | x :: xs, p :: ps => AM G N x (Am p) ∧ Oc G N xs ps
  | _, _ => False
theorem JE {G : FP} {N : List B1} {Φ : BR} {a : Act} {w : World} {f : List (List Nat)} (hG : G.p Φ) (hN : BT Φ a.tmps w N f) : ∀ {xs : List Operand} {ps : List Value}, Oc G N xs ps → xs.map a.eval = ps
  | [], [], _ => rfl
  | x :: xs, p :: ps, h => by
    have h1 : a.eval x = p := h.1 Φ a w f hG hN
    rw [List.map_cons, h1, JE hG hN h.2]
  | [], _ :: _, h => h.elim
  | _ :: _, [], h => h.elim
section ops
variable {P : Program} {G : FP} {N : List B1} {d : Nat} {ty : TypeId} {pos : String} {af : Array Edge} {gd : Option (Nat × Bool)}
theorem LY {f : FuncId} {xs : List Operand} {ps : List Value} (hx : Oc G N xs ps) : Ba P G ⟨some d, .makeFunc (.func f) #[] xs.toArray, ty, pos, af, gd⟩ N [] (fun _ => [.slot d (Am (.func (.func f) #[] ps.toArray))]) :=
  Ba.val fun Φ a w fp _ hG hN => ⟨.func (.func f) #[] (xs.map a.eval).toArray, by simp [execOp, Instr.makeFunc], by rw [JE hG hN hx]; rfl⟩
theorem J9 {Φ : BR} : ∀ (ps : List Value), Ew Φ (ps.map Am) ps
  | [] => trivial
  | p :: ps => ⟨rfl, J9 ps⟩
theorem Jp {f : Operand} {fi : FuncId} {ps : List Value} {xs : List Operand} {tys : Array TypeId} {args : List VP} {pre post : List RP} {res : VP} (hcall : ∀ args w, (callFunc fi args).run P w = .ok (.enter fi args) w) (hf : AM G N f (Am (.func (.func fi) #[] ps.toArray)))
    (hc : Az P G fi (args ++ ps.map Am) pre (fun _ => post) res) (hx : Fs G N xs args) :
    Ba P G ⟨some d, .call ⟨.value f, xs.toArray, tys⟩, ty, pos, af, gd⟩ N (pre.map .res) (fun _ => .slot d res :: post.map .res) := by
  intro Φ a w fN fC h1 h2 h3 h4 h5 h6 h7 K Q hK
  have hargs := hx.eval h2 h3
  have hv : a.eval f = .func (.func fi) #[] ps.toArray := hf Φ a w fN h2 h3
  have hrun : (execOp a.eval ⟨some d, .call ⟨.value f, xs.toArray, tys⟩, ty, pos, af, gd⟩).run P w = .ok (.enter fi (xs.map a.eval ++ ps).toArray) w := by
    simp [execOp, resolve, hv, Deferred.ofValue, invoke, hcall]
  have hres := BT.Jd h4
  rw [List.nodup_append] at h5
  have hcl := hc Φ w (xs.map a.eval ++ ps) fC h1 h2 (hargs.append (J9 ps)) hres h5.2.1 (fun b hb => h6 b (by simp [hb]))
  unfold Oper.wp
  rw [hrun, Oper.upon_enter]
  refine hcl.mono fun e w' hq => ?_
  obtain ⟨v, Φ', fs', rfl, q1, q2, q3, q4, q5, q6⟩ := hq
  exact hK v w' Φ' ([] :: fs') q1 q2 ⟨⟨rfl, v, C0 a v d (h7 d rfl), q3⟩, BT.Kv q4⟩ (by simpa using q5) (by simpa using q6)
theorem Eh {α : Type} {T T0 E : TypeId} {x : Operand} {p q : Value} {sz : Nat} {ck : α → List Ck} {xs : List α} (j i : Nat) (ha : ∀ w, (isAgg T).run P w = .ok false w)
    (hx : AM G N x (Au p 0)) (he : Br .none N j = .res (lb p T0 ([] ++ [one (Am q)] ++ []))) (hq : Br .none N i = .res (acc q E sz ck xs)) :
    Ba P G ⟨some d, .load T x, ty, pos, af, gd⟩ N [] (fun _ => [.slot d (An ck xs)]) :=
  Ba.val fun Φ a w f _ hG hN => by
    obtain ⟨b, hp, hv⟩ := hx Φ a w f hG hN
    obtain ⟨g, b', cs, hp', _, hb, hL, _⟩ := hN.res j he
    have : b' = b := by rw [hp] at hp'; simpa using hp'.symm
    subst this
    obtain ⟨g2, hr⟩ := hN.res i hq
    obtain ⟨xs', ys, zs, rfl, h1, h2, h3⟩ := EZ hL
    obtain ⟨y1, y2, rfl, ⟨v, rfl, _, hV⟩, h4⟩ := h2
    have hV : v = q := hV
    subst hV
    refine ⟨v, ?_, Iu hr⟩
    simp only [execOp, hv]
    have h1 : xs' = [] := h1
    subst h1
    rw [Sem.run_bind, E1 ha (v := v) (by rw [cell_of hb]; simp)]
    rfl
end ops

end
section
open Go Go.RowKit Go.Proofs
set_option linter.unusedVariables false
set_option linter.unusedSimpArgs false
def Qd (t : TypeId) (V : VP) : VP := ⟨fun Φ v => ∃ u, v = .iface t u ∧ V.p Φ u, by rintro Φ Φ' v hle ⟨u, h1, h2⟩; exact ⟨u, h1, V.mono hle h2⟩⟩
def QU (t : TypeId) (v : Value) : Prop := v = .nilIface ∨ ∃ t' u, v = .iface t' u ∧ t' ≠ t
section ops
variable {P : Program} {G : FP} {N : List B1} {d : Nat} {ty : TypeId} {pos : String} {af : Array Edge} {gd : Option (Nat × Bool)}
theorem J2 {t : TypeId} {fs : Array Field} {x : Operand} {V : VP} (hu : P.underlying t = some (.struct fs)) (hx : AM G N x V) :
    Ba P G ⟨some d, .makeInterface t x, ty, pos, af, gd⟩ N [] (fun _ => [.slot d (Qd t V)]) :=
  Ba.val fun Φ a w f _ hG hN => by
    refine ⟨.iface t (a.eval x), ?_, ⟨_, rfl, hx Φ a w f hG hN⟩⟩
    simp only [execOp, Instr.makeInterface, Sem.run_bind, run_underlying hu, Result.andThen_ok, Sem.run_pure]
theorem C7 {t s : TypeId} {fs : Array Field} {x : Operand} {I A : VP} {b : Bool} {z : Value} (hu : P.underlying t = some (.struct fs)) (hz : ∀ w, (zeroValue t).run P w = .ok z w) (hx : AM G N x I)
    (hI : ∀ Φ v, I.p Φ v → (∃ u, v = .iface t u ∧ b = true ∧ A.p Φ u) ∨ (QU t v ∧ b = false ∧ A.p Φ z)) :
    Ba P G ⟨some d, .typeAssert x s t true, ty, pos, af, gd⟩ N [] (fun _ => [.slot d (CV [A, AE b])]) :=
  Ba.val fun Φ a w f _ hG hN => by
    rcases hI Φ _ (hx Φ a w f hG hN) with ⟨u, h1, h2, h3⟩ | ⟨h1, h2, h3⟩
    · refine ⟨.tuple #[u, .bool true], ?_, ⟨[u, .bool true], rfl, h3, by rw [h2]; rfl, trivial⟩⟩
      simp [execOp, h1, Instr.typeAssert, Sem.run_bind, run_underlying hu, Result.andThen_ok]
    · refine ⟨.tuple #[z, .bool false], ?_, ⟨[z, .bool false], rfl, h3, by rw [h2]; rfl, trivial⟩⟩
      rcases h1 with h1 | ⟨t', u, h1, hne⟩
      · simp [execOp, h1, Instr.typeAssert, Sem.run_bind, run_underlying hu, Result.andThen_ok, hz]
      · simp [execOp, h1, Instr.typeAssert, Sem.run_bind, run_underlying hu, Result.andThen_ok, hz, hne]
end ops

end
end Go.Proofs.YteboiefnflipjaaGreatDoor
