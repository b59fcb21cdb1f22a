/- slices.Clone's way: an empty slice without room, and what is appended to it. -/
import Derived.Test.YtklikgigjdgjaaaGreatDoorRRRA24
namespace Go.Proofs.YtklikgigjdgjaaaGreatDoorRRR
open Go Go.RowKit Go.Proofs
set_option linter.unusedVariables false
set_option linter.unusedSimpArgs false

/-- An empty slice without room. -/
def empVP : VP := ⟨fun _ v => v = .slice none 0 0 ∨ ∃ a, v = .slice (some a) 0 0, fun _ h => h⟩
section ops
variable {P : Program} {G : FP} {N : List Ent} {d : Nat} {ty : TypeId} {pos : String} {af : Array Edge} {gd : Option (Nat × Bool)}
theorem run_append_none {w : World} {sT ty e : TypeId} {i : TypeInfo} (ht : P.underlying sT = some (.slice e)) (hi : P.info? e = some i) (a : Addr) (u : Value) (hu : u = .slice none 0 0 ∨ ∃ b cap, u = .slice (some b) 0 cap) :
    (Builtin.append_ #[sT, sT] ty #[.slice (some a) 0 0, u]).run P w = .ok (.slice (some a) 0 0) w := by
  rcases hu with rfl | ⟨b, cap, rfl⟩
  · simp [Builtin.append_, run_underlying ht, sizeOf, typeInfo, hi, Builtin.lenOf, Builtin.firstCells, storeCells]
  · simp [Builtin.append_, run_underlying ht, sizeOf, typeInfo, hi, Builtin.lenOf, Builtin.firstCells, storeCells, loadCells, loadCellsFrom]
/-- append(s[:0:0], x..): a copy, published. -/
theorem op_append_emp {α : Type} {e sT : TypeId} {i : TypeInfo} {z : Value} {c : α → List Ck} {ys : List α} {s x : Operand} (ht : P.underlying sT = some (.slice e)) (hi : P.info? e = some i) (hz : i.zero = some z) (hsz : ∀ x, lens (c x) = i.size) (hpos : 0 < i.size) (hzs : z.cells.size = i.size)
    (hs : OpndOk G N s empVP) (hx : OpndOk G N x (slVP c ys)) (hb : ys.length * i.bytes ≤ 140737488355328) :
    OpOk P G ⟨some d, .call ⟨.builtin .append, #[s, x], #[sT, sT]⟩, ty, pos, af, gd⟩ N [] (fun _ => [.slot d (slVP c ys)]) := by
  intro Φ a w fN fC h1 h2 h3 h4 h5 h6 h7 K Q hK
  match fC, h4 with
  | [], _ =>
  have hxv := hx Φ a w fN h2 h3
  have hsv := hs Φ a w fN h2 h3
  have hmx := hxv.1
  have h63 : ((ys.length : Nat) : Int) ≤ 9223372036854775807 := by have := (len_in hmx).2; simp [IntKind.max, IntKind.bits, IntKind.signed] at this; omega
  have hexec : ∀ v' w', (Builtin.append_ #[sT, sT] ty #[a.eval s, a.eval x]).run P w = .ok v' w' → (execOp a.eval ⟨some d, .call ⟨.builtin .append, #[s, x], #[sT, sT]⟩, ty, pos, af, gd⟩).run P w = .ok (.value v') w' := by
    intro v' w' hr
    simp only [execOp, resolve, List.map_toArray, List.map_cons, List.map_nil, Sem.run_bind, Sem.run_pure, Result.andThen_ok, invoke, builtin, hr]
  by_cases h0 : ys.length = 0
  · have hy : ys = [] := List.eq_nil_of_length_eq_zero h0
    subst hy
    have hxe : a.eval x = .slice none 0 0 ∨ ∃ b cap, a.eval x = .slice (some b) 0 cap := by
      rcases hxv.2 with ⟨h, _⟩ | ⟨b, o, cap, cs, h, _⟩ | ⟨_, b, cap, h⟩
      · exact .inl h
      · exact .inr ⟨_, _, h⟩
      · exact .inr ⟨_, _, h⟩
    rcases hsv with hv | ⟨ad, hv⟩
    · have hr : (Builtin.append_ #[sT, sT] ty #[a.eval s, a.eval x]).run P w = .ok (.slice none 0 0) w := by
        rw [hv]
        rcases hxe with h | ⟨b, cap, h⟩
        · rw [h]; exact (Src.nil (w := w) (z := z) ht hi).idle rfl
        · rw [h]; exact (Src.slice (w := w) (z := z) (n := 0) (ds := []) ht hi hz (by simp) (fun j v hj => by simp at hj) (by simp)).idle rfl
      unfold Oper.wp
      rw [hexec _ _ hr, Oper.upon_value]
      exact hK _ w Φ [[]] (Step.refl _ _ _) h1 ⟨⟨rfl, _, put_get a _ d (h7 d rfl), by simp [mxl], .inl ⟨rfl, rfl⟩⟩, trivial⟩ (by simp) (by simp)
    · have hr : (Builtin.append_ #[sT, sT] ty #[a.eval s, a.eval x]).run P w = .ok (.slice (some ad) 0 0) w := by
        rw [hv]; exact run_append_none ht hi ad _ hxe
      unfold Oper.wp
      rw [hexec _ _ hr, Oper.upon_value]
      exact hK _ w Φ [[]] (Step.refl _ _ _) h1 ⟨⟨rfl, _, put_get a _ d (h7 d rfl), by simp [mxl], .inr (.inr ⟨rfl, ad, 0, rfl⟩)⟩, trivial⟩ (by simp) (by simp)
  · obtain ⟨ds, hS, hA⟩ : ∃ ds, Src P w sT sT ty e i z (a.eval x) ys.length ds ∧ Arel Φ c ds ys := by
      rcases hxv.2 with ⟨h, rfl⟩ | ⟨b, o, cap, ds, hv, _, hA, hp⟩ | ⟨rfl, b, cap, hv⟩
      · exact absurd rfl h0
      · rw [hv]; exact ⟨ds, Src.slice ht hi hz (hA.len hsz) (fun j v hj => by rw [Addr.add_lit]; exact h1.cell _ _ _ (hp j v hj)) hA.cell, hA⟩
      · exact absurd rfl h0
    have hdl : ds.length = ys.length * i.size := hA.len hsz
    have hnew : ∃ cap, ys.length ≤ cap ∧ (Builtin.append_ #[sT, sT] ty #[a.eval s, a.eval x]).run P w = .ok (.slice (some ⟨w.heap.size, 0, none⟩) ys.length cap) (w.drew.alloc (.cells (ds.toArray ++ Builtin.zeroCells z.cells (cap - ys.length)) e)) := by
      rcases hsv with hv | ⟨ad, hv⟩
      · refine ⟨grownCap w ys.length 0 e, by have := grownCap_ge w ys.length 0 e; simpa using this, ?_⟩
        rw [hv]; exact hS.fresh (by omega) h63 (by omega)
      · refine ⟨grownCap w (0 + ys.length) 0 e, by have := grownCap_ge w (0 + ys.length) 0 e; simpa using this, ?_⟩
        rw [hv]
        have hr := hS.grow ad 0 0 [] (by simp) (fun j v hj => by simp at hj) (Nat.le_refl _) (by omega) (by simpa using h63) (growslice_fits (by omega) (by simpa using hb))
        simpa using hr
    obtain ⟨cap, hcap, hr⟩ := hnew
    let Φ' : Pub := fun b o => if b = w.heap.size then ds[o]? else Φ b o
    have hle : Pub.le Φ Φ' := fun b o v e => by
      have := h1.lt b o v e
      simp only [Φ', if_neg (by omega : ¬ b = w.heap.size)]
      exact e
    unfold Oper.wp
    rw [hexec _ _ hr, Oper.upon_value]
    refine hK _ _ Φ' [[]] ⟨rfl, rfl, rfl, by simp, fun b hb _ => heap_alloc_old w.drew _ b hb, hle, fun b hb _ => by funext o; simp only [Φ', if_neg (by omega : ¬ b = w.heap.size)]⟩ ⟨fun b o v e => ?_, fun b o v e => ?_⟩
      ⟨⟨rfl, _, put_get a _ d (h7 d rfl), hmx, .inr (.inl ⟨w.heap.size, 0, cap, ds, rfl, hcap, hA.mono hle, fun j v hj => by simp only [Φ', if_pos trivial, Nat.zero_add]; exact hj⟩)⟩, trivial⟩ (by simp) (by simp)
    · by_cases hbb : b = w.heap.size
      · simp [hbb]
      · simp only [Φ', if_neg hbb] at e
        have := h1.lt b o v e
        simp; omega
    · by_cases hbb : b = w.heap.size
      · subst hbb
        simp only [Φ', if_pos trivial] at e
        rw [show w.heap.size = w.drew.heap.size from rfl, World.cell?_alloc_new]
        have hlt : o < ds.length := by
          rcases Nat.lt_or_ge o ds.length with q | q
          · exact q
          · rw [List.getElem?_eq_none q] at e; cases e
        rw [Array.getElem?_append_left (by simpa using hlt)]
        simpa using e
      · simp only [Φ', if_neg hbb] at e
        rw [World.cell?_alloc_lt _ _ _ (show b < w.drew.heap.size from h1.lt b o v e)]
        exact h1.cell b o v e
end ops
end Go.Proofs.YtklikgigjdgjaaaGreatDoorRRR
