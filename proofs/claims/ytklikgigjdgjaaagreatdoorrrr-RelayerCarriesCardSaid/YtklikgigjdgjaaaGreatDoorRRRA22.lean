/- What is well formed of what is read: facts of arguments for the plain laws; a single cell's value. -/
import Derived.Test.YtklikgigjdgjaaaGreatDoorRRRA21
import Derived.WideShapes
namespace Go.Proofs.YtklikgigjdgjaaaGreatDoorRRR
open Go Go.RowKit Go.Proofs Go.WideShapes
set_option linter.unusedVariables false
def Wf {α : Type} (c : α → List Ck) (p : α → Prop) : Prop := ∀ Φ cs x, Lrel Φ cs (c x) → p x
theorem wf_int {k : IntKind} : Wf (iC k) (InR k) := fun _ _ _ ⟨_, _, _, ⟨_, _, _, h⟩, _⟩ => h.2
theorem wf_str : Wf strC (fun s => s.length ≤ mxl) := fun _ _ _ ⟨_, _, _, ⟨_, _, _, h⟩, _⟩ => h.2
theorem wf_u8 : Wf bC (fun _ => True) := fun _ _ _ _ => trivial
theorem wf_bool : Wf boC (fun _ => True) := fun _ _ _ _ => trivial
theorem wf_bytes {n : Nat} : Wf (dC n) (fun l => l.length = n) := fun _ _ _ ⟨_, _, _, h, _⟩ => h.1
theorem Arel.wf {α : Type} {c : α → List Ck} {p : α → Prop} (h : Wf c p) {Φ : Pub} : ∀ {l : List α} {cs : List Value}, Arel Φ c cs l → ∀ y ∈ l, p y
  | [], _, _, y, hy => by cases hy
  | x :: l, cs, ⟨u, v, _, h1, h2⟩, y, hy => by
    rcases List.mem_cons.1 hy with rfl | hy
    · exact h _ _ _ h1
    · exact Arel.wf h h2 y hy
theorem wf_slice {α : Type} {c : α → List Ck} {p : α → Prop} (h : Wf c p) : Wf (slC c) (fun l => l.length ≤ mxl ∧ ∀ y ∈ l, p y) := by
  rintro Φ cs x ⟨_, _, _, ⟨_, _, _, h1⟩, _⟩
  refine ⟨h1.1, ?_⟩
  rcases h1.2 with ⟨_, rfl⟩ | ⟨_, _, _, _, _, _, h2, _⟩ | ⟨rfl, _⟩
  · intro y hy; cases hy
  · exact Arel.wf h h2
  · intro y hy; cases hy
theorem wf_arr {α : Type} {n sz : Nat} {c : α → List Ck} {hsz : ∀ x, lens (c x) = sz} {p : α → Prop} (h : Wf c p) : Wf (fun l => [arrCk n sz c hsz l]) (fun l => l.length = n ∧ ∀ y ∈ l, p y) := by
  rintro Φ cs x ⟨_, _, _, ⟨h1, h2⟩, _⟩
  exact ⟨h1, Arel.wf h h2⟩
theorem wf_cut {Φ : Pub} {cs : List Value} {k : Ck} {L : List Ck} (h : Lrel Φ cs (k :: L)) : (∃ u, Lrel Φ u [k]) ∧ ∃ v, Lrel Φ v L := by
  obtain ⟨u, v, _, h1, h2⟩ := h
  exact ⟨⟨u, u, [], by simp, h1, rfl⟩, v, h2⟩
theorem wf_cuts {Φ : Pub} {cs : List Value} {K L : List Ck} (h : Lrel Φ cs (K ++ L)) : (∃ u, Lrel Φ u K) ∧ ∃ v, Lrel Φ v L := by
  obtain ⟨u, v, _, h1, h2⟩ := h.split
  exact ⟨⟨u, h1⟩, v, h2⟩
theorem one_of {Φ : Pub} {v : Value} {V : VP} (hn : ∀ cs, v ≠ .agg cs) (h : Lrel Φ v.cells.toList [one V]) : V.p Φ v := by
  obtain ⟨u, r, h1, ⟨y, rfl, _, h2⟩, rfl⟩ := h
  cases v
  case agg cs => exact absurd rfl (hn cs)
  all_goals (simp [Value.cells] at h1; subst h1; exact h2)
theorem val_slice {Φ : Pub} {P : Program} {W : World} {base : Nat} {t e : TypeId} {v : Value} {V : VP} (hv : Value.okWide P W .any base t v) (ht : P.underlying t = some (.slice e)) (h : Lrel Φ v.cells.toList [one V]) : V.p Φ v := by
  obtain ⟨_, _, _, rfl⟩ := okWide_slice ht hv
  exact one_of (fun _ h => by cases h) h
theorem val_int {Φ : Pub} {P : Program} {W : World} {base : Nat} {t : TypeId} {k : IntKind} {v : Value} {V : VP} (hv : Value.okWide P W .any base t v) (ht : P.underlying t = some (.int k)) (h : Lrel Φ v.cells.toList [one V]) : V.p Φ v := by
  obtain ⟨_, rfl⟩ := okWide_int ht hv
  exact one_of (fun _ h => by cases h) h
theorem val_str {Φ : Pub} {P : Program} {W : World} {base : Nat} {t : TypeId} {v : Value} {V : VP} (hv : Value.okWide P W .any base t v) (ht : P.underlying t = some .string) (h : Lrel Φ v.cells.toList [one V]) : V.p Φ v := by
  obtain ⟨_, rfl⟩ := okWide_string ht hv
  exact one_of (fun _ h => by cases h) h
theorem val_bool {Φ : Pub} {P : Program} {W : World} {base : Nat} {t : TypeId} {v : Value} {V : VP} (hv : Value.okWide P W .any base t v) (ht : P.underlying t = some .bool) (h : Lrel Φ v.cells.toList [one V]) : V.p Φ v := by
  obtain ⟨_, rfl⟩ := okWide_bool ht hv
  exact one_of (fun _ h => by cases h) h
theorem agg_of {α : Type} {Φ : Pub} {v : Value} {c : α → List Ck} {x : α} {P : Program} {W : World} {base : Nat} {t : TypeId} (hv : Value.okWide P W .any base t v) (ht : (match P.underlying t with | some (.struct _) | some (.array _ _) => True | _ => False)) (h : Lrel Φ v.cells.toList (c x)) : (aggVP (c x)).p Φ v := by
  unfold Value.okWide at hv
  split at hv
  · obtain ⟨cs, rfl, _⟩ := hv
    exact ⟨cs.toList, by simp, by simpa [Value.cells] using h⟩
  · obtain ⟨cs, rfl, _⟩ := hv
    exact ⟨cs.toList, by simp, by simpa [Value.cells] using h⟩
  · rename_i h1 h2
    split at ht
    · rename_i q; exact absurd q (h1 _)
    · rename_i q; exact absurd q (h2 _ _)
    · exact ht.elim
end Go.Proofs.YtklikgigjdgjaaaGreatDoorRRR
