/- Small words for the functions' Lean twins, and glue. -/
import Derived.Test.YtklikgigjdgjaaaGreatDoorRRRA11
namespace Go.Proofs.YtklikgigjdgjaaaGreatDoorRRR
open Go Go.RowKit

/-- A value under a name. -/
def bnd {α β : Type} (e : α) (k : α → Option β) : Option β := k e

theorem ite_some {α : Type} {c : Prop} [Decidable c] {x : Option α} {r : α} (h : (if c then x else none) = some r) : c ∧ x = some r := by
  by_cases hc : c
  · rw [if_pos hc] at h; exact ⟨hc, h⟩
  · rw [if_neg hc] at h; cases h
theorem bind_some {α β : Type} {x : Option α} {k : α → Option β} {r : β} (h : x.bind k = some r) : ∃ y, x = some y ∧ k y = some r := by
  cases x with
  | none => cases h
  | some y => exact ⟨y, rfl, h⟩
theorem exit_ne (i : Nat) : Exit.exit i ≠ Exit.normal := by intro h; cases h
theorem ret_ne : Exit.ret ≠ Exit.normal := by intro h; cases h

/-- Some of the entries. -/
theorem SatL.sub {c : Cx} {l : List Ent} {a : Act} {w : World} (h : SatL c l a w) (ks : List Nat) (hk : (distinct ks && ks.all fun k => decide (k < l.length)) = true) : SatL c (ks.map (nthD .none l)) a w := by
  simp only [Bool.and_eq_true] at hk
  have hnd := distinct_nodup hk.1
  have hlt : ∀ k ∈ ks, k < l.length := fun k hm => by simpa using (List.all_eq_true.1 hk.2) k hm
  refine Sat.pick h (fun i => nthD 0 ks i) (fun i hi => ?_) (fun i hi => ?_) (fun i j hi hj hne e => ?_)
  · have hi : i < ks.length := by simpa using hi
    rw [nthD_eq]
    simp only [List.getD, List.getElem?_eq_getElem hi, Option.getD_some]
    exact hlt _ (List.getElem_mem hi)
  · have hi : i < ks.length := by simpa using hi
    rw [nthD_map 0 Ent.none (nthD .none l) ks i hi]
  · have hi : i < ks.length := by simpa using hi
    have hj : j < ks.length := by simpa using hj
    rw [nthD_eq, nthD_eq] at e
    simp only [List.getD, List.getElem?_eq_getElem hi, List.getElem?_eq_getElem hj, Option.getD_some] at e
    exact hne ((List.getElem_inj hnd).1 e)

/-- An operation that lets an entry go besides. -/
theorem HoldL.snoc {Φ : Pub} {tmps : Array Value} {w : World} : ∀ {C : List Ent} {e : Ent} {fC : List (List Nat)}, HoldL Φ tmps w (C ++ [e]) fC → ∃ gC f, fC = gC ++ [f] ∧ HoldL Φ tmps w C gC
  | [], e, [f], h => ⟨[], f, rfl, trivial⟩
  | [], e, [], h => h.elim
  | [], e, _ :: _ :: _, h => h.2.elim
  | c :: C, e, f :: fC, h => by
    obtain ⟨gC, g, rfl, h2⟩ := HoldL.snoc h.2
    exact ⟨f :: gC, g, rfl, h.1, h2⟩
  | _ :: _, _, [], h => h.elim
theorem GOk.drop {P : Program} {G : FP} {ops : Array Oper} {o : Oper} {N C : List Ent} {Gv : Value → List Ent} (e : Ent) (h : GOk P G ops o N C Gv) : GOk P G ops o N (C ++ [e]) Gv := by
  intro Φ a w fN fC h1 h2 h3 h4 h5 h6 h7 K Q hK
  obtain ⟨gC, g, rfl, h4'⟩ := h4.snoc
  refine h Φ a w fN gC h1 h2 h3 h4' ?_ (fun b hb => h6 b ?_) h7 K Q fun v w' Φ' fG q1 q2 q3 q4 q5 => hK v w' Φ' fG (q1.widen fun b hb _ => by simp only [List.flatten_append]; exact List.mem_append.2 (.inl hb)) q2 q3 q4 fun b hb => ⟨(q5 b hb).1, (q5 b hb).2.imp (fun hm => by simp only [List.flatten_append]; exact List.mem_append.2 (.inl hm)) id⟩
  · simp only [List.flatten_append, ← List.append_assoc] at h5
    exact (List.nodup_append.1 h5).1
  · simp only [List.mem_append, List.flatten_append] at hb ⊢
    rcases hb with hb | hb
    · exact .inl hb
    · exact .inr (.inl hb)
/-- An operation whose result no one asks for. -/
theorem GOk.mute {P : Program} {G : FP} {ops : Array Oper} {o : Oper} {N C : List Ent} {Gv : Value → List Ent} (h : GOk P G ops o N C Gv) : GOk P G ops o N C (fun _ => []) := by
  intro Φ a w fN fC h1 h2 h3 h4 h5 h6 h7 K Q hK
  exact h Φ a w fN fC h1 h2 h3 h4 h5 h6 h7 K Q fun v w' Φ' fG q1 q2 q3 q4 q5 => hK v w' Φ' [] q1 q2 trivial List.nodup_nil (by simp)
theorem nil_sl {G : FP} {N : List Ent} {α : Type} {c : α → List Ck} {t : Nat} (i : Nat) (h : nthD .none N i = .slot t (eqVP (.slice none 0 0))) : OpndOk G N (.tmp t) (slVP c []) := by
  intro Φ a w f hG hN
  have := opt (G := G) i h Φ a w f hG hN
  exact ⟨by simp [mxl], .inl ⟨this, rfl⟩⟩
theorem nilc_sl {G : FP} {N : List Ent} {α : Type} {c : α → List Ck} : OpndOk G N (.const (.slice none 0 0)) (slVP c []) := fun _ _ _ _ _ _ => ⟨by simp [mxl], .inl ⟨rfl, rfl⟩⟩
theorem r_nil {P : Program} {cx : Cx} {l : List Ent} {α : Type} {c : α → List Ck} {t : Nat} (i : Nat) (h : nthD .none l i = .slot t (eqVP (.slice none 0 0))) : ROk P cx l (.tmp t) (slVP c []) := by
  intro a w Φ fp hs
  obtain ⟨v, h1, h2⟩ := r_tmp (P := P) (c := cx) i h a w Φ fp hs
  exact ⟨v, h1, by simp [mxl], .inl ⟨h2, rfl⟩⟩
/-- The elements' cells of slices of strings. -/
def strC (s : List UInt8) : List Ck := [one (strVP s)]
theorem lens_strC (s : List UInt8) : lens (strC s) = 1 := rfl

theorem foldl_splice (off : Nat) : ∀ (l : List Value) (k : Nat) (r : List Value), off + k + l.length ≤ r.length →
    (l.zipIdx k).foldl (fun (cs : Array Value) (p : Value × Nat) => cs.setIfInBounds (off + p.2) p.1) r.toArray = (r.take (off + k) ++ l ++ r.drop (off + k + l.length)).toArray
  | [], k, r, _ => by simp
  | v :: l, k, r, h => by
    simp only [List.length_cons] at h
    simp only [List.zipIdx_cons, List.foldl_cons, List.setIfInBounds_toArray]
    rw [foldl_splice off l (k + 1) (r.set (off + k) v) (by simp; omega)]
    congr 1
    rw [set_mid _ _ _ (by omega)]
    have hk : (r.take (off + k)).length = off + k := by rw [List.length_take]; omega
    have e1 : (r.take (off + k) ++ v :: r.drop (off + k + 1)).take (off + (k + 1)) = r.take (off + k) ++ [v] := by
      rw [List.take_append, hk, List.take_of_length_le (by omega), show off + (k + 1) - (off + k) = 1 by omega]
      rfl
    have e2 : (r.take (off + k) ++ v :: r.drop (off + k + 1)).drop (off + (k + 1) + l.length) = r.drop (off + k + (l.length + 1)) := by
      rw [List.drop_append, hk, List.drop_eq_nil_of_le (by omega), show off + (k + 1) + l.length - (off + k) = l.length + 1 by omega]
      simp only [List.nil_append, List.drop_succ_cons, List.drop_drop]
      congr 1; omega
    rw [e1, e2]
    simp

theorem fill_row (sz : Nat) : ∀ (vs : List Value) (k : Nat) (r : List Value), (∀ v ∈ vs, v.cells.size = sz) → (k + vs.length) * sz ≤ r.length →
    Instr.fill (fun i => some (i * sz, sz)) r.toArray ((vs.zipIdx k).map fun p => (p.2, p.1)) = some (r.take (k * sz) ++ vs.flatMap (·.cells.toList) ++ r.drop ((k + vs.length) * sz)).toArray
  | [], k, r, _, _ => by simp [Instr.fill]
  | v :: vs, k, r, hv, h => by
    have h1 := hv v (by simp)
    have h2 : k * sz + sz ≤ r.length := by
      have : (k + 1) * sz ≤ (k + (v :: vs).length) * sz := Nat.mul_le_mul_right _ (by simp)
      rw [Nat.add_mul, Nat.one_mul] at this
      omega
    have hl : v.cells.toList.length = sz := by simpa using h1
    have hf := foldl_splice (k * sz) v.cells.toList 0 r (by omega)
    have hf' : v.cells.zipIdx.foldl (fun (cs : Array Value) (p : Value × Nat) => cs.setIfInBounds (k * sz + p.2) p.1) r.toArray = (r.take (k * sz) ++ v.cells.toList ++ r.drop (k * sz + sz)).toArray := by
      rw [← Array.foldl_toList, Array.toList_zipIdx, hf]
      simp [h1]
    simp only [List.zipIdx_cons, List.map_cons, Instr.fill]
    have hc : (decide (v.cells.size ≠ sz) || decide (k * sz + v.cells.size > r.toArray.size)) = false := by
      simp [h1]; omega
    rw [if_neg (by rw [hc]; simp)]
    have hf2 : v.cells.zipIdx.foldl (fun cs (x : Value × Nat) => match x with | (c, j) => cs.setIfInBounds (k * sz + j) c) r.toArray = (r.take (k * sz) ++ v.cells.toList ++ r.drop (k * sz + sz)).toArray := hf'
    rw [hf2, fill_row sz vs (k + 1) _ (fun u hu => hv u (by simp [hu])) (by
      simp only [List.length_append, List.length_take, List.length_drop, hl]
      have : (k + 1 + vs.length) * sz = (k + (v :: vs).length) * sz := by congr 1; simp; omega
      rw [this]; omega)]
    congr 2
    have ht : (r.take (k * sz)).length = k * sz := by rw [List.length_take]; omega
    have e1 : (r.take (k * sz) ++ v.cells.toList ++ r.drop (k * sz + sz)).take ((k + 1) * sz) = r.take (k * sz) ++ v.cells.toList := by
      rw [show (k + 1) * sz = (r.take (k * sz) ++ v.cells.toList).length by rw [List.length_append, ht, hl, Nat.add_mul, Nat.one_mul], List.take_left]
    have e2 : (r.take (k * sz) ++ v.cells.toList ++ r.drop (k * sz + sz)).drop ((k + 1 + vs.length) * sz) = r.drop ((k + (v :: vs).length) * sz) := by
      have hA : (r.take (k * sz) ++ v.cells.toList).length = k * sz + sz := by rw [List.length_append, ht, hl]
      rw [show (k + 1 + vs.length) * sz = (r.take (k * sz) ++ v.cells.toList).length + vs.length * sz by rw [hA, Nat.add_mul, Nat.add_mul, Nat.one_mul], List.drop_length_add_append, List.drop_drop]
      congr 1
      simp only [List.length_cons, Nat.add_mul, Nat.one_mul]
      omega
    rw [e1, e2]
    simp [List.append_assoc]

/-- The operands of a literal, element by element. -/
def LitOk {α : Type} (G : FP) (N : List Ent) (c : α → List Ck) : List Operand → List α → Prop
  | [], [] => True
  | x :: xs, y :: ys => (∃ V, OpndOk G N x V ∧ Cells V (c y)) ∧ LitOk G N c xs ys
  | _, _ => False
theorem LitOk.run {α : Type} {G : FP} {N : List Ent} {c : α → List Ck} {Φ : Pub} {a : Act} {w : World} {f : List (List Nat)} (hG : G.p Φ) (hN : HoldL Φ a.tmps w N f) : ∀ {xs : List Operand} {ys : List α}, LitOk G N c xs ys →
    xs.length = ys.length ∧ Arel Φ c ((xs.map a.eval).flatMap (·.cells.toList)) ys ∧ ∀ v ∈ xs.map a.eval, ∃ y, Lrel Φ v.cells.toList (c y)
  | [], [], _ => ⟨rfl, rfl, fun v hv => by simp at hv⟩
  | x :: xs, y :: ys, h => by
    obtain ⟨⟨V, hV, hc⟩, h2⟩ := h
    obtain ⟨h3, h4, h5⟩ := LitOk.run hG hN h2
    have h6 := hc Φ _ (hV Φ a w f hG hN)
    refine ⟨by simp [h3], ⟨(a.eval x).cells.toList, (xs.map a.eval).flatMap (·.cells.toList), by simp, h6, h4⟩, fun v hv => ?_⟩
    simp only [List.map_cons, List.mem_cons] at hv
    rcases hv with rfl | hv
    · exact ⟨y, h6⟩
    · exact h5 v hv
  | [], _ :: _, h => h.elim
  | _ :: _, [], h => h.elim
/-- A slice literal. -/
theorem op_lit {P : Program} {G : FP} {N : List Ent} {d : Nat} {ty : TypeId} {pos : String} {af : Array Edge} {gd : Option (Nat × Bool)} {α : Type} {t e : TypeId} {n sz : Nat} {xs : List Operand} {c : α → List Ck} {ys : List α} (parts : Array (Nat × Operand)) (hparts : parts = (xs.zipIdx.map fun p => (p.2, p.1)).toArray)
    (hu : P.underlying t = some (.slice e)) (hs : ∀ w, (sizeOf e).run P w = .ok sz w) {z : Value} (hz : ∀ w, (zeroValue e).run P w = .ok z w) (hz1 : z.cells.size = sz) (hn : xs.length = n) (hle : n * sz ≤ 16777216) (hm : n ≤ mxl)
    (hx : LitOk G N c xs ys) (hsz : ∀ x, lens (c x) = sz) : OpOk P G ⟨some d, .buildSlice t n parts, ty, pos, af, gd⟩ N [] (fun _ => [.slot d (slVP c ys)]) := by
  subst hparts
  have hxl : ∀ (Φ : Pub) (a : Act) (w : World) (f : List (List Nat)), PubOk Φ w → G.p Φ → HoldL Φ a.tmps w N f → xs.length = ys.length := fun Φ a w f _ hG hN => (hx.run hG hN).1
  have hyl : ys.length = n := by
    have : ∀ {xs : List Operand} {ys : List α}, LitOk G N c xs ys → xs.length = ys.length := by
      intro xs
      induction xs with
      | nil => intro ys h; cases ys with
                           | nil => rfl
                           | cons y ys => exact h.elim
      | cons x xs ih => intro ys h; cases ys with
                                    | nil => exact h.elim
                                    | cons y ys => simp [ih h.2]
    rw [← this hx, hn]
  refine op_buildSlice (e := e) (sz := sz) (fun Φ a w f hP hG hN => ?_) hyl hm hsz
  obtain ⟨_, hA, hv⟩ := hx.run hG hN
  refine ⟨_, ?_, hA⟩
  have hsizes : ∀ v ∈ xs.map a.eval, v.cells.size = sz := fun v hm => by
    obtain ⟨y, hy⟩ := hv v hm
    have := hy.len
    rw [hsz] at this
    simpa using this
  have hbig : ¬ (n * sz > 2 ^ 24) := by omega
  have hfill := fill_row sz (xs.map a.eval) 0 ((List.range (n * sz)).map fun i => z.cells[i % z.cells.size]!) hsizes (by simp [hn])
  have hmap : ((xs.zipIdx.map fun p => (p.2, p.1)).toArray.map fun (i, x) => (i, a.eval x)).toList = ((xs.map a.eval).zipIdx 0).map fun p => (p.2, p.1) := by
    simp [List.zipIdx_map, Function.comp_def]
  have hpt : (((List.range (n * sz)).map fun i => z.cells[i % z.cells.size]!).take (0 * sz) ++ (xs.map a.eval).flatMap (·.cells.toList) ++ ((List.range (n * sz)).map fun i => z.cells[i % z.cells.size]!).drop ((0 + (xs.map a.eval).length) * sz)).toArray = ((xs.map a.eval).flatMap (·.cells.toList)).toArray := by
    rw [List.drop_eq_nil_of_le (by simp [hn])]
    simp
  rw [hpt] at hfill
  simp only [Instr.buildSlice, Sem.run_bind, run_underlying hu, Result.andThen_ok, hs, Sem.run_ite, if_neg hbig, Sem.run_pure]
  by_cases h0 : n * sz = 0
  · simp only [h0, if_true, hmap]
    have : (Array.range 0).map (fun i => (#[] : Array Value)[i % (#[] : Array Value).size]!) = ((List.range (n * sz)).map fun i => z.cells[i % z.cells.size]!).toArray := by
      rw [h0]; simp
    rw [this, hfill]
    simp [newRow]
  · simp only [if_neg h0, hz, Sem.run_bind, Sem.run_pure, Result.andThen_ok, hmap]
    have : (Array.range (n * sz)).map (fun i => z.cells[i % z.cells.size]!) = ((List.range (n * sz)).map fun i => z.cells[i % z.cells.size]!).toArray := by
      apply Array.ext'; simp
    rw [this, hfill]
    simp [newRow]
end Go.Proofs.YtklikgigjdgjaaaGreatDoorRRR
