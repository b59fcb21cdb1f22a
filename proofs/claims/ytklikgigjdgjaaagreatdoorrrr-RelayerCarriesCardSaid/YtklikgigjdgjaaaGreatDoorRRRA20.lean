/- What the arguments read as: the claim's own reading, opened; all that is there is published. -/
import Derived.Test.YtklikgigjdgjaaaGreatDoorRRRA19
import Derived.OpenShut
import Derived.ChangeArms
import Derived.DataReads
namespace Go.Proofs.YtklikgigjdgjaaaGreatDoorRRR
open Go Go.RowKit

/-- All cells that are there. -/
def allPub (w : World) : Pub := fun b o => w.cell? ⟨b, o, none⟩
theorem allPub_ok (w : World) : PubOk (allPub w) w := by
  refine ⟨fun b o v h => ?_, fun b o v h => h⟩
  unfold allPub World.cell? at h
  cases hb : w.heap[b]? with
  | none => simp [hb] at h
  | some x => exact (Array.getElem?_eq_some_iff.1 hb).1

/-- Cells of type t that the claim reads are told by c. -/
def Opens {α : Type} (P : Program) (t : TypeId) (c : α → List Ck) : Prop := ∀ {H : Type} (enc : TypeId × Value → H) (w : World) (base : Nat) (sp : Nat → Bool) (held : Bool) (fuel : Nat) (cs : List Value) (r : DataW H × List MemPlace),
  DataW.trod enc P w base sp held fuel t cs = some r → ∃ x : α, Lrel (allPub w) cs (c x)

section
variable {P : Program} {t e : TypeId}
theorem inr_of_wf {k : IntKind} {n : Int} (h : (Lit.int k n).wf = true) : InR k n := by
  simpa [Lit.wf, InR] using h
theorem opens_int {k : IntKind} (ht : P.underlying t = some (.int k)) : Opens P t (iC k) := by
  intro H enc w base sp held fuel cs r h
  obtain ⟨n, rfl, _, hw⟩ := DataW.trod_int ht h
  exact ⟨n, [_], [], rfl, ⟨_, rfl, rfl, rfl, inr_of_wf hw⟩, rfl⟩
theorem opens_bool (ht : P.underlying t = some .bool) : Opens P t boC := by
  intro H enc w base sp held fuel cs r h
  obtain ⟨b, rfl, _⟩ := DataW.trod_bool ht h
  exact ⟨b, [_], [], rfl, ⟨_, rfl, rfl, rfl⟩, rfl⟩
theorem opens_str (ht : P.underlying t = some .string) : Opens P t strC := by
  intro H enc w base sp held fuel cs r h
  obtain ⟨s, rfl, _, hl⟩ := DataW.trod_string ht h
  refine ⟨s.data.toList, [_], [], rfl, ⟨_, rfl, rfl, rfl, ?_⟩, rfl⟩
  have e1 : s.data.toList.length = s.size := rfl
  unfold maxLen at hl
  unfold mxl
  omega
/-- A byte. -/
theorem opens_u8 (ht : P.underlying t = some (.int .u8)) : Opens P t bC := by
  intro H enc w base sp held fuel cs r h
  obtain ⟨n, rfl, _, hw⟩ := DataW.trod_int ht h
  have hr := inr_of_wf hw
  exact ⟨u8of n, cells_u8 n (allPub w) _ ⟨rfl, hr⟩⟩
theorem arr_steps {α : Type} {c : α → List Ck} {Φ : Pub} {sz : Nat} (cs : List Value) : ∀ (n : Nat), cs.length = n * sz → (∀ i, i < n → ∃ x, Lrel Φ ((cs.drop (i * sz)).take sz) (c x)) → ∃ xs : List α, xs.length = n ∧ Arel Φ c cs xs
  | 0, hl, _ => ⟨[], rfl, List.eq_nil_of_length_eq_zero (by simpa using hl)⟩
  | n + 1, hl, h => by
    have hle : n * sz + sz = (n + 1) * sz := by rw [Nat.add_mul, Nat.one_mul]
    obtain ⟨xs, h1, h2⟩ := arr_steps (c := c) (Φ := Φ) (sz := sz) (cs.take (n * sz)) n (by rw [List.length_take]; omega) (fun i hi => by
      obtain ⟨x, hx⟩ := h i (by omega)
      have hle2 : i * sz + sz ≤ n * sz := by
        have : (i + 1) * sz ≤ n * sz := Nat.mul_le_mul_right _ hi
        rw [Nat.add_mul, Nat.one_mul] at this; exact this
      refine ⟨x, ?_⟩
      rw [List.drop_take, List.take_take, Nat.min_eq_left (by omega)]
      exact hx)
    obtain ⟨x, hx⟩ := h n (by omega)
    refine ⟨xs ++ [x], by simp [h1], ?_⟩
    have : cs = cs.take (n * sz) ++ cs.drop (n * sz) := (List.take_append_drop _ _).symm
    rw [this]
    refine h2.append ⟨cs.drop (n * sz), [], by simp, ?_, rfl⟩
    rw [List.take_of_length_le (by rw [List.length_drop]; omega)] at hx
    exact hx
theorem opens_bytes {n : Nat} (ht : P.underlying t = some (.array n e)) (he : P.underlying e = some (.int .u8)) (h1 : P.cellsOf e = 1) (hn : P.cellsOf t = n) : Opens P t (dC n) := by
  intro H enc w base sp held fuel cs r h
  obtain ⟨xs, m, _, _, hl, hx, hel⟩ := DataW.trod_array ht h
  rw [h1] at hel
  obtain ⟨l, hl2, hA⟩ := arr_steps (c := bC) (Φ := allPub w) (sz := 1) cs n (by rw [hl, hn]; simp) (fun i hi => by
    have h2 := hel i hi
    have hix : i < xs.length := by omega
    rw [List.getElem?_eq_getElem hix] at h2
    exact opens_u8 he enc w base sp held m _ _ h2)
  exact ⟨l, cs, [], by simp, ⟨hl2, arel_byteC l cs hA⟩, rfl⟩
theorem opens_ints {n : Nat} {k : IntKind} (ht : P.underlying t = some (.array n e)) (he : P.underlying e = some (.int k)) (h1 : P.cellsOf e = 1) (hn : P.cellsOf t = n) : Opens P t (fun l => [intsCk k n l]) := by
  intro H enc w base sp held fuel cs r h
  obtain ⟨xs, m, _, _, hl, hx, hel⟩ := DataW.trod_array ht h
  rw [h1] at hel
  obtain ⟨l, hl2, hA⟩ := arr_steps (c := iC k) (Φ := allPub w) (sz := 1) cs n (by rw [hl, hn]; simp) (fun i hi => by
    have h2 := hel i hi
    have hix : i < xs.length := by omega
    rw [List.getElem?_eq_getElem hix] at h2
    exact opens_int he enc w base sp held m _ _ h2)
  obtain ⟨h3, h4⟩ := arel_ints l cs hA
  exact ⟨l, cs, [], by simp, ⟨hl2, h3, h4⟩, rfl⟩
theorem opens_arr {α : Type} {n sz : Nat} {c : α → List Ck} {hsz : ∀ x, lens (c x) = sz} (ht : P.underlying t = some (.array n e)) (ho : Opens P e c) (h1 : P.cellsOf e = sz) (hn : P.cellsOf t = n * sz) : Opens P t (fun l => [arrCk n sz c hsz l]) := by
  intro H enc w base sp held fuel cs r h
  obtain ⟨xs, m, _, _, hl, hx, hel⟩ := DataW.trod_array ht h
  rw [h1] at hel
  obtain ⟨l, hl2, hA⟩ := arr_steps (c := c) (Φ := allPub w) (sz := sz) cs n (by rw [hl, hn]) (fun i hi => by
    have h2 := hel i hi
    have hix : i < xs.length := by omega
    rw [List.getElem?_eq_getElem hix] at h2
    exact ho enc w base sp held m _ _ h2)
  exact ⟨l, cs, [], by simp, ⟨hl2, hA⟩, rfl⟩
theorem add_add (a : Addr) (i j : Nat) : (a.add i).add j = a.add (i + j) := by
  unfold Addr.add
  by_cases hi : i = 0
  · simp [hi]
  · by_cases hj : j = 0
    · simp [hi, hj]
    · simp [hi, hj, Nat.add_assoc]
theorem opens_slice {α : Type} {sz : Nat} {c : α → List Ck} (ht : P.underlying t = some (.slice e)) (ho : Opens P e c) (h1 : P.cellsOf e = sz) (hsz : ∀ x, lens (c x) = sz) (hpos : 0 < sz) : Opens P t (slC c) := by
  intro H enc w base sp held fuel cs r h
  rcases DataW.trod_slice ht h with ⟨rfl, _⟩ | ⟨a, len, cap, elems, rest, m, _, rfl, _, hb, hlc, hcm, hel, hget, _⟩
  · exact ⟨[], [_], [], rfl, ⟨_, rfl, rfl, by simp [mxl], .inl ⟨rfl, rfl⟩⟩, rfl⟩
  · rw [h1] at hget
    have hone : ∀ i, i < len → ∃ (us : List Value) (x : α), us.length = sz ∧ (∀ j, j < sz → w.cell? (a.add (i * sz + j)) = us[j]?) ∧ Lrel (allPub w) us (c x) := fun i hi => by
      have h2 := hget i hi
      have hix : i < elems.length := by omega
      rw [List.getElem?_eq_getElem hix] at h2
      obtain ⟨us, hus, htr⟩ := Option.bind_eq_some_iff.1 h2
      obtain ⟨_, hul, hcell⟩ := World.cells?_some hus
      obtain ⟨x, hx⟩ := ho enc w base sp held m us _ htr
      exact ⟨us, x, hul, fun j hj => by rw [← add_add]; exact hcell j hj, hx⟩
    have key : ∀ n, n ≤ len → ∃ (xs : List α) (vs : List Value), xs.length = n ∧ vs.length = n * sz ∧ Arel (allPub w) c vs xs ∧ ∀ j, j < n * sz → w.cell? (a.add j) = vs[j]? := by
      intro n
      induction n with
      | zero => exact fun _ => ⟨[], [], rfl, by simp, rfl, fun j hj => by simp at hj⟩
      | succ n ih =>
        intro hn
        obtain ⟨xs, vs, q1, q2, q3, q4⟩ := ih (by omega)
        obtain ⟨us, x, r1, r2, r3⟩ := hone n (by omega)
        refine ⟨xs ++ [x], vs ++ us, by simp [q1], by rw [List.length_append, q2, r1, Nat.add_mul, Nat.one_mul], q3.append ⟨us, [], by simp, r3, rfl⟩, fun j hj => ?_⟩
        rw [Nat.add_mul, Nat.one_mul] at hj
        by_cases hlt : j < n * sz
        · rw [q4 j hlt, List.getElem?_append_left (by omega)]
        · have := r2 (j - n * sz) (by omega)
          rw [show n * sz + (j - n * sz) = j by omega] at this
          rw [this, List.getElem?_append_right (by omega), q2]
    obtain ⟨xs, vs, q1, q2, q3, q4⟩ := key len (Nat.le_refl _)
    subst q1
    have hlen : xs.length ≤ mxl := by simp only [maxLen] at hcm; simp only [mxl]; omega
    by_cases h0 : xs = []
    · subst h0
      exact ⟨[], [_], [], rfl, ⟨_, rfl, rfl, by simp [mxl], .inr (.inr ⟨rfl, a, cap, rfl⟩)⟩, rfl⟩
    · have hpl : 0 < xs.length * sz := Nat.mul_pos (List.length_pos_iff.2 h0) hpos
      have hspot : a.spot = none := by
        have h2 := q4 0 hpl
        have h3 : a.add 0 = a := rfl
        rw [h3, List.getElem?_eq_getElem (by omega : 0 < vs.length)] at h2
        cases hs : a.spot with
        | none => rfl
        | some s =>
          unfold World.cell? at h2
          split at h2 <;> simp [hs] at h2
      obtain ⟨b, o, s⟩ := a
      have hspot : s = none := hspot
      subst hspot
      refine ⟨xs, [_], [], rfl, ⟨_, rfl, rfl, hlen, .inr (.inl ⟨b, o, cap, vs, rfl, hlc, q3, fun j v hj => ?_⟩)⟩, rfl⟩
      have hjl : j < xs.length * sz := by
        rcases Nat.lt_or_ge j (xs.length * sz) with q | q
        · exact q
        · rw [List.getElem?_eq_none (by omega)] at hj; cases hj
      have := q4 j hjl
      rw [Addr.add_lit] at this
      exact this.trans hj
/-- A struct's parts. -/
theorem opens_fields {H : Type} {enc : TypeId × Value → H} {w : World} {base : Nat} {sp : Nat → Bool} {held : Bool} {fuel : Nat} {cs : List Value} {r : DataW H × List MemPlace} {fs : Array Field} (ht : P.underlying t = some (.struct fs)) (h : DataW.trod enc P w base sp held fuel t cs = some r) :
    cs.length = P.cellsOf t ∧ ∀ (i : Nat) (f : Field), fs[i]? = some f → ∀ {α : Type} {c : α → List Ck}, Opens P f.type c → ∃ x, Lrel (allPub w) ((cs.drop f.offset).take (P.cellsOf f.type)) (c x) := by
  obtain ⟨xs, n, _, _, hl, hx, hel⟩ := DataW.trod_struct ht h
  refine ⟨hl, fun i f hf α c ho => ?_⟩
  have h2 := hel i f hf
  have hix : i < xs.length := by
    rw [hx]
    exact (Array.getElem?_eq_some_iff.1 hf).1
  rw [List.getElem?_eq_getElem hix] at h2
  exact ho enc w base sp held n _ _ h2
theorem cut1 {Φ : Pub} {cs : List Value} {L M : List Ck} (k n : Nat) (h : Lrel Φ ((cs.drop k).take n) L) (h2 : Lrel Φ (cs.drop (k + n)) M) : Lrel Φ (cs.drop k) (L ++ M) := by
  have : cs.drop k = (cs.drop k).take n ++ cs.drop (k + n) := by rw [← List.drop_drop, List.take_append_drop]
  rw [this]
  exact h.append h2
theorem cut0 {Φ : Pub} {cs : List Value} {n : Nat} (h : cs.length = n) : Lrel Φ (cs.drop n) [] := List.drop_eq_nil_of_le (by omega)
theorem opens_val {α : Type} {H : Type} {enc : TypeId × Value → H} {w : World} {base : Nat} {sp : Nat → Bool} {held : Bool} {v : Value} {d : DataW H} {p : List MemPlace} {c : α → List Ck} (ho : Opens P t c) (h : DataW.Trod enc P w base sp held t v d p) : ∃ x, Lrel (allPub w) v.cells.toList (c x) := by
  obtain ⟨fuel, h⟩ := h
  exact ho enc w base sp held fuel _ _ h
end
end Go.Proofs.YtklikgigjdgjaaaGreatDoorRRR
