/- Slices of published slices, strings from bytes and back, structs and arrays built, copies within a block. -/
import Derived.Test.YtklikgigjdgjaaaGreatDoorRRRA14
import Derived.Laws.IdiomStrings
import Derived.Laws.CopyRow
import Derived.Laws.Tables
namespace Go.Proofs.YtklikgigjdgjaaaGreatDoorRRR
open Go Go.RowKit

theorem Arel.take {α : Type} {Φ : Pub} {c : α → List Ck} {sz : Nat} (hsz : ∀ x, lens (c x) = sz) {xs : List α} {cs : List Value} (h : Arel Φ c cs xs) (n : Nat) : Arel Φ c (cs.take (min n xs.length * sz)) (xs.take n) := by
  have h1 : Arel Φ c cs (xs.take n ++ xs.drop n) := by rw [List.take_append_drop]; exact h
  obtain ⟨us, vs, rfl, h2, h3⟩ := h1.split
  have hl := h2.len hsz
  rw [List.length_take] at hl
  rw [← hl, List.take_left]
  exact h2
theorem Arel.drop {α : Type} {Φ : Pub} {c : α → List Ck} {sz : Nat} (hsz : ∀ x, lens (c x) = sz) {xs : List α} {cs : List Value} (h : Arel Φ c cs xs) (n : Nat) : Arel Φ c (cs.drop (min n xs.length * sz)) (xs.drop n) := by
  have h1 : Arel Φ c cs (xs.take n ++ xs.drop n) := by rw [List.take_append_drop]; exact h
  obtain ⟨us, vs, rfl, h2, h3⟩ := h1.split
  have hl := h2.len hsz
  rw [List.length_take] at hl
  rw [← hl, List.drop_left]
  exact h3
theorem PubAt.sub {Φ : Pub} {b o : Nat} {cs : List Value} (h : PubAt Φ b o cs) (k n : Nat) : PubAt Φ b (o + k) ((cs.drop k).take n) := fun j v hj => by
  have hj' : j < n := by
    rcases Nat.lt_or_ge j n with q | q
    · exact q
    · rw [List.getElem?_eq_none (by simp; omega)] at hj; cases hj
  rw [List.getElem?_take_of_lt hj', List.getElem?_drop] at hj
  have := h (k + j) v hj
  rwa [← Nat.add_assoc] at this

section ops
variable {P : Program} {G : FP} {N : List Ent} {d : Nat} {ty : TypeId} {pos : String} {af : Array Edge} {gd : Option (Nat × Bool)}

/-- s[lo:hi] of a published slice. -/
theorem op_slice_sl {α : Type} {t e : TypeId} {x : Operand} {c : α → List Ck} {xs : List α} {sz : Nat} {lo hi : Option Operand} {a b : Int} (hu : P.underlying t = some (.slice e)) (hs : ∀ w, (sizeOf e).run P w = .ok sz w) (hsz : ∀ x, lens (c x) = sz) (hx : OpndOk G N x (slVP c xs))
    (hlo : BndE G N lo 0 a) (hhi : BndE G N hi xs.length b) (h : 0 ≤ a ∧ a ≤ b ∧ b ≤ xs.length) :
    OpOk P G ⟨some d, .slice t x lo hi none, ty, pos, af, gd⟩ N [] (fun _ => [.slot d (slVP c ((xs.take b.toNat).drop a.toNat))]) :=
  OpOk.val fun Φ ac w f _ hG hN => by
    obtain ⟨hm, ⟨hv, rfl⟩ | ⟨bb, o, cap, cs, hv, hcap, hA, hp⟩ | ⟨rfl, b0, cap, hv⟩⟩ := hx Φ ac w f hG hN
    rotate_left 2
    · have ha : a = 0 := by simp at h; omega
      have hb : b = 0 := by simp at h; omega
      subst ha; subst hb
      have hsb := run_bounds (P := P) (w := w) true 0 cap (lo := lo.map ac.eval) (hi := hi.map ac.eval) (a := 0) (b := 0) (hlo.ok hG hN (by omega)) (hhi.ok hG hN (by omega)) (by omega) (by omega)
      refine ⟨.slice (some b0) 0 cap, ?_, by simp, .inr (.inr ⟨by simp, b0, cap, rfl⟩)⟩
      simp [execOp, hv, Instr.sliceAt, Instr.slice, run_underlying hu, hsb, hs, Addr.add]
    · have ha : a = 0 := by simp at h; omega
      have hb : b = 0 := by simp at h; omega
      subst ha; subst hb
      have hsb := run_bounds (P := P) (w := w) true 0 0 (lo := lo.map ac.eval) (hi := hi.map ac.eval) (a := 0) (b := 0) (hlo.ok hG hN (by omega)) (hhi.ok hG hN (by omega)) (by omega) (by omega)
      refine ⟨.slice none 0 0, ?_, by simp [mxl], .inl ⟨rfl, by simp⟩⟩
      simp [execOp, hv, Instr.sliceAt, Instr.slice, run_underlying hu, hsb, hs]
    · have hsb := run_bounds (P := P) (w := w) true xs.length cap (lo := lo.map ac.eval) (hi := hi.map ac.eval) (a := a.toNat) (b := b.toNat) (hlo.ok hG hN h.1) (hhi.ok hG hN (by omega)) (by omega) (by omega)
      have hlen : ((xs.take b.toNat).drop a.toNat).length = b.toNat - a.toNat := by simp; omega
      have hA2 : Arel Φ c ((cs.drop (a.toNat * sz)).take ((b.toNat - a.toNat) * sz)) ((xs.take b.toNat).drop a.toNat) := by
        have h1 := hA.drop hsz a.toNat
        rw [Nat.min_eq_left (by omega)] at h1
        have h2 := h1.take hsz (b.toNat - a.toNat)
        rw [Nat.min_eq_left (by simp; omega)] at h2
        rw [List.drop_take]
        exact h2
      by_cases hc : cap = a.toNat
      · refine ⟨.slice (some ⟨bb, o, none⟩) (b.toNat - a.toNat) (cap - a.toNat), ?_, by rw [hlen]; omega, .inr (.inl ⟨bb, o, cap - a.toNat, [], by rw [hlen], by rw [hlen]; omega, ?_, fun j v hj => by simp at hj⟩)⟩
        · subst hc
          simp [execOp, hv, Instr.sliceAt, Instr.slice, run_underlying hu, hsb, hs]
        · have h0 : (xs.take b.toNat).drop a.toNat = [] := List.eq_nil_of_length_eq_zero (by omega)
          rw [h0]; rfl
      · refine ⟨.slice (some ⟨bb, o + a.toNat * sz, none⟩) (b.toNat - a.toNat) (cap - a.toNat), ?_, by rw [hlen]; omega, .inr (.inl ⟨bb, o + a.toNat * sz, cap - a.toNat, _, by rw [hlen], by rw [hlen]; omega, hA2, hp.sub _ _⟩)⟩
        simp [execOp, hv, Instr.sliceAt, Instr.slice, run_underlying hu, hsb, hs, hc, Addr.add_lit]

/-- string(b) of a published slice. -/
theorem op_conv_sl_str {s t e : TypeId} {x : Operand} {l : List UInt8} (hs : P.underlying s = some (.slice e)) (he : P.underlying e = some (.int .u8)) (ht : P.underlying t = some .string)
    (hx : OpndOk G N x (slVP bC l)) : OpOk P G ⟨some d, .convert s t x, ty, pos, af, gd⟩ N [] (fun _ => [.slot d (strVP l)]) :=
  OpOk.val fun Φ ac w f hP hG hN => by
    obtain ⟨hm, ⟨hv, rfl⟩ | ⟨b, o, cap, cs, hv, hcap, hA, hp⟩ | ⟨rfl, b0, cap, hv⟩⟩ := hx Φ ac w f hG hN
    rotate_left 2
    · refine ⟨.string ⟨#[]⟩, ?_, rfl, by simp⟩
      have hl : (loadCells b0 0).run P w = .ok #[] w := by simpa using run_loadCells_list (P := P) w b0 [] (by simp)
      simp only [execOp, hv, Sem.run_bind, run_convert_bytes_string w s t e _ _ _ hs he ht, Go.run_bytesToString (P := P) w b0 0 cap [] (by simpa using hl)]
      rfl
    · refine ⟨.string ⟨#[]⟩, ?_, rfl, by simp [mxl]⟩
      simp only [execOp, hv, Sem.run_bind, run_convert_bytes_string w s t e _ _ _ hs he ht]
      rfl
    · have hcs : cs = l.map byteC := by
        have : ∀ (l : List UInt8) (cs : List Value), Arel Φ bC cs l → cs = l.map byteC := by
          intro l
          induction l with
          | nil => intro cs h; exact h
          | cons y l ih =>
            intro cs h
            obtain ⟨us, vs, rfl, ⟨y1, y2, rfl, ⟨v, rfl, _, hv, _⟩, hn⟩, h2⟩ := h
            have hn : y2 = [] := hn
            subst hn
            rw [ih vs h2, hv]
            rfl
        exact this l cs hA
      subst hcs
      refine ⟨.string ⟨l.toArray⟩, ?_, rfl, hm⟩
      have hr := run_bytesToString (P := P) (b := b) (k := o) (l := l) (cap := cap) (w := w) fun j v hj => hP.cell _ _ _ (hp j v hj)
      simp only [execOp, hv, Sem.run_bind, run_convert_bytes_string w s t e _ _ _ hs he ht, hr]
      rfl

/-- []byte(s): published at once. -/
theorem op_conv_str_sl {s t e : TypeId} {x : Operand} {l : List UInt8} (hs : P.underlying s = some .string) (ht : P.underlying t = some (.slice e)) (he : P.underlying e = some (.int .u8))
    (hx : OpndOk G N x (strVP l)) : OpOk P G ⟨some d, .convert s t x, ty, pos, af, gd⟩ N [] (fun _ => [.slot d (slVP bC l)]) := by
  intro Φ a w fN fC h1 h2 h3 h4 h5 h6 h7 K Q hK
  obtain ⟨hv, hm⟩ := hx Φ a w fN h2 h3
  match fC, h4 with
  | [], _ =>
    have hr := run_bytes_of_string (P := P) w s t e ⟨l.toArray⟩ hs ht he
    rw [str_size] at hr
    have hcap := grownCap_ge w l.length 0 e
    generalize hgc : grownCap w l.length 0 e = cap at hr hcap
    generalize hrow : bytesRow ⟨l.toArray⟩ cap = row at hr
    have hrow' : row = (l.map byteC ++ List.replicate (cap - l.length) (Value.int .u8 0)).toArray := by
      rw [← hrow]
      apply Array.ext'
      simp [bytesRow, byteC, Function.comp_def, str_size]
    have hrun : (execOp a.eval ⟨some d, .convert s t x, ty, pos, af, gd⟩).run P w = .ok (.value (.slice (some ⟨w.heap.size, 0, none⟩) l.length cap)) (w.drew.alloc (.cells row e (row.size, row.size + 1))) := by
      simp only [execOp, hv, Sem.run_bind, hr]
      rfl
    unfold Oper.wp
    rw [hrun, Oper.upon_value]
    let Φ' : Pub := fun b o => if b = w.heap.size then (l.map byteC)[o]? else Φ b o
    have hle : Pub.le Φ Φ' := fun b o v e => by
      have := h1.lt b o v e
      simp only [Φ', if_neg (by omega : ¬ b = w.heap.size)]
      exact e
    refine hK _ _ Φ' [[]] ⟨rfl, rfl, rfl, by simp, fun b hb _ => heap_alloc_old w.drew _ b hb, hle, fun b hb _ => by funext o; simp only [Φ', if_neg (by omega : ¬ b = w.heap.size)]⟩ ⟨fun b o v q => ?_, fun b o v q => ?_⟩
      ⟨⟨rfl, _, put_get a _ d (h7 d rfl), hm, .inr (.inl ⟨w.heap.size, 0, cap, l.map byteC, rfl, by simpa using hcap, arel_bytes Φ' l, fun j v hj => by simp only [Φ', if_pos trivial, Nat.zero_add]; exact hj⟩)⟩, trivial⟩ (by simp) (by simp)
    · by_cases hb : b = w.heap.size
      · simp [hb]
      · simp only [Φ', if_neg hb] at q
        have := h1.lt b o v q
        simp; omega
    · by_cases hb : b = w.heap.size
      · subst hb
        simp only [Φ', if_pos trivial] at q
        have hblk : (w.drew.alloc (.cells row e (row.size, row.size + 1))).heap[w.heap.size]? = some (.cells (l.map byteC ++ List.replicate (cap - l.length) (Value.int .u8 0)).toArray e (row.size, row.size + 1)) := by
          rw [← hrow']; exact heap_alloc_new w.drew _
        rw [cell_of hblk]
        have hlt : o < (l.map byteC).length := by
          rcases Nat.lt_or_ge o (l.map byteC).length with q' | q'
          · exact q'
          · rw [List.getElem?_eq_none q'] at q; cases q
        rw [List.getElem?_append_left hlt]
        exact q
      · simp only [Φ', if_neg hb] at q
        rw [World.cell?_alloc_lt _ _ _ (show b < w.drew.heap.size from h1.lt b o v q)]
        exact h1.cell b o v q

/-- The parts of a struct or an array that is built. -/
def FillOk (G : FP) (N : List Ent) (place : Nat → Option (Nat × Nat)) : List Ck → List (Nat × Operand) → List Ck → Prop
  | L, [], L' => L = L'
  | L, (i, x) :: rest, L' => ∃ pre mid post M V, L = pre ++ (mid ++ post) ∧ place i = some (lens pre, lens mid) ∧ lens M = lens mid ∧ OpndOk G N x V ∧ Cells V M ∧ FillOk G N place (pre ++ (M ++ post)) rest L'
theorem FillOk.run {G : FP} {N : List Ent} {place : Nat → Option (Nat × Nat)} {Φ : Pub} {a : Act} {w : World} {f : List (List Nat)} (hG : G.p Φ) (hN : HoldL Φ a.tmps w N f) : ∀ (parts : List (Nat × Operand)) (L L' : List Ck) (cs : List Value), FillOk G N place L parts L' → Lrel Φ cs L →
    ∃ cs' : List Value, Instr.fill place cs.toArray (parts.map fun (i, x) => (i, a.eval x)) = some cs'.toArray ∧ Lrel Φ cs' L'
  | [], L, L', cs, h, hL => by have h : L = L' := h; subst h; exact ⟨cs, rfl, hL⟩
  | (i, x) :: rest, L, L', cs, ⟨pre, mid, post, M, V, hLe, hp, hM, hx, hV, hr⟩, hL => by
    subst hLe
    obtain ⟨xs, yz, rfl, h1, h23⟩ := hL.split
    obtain ⟨ys, zs, rfl, h2, h3⟩ := h23.split
    have hv := hV Φ _ (hx Φ a w f hG hN)
    have hvl := hv.len
    obtain ⟨cs', h4, h5⟩ := FillOk.run hG hN rest (pre ++ (M ++ post)) L' (xs ++ ((a.eval x).cells.toList ++ zs)) hr (h1.append (hv.append h3))
    refine ⟨cs', ?_, h5⟩
    simp only [List.map_cons, Instr.fill, hp]
    have hsz : (a.eval x).cells.size = lens mid := by rw [← hM, ← hvl]; simp
    rw [if_neg (by simp [hsz, h1.len, h2.len, h3.len])]
    have hf := foldl_splice (lens pre) (a.eval x).cells.toList 0 (xs ++ (ys ++ zs)) (by simp only [List.length_append, h1.len, h2.len, h3.len, hvl]; omega)
    rw [← Array.toList_zipIdx, Array.foldl_toList] at hf
    have hf2 : (a.eval x).cells.zipIdx.foldl (fun cs (x : Value × Nat) => match x with | (c, j) => cs.setIfInBounds (lens pre + j) c) (xs ++ (ys ++ zs)).toArray = (xs ++ ((a.eval x).cells.toList ++ zs)).toArray := by
      refine Eq.trans hf ?_
      congr 1
      have e1 : (xs ++ (ys ++ zs)).take (lens pre + 0) = xs := by rw [Nat.add_zero, ← h1.len, List.take_left]
      have e2 : (xs ++ (ys ++ zs)).drop (lens pre + 0 + (a.eval x).cells.toList.length) = zs := by
        rw [hvl, hM, Nat.add_zero, ← h1.len, ← h2.len, ← List.length_append, ← List.append_assoc, List.drop_left]
      rw [e1, e2, List.append_assoc]
    rw [hf2]
    exact h4
theorem op_build {T : TypeId} {parts : Array (Nat × Operand)} {z : List Value} {place : Nat → Option (Nat × Nat)} {L L' : List Ck} (ps : List (Nat × Operand)) (hps : parts = ps.toArray) (hB : ∀ p, P.built T p = Instr.fill place z.toArray p) (hz : ∀ Φ, Lrel Φ z L) (hf : FillOk G N place L ps L') :
    OpOk P G ⟨some d, .build T parts, ty, pos, af, gd⟩ N [] (fun _ => [.slot d (aggVP L')]) :=
  OpOk.val fun Φ a w f _ hG hN => by
    subst hps
    obtain ⟨cs', h1, h2⟩ := FillOk.run hG hN ps L L' z hf (hz Φ)
    refine ⟨.agg cs'.toArray, ?_, cs', rfl, h2⟩
    have := run_build (P := P) w T (ps.toArray.map fun (i, x) => (i, a.eval x)) cs'.toArray (by rw [hB, Array.toList_map]; exact h1)
    simp only [execOp, Sem.run_bind, this]
    rfl

/-- An array of which all elements, or the first ones, are given. -/
theorem fill_lit {α : Type} {c : α → List Ck} {Φ : Pub} {a : Act} {w : World} {f : List (List Nat)} {xs : List Operand} {ys : List α} {sz n : Nat} {z : List Value} (hG : G.p Φ) (hN : HoldL Φ a.tmps w N f) (hx : LitOk G N c xs ys) (hsz : ∀ x, lens (c x) = sz) (hz : z.length = n * sz) (hn : xs.length ≤ n) :
    ∃ cs, Instr.fill (fun i => some (i * sz, sz)) z.toArray ((xs.zipIdx.map fun p => (p.2, p.1)).map fun (i, x) => (i, a.eval x)) = some (cs ++ z.drop (xs.length * sz)).toArray ∧ Arel Φ c cs ys := by
  obtain ⟨h1, h2, h3⟩ := hx.run hG hN
  refine ⟨(xs.map a.eval).flatMap (·.cells.toList), ?_, h2⟩
  have hsizes : ∀ v ∈ xs.map a.eval, v.cells.size = sz := fun v hm => by
    obtain ⟨y, hy⟩ := h3 v hm
    have := hy.len
    rw [hsz] at this
    simpa using this
  have := fill_row sz (xs.map a.eval) 0 z hsizes (by simp only [Nat.zero_add, List.length_map, hz]; exact Nat.mul_le_mul_right _ hn)
  have hmap : ((xs.zipIdx.map fun p => (p.2, p.1)).map fun (i, x) => (i, a.eval x)) = ((xs.map a.eval).zipIdx 0).map fun p => (p.2, p.1) := by
    simp [List.zipIdx_map, Function.comp_def]
  rw [hmap, this]
  simp
theorem arel_ints {k : IntKind} {Φ : Pub} : ∀ (l : List Int) (cs : List Value), Arel Φ (iC k) cs l → cs = l.map (Value.int k) ∧ ∀ x ∈ l, InR k x
  | [], cs, h => ⟨h, by simp⟩
  | y :: l, cs, h => by
    obtain ⟨us, vs, rfl, ⟨y1, y2, rfl, ⟨v, rfl, _, hv, hr⟩, hn⟩, h2⟩ := h
    have hn : y2 = [] := hn
    subst hn
    obtain ⟨h3, h4⟩ := arel_ints l vs h2
    refine ⟨by rw [h3, hv]; rfl, fun x hx => ?_⟩
    rcases List.mem_cons.1 hx with rfl | hx
    · exact hr
    · exact h4 x hx
theorem arel_byteC {Φ : Pub} : ∀ (l : List UInt8) (cs : List Value), Arel Φ bC cs l → cs = l.map byteC
  | [], cs, h => h
  | y :: l, cs, h => by
    obtain ⟨us, vs, rfl, ⟨y1, y2, rfl, ⟨v, rfl, _, hv, hr⟩, hn⟩, h2⟩ := h
    have hn : y2 = [] := hn
    subst hn
    rw [arel_byteC l vs h2, hv]
    rfl
theorem op_buildI {T : TypeId} {parts : Array (Nat × Operand)} {k : IntKind} {n : Nat} {xs : List Operand} {ys : List Int} (hp : parts = (xs.zipIdx.map fun p => (p.2, p.1)).toArray) (hB : ∀ p, P.built T p = Instr.fill (fun i => some (i * 1, 1)) (List.replicate n (.int k 0)).toArray p) (hx : LitOk G N (iC k) xs ys) (hn : xs.length ≤ n) (hl : ys.length = xs.length) :
    OpOk P G ⟨some d, .build T parts, ty, pos, af, gd⟩ N [] (fun _ => [.slot d (aggVP [intsCk k n (ys ++ List.replicate (n - xs.length) 0)])]) :=
  OpOk.val fun Φ a w f _ hG hN => by
    subst hp
    obtain ⟨cs, h1, h2⟩ := fill_lit (z := List.replicate n (.int k 0)) (n := n) hG hN hx (lens_iC k) (by simp) hn
    obtain ⟨rfl, h4⟩ := arel_ints ys cs h2
    refine ⟨.agg (ys.map (Value.int k) ++ (List.replicate n (Value.int k 0)).drop (xs.length * 1)).toArray, ?_, _, rfl, _, [], (List.append_nil _).symm, ⟨by simp; omega, ?_, fun x hx => ?_⟩, rfl⟩
    · have := run_build (P := P) w T ((xs.zipIdx.map fun p => (p.2, p.1)).toArray.map fun (i, x) => (i, a.eval x)) _ (by rw [hB, Array.toList_map]; exact h1)
      simp only [execOp, Sem.run_bind, this]
      rfl
    · simp
    · rcases List.mem_append.1 hx with hx | hx
      · exact h4 x hx
      · rw [List.eq_of_mem_replicate hx]; cases k <;> decide
theorem op_buildB {T : TypeId} {parts : Array (Nat × Operand)} {n : Nat} {xs : List Operand} {ys : List UInt8} (hp : parts = (xs.zipIdx.map fun p => (p.2, p.1)).toArray) (hB : ∀ p, P.built T p = Instr.fill (fun i => some (i * 1, 1)) (List.replicate n (.int .u8 0)).toArray p) (hx : LitOk G N bC xs ys) (hn : xs.length ≤ n) (hl : ys.length = xs.length) :
    OpOk P G ⟨some d, .build T parts, ty, pos, af, gd⟩ N [] (fun _ => [.slot d (aggVP [bytesCk n (ys ++ List.replicate (n - xs.length) 0)])]) :=
  OpOk.val fun Φ a w f _ hG hN => by
    subst hp
    obtain ⟨cs, h1, h2⟩ := fill_lit (z := List.replicate n (.int .u8 0)) (n := n) hG hN hx lens_bC (by simp) hn
    have h4 := arel_byteC ys cs h2
    subst h4
    refine ⟨.agg (ys.map byteC ++ (List.replicate n (Value.int .u8 0)).drop (xs.length * 1)).toArray, ?_, _, rfl, _, [], (List.append_nil _).symm, ⟨by simp; omega, ?_⟩, rfl⟩
    · have := run_build (P := P) w T ((xs.zipIdx.map fun p => (p.2, p.1)).toArray.map fun (i, x) => (i, a.eval x)) _ (by rw [hB, Array.toList_map]; exact h1)
      simp only [execOp, Sem.run_bind, this]
      rfl
    · simp [byteC]
/-- The cells of a number as a byte's. -/
theorem cells_u8 (x : Int) : Cells (intVP .u8 x) (bC (u8of x)) := by
  rintro Φ v ⟨rfl, hr⟩
  have hx : ((u8of x).toNat : Int) = x := by
    have h1 := hr.1
    have h2 := hr.2
    simp [IntKind.min, IntKind.max, IntKind.bits, IntKind.signed] at h1 h2
    simp only [u8of]
    simp
    omega
  refine ⟨[.int .u8 x], [], rfl, ⟨_, rfl, rfl, ?_, byte_in _⟩, rfl⟩
  rw [hx]

/-- copy(b[i:..], b[j:..]) within an array of numbers of one's own. -/
theorem op_copy_lb {T0 e t1 t2 : TypeId} {x y : Operand} {p : Value} {n k1 k2 m1 m2 c1 c2 i j : Nat} {k : IntKind} {l : List Int} (pre post : List Ck) (hu : P.underlying t1 = some (.slice e)) (hs : (P.info? e).map (·.size) = some 1)
    (hx : OpndOk G N x (lslVP p k1 m1 c1)) (hy : OpndOk G N y (lslVP p k2 m2 c2)) (h1 : k1 = lens pre + i) (h2 : k2 = lens pre + j) (hm : i + m1 ≤ n ∧ j + m2 ≤ n) (hle : n ≤ mxl) :
    OpOk P G ⟨some d, .call ⟨.builtin .copy, #[x, y], #[t1, t2]⟩, ty, pos, af, gd⟩ N [.res (lb p T0 (pre ++ [intsCk k n l] ++ post))]
      (fun _ => [.slot d (intVP .i64 (min m2 m1 : Nat)), .res (lb p T0 (pre ++ [intsCk k n (l.take i ++ (l.drop j).take (min m2 m1) ++ l.drop (i + min m2 m1))] ++ post))]) := by
  intro Φ a w fN fC q1 q2 q3 q4 q5 q6 q7 K Q hK
  match fC, q4 with
  | [f], ⟨⟨b, cs, hp, hf, hb, hL, hn⟩, _⟩ =>
    subst hf
    obtain ⟨b1, hp1, hv1⟩ := hx Φ a w fN q2 q3
    obtain ⟨b2, hp2, hv2⟩ := hy Φ a w fN q2 q3
    obtain rfl : b1 = b := by rw [hp] at hp1; simpa using hp1.symm
    obtain rfl : b2 = b1 := by rw [hp] at hp2; simpa using hp2.symm
    obtain ⟨xs, ys, zs, rfl, r1, r2, r3⟩ := take_mid hL
    obtain ⟨y1, y2, rfl, ⟨hl, rfl, hr⟩, hy2⟩ := r2
    have hy2 : y2 = [] := hy2
    subst hy2
    generalize hmm : min m2 m1 = m
    have hmle : m ≤ m1 ∧ m ≤ m2 := by omega
    have hlen : (((l.drop j).take m).map (Value.int k)).length = m := by simp; omega
    have hxs := r1.len
    have hsrc : ∀ (j' : Nat) (v : Value), (((l.drop j).take m).map (Value.int k))[j']? = some v → w.cell? ((⟨b2, k2, none⟩ : Addr).add j') = some v := fun j' v hj => by
      have hlt : j' < m := by
        rcases Nat.lt_or_ge j' m with q | q
        · exact q
        · rw [List.getElem?_eq_none (by omega)] at hj; cases hj
      rw [Addr.add_lit, cell_of hb, h2, ← hxs, List.append_nil, List.append_assoc, List.getElem?_append_right (by omega), show xs.length + j + j' - xs.length = j + j' by omega, List.getElem?_append_left (by rw [List.length_map]; omega)]
      rw [List.map_take, List.getElem?_take_of_lt hlt, List.map_drop, List.getElem?_drop] at hj
      exact hj
    have hrun := run_copy_row (P := P) w t1 t2 ty e b2 k1 m1 c1 ⟨b2, k2, none⟩ m2 c2 (xs ++ (l.map (Value.int k) ++ []) ++ zs).toArray T0 (((l.drop j).take m).map (Value.int k)) hu hs hb (by rw [hlen, ← hmm]) hsrc (by
      rw [hlen]; simp; omega) (fun v hv => by obtain ⟨u, _, rfl⟩ := List.mem_map.1 hv; rfl)
    rw [hlen] at hrun
    have hrow : ((xs ++ (l.map (Value.int k) ++ []) ++ zs).toArray.toList.take k1 ++ ((l.drop j).take m).map (Value.int k) ++ (xs ++ (l.map (Value.int k) ++ []) ++ zs).toArray.toList.drop (k1 + m)) = xs ++ ((l.take i ++ (l.drop j).take m ++ l.drop (i + m)).map (Value.int k) ++ []) ++ zs := by
      subst h1
      rw [← hxs]
      simp only [List.append_nil, List.append_assoc, List.map_append, List.map_take, List.map_drop]
      rw [List.take_length_add_append, Nat.add_assoc, List.drop_length_add_append, List.take_append_of_le_length (by simp; omega), List.drop_append_of_le_length (by simp; omega)]
      simp only [List.append_assoc]
    rw [hrow] at hrun
    have hexec : (execOp a.eval ⟨some d, .call ⟨.builtin .copy, #[x, y], #[t1, t2]⟩, ty, pos, af, gd⟩).run P w = .ok (.value (goInt m)) (w.setRow b2 (xs ++ ((l.take i ++ (l.drop j).take m ++ l.drop (i + m)).map (Value.int k) ++ []) ++ zs).toArray) := by
      simp only [execOp, resolve, List.map_toArray, List.map_cons, List.map_nil, hv1, hv2, Sem.run_bind, Sem.run_pure, Result.andThen_ok, invoke, builtin, hrun]
    unfold Oper.wp
    rw [hexec, Oper.upon_value]
    have hmid : Lrel Φ ((l.take i ++ (l.drop j).take m ++ l.drop (i + m)).map (Value.int k) ++ []) [intsCk k n (l.take i ++ (l.drop j).take m ++ l.drop (i + m))] := ⟨_, [], rfl, ⟨by simp; omega, rfl, fun x hx => by
      rcases List.mem_append.1 hx with hx | hx
      · rcases List.mem_append.1 hx with hx | hx
        · exact hr x (List.mem_of_mem_take hx)
        · exact hr x (List.mem_of_mem_drop (List.mem_of_mem_take hx))
      · exact hr x (List.mem_of_mem_drop hx)⟩, rfl⟩
    have hnb := setRow_heap w b2 (xs ++ (l.map (Value.int k) ++ []) ++ zs).toArray (xs ++ ((l.take i ++ (l.drop j).take m ++ l.drop (i + m)).map (Value.int k) ++ []) ++ zs).toArray T0 _ hb
    refine hK _ _ Φ [[], [b2]] ⟨rfl, rfl, rfl, by simp, fun c hc' hne => setRow_other w b2 c _ (by simpa using hne), Pub.le_refl _, fun _ _ _ => rfl⟩ ⟨fun c o v e' => by rw [setRow_size]; exact q1.lt c o v e', fun c o v e' => ?_⟩
      ⟨⟨rfl, _, put_get a _ d (q7 d rfl), by rw [hmm]; exact ⟨rfl, len_in (by omega)⟩⟩, ⟨b2, _, hp, rfl, hnb, by rw [hmm]; exact (r1.append hmid).append r3, hn⟩, trivial⟩ (by simp) (fun c hc' => ?_)
    · have hne : c ≠ b2 := fun e'' => by rw [e'', hn o] at e'; cases e'
      exact (World.cell?_of_block (w := w) (setRow_other w b2 c _ hne)).trans (q1.cell c o v e')
    · simp at hc'
      subst hc'
      have := q6 c (by simp)
      exact ⟨by rw [setRow_size]; exact this, .inl (by simp)⟩
end ops
end Go.Proofs.YtklikgigjdgjaaaGreatDoorRRR
