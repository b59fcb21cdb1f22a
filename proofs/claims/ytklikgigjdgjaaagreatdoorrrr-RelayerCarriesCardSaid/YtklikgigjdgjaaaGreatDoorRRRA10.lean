/- Appends to a slice of one's own. -/
import Derived.Test.YtklikgigjdgjaaaGreatDoorRRRA9
import Derived.Laws.CopyRow
namespace Go.Proofs.YtklikgigjdgjaaaGreatDoorRRR
open Go Go.RowKit

/-- What appending u, of n elements with the cells ds, does: where there is room, where the slice must grow, from a nil slice. -/
structure Src (P : Program) (w : World) (sT xT ty e : TypeId) (i : TypeInfo) (z : Value) (u : Value) (n : Nat) (ds : List Value) : Prop where
  room : ∀ (g sLen sCap : Nat) (cur : Array Value), w.heap[g]? = some (.cells cur e (0, 0)) → sLen + n ≤ sCap → sLen * i.size + ds.length ≤ cur.size →
    (Builtin.append_ #[sT, xT] ty #[.slice (some ⟨g, 0, none⟩) sLen sCap, u]).run P w = .ok (.slice (some ⟨g, 0, none⟩) (sLen + n) sCap) (w.setRow g (cur.toList.take (sLen * i.size) ++ ds ++ cur.toList.drop (sLen * i.size + ds.length)).toArray)
  grow : ∀ (b : Addr) (sLen sCap : Nat) (olds : List Value), olds.length = sLen * i.size → (∀ j v, olds[j]? = some v → w.cell? (b.add j) = some v) → sLen ≤ sCap → sCap < sLen + n → ((sLen + n : Nat) : Int) ≤ 9223372036854775807 → Builtin.nextslicecap (sLen + n) sCap * i.bytes ≤ 281474976710656 →
    (Builtin.append_ #[sT, xT] ty #[.slice (some b) sLen sCap, u]).run P w = .ok (.slice (some ⟨w.heap.size, 0, none⟩) (sLen + n) (grownCap w (sLen + n) sCap e)) (w.drew.alloc (.cells (olds.toArray ++ ds.toArray ++ Builtin.zeroCells z.cells (grownCap w (sLen + n) sCap e - (sLen + n))) e))
  fresh : 0 < n → (n : Int) ≤ 9223372036854775807 → n * i.bytes ≤ 281474976710656 →
    (Builtin.append_ #[sT, xT] ty #[.slice none 0 0, u]).run P w = .ok (.slice (some ⟨w.heap.size, 0, none⟩) n (grownCap w n 0 e)) (w.drew.alloc (.cells (ds.toArray ++ Builtin.zeroCells z.cells (grownCap w n 0 e - n)) e))
  idle : n = 0 → (Builtin.append_ #[sT, xT] ty #[.slice none 0 0, u]).run P w = .ok (.slice none 0 0) w

section
variable {P : Program} {w : World} {sT xT ty e : TypeId} {i : TypeInfo} {z : Value}
theorem Src.slice {a : Addr} {n cap : Nat} {ds : List Value} (ht : P.underlying sT = some (.slice e)) (hi : P.info? e = some i) (hz : i.zero = some z) (hl : ds.length = n * i.size) (hd : ∀ j v, ds[j]? = some v → w.cell? (a.add j) = some v) (h1 : ∀ v ∈ ds, v.oneCell' = true) :
    Src P w sT sT ty e i z (.slice (some a) n cap) n ds where
  room g sLen sCap cur hg hr hf := run_append_room w sT ty e i ht hi g sLen sCap cur hg a n cap ds hl hd h1 hr hf
  grow b sLen sCap olds ho hoc _ hc h63 hfit := run_append_grow w sT ty e i z ht hi hz b sLen sCap olds ho hoc a n cap ds hl hd hc h63 hfit
  fresh h0 h63 h48 := run_append_nil w sT ty e i z ht hi hz a n cap ds hl hd h0 h63 h48
  idle h0 := by
    subst h0
    simp [Builtin.append_, run_underlying ht, sizeOf, typeInfo, hi, Builtin.lenOf, Builtin.firstCells, loadCells, loadCellsFrom]
theorem Src.nil (ht : P.underlying sT = some (.slice e)) (hi : P.info? e = some i) : Src P w sT sT ty e i z (.slice none 0 0) 0 [] where
  room g sLen sCap cur hg hr hf := by
    simp only [Nat.add_zero] at hr ⊢
    have hrow : w.setRow g (cur.toList.take (sLen * i.size) ++ [] ++ cur.toList.drop (sLen * i.size + ([] : List Value).length)).toArray = w := by
      have e1 : (cur.toList.take (sLen * i.size) ++ [] ++ cur.toList.drop (sLen * i.size + ([] : List Value).length)).toArray = cur := by simp
      rw [e1]
      exact setRow_self w g cur e _ hg
    rw [hrow]
    simp [Builtin.append_, run_underlying ht, sizeOf, typeInfo, hi, Builtin.lenOf, Builtin.firstCells, hr, storeCells]
  grow b sLen sCap olds _ _ h1 h2 := by omega
  fresh h0 := by omega
  idle _ := by simp [Builtin.append_, run_underlying ht, sizeOf, typeInfo, hi, Builtin.lenOf, Builtin.firstCells]
theorem Src.string {l : List UInt8} (ht : P.underlying sT = some (.slice e)) (hx : P.underlying xT = some .string) (hi : P.info? e = some i) (hz : i.zero = some z) (h1 : i.size = 1) (hb : i.bytes = 1) : Src P w sT xT ty e i z (.string ⟨l.toArray⟩) l.length (l.map byteC) where
  room g sLen sCap cur hg hr hf := by
    have := Lib.run_append_room_string (P := P) w sT xT ty e i ht hx hi h1 g sLen sCap cur hg ⟨l.toArray⟩ (by rw [str_size]; exact hr) (by rw [str_size]; rw [h1, Nat.mul_one, List.length_map] at hf; exact hf)
    rw [str_size] at this
    rw [this, h1]
    simp [Lib.strCells, byteC, Function.comp_def]
    rfl
  grow b sLen sCap olds ho hoc _ hc h63 hfit := by
    have := Lib.run_append_grow_string (P := P) w sT xT ty e i z ht hx hi hz b sLen sCap olds ho hoc ⟨l.toArray⟩ (by rw [str_size]; exact hc) (by rw [str_size]; exact h63) (by rw [str_size]; exact hfit)
    rw [str_size] at this
    rw [this]
    simp [Lib.strCells, byteC, Function.comp_def]
    rfl
  fresh h0 h63 h48 := by
    have := run_append_nil_string (P := P) w sT xT ty e i z ht hx hi hz ⟨l.toArray⟩ (by rw [str_size]; exact h0) (by rw [str_size]; exact h63) (by rw [str_size]; exact h48)
    rw [str_size] at this
    rw [this]
    simp [byteC, Function.comp_def]
    rfl
  idle h0 := by
    have : l = [] := List.eq_nil_of_length_eq_zero h0
    subst this
    simp [Builtin.append_, run_underlying ht, run_underlying hx, sizeOf, typeInfo, hi, Builtin.lenOf, Builtin.firstCells, str_size]
end

/-- The append, of what the slice held. -/
theorem acc_append {α : Type} {P : Program} {w : World} {sT xT ty e : TypeId} {i : TypeInfo} {z : Value} {u v : Value} {c : α → List Ck} {xs ys : List α} {ds : List Value} {Φ : Pub} {f : List Nat} (hS : Src P w sT xT ty e i z u ys.length ds) (hsz : ∀ x, lens (c x) = i.size) (hpos : 0 < i.size) (hzs : z.cells.size = i.size)
    (hP : PubOk Φ w) (hf : ∀ b ∈ f, b < w.heap.size) (h : (acc v e i.size c xs).p Φ f w) (hA : Arel Φ c ds ys) (hm : xs.length + ys.length ≤ mxl) (hb : (xs.length + ys.length) * i.bytes ≤ 140737488355328) :
    ∃ (v' : Value) (w' : World) (Φ' : Pub) (f' : List Nat), (Builtin.append_ #[sT, xT] ty #[v, u]).run P w = .ok v' w' ∧ (acc v' e i.size c (xs ++ ys)).p Φ' f' w' ∧ Step w Φ f w' Φ' ∧ PubOk Φ' w' ∧ f'.Nodup ∧ ∀ b ∈ f', b < w'.heap.size ∧ (b ∈ f ∨ w.heap.size ≤ b) := by
  have hdl : ds.length = ys.length * i.size := hA.len hsz
  have h63 : ((xs.length + ys.length : Nat) : Int) ≤ 9223372036854775807 := by have := (len_in hm).2; simp [IntKind.max, IntKind.bits, IntKind.signed] at this; omega
  -- a new block
  have hnew : ∀ (cs : List Value) (cap : Nat) (v0 : Value), Arel Φ c cs xs → xs.length + ys.length ≤ cap → v0 = .slice (some ⟨w.heap.size, 0, none⟩) (xs.length + ys.length) cap →
      ∀ w', w' = w.drew.alloc (.cells (cs.toArray ++ ds.toArray ++ Builtin.zeroCells z.cells (cap - (xs.length + ys.length))) e) →
      (Builtin.append_ #[sT, xT] ty #[v, u]).run P w = .ok v0 w' →
      ∃ (v' : Value) (w' : World) (Φ' : Pub) (f' : List Nat), (Builtin.append_ #[sT, xT] ty #[v, u]).run P w = .ok v' w' ∧ (acc v' e i.size c (xs ++ ys)).p Φ' f' w' ∧ Step w Φ f w' Φ' ∧ PubOk Φ' w' ∧ f'.Nodup ∧ ∀ b ∈ f', b < w'.heap.size ∧ (b ∈ f ∨ w.heap.size ≤ b) := by
    intro cs cap v0 hcs hcap hv w' hw hr
    subst hw
    let Φ' : Pub := fun b o => if b = w.heap.size then (cs ++ ds)[o]? else Φ b o
    have hle : Pub.le Φ Φ' := fun b o v e => by
      have := hP.lt b o v e
      simp only [Φ', if_neg (by omega : ¬ b = w.heap.size)]
      exact e
    refine ⟨v0, _, Φ', [w.heap.size], hr, ⟨by simpa using hm, .inr ⟨w.heap.size, cap, cs ++ ds, (Builtin.zeroCells z.cells (cap - (xs.length + ys.length))).toList, by rw [hv]; simp, rfl, ?_, (hcs.append hA).mono hle, ?_, by simpa using hcap, fun j v hj => ?_, fun o ho => ?_⟩⟩, ?_, ⟨fun b o v e => ?_, fun b o v e => ?_⟩, by simp, by simp⟩
    · rw [show w.heap.size = w.drew.heap.size from rfl, heap_alloc_new]
      congr 2
      apply Array.ext'
      simp
    · have h1 := hcs.len hsz
      simp only [List.length_append, h1, hdl, zeroCells_len, hzs]
      rw [← Nat.add_mul, ← Nat.add_mul]
      congr 1
      omega
    · simp only [Φ', if_pos trivial, Nat.zero_add]; exact hj
    · simp only [Φ', if_pos trivial]
      exact List.getElem?_eq_none ho
    · exact ⟨rfl, rfl, rfl, by simp, fun b hb _ => heap_alloc_old w.drew _ b hb, hle, fun b hb _ => by funext o; simp only [Φ', if_neg (by omega : ¬ b = w.heap.size)]⟩
    · by_cases hbb : b = w.heap.size
      · simp [hbb]
      · simp only [Φ', if_neg hbb] at e
        have := hP.lt b o v e
        simp; omega
    · by_cases hbb : b = w.heap.size
      · subst hbb
        simp only [Φ', if_pos trivial] at e
        rw [show w.heap.size = w.drew.heap.size from rfl, World.cell?_alloc_new]
        have hlt : o < (cs ++ ds).length := by
          rcases Nat.lt_or_ge o (cs ++ ds).length with q | q
          · exact q
          · rw [List.getElem?_eq_none q] at e; cases e
        rw [Array.getElem?_append_left (by simpa using hlt)]
        simpa using e
      · simp only [Φ', if_neg hbb] at e
        rw [World.cell?_alloc_lt _ _ _ (show b < w.drew.heap.size from hP.lt b o v e)]
        exact hP.cell b o v e
  obtain ⟨hm0, ⟨rfl, rfl, rfl⟩ | ⟨b, cap, cs, zs, rfl, rfl, hblk, hcs, hlen, hcap, hpub, hfree⟩⟩ := h
  · by_cases h0 : ys.length = 0
    · have hy : ys = [] := List.eq_nil_of_length_eq_zero h0
      subst hy
      exact ⟨.slice none 0 0, w, Φ, [], hS.idle rfl, ⟨by simp [mxl], .inl ⟨rfl, rfl, rfl⟩⟩, Step.refl _ _ _, hP, List.nodup_nil, by simp⟩
    · have hr := hS.fresh (by omega) (by simpa using h63) (by simp at hb; omega)
      refine hnew [] (grownCap w ys.length 0 e) _ rfl ?_ (by simp) _ ?_ hr
      · have := grownCap_ge w ys.length 0 e; simpa using this
      · simp
  · have hcl := hcs.len hsz
    by_cases hroom : xs.length + ys.length ≤ cap
    · have hfit : xs.length * i.size + ds.length ≤ (cs ++ zs).toArray.size := by
        simp only [List.size_toArray, hlen, hdl, ← Nat.add_mul]
        exact Nat.mul_le_mul_right _ hroom
      have hr := hS.room b xs.length cap (cs ++ zs).toArray hblk hroom hfit
      have hrow : ((cs ++ zs).toArray.toList.take (xs.length * i.size) ++ ds ++ (cs ++ zs).toArray.toList.drop (xs.length * i.size + ds.length)) = cs ++ ds ++ zs.drop ds.length := by
        simp only [← hcl]
        rw [List.take_left, List.drop_length_add_append]
      rw [hrow] at hr
      let Φ' : Pub := fun b' o => if b' = b then (cs ++ ds)[o]? else Φ b' o
      have hle : Pub.le Φ Φ' := fun b' o v' e' => by
        by_cases hbb : b' = b
        · subst hbb
          simp only [Φ', if_pos trivial]
          rcases Nat.lt_or_ge o cs.length with q | q
          · have := hpub o cs[o] (by simp [q])
            rw [Nat.zero_add, e'] at this
            rw [List.getElem?_append_left q, List.getElem?_eq_getElem q]
            exact this.symm
          · rw [hfree o q] at e'; cases e'
        · simp only [Φ', if_neg hbb]; exact e'
      have hb0 := hf b (by simp)
      have hnb : (w.setRow b (cs ++ ds ++ zs.drop ds.length).toArray).heap[b]? = some (.cells (cs ++ ds ++ zs.drop ds.length).toArray e (0, 0)) := setRow_heap w b _ _ e _ hblk
      refine ⟨_, _, Φ', [b], hr, ⟨by simpa using hm, .inr ⟨b, cap, cs ++ ds, zs.drop ds.length, by simp, rfl, hnb, (hcs.append hA).mono hle, ?_, by simpa using hroom, fun j v hj => ?_, fun o ho => ?_⟩⟩, ?_, ⟨fun b' o v' e' => ?_, fun b' o v' e' => ?_⟩, by simp, by simpa using hb0⟩
      · simp only [List.length_append, List.length_drop] at hlen ⊢
        have : (xs.length + ys.length) * i.size ≤ cap * i.size := Nat.mul_le_mul_right _ hroom
        rw [Nat.add_mul] at this
        omega
      · simp only [Φ', if_pos trivial, Nat.zero_add]; exact hj
      · simp only [Φ', if_pos trivial]
        exact List.getElem?_eq_none ho
      · exact ⟨rfl, rfl, rfl, by simp, fun b' hb' hne => setRow_other w b b' _ (by simpa using hne), hle, fun b' hb' hne => by funext o; simp only [Φ', if_neg (by simpa using hne : ¬ b' = b)]⟩
      · rw [setRow_size]
        by_cases hbb : b' = b
        · rw [hbb]; exact hb0
        · simp only [Φ', if_neg hbb] at e'
          exact hP.lt b' o v' e'
      · by_cases hbb : b' = b
        · subst hbb
          simp only [Φ', if_pos trivial] at e'
          rw [cell_of hnb]
          have hlt : o < (cs ++ ds).length := by
            rcases Nat.lt_or_ge o (cs ++ ds).length with q | q
            · exact q
            · rw [List.getElem?_eq_none q] at e'; cases e'
          rw [List.getElem?_append_left hlt]
          exact e'
        · simp only [Φ', if_neg hbb] at e'
          exact (World.cell?_of_block (w := w) (setRow_other w b b' _ hbb)).trans (hP.cell b' o v' e')
    · have hr := hS.grow ⟨b, 0, none⟩ xs.length cap cs hcl (fun j v hj => by rw [Addr.add_lit]; exact hP.cell _ _ _ (hpub j v hj)) hcap (by omega) h63 (growslice_fits (by omega) hb)
      refine hnew cs (grownCap w (xs.length + ys.length) cap e) _ hcs (grownCap_ge w _ _ e) rfl _ rfl hr

section ops
variable {P : Program} {G : FP} {N : List Ent} {d : Nat} {ty : TypeId} {pos : String} {af : Array Edge} {gd : Option (Nat × Bool)}

theorem op_append_of {α : Type} {v : Value} {e sT xT : TypeId} {i : TypeInfo} {z : Value} {c : α → List Ck} {xs ys : List α} {s x : Operand} (hsz : ∀ x, lens (c x) = i.size) (hpos : 0 < i.size) (hzs : z.cells.size = i.size) (hs : OpndOk G N s (eqVP v))
    (hx : ∀ (Φ : Pub) (a : Act) (w : World) (f : List (List Nat)), PubOk Φ w → G.p Φ → HoldL Φ a.tmps w N f → ∃ ds, Src P w sT xT ty e i z (a.eval x) ys.length ds ∧ Arel Φ c ds ys) (hm : xs.length + ys.length ≤ mxl) (hb : (xs.length + ys.length) * i.bytes ≤ 140737488355328) :
    OpOk P G ⟨some d, .call ⟨.builtin .append, #[s, x], #[sT, xT]⟩, ty, pos, af, gd⟩ N [.res (acc v e i.size c xs)] (fun v' => [.slot d (eqVP v'), .res (acc v' e i.size c (xs ++ ys))]) := by
  intro Φ a w fN fC h1 h2 h3 h4 h5 h6 h7 K Q hK
  match fC, h4 with
  | [f], ⟨hacc, _⟩ =>
  obtain ⟨ds, hS, hA⟩ := hx Φ a w fN h1 h2 h3
  have hv : a.eval s = v := hs Φ a w fN h2 h3
  obtain ⟨v', w', Φ', f', hr, hacc', hst, hP', hnd, hfb⟩ := acc_append hS hsz hpos hzs h1 (fun b hb => h6 b (by simp [hb])) hacc hA hm hb
  have hrun : (execOp a.eval ⟨some d, .call ⟨.builtin .append, #[s, x], #[sT, xT]⟩, ty, pos, af, gd⟩).run P w = .ok (.value v') w' := by
    simp only [execOp, resolve, List.map_toArray, List.map_cons, List.map_nil, hv, Sem.run_bind, Sem.run_pure, Result.andThen_ok, invoke, builtin, hr]
  unfold Oper.wp
  rw [hrun, Oper.upon_value]
  exact hK v' w' Φ' [[], f'] (by simpa using hst) hP' ⟨⟨rfl, v', put_get a v' d (h7 d rfl), rfl⟩, hacc', trivial⟩ (by simpa using hnd) (by simpa using hfb)

/-- append(s, x..): x a published slice. -/
theorem op_append {α : Type} {v : Value} {e sT : TypeId} {i : TypeInfo} {z : Value} {c : α → List Ck} {xs ys : List α} {s x : Operand} (ht : P.underlying sT = some (.slice e)) (hi : P.info? e = some i) (hz : i.zero = some z) (hsz : ∀ x, lens (c x) = i.size) (hpos : 0 < i.size) (hzs : z.cells.size = i.size)
    (hs : OpndOk G N s (eqVP v)) (hx : OpndOk G N x (slVP c ys)) (hb : xs.length + ys.length ≤ mxl ∧ (xs.length + ys.length) * i.bytes ≤ 140737488355328) :
    OpOk P G ⟨some d, .call ⟨.builtin .append, #[s, x], #[sT, sT]⟩, ty, pos, af, gd⟩ N [.res (acc v e i.size c xs)] (fun v' => [.slot d (eqVP v'), .res (acc v' e i.size c (xs ++ ys))]) :=
  op_append_of hsz hpos hzs hs (fun Φ a w f hP hG hN => by
    obtain ⟨_, ⟨hv, rfl⟩ | ⟨b, o, cap, ds, hv, _, hA, hp⟩ | ⟨rfl, b, cap, hv⟩⟩ := hx Φ a w f hG hN
    · rw [hv]; exact ⟨[], Src.nil ht hi, rfl⟩
    rotate_left
    · rw [hv]; exact ⟨[], Src.slice ht hi hz (by simp) (fun j v hj => by simp at hj) (by simp), rfl⟩
    · rw [hv]; exact ⟨ds, Src.slice ht hi hz (hA.len hsz) (fun j v hj => by rw [Addr.add_lit]; exact hP.cell _ _ _ (hp j v hj)) hA.cell, hA⟩) hb.1 hb.2
/-- The cells of bytes. -/
def bC (b : UInt8) : List Ck := [one (intVP .u8 b.toNat)]
theorem lens_bC (b : UInt8) : lens (bC b) = 1 := rfl
theorem arel_bytes (Φ : Pub) : ∀ (l : List UInt8), Arel Φ bC (l.map byteC) l
  | [] => rfl
  | b :: l => ⟨[byteC b], l.map byteC, rfl, ⟨[_], [], rfl, ⟨_, rfl, rfl, rfl, byte_in b⟩, rfl⟩, arel_bytes Φ l⟩
/-- append(s, x..): x a string. -/
theorem op_append_str {v : Value} {e sT xT : TypeId} {i : TypeInfo} {z : Value} {xs l : List UInt8} {s x : Operand} (ht : P.underlying sT = some (.slice e)) (hxt : P.underlying xT = some .string) (hi : P.info? e = some i) (hz : i.zero = some z) (h1 : i.size = 1) (hb1 : i.bytes = 1) (hzs : z.cells.size = i.size)
    (hs : OpndOk G N s (eqVP v)) (hx : OpndOk G N x (strVP l)) (hb : xs.length + l.length ≤ mxl ∧ (xs.length + l.length) * i.bytes ≤ 140737488355328) :
    OpOk P G ⟨some d, .call ⟨.builtin .append, #[s, x], #[sT, xT]⟩, ty, pos, af, gd⟩ N [.res (acc v e i.size bC xs)] (fun v' => [.slot d (eqVP v'), .res (acc v' e i.size bC (xs ++ l))]) :=
  op_append_of (fun x => by rw [h1]; rfl) (by omega) hzs hs (fun Φ a w f hP hG hN => by
    obtain ⟨hv, _⟩ := hx Φ a w f hG hN
    rw [hv]; exact ⟨_, Src.string ht hxt hi hz h1 hb1, arel_bytes Φ l⟩) hb.1 hb.2
end ops
end Go.Proofs.YtklikgigjdgjaaaGreatDoorRRR
