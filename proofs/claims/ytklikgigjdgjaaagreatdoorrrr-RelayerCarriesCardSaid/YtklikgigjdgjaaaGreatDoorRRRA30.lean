/- Slices of one's own, of any elements: their parts read and written; structs that hold such slices read whole. -/
import Derived.Test.YtklikgigjdgjaaaGreatDoorRRRA29
namespace Go.Proofs.YtklikgigjdgjaaaGreatDoorRRR
open Go Go.RowKit Go.Proofs
set_option linter.unusedVariables false
set_option linter.unusedSimpArgs false

/-- What does with a growing slice does with one's own: it is published first. -/
theorem own_pub {α : Type} {v : Value} {T : TypeId} {sz : Nat} {ck : α → List Ck} {xs : List α} {Φ : Pub} {f : List Nat} {w : World} (hP : PubOk Φ w) (h : (own v T sz ck xs).p Φ f w) (hf : ∀ b ∈ f, b < w.heap.size) :
    ∃ Φ', Step w Φ f w Φ' ∧ PubOk Φ' w ∧ (acc v T sz ck xs).p Φ' f w ∧ ∀ b, b ∉ f → Φ' b = Φ b := by
  obtain ⟨hm, ⟨hv, hxs, rfl⟩ | ⟨b, cap, cs, zs, hv, rfl, hb, hA, hlen, hcap, hn⟩⟩ := h
  · exact ⟨Φ, Step.refl _ _ _, hP, ⟨hm, .inl ⟨hv, hxs, rfl⟩⟩, fun _ _ => rfl⟩
  · let Φ' : Pub := fun b' o => if b' = b then cs[o]? else Φ b' o
    have hle : Pub.le Φ Φ' := fun b' o v e => by
      by_cases hbb : b' = b
      · rw [hbb, hn o] at e; cases e
      · simp only [Φ', if_neg hbb]; exact e
    have hs : ∀ b', b' ∉ [b] → Φ' b' = Φ b' := fun b' hne => by funext o; simp only [Φ', if_neg (by simpa using hne : ¬ b' = b)]
    refine ⟨Φ', ⟨rfl, rfl, rfl, Nat.le_refl _, fun _ _ _ => rfl, hle, fun b' _ hne => hs b' hne⟩, ⟨fun b' o v e => ?_, fun b' o v e => ?_⟩, ⟨hm, .inr ⟨b, cap, cs, zs, hv, rfl, hb, hA.mono hle, hlen, hcap, PubAt.of_eq (fun o => by simp only [Φ', if_pos trivial]), fun o ho => by simp only [Φ', if_pos trivial]; exact List.getElem?_eq_none ho⟩⟩, hs⟩
    · by_cases hbb : b' = b
      · rw [hbb]; exact hf b (by simp)
      · simp only [Φ', if_neg hbb] at e; exact hP.lt b' o v e
    · by_cases hbb : b' = b
      · subst hbb
        simp only [Φ', if_pos trivial] at e
        rw [cell_of hb]
        have : o < cs.length := by
          rcases Nat.lt_or_ge o cs.length with q | q
          · exact q
          · rw [List.getElem?_eq_none q] at e; cases e
        rw [List.getElem?_append_left this]; exact e
      · simp only [Φ', if_neg hbb] at e; exact hP.cell b' o v e
theorem HoldL.repub {Φ Φ1 : Pub} {a : Act} {w : World} {f : List Nat} (hle : Pub.le Φ Φ1) (k : ∀ b, b ∉ f → Φ1 b = Φ b) : ∀ {es : List Ent} {gs : List (List Nat)}, (∀ b ∈ gs.flatten, b ∉ f) → HoldL Φ a.tmps w es gs → HoldL Φ1 a.tmps w es gs
  | [], [], _, _ => trivial
  | e :: es, g :: gs, hb, h => ⟨Ent.holds_mono h.1 hle (fun b hb' => k b (hb b (by simp [hb']))) (fun _ _ => rfl) (fun _ _ => rfl), HoldL.repub hle k (fun b hb' => hb b (by simp only [List.flatten_cons, List.mem_append]; exact .inr hb')) h.2⟩
  | [], _ :: _, _, h => h.elim
  | _ :: _, [], _, h => h.elim
theorem own_one {α : Type} {v : Value} {T : TypeId} {sz : Nat} {c : α → List Ck} {xs : List α} : ∀ Φ f w, (own v T sz c xs).p Φ f w → v.oneCell' = true := by
  rintro Φ f w ⟨_, ⟨rfl, _⟩ | ⟨b, cap, cs, zs, rfl, _⟩⟩ <;> rfl
section ops
variable {P : Program} {G : FP} {N : List Ent} {d : Nat} {ty : TypeId} {pos : String} {af : Array Edge} {gd : Option (Nat × Bool)}
theorem OpOk.ownacc {o : Oper} {α : Type} {v : Value} {T : TypeId} {sz : Nat} {ck : α → List Ck} {xs : List α} {C : List Ent} {Gv : Value → List Ent} (h : OpOk P G o N (.res (acc v T sz ck xs) :: C) Gv) : OpOk P G o N (.res (own v T sz ck xs) :: C) Gv := by
  intro Φ a w fN fC h1 h2 h3 h4 h5 h6 h7 K Q hK
  match fC, h4 with
  | f :: fC, h4 =>
    simp only [List.flatten_cons] at h5 h6 hK
    have hres : (own v T sz ck xs).p Φ f w := h4.1
    obtain ⟨Φ1, k1, k2, k3, k4⟩ := own_pub h1 hres (fun b hb => h6 b (by simp [hb]))
    rw [List.nodup_append] at h5
    obtain ⟨n1, n2, n3⟩ := h5
    have n2' := n2
    rw [List.nodup_append] at n2
    have hN1 := HoldL.repub k1.le k4 (fun b hb hf => n3 b hb b (by simp [hf]) rfl) h3
    have hC1 := HoldL.repub k1.le k4 (fun b hb hf => n2.2.2 b hf b hb rfl) h4.2
    refine h Φ1 a w fN (f :: fC) k2 (G.mono k1.le h2) hN1 ⟨k3, hC1⟩ (by simp only [List.flatten_cons]; rw [List.nodup_append]; exact ⟨n1, n2', n3⟩) (by simpa only [List.flatten_cons] using h6) h7 K Q fun v w' Φ' fG q1 q2 q3 q4 q5 => ?_
    simp only [List.flatten_cons] at q1 q5
    exact hK v w' Φ' fG ((k1.widen (F' := f ++ fC.flatten) fun b hb _ => by simp [hb]).trans q1 (fun b hb _ => hb)) q2 q3 q4 q5
/-- What is used up may stand in any order. -/
theorem OpOk.swap {o : Oper} {e1 e2 : Ent} {C : List Ent} {Gv : Value → List Ent} (h : OpOk P G o N (e1 :: e2 :: C) Gv) : OpOk P G o N (e2 :: e1 :: C) Gv := by
  intro Φ a w fN fC h1 h2 h3 h4 h5 h6 h7 K Q hK
  match fC, h4 with
  | f2 :: f1 :: fC, h4 =>
    simp only [List.flatten_cons] at h5 h6 hK
    have hp : (fN.flatten ++ (f1 ++ (f2 ++ fC.flatten))).Perm (fN.flatten ++ (f2 ++ (f1 ++ fC.flatten))) := by
      refine List.Perm.append_left _ ?_
      rw [← List.append_assoc, ← List.append_assoc]
      exact List.Perm.append_right _ List.perm_append_comm
    have hm : ∀ b, b ∈ f1 ++ (f2 ++ fC.flatten) ↔ b ∈ f2 ++ (f1 ++ fC.flatten) := fun b => by simp only [List.mem_append]; exact ⟨fun h => by rcases h with h | h | h <;> simp [h], fun h => by rcases h with h | h | h <;> simp [h]⟩
    refine h Φ a w fN (f1 :: f2 :: fC) h1 h2 h3 ⟨h4.2.1, h4.1, h4.2.2⟩ (by simp only [List.flatten_cons]; exact hp.nodup_iff.2 h5) (by simp only [List.flatten_cons]; exact fun b hb => h6 b (hp.mem_iff.1 hb)) h7 K Q fun v w' Φ' fG q1 q2 q3 q4 q5 => ?_
    simp only [List.flatten_cons] at q1 q5
    exact hK v w' Φ' fG (q1.widen fun b hb _ => (hm b).1 hb) q2 q3 q4 (fun b hb => ⟨(q5 b hb).1, (q5 b hb).2.imp (hm b).1 id⟩)
/-- A literal without elements, one's own. -/
theorem op_lit0O {α : Type} {t e : TypeId} {sz : Nat} {c : α → List Ck} (hu : P.underlying t = some (.slice e)) (hs : ∀ w, (sizeOf e).run P w = .ok sz w) {z : Value} (hz : ∀ w, (zeroValue e).run P w = .ok z w) :
    OpOk P G ⟨some d, .buildSlice t 0 #[], ty, pos, af, gd⟩ N [] (fun v => [.slot d (eqVP v), .res (own v e sz c ([] : List α))]) := by
  intro Φ a w fN fC h1 h2 h3 h4 h5 h6 h7 K Q hK
  match fC, h4 with
  | [], _ =>
    have hrun : (execOp a.eval ⟨some d, .buildSlice t 0 #[], ty, pos, af, gd⟩).run P w = .ok (.value (.slice (some ⟨w.heap.size, 0, none⟩) 0 0)) (w.alloc (.cells #[] e)) := by
      simp [execOp, Instr.buildSlice, run_underlying hu, hs, hz, Instr.fill, newRow]
      have e0 : (Array.range 0).map (fun _ => (default : Value)) = #[] := by apply Array.ext'; simp [Array.toList_range]
      rw [e0]
    unfold Oper.wp
    rw [hrun, Oper.upon_value]
    refine hK _ _ Φ [[], [w.heap.size]] (step_alloc w Φ _) (pub_alloc h1 _) ⟨⟨rfl, _, put_get a _ d (h7 d rfl), rfl⟩, ⟨by simp [mxl], .inr ⟨w.heap.size, 0, [], [], rfl, rfl, ?_, rfl, by simp, by simp, fun o => ?_⟩⟩, trivial⟩ (by simp) (by simp)
    · rw [heap_alloc_new]; rfl
    · cases e : Φ w.heap.size o with
      | none => rfl
      | some v => have := h1.lt _ o v e; omega
theorem op_fieldAddr_own {s : TypeId} {x : Operand} {q : Value} {fields : Array Field} {i n : Nat} {fd : Field} (k m : Nat) (hu : P.underlying s = some (.struct fields)) (hi : fields[i]? = some fd) (hs : ∀ w, (sizeOf fd.type).run P w = .ok n w) (hn : n ≠ 0)
    (hx : OpndOk G N x (eapVP q k)) (hm : k + fd.offset = m) : OpOk P G ⟨some d, .fieldAddr s x i, ty, pos, af, gd⟩ N [] (fun _ => [.slot d (eapVP q m)]) :=
  OpOk.val fun Φ a w f _ hG hN => by
    obtain ⟨b, len, cap, hp, hv⟩ := hx Φ a w f hG hN
    refine ⟨_, ?_, b, len, cap, hp, rfl⟩
    simp only [execOp, hv]
    rw [Sem.run_bind, run_fieldAt hu hi hs hn, ← hm]
    rfl
theorem eap_blk {α : Type} {q : Value} {k : Nat} {Φ : Pub} {v : Value} {T : TypeId} {sz : Nat} {c : α → List Ck} {xs : List α} {f : List Nat} {w : World} (h : (eapVP q k).p Φ v) (ho : (own q T sz c xs).p Φ f w) :
    ∃ b cap cs zs, q = .slice (some ⟨b, 0, none⟩) xs.length cap ∧ f = [b] ∧ w.heap[b]? = some (.cells (cs ++ zs).toArray T (0, 0)) ∧ Arel Φ c cs xs ∧ (cs ++ zs).length = cap * sz ∧ xs.length ≤ cap ∧ (∀ o, Φ b o = none) ∧ v = .pointer (some ⟨b, k, none⟩) := by
  obtain ⟨b, len, cap, hq, hv⟩ := h
  obtain ⟨hm, ⟨e, _⟩ | ⟨b', cap', cs, zs, e, hf, hb, hA, hlen, hcap, hn⟩⟩ := ho
  · rw [e] at hq; cases hq
  · have : b' = b := by rw [hq] at e; simp at e; exact e.1.symm
    subst this
    exact ⟨b', cap', cs, zs, e, hf, hb, hA, hlen, hcap, hn, hv⟩
/-- A part of an element, read. -/
theorem op_load_own {α : Type} [Inhabited α] {T T0 : TypeId} {x : Operand} {q : Value} {k sz n : Nat} {c : α → List Ck} {xs : List α} {i : Int} (hsz : ∀ x, lens (c x) = sz) (pre mid post : List Ck) (j : Nat) (ha : ∀ w, (isAgg T).run P w = .ok true w) (hs : ∀ w, (sizeOf T).run P w = .ok n w)
    (hx : OpndOk G N x (eapVP q k)) (he : nthD .none N j = .res (own q T0 sz c xs)) (hc : c (xs.getD i.toNat default) = pre ++ mid ++ post) (hn : lens mid = n) (hk : k = i.toNat * sz + lens pre) (hi : 0 ≤ i ∧ i < xs.length) :
    OpOk P G ⟨some d, .load T x, ty, pos, af, gd⟩ N [] (fun _ => [.slot d (aggVP mid)]) :=
  OpOk.val fun Φ a w f _ hG hN => by
    obtain ⟨g, ho⟩ := hN.res j he
    obtain ⟨b, cap, cs, zs, _, _, hb, hA, _, _, _, hv⟩ := eap_blk (hx Φ a w f hG hN) ho
    have hit : i.toNat < xs.length := by omega
    obtain ⟨us, vs, ws, rfl, q1, q2, _⟩ := hA.at hsz i.toNat hit
    have e1 : xs.getD i.toNat default = xs[i.toNat] := by simp [List.getD, hit]
    rw [← e1, hc] at q2
    obtain ⟨v12, v3, rfl, r1, r2⟩ := q2.split
    obtain ⟨v1, v2, rfl, r3, r4⟩ := r1.split
    refine ⟨.agg v2.toArray, ?_, v2, rfl, r4⟩
    simp only [execOp, hv]
    rw [Sem.run_bind, run_loadAt_agg (cs := v2) ha hs (by rw [r4.len, hn]) (fun r v hr => by
      have hr' : r < v2.length := by
        rcases Nat.lt_or_ge r v2.length with q | q
        · exact q
        · rw [List.getElem?_eq_none q] at hr; cases hr
      rw [cell_of hb, hk, ← q1, ← r3.len]
      simp only [List.append_assoc]
      rw [Nat.add_assoc, List.getElem?_append_right (by omega), show us.length + (v1.length + r) - us.length = v1.length + r by omega, List.getElem?_append_right (by omega), show v1.length + r - v1.length = r by omega, List.getElem?_append_left hr']
      exact hr)]
    rfl
theorem op_load_own1 {α : Type} [Inhabited α] {T T0 : TypeId} {x : Operand} {q : Value} {k sz : Nat} {V : VP} {c : α → List Ck} {xs : List α} {i : Int} (hsz : ∀ x, lens (c x) = sz) (pre post : List Ck) (j : Nat) (ha : ∀ w, (isAgg T).run P w = .ok false w)
    (hx : OpndOk G N x (eapVP q k)) (he : nthD .none N j = .res (own q T0 sz c xs)) (hc : c (xs.getD i.toNat default) = pre ++ [one V] ++ post) (hk : k = i.toNat * sz + lens pre) (hi : 0 ≤ i ∧ i < xs.length) :
    OpOk P G ⟨some d, .load T x, ty, pos, af, gd⟩ N [] (fun _ => [.slot d V]) :=
  OpOk.val fun Φ a w f _ hG hN => by
    obtain ⟨g, ho⟩ := hN.res j he
    obtain ⟨b, cap, cs, zs, _, _, hb, hA, _, _, _, hv⟩ := eap_blk (hx Φ a w f hG hN) ho
    have hit : i.toNat < xs.length := by omega
    obtain ⟨us, vs, ws, rfl, q1, q2, _⟩ := hA.at hsz i.toNat hit
    have e1 : xs.getD i.toNat default = xs[i.toNat] := by simp [List.getD, hit]
    rw [← e1, hc] at q2
    obtain ⟨v12, v3, rfl, r1, r2⟩ := q2.split
    obtain ⟨v1, v2, rfl, r3, v2a, v2b, rfl, ⟨u, rfl, _, hu⟩, r4⟩ := r1.split
    have r4 : v2b = [] := r4
    subst r4
    refine ⟨u, ?_, hu⟩
    simp only [execOp, hv]
    rw [Sem.run_bind, run_loadAt_one ha (v := u) (by
      rw [cell_of hb, hk, ← q1, ← r3.len]
      simp only [List.append_assoc]
      rw [List.getElem?_append_right (by omega), show us.length + v1.length - us.length = v1.length by omega, List.getElem?_append_right (by omega), show v1.length - v1.length = 0 by omega]
      rfl)]
    rfl
/-- A part of an element, written. -/
theorem op_store_own {α : Type} [Inhabited α] {T T0 : TypeId} {x y : Operand} {q : Value} {k sz n : Nat} {V : VP} {c : α → List Ck} {xs : List α} {i : Int} {z : α} (hsz : ∀ x, lens (c x) = sz) (pre mid post mid' : List Ck) (hs : ∀ w, (sizeOf T).run P w = .ok n w)
    (hx : OpndOk G N x (eapVP q k)) (hy : OpndOk G N y V) (hV : Cells V mid') (hc : c (xs.getD i.toNat default) = pre ++ mid ++ post) (hz : c z = pre ++ mid' ++ post) (hn : lens mid = n) (hn' : lens mid' = n) (hk : k = i.toNat * sz + lens pre) (hi : 0 ≤ i ∧ i < xs.length) :
    OpOk P G ⟨none, .store T x y, ty, pos, af, gd⟩ N [.res (own q T0 sz c xs)] (fun _ => [.res (own q T0 sz c (xs.set i.toNat z))]) := by
  intro Φ a w fN fC h1 h2 h3 h4 h5 h6 h7 K Q hK
  match fC, h4 with
  | [f], ⟨ho, _⟩ =>
    have hmx : xs.length ≤ mxl := ho.1
    obtain ⟨b, cap, cs, zs, hq, rfl, hb, hA, hlen, hcap, hfree, hv⟩ := eap_blk (hx Φ a w fN h2 h3) ho
    have hit : i.toNat < xs.length := by omega
    obtain ⟨us, vs, ws, rfl, q1, q2, q3, q4⟩ := hA.at hsz i.toNat hit
    have e1 : xs.getD i.toNat default = xs[i.toNat] := by simp [List.getD, hit]
    rw [← e1, hc] at q2
    obtain ⟨v12, v3, rfl, r1, r2⟩ := q2.split
    obtain ⟨v1, v2, rfl, r3, r4⟩ := r1.split
    have hcell := hV Φ _ (hy Φ a w fN h2 h3)
    have hyl : (a.eval y).cells.toList.length = n := by rw [hcell.len, hn']
    have l1 := r3.len
    have l2 := r4.len
    obtain ⟨w', s1, s2, s3, s4, s5, s6, s7⟩ := run_storeCells (P := P) (b := b) (k := k) (a.eval y).cells.toList 0 w ((us ++ (v1 ++ v2 ++ v3) ++ ws) ++ zs) hb (by
      simp only [List.length_append] at *; omega) hcell.cell
    have hblk : w'.heap[b]? = some (.cells ((us ++ (v1 ++ (a.eval y).cells.toList ++ v3) ++ ws) ++ zs).toArray T0 (0, 0)) := by
      rw [s2]
      congr 3
      have t1 : ((us ++ (v1 ++ v2 ++ v3) ++ ws) ++ zs).take (k + 0) = us ++ v1 := by
        rw [Nat.add_zero, hk, ← q1, ← l1]
        simp only [List.append_assoc]
        rw [List.take_length_add_append, List.take_left]
      have t2 : ((us ++ (v1 ++ v2 ++ v3) ++ ws) ++ zs).drop (k + 0 + (a.eval y).cells.toList.length) = v3 ++ ws ++ zs := by
        rw [Nat.add_zero, hk, ← q1, ← l1, hyl, ← hn, ← l2]
        simp only [List.append_assoc]
        rw [Nat.add_assoc, List.drop_length_add_append, List.drop_length_add_append, List.drop_left]
      rw [t1, t2]
      simp
    have hrun : (execOp a.eval ⟨none, .store T x y, ty, pos, af, gd⟩).run P w = .ok .skip w' := by
      have hsz' : ¬ (a.eval y).cells.size ≠ n := by rw [← Array.length_toList, hyl]; simp
      simp only [execOp, hv, Instr.storeAt, Instr.sureAddr, storeVar, Sem.run_bind, Sem.run_pure, Result.andThen_ok, hs]
      simp only [if_neg hsz']
      simp [s1]
    unfold Oper.wp
    rw [hrun, Oper.upon_skip]
    have hl' : xs.set i.toNat z = xs.take i.toNat ++ z :: xs.drop (i.toNat + 1) := set_mid _ _ _ hit
    have hnew : Lrel Φ (v1 ++ (a.eval y).cells.toList ++ v3) (c z) := by rw [hz]; exact (r3.append hcell).append r2
    refine hK undef w' Φ [[b]] ⟨s5, s6, s7, Nat.le_of_eq s4.symm, fun c hc' hne => s3 c (fun e => hne (by simp [e])), Pub.le_refl _, fun _ _ _ => rfl⟩
      ⟨fun c o v e => by rw [s4]; exact h1.lt c o v e, fun c o v e => ?_⟩ ⟨⟨by simpa using hmx, .inr ⟨b, cap, _, zs, by simpa using hq, rfl, hblk, ?_, ?_, by simpa using hcap, hfree⟩⟩, trivial⟩ (by simp) (fun c hc' => ?_)
    · have hne : c ≠ b := fun e' => by rw [e', hfree o] at e; cases e
      exact (World.cell?_of_block (w := w) (s3 c hne)).trans (h1.cell c o v e)
    · rw [hl', List.append_assoc]
      exact q3.append ⟨_, ws, rfl, hnew, q4⟩
    · simp only [List.length_append] at hlen ⊢; omega
    · simp at hc'
      subst hc'
      have := h6 c (by simp)
      exact ⟨by rw [s4]; exact this, .inl (by simp)⟩
/-- A struct that holds growing slices, told with them as plain fields. -/
inductive AccSub : List Ent → List Ck → List Ck → Prop
  | nil {C : List Ent} : AccSub C [] []
  | keep {C : List Ent} {k : Ck} {L L' : List Ck} (h : AccSub C L L') : AccSub C (k :: L) (k :: L')
  | sub {C : List Ent} {L L' : List Ck} {α : Type} {q : Value} {T : TypeId} {sz : Nat} {c : α → List Ck} {xs : List α} (j : Nat) (hr : nthD .none C j = .res (acc q T sz c xs)) (h : AccSub C L L') : AccSub C (one (eqVP q) :: L) (one (slVP c xs) :: L')
theorem AccSub.rel {C : List Ent} {Φ : Pub} {tmps : Array Value} {w : World} {f : List (List Nat)} (hC : HoldL Φ tmps w C f) : ∀ {L L' : List Ck} {cs : List Value}, AccSub C L L' → Lrel Φ cs L → Lrel Φ cs L'
  | _, _, _, .nil, h => h
  | _, _, _, .keep k, ⟨xs, ys, e, h1, h2⟩ => ⟨xs, ys, e, h1, AccSub.rel hC k h2⟩
  | _, _, _, .sub j hr k, ⟨xs, ys, e, ⟨v, hv, h1, h2⟩, h3⟩ => by
    obtain ⟨g, ho⟩ := hC.res j hr
    have h2 : v = _ := h2
    subst h2
    exact ⟨xs, ys, e, ⟨v, hv, h1, acc_sl ho⟩, AccSub.rel hC k h3⟩
theorem op_load_sub {T T0 : TypeId} {x : Operand} {p : Value} {n : Nat} {L L' : List Ck} (Rs : List RP) (j : Nat) (ha : ∀ w, (isAgg T).run P w = .ok true w) (hs : ∀ w, (sizeOf T).run P w = .ok n w)
    (hx : OpndOk G N x (lpVP p 0)) (he : nthD .none N j = .res (lb p T0 L)) (hn : lens L = n) (hsub : AccSub (Rs.map .res) L L') : OpOk P G ⟨some d, .load T x, ty, pos, af, gd⟩ N (Rs.map .res) (fun _ => .slot d (aggVP L') :: Rs.map .res) := by
  intro Φ a w fN fC h1 h2 h3 h4 h5 h6 h7 K Q hK
  obtain ⟨b, hp, hv⟩ := hx Φ a w fN h2 h3
  obtain ⟨g, b', cs, hp', _, hb, hL, _⟩ := h3.res j he
  have : b' = b := by rw [hp] at hp'; simpa using hp'.symm
  subst this
  have hrun : (execOp a.eval ⟨some d, .load T x, ty, pos, af, gd⟩).run P w = .ok (.value (.agg cs.toArray)) w := by
    simp only [execOp, hv]
    rw [Sem.run_bind, run_loadAt_agg (cs := cs) ha hs (by rw [hL.len, hn]) (fun r v hr => by rw [cell_of hb, Nat.zero_add]; exact hr)]
    rfl
  unfold Oper.wp
  rw [hrun, Oper.upon_value]
  rw [List.nodup_append] at h5
  exact hK _ w Φ ([] :: fC) ((Step.refl w Φ []).widen (by simp)) h1 ⟨⟨rfl, _, put_get a _ d (h7 d rfl), cs, rfl, hsub.rel h4 hL⟩, HoldL.of_res (HoldL.res_of h4)⟩ (by simpa using h5.2.1) (fun b hb => ⟨h6 b (by simp only [List.mem_append]; exact .inr (by simpa using hb)), .inl (by simpa using hb)⟩)
end ops
end Go.Proofs.YtklikgigjdgjaaaGreatDoorRRR
