/- A range over a map of one's own that isn't written meanwhile: whatever the order. -/
import Derived.Test.YtbhehllkimedaaaDoorA23
import Derived.Maps.RangeRun
namespace Go.Proofs.YtbhehllkimedaaaDoor
open Go Go.RowKit Go.Proofs
set_option linter.unusedVariables false
set_option linter.unusedSimpArgs false

theorem keyStrL {P : Program} {kt : TypeId} (hu : P.underlying kt = some .string) : KeyOk P kt strK (fun l => l.length ≤ mxl) where
  check b k w _ := (keyStr hu).check b k w trivial
  find es ks k w _ he _ := (keyStr hu).find es ks k w trivial he (fun _ _ => trivial)
  same k := (keyStr hu).same k
theorem hk_strL {l : List UInt8} : ∀ Φ u, (strVP l).p Φ u → u = strK l ∧ l.length ≤ mxl := fun _ _ h => ⟨h.1, h.2⟩
/-- A map under a range: the entries of which have come. -/
def mapI {K V : Type} (it v : Value) (kV : K → Value) (kOk : K → Prop) (eR : Value → V → RP) (m done : List (K × V)) : RP := ⟨fun Φ f w => ∃ (b r : Nat) (es : Array MapEntry) (clock : Nat) (fs : List (List Nat)) (seen : Array Nat) (last : Nat) (st : K × V → Nat), v = .map (some b) ∧ it = .pointer (some ⟨r, 0, none⟩) ∧ f = r :: b :: List.flatten fs ∧ w.heap[b]? = some (.map es clock) ∧ w.heap[r]? = some (.mapIter (some b) clock seen last) ∧
    last = clock ∧ EntsL Φ w kV eR es.toList m fs ∧ (es.toList.map (·.born)).Nodup ∧ (∀ e ∈ es.toList, e.born < clock) ∧ (m.map (·.1)).Nodup ∧ (∀ x ∈ m, kOk x.1) ∧
    es.toList.map (·.born) = m.map st ∧ seen.toList = done.map st ∧ ∃ rem, (done ++ rem).Perm m, by
  rintro Φ Φ' f w w' hle hs hb ⟨b, r, es, clock, fs, seen, last, st, h1, h2, rfl, h3, h4, h5, h6, h7⟩
  exact ⟨b, r, es, clock, fs, seen, last, st, h1, h2, rfl, by rw [hb b (by simp)]; exact h3, by rw [hb r (by simp)]; exact h4, h5, h6.loc hle (fun c hc => hs c (by simp [hc])) (fun c hc => hb c (by simp [hc])), h7⟩⟩
/-- What a step of a range brings. -/
def NextRel {α : Type} (m done d : List α) (b : Bool) : Prop := (b = true ∧ ∃ x rem, d = done ++ [x] ∧ (done ++ x :: rem).Perm m) ∨ (b = false ∧ d = done ∧ done.Perm m)
def nxtVP (b : Bool) : VP := ⟨fun _ v => ∃ xs : List Value, v = .tuple (.bool b :: xs).toArray, fun _ h => h⟩
def mapN {K V : Type} (it v : Value) (kV : K → Value) (kOk : K → Prop) (eR : Value → V → RP) (m done : List (K × V)) (b : Bool) : RP := RP.ex fun d => RP.sep (RP.is (NextRel m done d b)) (mapI it v kV kOk eR m d)
theorem nodup_fst {K V : Type} : ∀ {m : List (K × V)}, (m.map (·.1)).Nodup → m.Nodup
  | [], _ => List.nodup_nil
  | x :: m, h => by
    simp only [List.map_cons, List.nodup_cons] at h ⊢
    exact ⟨fun hx => h.1 (List.mem_map.2 ⟨x, hx, rfl⟩), nodup_fst h.2⟩
theorem stamps {K V : Type} [DecidableEq K] (bs : List Nat) : ∀ (m : List (K × V)), (m.map (·.1)).Nodup → bs.length = m.length → ∃ st : K × V → Nat, bs = m.map st := by
  induction bs with
  | nil => intro m _ hl; cases m with
    | nil => exact ⟨fun _ => 0, rfl⟩
    | cons x m => cases hl
  | cons b bs ih =>
    intro m hn hl
    cases m with
    | nil => cases hl
    | cons x m =>
      simp only [List.map_cons, List.nodup_cons] at hn
      obtain ⟨st, hst⟩ := ih m hn.2 (by simpa using hl)
      refine ⟨fun y => if y.1 = x.1 then b else st y, ?_⟩
      simp only [List.map_cons, if_true]
      congr 1
      rw [hst]
      refine List.map_congr_left fun y hy => ?_
      rw [if_neg]
      intro e
      exact hn.1 (List.mem_map.2 ⟨y, hy, e⟩)
theorem inj_of_nodup {α : Type} {st : α → Nat} : ∀ {m : List α}, (m.map st).Nodup → ∀ {x y : α}, x ∈ m → y ∈ m → st x = st y → x = y
  | [], _, _, _, h, _, _ => by cases h
  | a :: m, hn, x, y, hx, hy, e => by
    simp only [List.map_cons, List.nodup_cons] at hn
    rcases List.mem_cons.1 hx with hx1 | hx1 <;> rcases List.mem_cons.1 hy with hy1 | hy1
    · rw [hx1, hy1]
    · subst hx1; exact absurd (by rw [e]; exact List.mem_map.2 ⟨y, hy1, rfl⟩) hn.1
    · subst hy1; exact absurd (by rw [← e]; exact List.mem_map.2 ⟨x, hx1, rfl⟩) hn.1
    · exact inj_of_nodup hn.2 hx1 hy1 e
section ops
variable {P : Program} {G : FP} {N : List Ent} {d : Nat} {ty : TypeId} {pos : String} {af : Array Edge} {gd : Option (Nat × Bool)} {K V : Type} {kV : K → Value} {kOk : K → Prop} {eR : Value → V → RP}
theorem op_range {t kt e : TypeId} {x : Operand} {v : Value} {m : List (K × V)} [DecidableEq K] (hu : P.underlying t = some (.map kt e)) (hx : OpndOk G N x (eqVP v)) :
    OpOk P G ⟨some d, .range t x, ty, pos, af, gd⟩ N [.res (mapR v kV kOk eR m)] (fun it => [.slot d (eqVP it), .res (mapI it v kV kOk eR m [])]) := by
  intro Φ a w fN fC h1 h2 h3 h4 h5 h6 h7 Kk Q hK
  match fC, h4 with
  | [f], ⟨⟨b, es, clock, fs, hvv, hf, hb, hE, hn, hlt, hk, hall⟩, _⟩ =>
    subst hvv
    subst hf
    have h5' : (fN.flatten ++ (b :: List.flatten fs)).Nodup := by simpa using h5
    have h5' := (List.nodup_append.1 h5').2.1
    have h6 : ∀ c ∈ b :: List.flatten fs, c < w.heap.size := fun c hc => h6 c (by simp at hc ⊢; exact .inr hc)
    have hv : a.eval x = .map (some b) := hx Φ a w fN h2 h3
    obtain ⟨st, hst⟩ := stamps (es.toList.map (·.born)) m hk (by simpa using hE.len.1)
    have hbl : b < w.heap.size := h6 b (by simp)
    have hrun : (execOp a.eval ⟨some d, .range t x, ty, pos, af, gd⟩).run P w = .ok (.value (.pointer (some ⟨w.heap.size, 0, none⟩))) (w.alloc (.mapIter (some b) clock #[] clock)) := by
      simp only [execOp, hv, Sem.run_bind, run_range_map w t kt e b es clock hu hb, Result.andThen_ok]
      rfl
    have hold : ∀ c, c < w.heap.size → (w.alloc (.mapIter (some b) clock #[] clock)).heap[c]? = w.heap[c]? := fun c hc => heap_alloc_old w _ hc
    unfold Oper.wp
    rw [hrun, Oper.upon_value]
    refine hK _ _ Φ [[], w.heap.size :: b :: List.flatten fs] ⟨rfl, rfl, rfl, by simp, fun c hc _ => hold c hc, Pub.le_refl _, fun _ _ _ => rfl⟩ (pub_alloc h1 _) ⟨⟨rfl, _, put_get a _ d (h7 d rfl), rfl⟩, ⟨b, w.heap.size, es, clock, fs, #[], clock, st, rfl, rfl, rfl, by rw [hold b hbl]; exact hb, heap_alloc_new _ _, rfl, ?_, hn, hlt, hk, hall, hst, rfl, m, by simp⟩, trivial⟩ ?_ ?_
    · exact hE.loc (Pub.le_refl _) (fun _ _ => rfl) (fun c hc => hold c (h6 c (by simp [hc])))
    · have : w.heap.size ∉ b :: List.flatten fs := fun hc => by have := h6 _ hc; omega
      show ([] ++ ((w.heap.size :: b :: List.flatten fs) ++ [])).Nodup
      rw [List.nil_append, List.append_nil]
      exact List.nodup_cons.2 ⟨this, h5'⟩
    · intro c hc
      simp only [List.flatten_cons, List.flatten_nil, List.append_nil, List.nil_append, List.mem_cons] at hc
      rcases hc with rfl | hc
      · simp
      · have := h6 c (List.mem_cons.2 hc)
        exact ⟨by simp; omega, .inl (by simpa using hc)⟩
theorem op_next {t : Nat} {it v : Value} {m done : List (K × V)} (i : Nat) (he : nthD .none N i = .slot t (eqVP it)) :
    OpOk P G ⟨some d, .next (.tmp t) false, ty, pos, af, gd⟩ N [.res (mapI it v kV kOk eR m done)] (fun _ => [.slot d (nxtVP (decide (done.length < m.length))), .res (mapN it v kV kOk eR m done (decide (done.length < m.length)))]) := by
  intro Φ a w fN fC h1 h2 h3 h4 h5 h6 h7 Kk Q hK
  match fC, h4 with
  | [f], ⟨⟨b, r, es, clock, fs, seen, last, st, hvv, hitt, hf, hb, hr, hcl, hE, hn, hlt, hk, hall, hst, hseen, rem, hp⟩, _⟩ =>
    subst hvv
    subst hitt
    subst hf
    subst hcl
    have h5' : (fN.flatten ++ (r :: b :: List.flatten fs)).Nodup := by simpa using h5
    have h5' := (List.nodup_append.1 h5').2.1
    have h6 : ∀ c ∈ r :: b :: List.flatten fs, c < w.heap.size := fun c hc => h6 c (by simp at hc ⊢; exact .inr hc)
    have hv : a.eval (.tmp t) = .pointer (some ⟨r, 0, none⟩) := opt (G := G) i he Φ a w fN h2 h3
    have hmn := nodup_fst hk
    have hdn : (done ++ rem).Nodup := hp.nodup_iff.2 hmn
    have hlen : done.length + rem.length = m.length := by rw [← hp.length_eq]; simp
    have hrb : r ≠ b := fun e => by rw [e, hb] at hr; cases hr
    have hstm : (m.map st).Nodup := by rw [← hst]; exact hn
    rcases run_next_at (P := P) w ty r b last last seen es last hr hb hlt (Nat.le_refl _) with ⟨h0, hrun⟩ | ⟨e0, he0, w1, hw1, hrun⟩
    · -- none is left
      have hrem : rem = [] := by
        cases hrm : rem with
        | nil => rfl
        | cons x rem' =>
          exfalso
          have hxm : x ∈ m := hp.subset (by rw [hrm]; simp)
          have hsx : st x ∈ es.toList.map (·.born) := by rw [hst]; exact List.mem_map.2 ⟨x, hxm, rfl⟩
          obtain ⟨e1, he1, he2⟩ := List.mem_map.1 hsx
          have hin : e1.born ∈ seen.toList := by
            rcases Classical.em (e1.born ∈ seen.toList) with q | q
            · exact q
            · exfalso
              have : e1 ∈ (leftOf es seen).toList := by
                unfold leftOf
                simp only [Array.toList_filter, List.mem_filter]
                exact ⟨he1, by simpa using q⟩
              rw [Array.size_eq_length_toList, List.length_eq_zero_iff] at h0
              rw [h0] at this; cases this
          rw [hseen, he2] at hin
          obtain ⟨y, hy, hye⟩ := List.mem_map.1 hin
          have hym : y ∈ m := hp.subset (by simp [hy])
          have hxy : y = x := inj_of_nodup hstm hym hxm hye
          subst hxy
          rw [hrm] at hdn
          exact (List.nodup_append.1 hdn).2.2 y hy y (by simp) rfl
      have hd : decide (done.length < m.length) = false := by simp [hrem] at hlen; simp; omega
      have hrun' : (execOp a.eval ⟨some d, .next (.tmp t) false, ty, pos, af, gd⟩).run P w = .ok (.value (.tuple #[.bool false])) w := by
        simp only [execOp, hv, Sem.run_bind, hrun, Result.andThen_ok]
        rfl
      unfold Oper.wp
      rw [hrun', Oper.upon_value, ]
      refine hK _ _ Φ [[], r :: b :: List.flatten fs] (Step.refl _ _ _) h1 ⟨⟨rfl, _, put_get a _ d (h7 d rfl), [], by rw [hd]⟩, ⟨done, [], r :: b :: List.flatten fs, by simp, ⟨rfl, .inr ⟨hd, rfl, ?_⟩⟩, b, r, es, last, fs, seen, last, st, rfl, rfl, rfl, hb, hr, rfl, hE, hn, hlt, hk, hall, hst, hseen, rem, hp⟩, trivial⟩ (by show ([] ++ ((r :: b :: List.flatten fs) ++ [])).Nodup; rw [List.nil_append, List.append_nil]; exact h5') (fun c hc => by
        have hc : c ∈ r :: b :: List.flatten fs := by simpa using hc
        exact ⟨h6 c hc, .inl (by simpa using hc)⟩)
      rw [hrem] at hp; simpa using hp
    · -- one comes
      have hmem : e0 ∈ es.toList ∧ e0.born ∉ seen.toList := by
        unfold leftOf at he0
        simp only [Array.toList_filter, List.mem_filter] at he0
        exact ⟨he0.1, by simpa using he0.2⟩
      obtain ⟨j, hj, hje⟩ := List.mem_iff_getElem.1 hmem.1
      have hjm : j < m.length := by rw [← hE.len.1]; exact hj
      have hstj : e0.born = st m[j] := by
        have e1 : (es.toList.map (·.born))[j]? = some e0.born := by rw [List.getElem?_map, List.getElem?_eq_getElem hj, hje]; rfl
        rw [hst] at e1
        simp [hjm] at e1
        exact e1.symm
      have hxd : m[j] ∉ done := fun hc => hmem.2 (by rw [hseen, hstj]; exact List.mem_map.2 ⟨_, hc, rfl⟩)
      have hxr : m[j] ∈ rem := by
        have : m[j] ∈ done ++ rem := hp.symm.subset (List.getElem_mem hjm)
        rcases List.mem_append.1 this with q | q
        · exact absurd q hxd
        · exact q
      obtain ⟨r1, r2, hr12⟩ := List.append_of_mem hxr
      have hperm : (done ++ m[j] :: (r1 ++ r2)).Perm m := by
        refine List.Perm.trans ?_ hp
        rw [hr12]
        exact List.Perm.append_left done List.perm_middle.symm
      have hd : decide (done.length < m.length) = true := by
        have : rem.length ≠ 0 := fun e => by rw [List.eq_nil_of_length_eq_zero e] at hxr; cases hxr
        simp; omega
      have hrun' : (execOp a.eval ⟨some d, .next (.tmp t) false, ty, pos, af, gd⟩).run P w = .ok (.value (.tuple #[.bool true, e0.key, e0.val])) (Go.ChangeMaps.setBlock w1 r (.mapIter (some b) last (seen.push e0.born) last)) := by
        simp only [execOp, hv, Sem.run_bind, hrun, Result.andThen_ok]
        rfl
      have hw1h : w1.heap = w.heap := by rcases hw1 with rfl | rfl <;> rfl
      have hsize : (Go.ChangeMaps.setBlock w1 r (.mapIter (some b) last (seen.push e0.born) last)).heap.size = w.heap.size := by simp [Go.ChangeMaps.setBlock, hw1h]
      have hother : ∀ c, c ≠ r → (Go.ChangeMaps.setBlock w1 r (.mapIter (some b) last (seen.push e0.born) last)).heap[c]? = w.heap[c]? := fun c hc => by
        simp [Go.ChangeMaps.setBlock, Array.getElem?_setIfInBounds, Ne.symm hc, hw1h]
      have hself : (Go.ChangeMaps.setBlock w1 r (.mapIter (some b) last (seen.push e0.born) last)).heap[r]? = some (.mapIter (some b) last (seen.push e0.born) last) := by
        have : r < w.heap.size := h6 r (by simp)
        simp [Go.ChangeMaps.setBlock, Array.getElem?_setIfInBounds, hw1h, this]
      have hpr : ∀ o, Φ r o = none := fun o => by
        cases e : Φ r o with
        | none => rfl
        | some u =>
          have := h1.cell r o u e
          simp [World.cell?, hr] at this
      have hrf : r ∉ List.flatten fs := by
        have := h5'
        simp only [List.nodup_cons, List.mem_cons, not_or] at this
        exact this.1.2
      unfold Oper.wp
      rw [hrun', Oper.upon_value]
      refine hK _ _ Φ [[], r :: b :: List.flatten fs] ⟨?_, ?_, ?_, Nat.le_of_eq hsize.symm, fun c hc hne => hother c (fun e => hne (by simp [e])), Pub.le_refl _, fun _ _ _ => rfl⟩ ⟨fun c o u e => by rw [hsize]; exact h1.lt c o u e, fun c o u e => ?_⟩
        ⟨⟨rfl, _, put_get a _ d (h7 d rfl), [e0.key, e0.val], by rw [hd]⟩, ⟨done ++ [m[j]], [], r :: b :: List.flatten fs, by simp, ⟨rfl, .inl ⟨hd, m[j], r1 ++ r2, rfl, hperm⟩⟩, b, r, es, last, fs, seen.push e0.born, last, st, rfl, rfl, rfl, by rw [hother b (Ne.symm hrb)]; exact hb, hself, rfl,
          hE.loc (Pub.le_refl _) (fun _ _ => rfl) (fun c hc => hother c (fun e => hrf (e ▸ hc))), hn, hlt, hk, hall, hst, by simp [hseen, hstj], r1 ++ r2, by simpa using hperm⟩, trivial⟩ (by show ([] ++ ((r :: b :: List.flatten fs) ++ [])).Nodup; rw [List.nil_append, List.append_nil]; exact h5') (fun c hc => by
          have hc : c ∈ r :: b :: List.flatten fs := by simpa using hc
          exact ⟨by rw [hsize]; exact h6 c hc, .inl (by simpa using hc)⟩)
      · rcases hw1 with rfl | rfl <;> rfl
      · rcases hw1 with rfl | rfl <;> rfl
      · rcases hw1 with rfl | rfl <;> rfl
      · have hne : c ≠ r := fun e' => by rw [e', hpr o] at e; cases e
        exact (World.cell?_of_block (w := w) (hother c hne)).trans (h1.cell c o u e)
theorem op_extract0 {x : Operand} {b : Bool} (hx : OpndOk G N x (nxtVP b)) : OpOk P G ⟨some d, .extract x 0, ty, pos, af, gd⟩ N [] (fun _ => [.slot d (boolVP b)]) :=
  OpOk.val fun Φ a w f _ hG hN => by
    obtain ⟨xs, hv⟩ := hx Φ a w f hG hN
    refine ⟨.bool b, ?_, rfl⟩
    simp only [execOp, hv]
    simp [Instr.extract]
/-- The key and the value that came last. -/
theorem op_entry {t : Nat} {it v : Value} {m done : List (K × V)} {x : K × V} (i j : Nat) (W : V → VP) (Vk : VP) (he : nthD .none N i = .slot t (eqVP it)) (hr : nthD .none N j = .res (mapI it v kV kOk (fun u y => RP.val (W y) u) m (done ++ [x]))) (hk : ∀ Φ, kOk x.1 → Vk.p Φ (kV x.1)) :
    OpOk P G ⟨some d, .entry (.tmp t), ty, pos, af, gd⟩ N [] (fun _ => [.slot d (tupVP [Vk, W x.2])]) :=
  OpOk.val fun Φ a w f _ hG hN => by
    have hv : a.eval (.tmp t) = it := opt (G := G) i he Φ a w f hG hN
    obtain ⟨g, b, r, es, clock, fs, seen, last, st, rfl, rfl, hf, hb, hrr, hcl, hE, hn, hlt, hkn, hall, hst, hseen, rem, hp⟩ := hN.res j hr
    have hxm : x ∈ m := hp.subset (by simp)
    obtain ⟨q, hq, hqe⟩ := List.mem_iff_getElem.1 hxm
    obtain ⟨en, f', h5, _, h6, h7⟩ := hE.get q x (by simp [hq, hqe])
    have hbx : en.born = st x := by
      have e1 : (es.toList.map (·.born))[q]? = some en.born := by simp only [List.getElem?_map, h5, Option.map_some]
      rw [hst] at e1
      simp [hq, hqe] at e1
      exact e1.symm
    have hsp : seen = (done.map st).toArray.push en.born := by
      apply Array.ext'
      simp [hseen, hbx]
    have hen : en ∈ es.toList := List.mem_of_getElem? h5
    subst hsp
    -- the iterator's last look is the map's clock: the step laid it so
    refine ⟨.tuple #[en.key, en.val], ?_, [en.key, en.val], rfl, by rw [h6]; exact hk Φ (hall x hxm), h7.2, trivial⟩
    subst hcl
    simp only [execOp, hv, Sem.run_bind, run_entry_at (P := P) w r b last (done.map st).toArray es last en hrr hb hen hn, Result.andThen_ok]
    rfl
end ops
def RP.junk : RP := ⟨fun _ _ _ => True, fun _ _ _ _ => trivial⟩
theorem unrange {K V : Type} {it v : Value} {kV : K → Value} {kOk : K → Prop} {eR : Value → V → RP} {m done : List (K × V)} : RP.le (mapI it v kV kOk eR m done) (RP.sep RP.junk (mapR v kV kOk eR m)) := by
  rintro Φ f w ⟨b, r, es, clock, fs, seen, last, st, h1, h2, rfl, h3, h4, h5, h6, h7, h8, h9, h10, _⟩
  exact ⟨[r], b :: List.flatten fs, rfl, trivial, b, es, clock, fs, h1, rfl, h3, h6, h7, h8, h9, h10⟩
theorem wp_loopR {P : Program} {S : Type} {code : Code} (I : S → Act → World → Prop) (Qo : Exit → Act → World → Prop) (m : S → Nat)
    (hbody : ∀ s a w, I s a w → code.wp P (fun e a' w' => (e = .normal ∧ ∃ s', I s' a' w' ∧ m s' < m s) ∨ (e ≠ .normal ∧ Qo e a' w')) a w) :
    ∀ (s : S) (a : Act) (w : World), I s a w → (Code.loop code).wp P Qo a w := by
  intro s a w hI b kk cs
  have key : ∀ (n : Nat) (s : S) (a : Act) (w : World), m s < n → I s a w →
      ∃ e a' w', Qo e a' w' ∧ Arrives P (lone (b.at a (.code code :: .inLoop code :: kk)) cs w) b kk cs e a' w' := by
    intro n
    induction n with
    | zero => intro s a w hm; omega
    | succ n ih =>
      intro s a w hm hI
      obtain ⟨e, a₁, w₁, hq, harr⟩ := hbody s a w hI b (.inLoop code :: kk) cs
      rcases hq with ⟨rfl, s', hI', hm'⟩ | ⟨hne, hq⟩
      · obtain ⟨e₂, a₂, w₂, hq₂, harr₂⟩ := ih s' a₁ w₁ (by omega) hI'
        exact ⟨e₂, a₂, w₂, hq₂, .of_steps (Steps.trans harr (.one step_inLoop)) harr₂⟩
      · exact ⟨e, a₁, w₁, hq, .pass (x := .inLoop code) rfl (fun _ _ => .inl hne) harr⟩
  obtain ⟨e, a', w', hq, harr⟩ := key (m s + 1) s a w (by omega) hI
  exact ⟨e, a', w', hq, .of_steps (.one step_loop) harr⟩
def foldO {α σ : Type} (f : σ → α → Option σ) : List α → σ → Option σ
  | [], s => some s
  | x :: xs, s => (f s x).bind (foldO f xs)
theorem foldO_append {α σ : Type} (f : σ → α → Option σ) : ∀ (xs ys : List α) (s : σ), foldO f (xs ++ ys) s = (foldO f xs s).bind (foldO f ys)
  | [], ys, s => rfl
  | x :: xs, ys, s => by
    simp only [List.cons_append, foldO]
    cases f s x with
    | none => rfl
    | some t => exact foldO_append f xs ys t
end Go.Proofs.YtbhehllkimedaaaDoor
