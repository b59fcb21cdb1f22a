/- An entry of a map, taken out and put back: maps whose elements are slices that grow. -/
import Derived.Test.YtklikgigjdgjaaaGreatDoorRRRA20
namespace Go.Proofs.YtklikgigjdgjaaaGreatDoorRRR
open Go Go.RowKit

def tup0 : Value → Value
  | .tuple a => a.getD 0 undef
  | v => v
def tup1 : Value → Value
  | .tuple a => a.getD 1 undef
  | v => v
/-- A map whose entry of the key k stands by itself; st: the entry's stamp. -/
def mapH {K V : Type} (v st : Value) (kV : K → Value) (kOk : K → Prop) (eR : Value → V → RP) (k : K) (m : List (K × V)) : RP := ⟨fun Φ f w => ∃ b es clock pre post k0 x0 e0 fp fq, v = .map (some b) ∧ f = b :: (List.flatten fp ++ List.flatten fq) ∧ w.heap[b]? = some (.map es clock) ∧
    ∃ es1 es2 : List MapEntry, es.toList = es1 ++ e0 :: es2 ∧ m = pre ++ (k0, x0) :: post ∧ k0 = k ∧ e0.key = kV k ∧ st = .int .i64 e0.born ∧ EntsL Φ w kV eR es1 pre fp ∧ EntsL Φ w kV eR es2 post fq ∧
    (es.toList.map (·.born)).Nodup ∧ (∀ e ∈ es.toList, e.born < clock) ∧ (m.map (·.1)).Nodup ∧ ∀ x ∈ m, kOk x.1, by
  rintro Φ Φ' f w w' hle hs hb ⟨b, es, clock, pre, post, k0, x0, e0, fp, fq, h1, rfl, h3, es1, es2, h4, h5, h6, h7, h8, h9, h10, h11⟩
  exact ⟨b, es, clock, pre, post, k0, x0, e0, fp, fq, h1, rfl, by rw [hb b (by simp)]; exact h3, es1, es2, h4, h5, h6, h7, h8,
    h9.loc hle (fun c hc => hs c (by simp [hc])) (fun c hc => hb c (by simp [hc])), h10.loc hle (fun c hc => hs c (by simp [hc])) (fun c hc => hb c (by simp [hc])), h11⟩⟩
theorem EntsL.cut {K V : Type} {Φ : Pub} {w : World} {kV : K → Value} {eR : Value → V → RP} : ∀ {es : List MapEntry} {m : List (K × V)} {fs : List (List Nat)} (i : Nat) (x : K × V), EntsL Φ w kV eR es m fs → m[i]? = some x →
    ∃ es1 e es2 m1 m2 f1 f f2, es = es1 ++ e :: es2 ∧ m = m1 ++ x :: m2 ∧ fs = f1 ++ f :: f2 ∧ m1.length = i ∧ es1.length = i ∧ EntsL Φ w kV eR es1 m1 f1 ∧ EntsL Φ w kV eR es2 m2 f2 ∧ e.key = kV x.1 ∧ (eR e.val x.2).p Φ f w
  | e :: es, y :: m, f :: fs, 0, x, h, hx => by simp at hx; subst hx; exact ⟨[], e, es, [], m, [], f, fs, rfl, rfl, rfl, rfl, rfl, trivial, h.2.2, h.1, h.2.1⟩
  | e :: es, y :: m, f :: fs, i + 1, x, h, hx => by
    obtain ⟨es1, e', es2, m1, m2, f1, f', f2, q1, q2, q3, q4, q5, q6, q7, q8, q9⟩ := EntsL.cut i x h.2.2 (by simpa using hx)
    exact ⟨e :: es1, e', es2, y :: m1, m2, f :: f1, f', f2, by simp [q1], by simp [q2], by simp [q3], by simp [q4], by simp [q5], ⟨h.1, h.2.1, q6⟩, q7, q8, q9⟩
  | [], [], [], _, _, _, hx => by simp at hx
  | [], [], _ :: _, _, _, h, _ => h.elim
  | [], _ :: _, _, _, _, h, _ => h.elim
  | _ :: _, [], _, _, _, h, _ => h.elim
  | _ :: _, _ :: _, [], _, _, h, _ => h.elim
/-- The map with an entry for the key. -/
def ens {K V : Type} [DecidableEq K] (k : K) (d : V) (m : List (K × V)) : List (K × V) := if (lkp k m).isSome then m else m ++ [(k, d)]

section ops
variable {P : Program} {G : FP} {N : List Ent} {d : Nat} {ty : TypeId} {pos : String} {af : Array Edge} {gd : Option (Nat × Bool)} {K V : Type} {kV : K → Value} {kOk : K → Prop} {eR : Value → V → RP} [DecidableEq K]
theorem op_mapEntry {t kt e : TypeId} {x y : Operand} {v z : Value} {m : List (K × V)} {k : K} {Vk : VP} (dflt : V) (hu : P.underlying t = some (.map kt e)) (hk : KeyOk P kt kV kOk) (hz : ∀ w, (zeroValue e).run P w = .ok z w)
    (hx : OpndOk G N x (eqVP v)) (hy : OpndOk G N y Vk) (hVk : ∀ Φ u, Vk.p Φ u → u = kV k ∧ kOk k) (hdf : ∀ Φ w, (eR z dflt).p Φ [] w) :
    OpOk P G ⟨some d, .mapEntry t x y, ty, pos, af, gd⟩ N [.res (mapR v kV kOk eR m)] (fun u => [.slot d (tupVP [eqVP (tup0 u), eqVP (tup1 u)]), .res (eR (tup0 u) ((lkp k m).getD dflt)), .res (mapH v (tup1 u) kV kOk eR k (ens k dflt m))]) := by
  intro Φ a w fN fC h1 h2 h3 h4 h5 h6 h7 KK Q hK
  match fC, h4 with
  | [f], ⟨⟨b, es, clock, fs, hveq, hf, hb, hE, hbn, hbc, hkn, hall⟩, _⟩ =>
    subst hf
    have hv : a.eval x = v := hx Φ a w fN h2 h3
    obtain ⟨hkv, hkk⟩ := hVk Φ _ (hy Φ a w fN h2 h3)
    have hfind := find_map hk hE hall hkk w
    have hgo : (getObj b).run P w = .ok (.map es clock) w := by simp [getObj, Sem.run, hb]
    have hso : ∀ o', (setObj b o').run P w = .ok () { w with heap := w.heap.setIfInBounds b o' } := fun o' => by simp [setObj, Sem.run, hb]
    have hnd : (b :: fs.flatten).Nodup := by
      have := (List.nodup_append.1 h5).2.1
      simpa using this
    have hbnot : b ∉ fs.flatten := (List.nodup_cons.1 hnd).1
    have hblt : ∀ c ∈ (b :: fs.flatten), c < w.heap.size := fun c hc => h6 c (List.mem_append.2 (.inr (by simpa using hc)))
    subst hveq
    cases hi : kix k (m.map (·.1)) with
    | none =>
      obtain ⟨q1, q2, q3⟩ := kix_none hi
      rw [hi] at hfind
      have hfind : (Instr.findKey kt (kV k) es.toList).run P w = .ok none w := hfind
      have hrun : (execOp a.eval ⟨some d, .mapEntry t x y, ty, pos, af, gd⟩).run P w = .ok (.value (.tuple #[z, .int .i64 clock])) { w with heap := w.heap.setIfInBounds b (.map (es.push { key := kV k, val := z, born := clock }) (clock + 1)) } := by
        simp only [execOp, hv, hkv, Instr.mapEntry, Sem.run_bind, run_underlying hu, Result.andThen_ok, hgo, hk.check _ _ _ hkk, hfind, hz, hso]
        rfl
      unfold Oper.wp
      rw [hrun, Oper.upon_value]
      refine hK _ _ Φ [[], [], b :: (fs.flatten ++ List.flatten [])] ((step_setObj w Φ b _).widen (fun c hc _ => by simp at hc; simp [hc])) (pub_setObj h1 hb) ⟨⟨rfl, _, put_get a _ d (h7 d rfl), [z, .int .i64 clock], rfl, rfl, rfl, trivial⟩, ?_, ⟨b, _, clock + 1, m, [], k, dflt, { key := kV k, val := z, born := clock }, fs, [], rfl, rfl, setObj_heap hb, es.toList, [], by simp, ?_, rfl, rfl, rfl, ?_, trivial, ?_, ?_, ?_, ?_⟩, trivial⟩ ?_ ?_
      · rw [q1]; exact hdf _ _
      · simp [ens, q1]
      · exact hE.loc (Pub.le_refl _) (fun _ _ => rfl) (fun c hc => setObj_other (fun e => hbnot (e ▸ hc)))
      · rw [Array.toList_push, List.map_append]
        refine nodup_snoc hbn fun hm => ?_
        obtain ⟨e', he', hbe⟩ := List.mem_map.1 hm
        have := hbc e' he'
        simp at hbe
        omega
      · intro e' he'
        rw [Array.toList_push, List.mem_append] at he'
        rcases he' with he' | he'
        · have := hbc e' he'; omega
        · simp at he'; subst he'; simp
      · simp only [ens, q1, Option.isSome_none, Bool.false_eq_true, if_false, List.map_append]
        exact nodup_snoc hkn q3
      · intro p hp
        simp only [ens, q1, Option.isSome_none, Bool.false_eq_true, if_false, List.mem_append, List.mem_singleton] at hp
        rcases hp with hp | hp
        · exact hall p hp
        · subst hp; exact hkk
      · simpa using hnd
      · intro c hc
        have hc : c ∈ b :: fs.flatten := by simpa using hc
        exact ⟨by simpa using hblt c hc, .inl (by simpa using hc)⟩
    | some i =>
      obtain ⟨x', q1, q2, _, q4⟩ := kix_some hi
      obtain ⟨es1, en, es2, m1, m2, f1, f', f2, r1, r2, r3, r4, r5, r6, r7, r8, r9⟩ := hE.cut i _ q1
      rw [hi] at hfind
      have hget : es.toList[i]? = some en := by rw [r1, ← r5]; simp
      have hest : es[i]? = some en := by simpa using hget
      have hil : i < es.size := (Array.getElem?_eq_some_iff.1 hest).1
      have hge : es[i] = en := (Array.getElem?_eq_some_iff.1 hest).2
      have hfind : (Instr.findKey kt (kV k) es.toList).run P w = .ok (some (i, en.val)) w := by rw [hfind]; simp only [Option.bind_some, hget, Option.map_some]
      have hks : (Instr.keyThatStays (((es[i]?).map (·.key)).getD (kV k)) (kV k)).run P w = .ok (kV k) w := by
        simp only [hest, Option.map_some, Option.getD_some, r8, Instr.keyThatStays, hk.same, if_true, Sem.run_pure]
      have hmod : (es.modify i fun e => { e with key := kV k }) = es := by
        apply Array.ext'
        apply List.ext_getElem?
        intro j'
        simp only [Array.getElem?_toList, Array.getElem?_modify]
        by_cases hj : i = j'
        · subst hj
          have hkey : ({ en with key := kV k } : MapEntry) = en := by
            have : en.key = kV k := r8
            cases en; simp at this; simp [this]
          simp [hil, hge, hkey]
        · simp [hj]
      have hset : ({ w with heap := w.heap.setIfInBounds b (.map es clock) } : World) = w := by
        have hlt : b < w.heap.size := (Array.getElem?_eq_some_iff.1 hb).1
        have hbe : w.heap[b] = .map es clock := (Array.getElem?_eq_some_iff.1 hb).2
        have : w.heap.setIfInBounds b (.map es clock) = w.heap := by
          apply Array.ext_getElem?
          intro j
          rw [Array.getElem?_setIfInBounds]
          by_cases hj : b = j
          · subst hj
            rw [if_pos rfl, if_pos hlt, hb]
          · rw [if_neg hj]
        rw [this]
      have hrun : (execOp a.eval ⟨some d, .mapEntry t x y, ty, pos, af, gd⟩).run P w = .ok (.value (.tuple #[en.val, .int .i64 en.born])) w := by
        simp only [execOp, hv, hkv, Instr.mapEntry, Sem.run_bind, run_underlying hu, Result.andThen_ok, hgo, hk.check _ _ _ hkk, hfind, hks, hmod, hso, hset]
        simp [hest, goInt]
      have hperm : (f' ++ (b :: (f1.flatten ++ f2.flatten))).Perm (b :: fs.flatten) := by
        rw [r3]
        simp only [List.flatten_append, List.flatten_cons]
        refine (List.perm_middle).trans (.cons _ ?_)
        rw [← List.append_assoc, ← List.append_assoc]
        exact (List.perm_append_comm).append_right _
      unfold Oper.wp
      rw [hrun, Oper.upon_value]
      refine hK _ _ Φ [[], f', b :: (f1.flatten ++ f2.flatten)] (Step.refl _ _ _) h1 ⟨⟨rfl, _, put_get a _ d (h7 d rfl), [en.val, .int .i64 en.born], rfl, rfl, rfl, trivial⟩, ?_, ⟨b, es, clock, m1, m2, k, x', en, f1, f2, rfl, rfl, hb, es1, es2, r1, ?_, rfl, r8, rfl, r6, r7, hbn, hbc, ?_, ?_⟩, trivial⟩ ?_ ?_
      · rw [q2]; exact r9
      · simp only [ens, q2, Option.isSome_some, if_true]; exact r2
      · simpa [ens, q2] using hkn
      · simpa [ens, q2] using hall
      · have := hperm.nodup_iff.2 hnd
        simpa using this
      · intro c hc
        have hc : c ∈ b :: fs.flatten := hperm.mem_iff.1 (by simpa using hc)
        exact ⟨hblt c hc, .inl (by simpa using hc)⟩
/-- The entry is put back, with another element. -/
theorem op_entryStore {t : TypeId} {x s y : Operand} {v st u : Value} {m : List (K × V)} {k : K} {n : V} (hx : OpndOk G N x (eqVP v)) (hs : OpndOk G N s (eqVP st)) (hy : OpndOk G N y (eqVP u)) :
    OpOk P G ⟨none, .entryStore t x s y, ty, pos, af, gd⟩ N [.res (eR u n), .res (mapH v st kV kOk eR k m)] (fun _ => [.res (mapR v kV kOk eR (upd k n m))]) := by
  intro Φ a w fN fC h1 h2 h3 h4 h5 h6 h7 KK Q hK
  match fC, h4 with
  | [f0, f], ⟨hel, ⟨b, es, clock, pre, post, k0, x0, e0, fp, fq, hveq, hf, hb, es1, es2, r1, r2, r3, r4, r5, r6, r7, hbn, hbc, hkn, hall⟩, _⟩ =>
    subst hf; subst hveq; subst r3; subst r2; subst r5
    have hv : a.eval x = .map (some b) := hx Φ a w fN h2 h3
    have hsv : a.eval s = .int .i64 e0.born := hs Φ a w fN h2 h3
    have huv : a.eval y = u := hy Φ a w fN h2 h3
    have hnd : (f0 ++ (b :: (fp.flatten ++ fq.flatten))).Nodup := by
      have := (List.nodup_append.1 h5).2.1
      simpa using this
    have hblt : ∀ c ∈ (f0 ++ (b :: (fp.flatten ++ fq.flatten))), c < w.heap.size := fun c hc => h6 c (List.mem_append.2 (.inr (by simpa using hc)))
    have hgo : (getObj b).run P w = .ok (.map es clock) w := by simp [getObj, Sem.run, hb]
    have hso : ∀ o', (setObj b o').run P w = .ok () { w with heap := w.heap.setIfInBounds b o' } := fun o' => by simp [setObj, Sem.run, hb]
    have hes : es = (es1 ++ e0 :: es2).toArray := by apply Array.ext'; simpa using r1
    have hfi : es.findIdx? (fun e => (e.born : Int) == (e0.born : Int)) = some es1.length := by
      rw [hes]
      rw [List.findIdx?_toArray, List.findIdx?_append]
      have hn1 : es1.findIdx? (fun e => (e.born : Int) == (e0.born : Int)) = none := by
        rw [List.findIdx?_eq_none_iff]
        intro e he
        have hne : e.born ≠ e0.born := by
          intro hc
          rw [r1, List.map_append, List.map_cons] at hbn
          exact (List.nodup_append.1 hbn).2.2 e.born (List.mem_map.2 ⟨e, he, rfl⟩) e0.born (by simp) hc
        simp
        omega
      rw [hn1]
      simp [List.findIdx?_cons]
    have hmod : (es.modify es1.length fun e => { e with val := u }) = (es1 ++ { e0 with val := u } :: es2).toArray := by
      rw [hes]
      apply Array.ext'
      apply List.ext_getElem?
      intro j
      simp only [Array.getElem?_toList, Array.getElem?_modify, List.getElem?_toArray]
      by_cases hj : es1.length = j
      · subst hj; simp
      · rw [if_neg hj]
        rcases Nat.lt_or_ge j es1.length with q | q
        · rw [List.getElem?_append_left q, List.getElem?_append_left q]
        · rw [List.getElem?_append_right q, List.getElem?_append_right q]
          obtain ⟨i, hi⟩ : ∃ i, j - es1.length = i + 1 := ⟨j - es1.length - 1, by omega⟩
          rw [hi]; rfl
    have hrun : (execOp a.eval ⟨none, .entryStore t x s y, ty, pos, af, gd⟩).run P w = .ok .skip { w with heap := w.heap.setIfInBounds b (.map (es1 ++ { e0 with val := u } :: es2).toArray clock) } := by
      simp only [execOp, hv, hsv, huv, Instr.entryStore, Sem.run_bind, Result.andThen_ok, hgo, asInt, asIntOf, Sem.run_pure, hfi, hmod, hso]
    have hupd : upd k0 n (pre ++ (k0, x0) :: post) = pre ++ (k0, n) :: post := by
      have hnk : k0 ∉ pre.map (·.1) := by
        rw [List.map_append, List.map_cons] at hkn
        exact fun hm => (List.nodup_append.1 hkn).2.2 k0 hm k0 (by simp) rfl
      have : ∀ (pre : List (K × V)), k0 ∉ pre.map (·.1) → upd k0 n (pre ++ (k0, x0) :: post) = pre ++ (k0, n) :: post := by
        intro pre
        induction pre with
        | nil => intro _; simp [upd]
        | cons p pre ih =>
          intro hp
          simp only [List.map_cons, List.mem_cons, not_or] at hp
          simp only [List.cons_append, upd, if_neg hp.1, ih hp.2]
      exact this pre hnk
    have hpn : (b :: (fp ++ f0 :: fq).flatten).Perm (f0 ++ (b :: (fp.flatten ++ fq.flatten))) := by
      simp only [List.flatten_append, List.flatten_cons]
      refine List.Perm.trans (.cons _ ?_) (List.perm_middle).symm
      rw [← List.append_assoc, ← List.append_assoc]
      exact (List.perm_append_comm).append_right _
    have hother : ∀ c, c ∈ f0 ++ (fp.flatten ++ fq.flatten) → c ≠ b := fun c hc e => by
      subst e
      have := (List.perm_middle.nodup_iff.1 hnd)
      exact (List.nodup_cons.1 this).1 hc
    unfold Oper.wp
    rw [hrun, Oper.upon_skip]
    refine hK undef _ Φ [b :: (fp ++ f0 :: fq).flatten] ((step_setObj w Φ b _).widen (fun c hc _ => by simp at hc; simp [hc])) (pub_setObj h1 hb) ⟨⟨b, _, clock, fp ++ f0 :: fq, rfl, rfl, setObj_heap hb, ?_, ?_, ?_, ?_, ?_⟩, trivial⟩ ?_ ?_
    · rw [hupd]
      refine (r6.loc (Pub.le_refl _) (fun _ _ => rfl) (fun c hc => setObj_other (hother c (by simp [hc])))).append ⟨r4, ?_, r7.loc (Pub.le_refl _) (fun _ _ => rfl) (fun c hc => setObj_other (hother c (by simp [hc])))⟩
      exact (eR u n).loc (Pub.le_refl _) (fun _ _ => rfl) (fun c hc => setObj_other (hother c (by simp [hc]))) hel
    · rw [r1] at hbn
      simpa using hbn
    · intro e he
      have he : e ∈ es1 ++ { e0 with val := u } :: es2 := by simpa using he
      rcases List.mem_append.1 he with he | he
      · exact hbc e (by rw [r1]; simp [he])
      · rcases List.mem_cons.1 he with he | he
        · subst he; exact hbc e0 (by rw [r1]; simp)
        · exact hbc e (by rw [r1]; simp [he])
    · rw [hupd]
      simpa using hkn
    · rw [hupd]
      intro p hp
      rcases List.mem_append.1 hp with hp | hp
      · exact hall p (by simp [hp])
      · rcases List.mem_cons.1 hp with hp | hp
        · subst hp; exact hall (k0, x0) (by simp)
        · exact hall p (by simp [hp])
    · have := hpn.nodup_iff.2 hnd
      simpa using this
    · intro c hc
      have hc : c ∈ f0 ++ (b :: (fp.flatten ++ fq.flatten)) := hpn.mem_iff.1 (by simpa using hc)
      exact ⟨by simpa using hblt c hc, .inl (by simpa using hc)⟩
end ops
end Go.Proofs.YtklikgigjdgjaaaGreatDoorRRR
