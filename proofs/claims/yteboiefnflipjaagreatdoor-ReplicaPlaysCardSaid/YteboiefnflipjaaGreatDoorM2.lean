/- The program logic, as far as this claim leans on it: part 2. -/
import Derived.Test.YteboiefnflipjaaGreatDoorM1
namespace Go.Proofs.YteboiefnflipjaaGreatDoor
section
open Go Go.RowKit

def N1 : Value → Value
  | .tuple a => a.getD 0 undef
  | v => v
def N0 : Value → Value
  | .tuple a => a.getD 1 undef
  | v => v
def Rm {K V : Type} (v st : Value) (kV : K → Value) (kOk : K → Prop) (eR : Value → V → RP) (k : K) (m : List (K × V)) : RP := ⟨fun Φ f w => ∃ b es clock pre post k0 x0 e0 fp fq, v = .map (some b) ∧ f = b :: (List.flatten fp ++ List.flatten fq) ∧ w.heap[b]? = some (.map es clock) ∧
    ∃ es1 es2 : List MapEntry, es.toList = es1 ++ e0 :: es2 ∧ m = pre ++ (k0, x0) :: post ∧ k0 = k ∧ e0.key = kV k ∧ st = .int .i64 e0.born ∧ DI Φ w kV eR es1 pre fp ∧ DI Φ w kV eR es2 post fq ∧
    (es.toList.map (·.born)).Nodup ∧ (∀ e ∈ es.toList, e.born < clock) ∧ (m.map (·.1)).Nodup ∧ ∀ x ∈ m, kOk x.1, by
  rintro Φ Φ' f w w' hle hs hb ⟨b, es, clock, pre, post, k0, x0, e0, fp, fq, h1, rfl, h3, es1, es2, h4, h5, h6, h7, h8, h9, h10, h11⟩
  exact ⟨b, es, clock, pre, post, k0, x0, e0, fp, fq, h1, rfl, by rw [hb b (by simp)]; exact h3, es1, es2, h4, h5, h6, h7, h8,
    h9.loc hle (fun c hc => hs c (by simp [hc])) (fun c hc => hb c (by simp [hc])), h10.loc hle (fun c hc => hs c (by simp [hc])) (fun c hc => hb c (by simp [hc])), h11⟩⟩
theorem DI.cut {K V : Type} {Φ : Cg} {w : World} {kV : K → Value} {eR : Value → V → RP} : ∀ {es : List MapEntry} {m : List (K × V)} {fs : List (List Nat)} (i : Nat) (x : K × V), DI Φ w kV eR es m fs → m[i]? = some x →
    ∃ es1 e es2 m1 m2 f1 f f2, es = es1 ++ e :: es2 ∧ m = m1 ++ x :: m2 ∧ fs = f1 ++ f :: f2 ∧ m1.length = i ∧ es1.length = i ∧ DI Φ w kV eR es1 m1 f1 ∧ DI Φ w kV eR es2 m2 f2 ∧ e.key = kV x.1 ∧ (eR e.val x.2).p Φ f w
  | e :: es, y :: m, f :: fs, 0, x, h, hx => by simp at hx; subst hx; exact ⟨[], e, es, [], m, [], f, fs, rfl, rfl, rfl, rfl, rfl, trivial, h.2.2, h.1, h.2.1⟩
  | e :: es, y :: m, f :: fs, i + 1, x, h, hx => by
    obtain ⟨es1, e', es2, m1, m2, f1, f', f2, q1, q2, q3, q4, q5, q6, q7, q8, q9⟩ := DI.cut i x h.2.2 (by simpa using hx)
    exact ⟨e :: es1, e', es2, y :: m1, m2, f :: f1, f', f2, by simp [q1], by simp [q2], by simp [q3], by simp [q4], by simp [q5], ⟨h.1, h.2.1, q6⟩, q7, q8, q9⟩
  | [], [], [], _, _, _, hx => by simp at hx
  | [], [], _ :: _, _, _, h, _ => h.elim
  | [], _ :: _, _, _, _, h, _ => h.elim
  | _ :: _, [], _, _, _, h, _ => h.elim
  | _ :: _, _ :: _, [], _, _, h, _ => h.elim
def NL {K V : Type} [DecidableEq K] (k : K) (d : V) (m : List (K × V)) : List (K × V) := if (Gd k m).isSome then m else m ++ [(k, d)]

section ops
variable {P : Program} {G : FP} {N : List CE} {d : Nat} {ty : TypeId} {pos : String} {af : Array Edge} {gd : Option (Nat × Bool)} {K V : Type} {kV : K → Value} {kOk : K → Prop} {eR : Value → V → RP} [DecidableEq K]
theorem Mn {t kt e : TypeId} {x y : Operand} {v z : Value} {m : List (K × V)} {k : K} {Vk : VP} (dflt : V) (hu : P.underlying t = some (.map kt e)) (hk : KF P kt kV kOk) (hz : ∀ w, (zeroValue e).run P w = .ok z w)
    (hx : Bb G N x (Az v)) (hy : Bb G N y Vk) (hVk : ∀ Φ u, Vk.p Φ u → u = kV k ∧ kOk k) (hdf : ∀ Φ w, (eR z dflt).p Φ [] w) :
    BM P G ⟨some d, .mapEntry t x y, ty, pos, af, gd⟩ N [.res (D7 v kV kOk eR m)] (fun u => [.slot d (Db [Az (N1 u), Az (N0 u)]), .res (eR (N1 u) ((Gd k m).getD dflt)), .res (Rm v (N0 u) kV kOk eR k (NL k dflt m))]) := by
  intro Φ a w fN fC h1 h2 h3 h4 h5 h6 h7 KK Q hK
  match fC, h4 with
  | [f], ⟨⟨b, es, clock, fs, hveq, hf, hb, hE, hbn, hbc, hkn, hall⟩, _⟩ =>
    subst hf
    have hv : a.eval x = v := hx Φ a w fN h2 h3
    obtain ⟨hkv, hkk⟩ := hVk Φ _ (hy Φ a w fN h2 h3)
    have hfind := Ku hk hE hall hkk w
    have hgo : (getObj b).run P w = .ok (.map es clock) w := by simp [getObj, Sem.run, hb]
    have hso : ∀ o', (setObj b o').run P w = .ok () { w with heap := w.heap.setIfInBounds b o' } := fun o' => by simp [setObj, Sem.run, hb]
    have hnd : (b :: fs.flatten).Nodup := by
      have := (List.nodup_append.1 h5).2.1
      simpa using this
    have hbnot : b ∉ fs.flatten := (List.nodup_cons.1 hnd).1
    have hblt : ∀ c ∈ (b :: fs.flatten), c < w.heap.size := fun c hc => h6 c (List.mem_append.2 (.inr (by simpa using hc)))
    subst hveq
    cases hi : Jo k (m.map (·.1)) with
    | none =>
      obtain ⟨q1, q2, q3⟩ := IH hi
      rw [hi] at hfind
      have hfind : (Instr.findKey kt (kV k) es.toList).run P w = .ok none w := hfind
      have hrun : (execOp a.eval ⟨some d, .mapEntry t x y, ty, pos, af, gd⟩).run P w = .ok (.value (.tuple #[z, .int .i64 clock])) { w with heap := w.heap.setIfInBounds b (.map (es.push { key := kV k, val := z, born := clock }) (clock + 1)) } := by
        simp only [execOp, hv, hkv, Instr.mapEntry, Sem.run_bind, run_underlying hu, Result.andThen_ok, hgo, hk.check _ _ _ hkk, hfind, hz, hso]
        rfl
      unfold Oper.wp
      rw [hrun, Oper.upon_value]
      refine hK _ _ Φ [[], [], b :: (fs.flatten ++ List.flatten [])] ((Hn w Φ b _).LW (fun c hc _ => by simp at hc; simp [hc])) (H7 h1 hb) ⟨⟨rfl, _, Du a _ d (h7 d rfl), [z, .int .i64 clock], rfl, rfl, rfl, trivial⟩, ?_, ⟨b, _, clock + 1, m, [], k, dflt, { key := kV k, val := z, born := clock }, fs, [], rfl, rfl, Ho hb, es.toList, [], by simp, ?_, rfl, rfl, rfl, ?_, trivial, ?_, ?_, ?_, ?_⟩, trivial⟩ ?_ ?_
      · rw [q1]; exact hdf _ _
      · simp [NL, q1]
      · exact hE.loc (Cg.le_refl _) (fun _ _ => rfl) (fun c hc => EJ (fun e => hbnot (e ▸ hc)))
      · rw [Array.toList_push, List.map_append]
        refine Ia hbn fun hm => ?_
        obtain ⟨e', he', hbe⟩ := List.mem_map.1 hm
        have := hbc e' he'
        simp at hbe
        omega
      · intro e' he'
        rw [Array.toList_push, List.mem_append] at he'
        rcases he' with he' | he'
        · have := hbc e' he'; omega
        · simp at he'; subst he'; simp
      · simp only [NL, q1, Option.isSome_none, Bool.false_eq_true, if_false, List.map_append]
        exact Ia hkn q3
      · intro p hp
        simp only [NL, q1, Option.isSome_none, Bool.false_eq_true, if_false, List.mem_append, List.mem_singleton] at hp
        rcases hp with hp | hp
        · exact hall p hp
        · subst hp; exact hkk
      · simpa using hnd
      · intro c hc
        have hc : c ∈ b :: fs.flatten := by simpa using hc
        exact ⟨by simpa using hblt c hc, .inl (by simpa using hc)⟩
    | some i =>
      obtain ⟨x', q1, q2, _, q4⟩ := IG hi
      obtain ⟨es1, en, es2, m1, m2, f1, f', f2, r1, r2, r3, r4, r5, r6, r7, r8, r9⟩ := hE.cut i _ q1
      rw [hi] at hfind
      have hget : es.toList[i]? = some en := by rw [r1, ← r5]; simp
      have hest : es[i]? = some en := by simpa using hget
      have hil : i < es.size := (Array.getElem?_eq_some_iff.1 hest).1
      have hge : es[i] = en := (Array.getElem?_eq_some_iff.1 hest).2
      have hfind : (Instr.findKey kt (kV k) es.toList).run P w = .ok (some (i, en.val)) w := by rw [hfind]; simp only [Option.bind_some, hget, Option.map_some]
      have hks : (Instr.keyThatStays (((es[i]?).map (·.key)).getD (kV k)) (kV k)).run P w = .ok (kV k) w := by
        simp only [hest, Option.map_some, Option.getD_some, r8, Instr.keyThatStays, hk.same, if_true, Sem.run_pure]
      have hmod : (es.modify i fun e => { e with key := kV k }) = es := by
        apply Array.ext'
        apply List.ext_getElem?
        intro j'
        simp only [Array.getElem?_toList, Array.getElem?_modify]
        by_cases hj : i = j'
        · subst hj
          have hkey : ({ en with key := kV k } : MapEntry) = en := by
            have : en.key = kV k := r8
            cases en; simp at this; simp [this]
          simp [hil, hge, hkey]
        · simp [hj]
      have hset : ({ w with heap := w.heap.setIfInBounds b (.map es clock) } : World) = w := by
        have hlt : b < w.heap.size := (Array.getElem?_eq_some_iff.1 hb).1
        have hbe : w.heap[b] = .map es clock := (Array.getElem?_eq_some_iff.1 hb).2
        have : w.heap.setIfInBounds b (.map es clock) = w.heap := by
          apply Array.ext_getElem?
          intro j
          rw [Array.getElem?_setIfInBounds]
          by_cases hj : b = j
          · subst hj
            rw [if_pos rfl, if_pos hlt, hb]
          · rw [if_neg hj]
        rw [this]
      have hrun : (execOp a.eval ⟨some d, .mapEntry t x y, ty, pos, af, gd⟩).run P w = .ok (.value (.tuple #[en.val, .int .i64 en.born])) w := by
        simp only [execOp, hv, hkv, Instr.mapEntry, Sem.run_bind, run_underlying hu, Result.andThen_ok, hgo, hk.check _ _ _ hkk, hfind, hks, hmod, hso, hset]
        simp [hest, goInt]
      have hperm : (f' ++ (b :: (f1.flatten ++ f2.flatten))).Perm (b :: fs.flatten) := by
        rw [r3]
        simp only [List.flatten_append, List.flatten_cons]
        refine (List.perm_middle).trans (.cons _ ?_)
        rw [← List.append_assoc, ← List.append_assoc]
        exact (List.perm_append_comm).append_right _
      unfold Oper.wp
      rw [hrun, Oper.upon_value]
      refine hK _ _ Φ [[], f', b :: (f1.flatten ++ f2.flatten)] (Step.refl _ _ _) h1 ⟨⟨rfl, _, Du a _ d (h7 d rfl), [en.val, .int .i64 en.born], rfl, rfl, rfl, trivial⟩, ?_, ⟨b, es, clock, m1, m2, k, x', en, f1, f2, rfl, rfl, hb, es1, es2, r1, ?_, rfl, r8, rfl, r6, r7, hbn, hbc, ?_, ?_⟩, trivial⟩ ?_ ?_
      · rw [q2]; exact r9
      · simp only [NL, q2, Option.isSome_some, if_true]; exact r2
      · simpa [NL, q2] using hkn
      · simpa [NL, q2] using hall
      · have := hperm.nodup_iff.2 hnd
        simpa using this
      · intro c hc
        have hc : c ∈ b :: fs.flatten := hperm.mem_iff.1 (by simpa using hc)
        exact ⟨hblt c hc, .inl (by simpa using hc)⟩
theorem KR {t : TypeId} {x s y : Operand} {v st u : Value} {m : List (K × V)} {k : K} {n : V} (hx : Bb G N x (Az v)) (hs : Bb G N s (Az st)) (hy : Bb G N y (Az u)) :
    BM P G ⟨none, .entryStore t x s y, ty, pos, af, gd⟩ N [.res (eR u n), .res (Rm v st kV kOk eR k m)] (fun _ => [.res (D7 v kV kOk eR (GW k n m))]) := by
  intro Φ a w fN fC h1 h2 h3 h4 h5 h6 h7 KK Q hK
  match fC, h4 with
  | [f0, f], ⟨hel, ⟨b, es, clock, pre, post, k0, x0, e0, fp, fq, hveq, hf, hb, es1, es2, r1, r2, r3, r4, r5, r6, r7, hbn, hbc, hkn, hall⟩, _⟩ =>
    subst hf; subst hveq; subst r3; subst r2; subst r5
    have hv : a.eval x = .map (some b) := hx Φ a w fN h2 h3
    have hsv : a.eval s = .int .i64 e0.born := hs Φ a w fN h2 h3
    have huv : a.eval y = u := hy Φ a w fN h2 h3
    have hnd : (f0 ++ (b :: (fp.flatten ++ fq.flatten))).Nodup := by
      have := (List.nodup_append.1 h5).2.1
      simpa using this
    have hblt : ∀ c ∈ (f0 ++ (b :: (fp.flatten ++ fq.flatten))), c < w.heap.size := fun c hc => h6 c (List.mem_append.2 (.inr (by simpa using hc)))
    have hgo : (getObj b).run P w = .ok (.map es clock) w := by simp [getObj, Sem.run, hb]
    have hso : ∀ o', (setObj b o').run P w = .ok () { w with heap := w.heap.setIfInBounds b o' } := fun o' => by simp [setObj, Sem.run, hb]
    have hes : es = (es1 ++ e0 :: es2).toArray := by apply Array.ext'; simpa using r1
    have hfi : es.findIdx? (fun e => (e.born : Int) == (e0.born : Int)) = some es1.length := by
      rw [hes]
      rw [List.findIdx?_toArray, List.findIdx?_append]
      have hn1 : es1.findIdx? (fun e => (e.born : Int) == (e0.born : Int)) = none := by
        rw [List.findIdx?_eq_none_iff]
        intro e he
        have hne : e.born ≠ e0.born := by
          intro hc
          rw [r1, List.map_append, List.map_cons] at hbn
          exact (List.nodup_append.1 hbn).2.2 e.born (List.mem_map.2 ⟨e, he, rfl⟩) e0.born (by simp) hc
        simp
        omega
      rw [hn1]
      simp [List.findIdx?_cons]
    have hmod : (es.modify es1.length fun e => { e with val := u }) = (es1 ++ { e0 with val := u } :: es2).toArray := by
      rw [hes]
      apply Array.ext'
      apply List.ext_getElem?
      intro j
      simp only [Array.getElem?_toList, Array.getElem?_modify, List.getElem?_toArray]
      by_cases hj : es1.length = j
      · subst hj; simp
      · rw [if_neg hj]
        rcases Nat.lt_or_ge j es1.length with q | q
        · rw [List.getElem?_append_left q, List.getElem?_append_left q]
        · rw [List.getElem?_append_right q, List.getElem?_append_right q]
          obtain ⟨i, hi⟩ : ∃ i, j - es1.length = i + 1 := ⟨j - es1.length - 1, by omega⟩
          rw [hi]; rfl
    have hrun : (execOp a.eval ⟨none, .entryStore t x s y, ty, pos, af, gd⟩).run P w = .ok .skip { w with heap := w.heap.setIfInBounds b (.map (es1 ++ { e0 with val := u } :: es2).toArray clock) } := by
      simp only [execOp, hv, hsv, huv, Instr.entryStore, Sem.run_bind, Result.andThen_ok, hgo, asInt, asIntOf, Sem.run_pure, hfi, hmod, hso]
    have hupd : GW k0 n (pre ++ (k0, x0) :: post) = pre ++ (k0, n) :: post := by
      have hnk : k0 ∉ pre.map (·.1) := by
        rw [List.map_append, List.map_cons] at hkn
        exact fun hm => (List.nodup_append.1 hkn).2.2 k0 hm k0 (by simp) rfl
      have : ∀ (pre : List (K × V)), k0 ∉ pre.map (·.1) → GW k0 n (pre ++ (k0, x0) :: post) = pre ++ (k0, n) :: post := by
        intro pre
        induction pre with
        | nil => intro _; simp [GW]
        | cons p pre ih =>
          intro hp
          simp only [List.map_cons, List.mem_cons, not_or] at hp
          simp only [List.cons_append, GW, if_neg hp.1, ih hp.2]
      exact this pre hnk
    have hpn : (b :: (fp ++ f0 :: fq).flatten).Perm (f0 ++ (b :: (fp.flatten ++ fq.flatten))) := by
      simp only [List.flatten_append, List.flatten_cons]
      refine List.Perm.trans (.cons _ ?_) (List.perm_middle).symm
      rw [← List.append_assoc, ← List.append_assoc]
      exact (List.perm_append_comm).append_right _
    have hother : ∀ c, c ∈ f0 ++ (fp.flatten ++ fq.flatten) → c ≠ b := fun c hc e => by
      subst e
      have := (List.perm_middle.nodup_iff.1 hnd)
      exact (List.nodup_cons.1 this).1 hc
    unfold Oper.wp
    rw [hrun, Oper.upon_skip]
    refine hK undef _ Φ [b :: (fp ++ f0 :: fq).flatten] ((Hn w Φ b _).LW (fun c hc _ => by simp at hc; simp [hc])) (H7 h1 hb) ⟨⟨b, _, clock, fp ++ f0 :: fq, rfl, rfl, Ho hb, ?_, ?_, ?_, ?_, ?_⟩, trivial⟩ ?_ ?_
    · rw [hupd]
      refine (r6.loc (Cg.le_refl _) (fun _ _ => rfl) (fun c hc => EJ (hother c (by simp [hc])))).append ⟨r4, ?_, r7.loc (Cg.le_refl _) (fun _ _ => rfl) (fun c hc => EJ (hother c (by simp [hc])))⟩
      exact (eR u n).loc (Cg.le_refl _) (fun _ _ => rfl) (fun c hc => EJ (hother c (by simp [hc]))) hel
    · rw [r1] at hbn
      simpa using hbn
    · intro e he
      have he : e ∈ es1 ++ { e0 with val := u } :: es2 := by simpa using he
      rcases List.mem_append.1 he with he | he
      · exact hbc e (by rw [r1]; simp [he])
      · rcases List.mem_cons.1 he with he | he
        · subst he; exact hbc e0 (by rw [r1]; simp)
        · exact hbc e (by rw [r1]; simp [he])
    · rw [hupd]
      simpa using hkn
    · rw [hupd]
      intro p hp
      rcases List.mem_append.1 hp with hp | hp
      · exact hall p (by simp [hp])
      · rcases List.mem_cons.1 hp with hp | hp
        · subst hp; exact hall (k0, x0) (by simp)
        · exact hall p (by simp [hp])
    · have := hpn.nodup_iff.2 hnd
      simpa using this
    · intro c hc
      have hc : c ∈ f0 ++ (b :: (fp.flatten ++ fq.flatten)) := hpn.mem_iff.1 (by simpa using hc)
      exact ⟨by simpa using hblt c hc, .inl (by simpa using hc)⟩
end ops

end
section
open Go Go.RowKit Go.Proofs Go.WideShapes
set_option linter.unusedVariables false
def Wf {α : Type} (c : α → List Ck) (p : α → Prop) : Prop := ∀ Φ cs x, Cl Φ cs (c x) → p x
theorem MR {k : IntKind} : Wf (iC k) (E5 k) := fun _ _ _ ⟨_, _, _, ⟨_, _, _, h⟩, _⟩ => h.2
theorem OD {n : Nat} : Wf (dC n) (fun l => l.length = n) := fun _ _ _ ⟨_, _, _, h, _⟩ => h.1
theorem Df.wf {α : Type} {c : α → List Ck} {p : α → Prop} (h : Wf c p) {Φ : Cg} : ∀ {l : List α} {cs : List Value}, Df Φ c cs l → ∀ y ∈ l, p y
  | [], _, _, y, hy => by cases hy
  | x :: l, cs, ⟨u, v, _, h1, h2⟩, y, hy => by
    rcases List.mem_cons.1 hy with rfl | hy
    · exact h _ _ _ h1
    · exact Df.wf h h2 y hy
theorem OB {α : Type} {c : α → List Ck} {p : α → Prop} (h : Wf c p) : Wf (SK c) (fun l => l.length ≤ CW ∧ ∀ y ∈ l, p y) := by
  rintro Φ cs x ⟨_, _, _, ⟨_, _, _, h1⟩, _⟩
  refine ⟨h1.1, ?_⟩
  rcases h1.2 with ⟨_, rfl⟩ | ⟨_, _, _, _, _, _, h2, _⟩ | ⟨rfl, _⟩
  · intro y hy; cases hy
  · exact Df.wf h h2
  · intro y hy; cases hy
theorem OC {Φ : Cg} {cs : List Value} {k : Ck} {L : List Ck} (h : Cl Φ cs (k :: L)) : (∃ u, Cl Φ u [k]) ∧ ∃ v, Cl Φ v L := by
  obtain ⟨u, v, _, h1, h2⟩ := h
  exact ⟨⟨u, u, [], by simp, h1, rfl⟩, v, h2⟩
theorem O4 {Φ : Cg} {v : Value} {V : VP} (hn : ∀ cs, v ≠ .agg cs) (h : Cl Φ v.cells.toList [one V]) : V.p Φ v := by
  obtain ⟨u, r, h1, ⟨y, rfl, _, h2⟩, rfl⟩ := h
  cases v
  case agg cs => exact absurd rfl (hn cs)
  all_goals (simp [Value.cells] at h1; subst h1; exact h2)
theorem NZ {Φ : Cg} {P : Program} {W : World} {base : Nat} {t e : TypeId} {v : Value} {V : VP} (hv : Value.okWide P W .any base t v) (ht : P.underlying t = some (.slice e)) (h : Cl Φ v.cells.toList [one V]) : V.p Φ v := by
  obtain ⟨_, _, _, rfl⟩ := okWide_slice ht hv
  exact O4 (fun _ h => by cases h) h
theorem PS {Φ : Cg} {P : Program} {W : World} {base : Nat} {t : TypeId} {k : IntKind} {v : Value} {V : VP} (hv : Value.okWide P W .any base t v) (ht : P.underlying t = some (.int k)) (h : Cl Φ v.cells.toList [one V]) : V.p Φ v := by
  obtain ⟨_, rfl⟩ := okWide_int ht hv
  exact O4 (fun _ h => by cases h) h
theorem Rz {α : Type} {Φ : Cg} {v : Value} {c : α → List Ck} {x : α} {P : Program} {W : World} {base : Nat} {t : TypeId} (hv : Value.okWide P W .any base t v) (ht : (match P.underlying t with | some (.struct _) | some (.array _ _) => True | _ => False)) (h : Cl Φ v.cells.toList (c x)) : (Au (c x)).p Φ v := by
  unfold Value.okWide at hv
  split at hv
  · obtain ⟨cs, rfl, _⟩ := hv
    exact ⟨cs.toList, by simp, by simpa [Value.cells] using h⟩
  · obtain ⟨cs, rfl, _⟩ := hv
    exact ⟨cs.toList, by simp, by simpa [Value.cells] using h⟩
  · rename_i h1 h2
    split at ht
    · rename_i q; exact absurd q (h1 _)
    · rename_i q; exact absurd q (h2 _ _)
    · exact ht.elim

end
section
open Go Go.RowKit Go.Proofs
set_option linter.unusedVariables false
set_option linter.unusedSimpArgs false
section
variable {P : Program} {G : FP} {N : List CE} {d : Nat} {ty : TypeId} {pos : String} {af : Array Edge} {gd : Option (Nat × Bool)}
theorem KQ {α : Type} [Inhabited α] {t e : TypeId} {x y : Operand} {ki : IntKind} {c : α → List Ck} {n sz : Nat} {hsz : ∀ x, lens (c x) = sz} {l : List α} {i : Int} (hu : P.underlying t = some (.array n e)) (hs : ∀ w, (sizeOf e).run P w = .ok sz w) (ha : ∀ w, (isAgg e).run P w = .ok true w)
    (hx : Bb G N x (Au [C7 n sz c hsz l])) (hy : Bb G N y (Ag ki i)) (hi : 0 ≤ i ∧ i < n) : BM P G ⟨some d, .index t x y, ty, pos, af, gd⟩ N [] (fun _ => [.slot d (Au (c (l.getD i.toNat default)))]) :=
  BM.val fun Φ a w f _ hG hN => by
    obtain ⟨hy1, _⟩ := hy Φ a w f hG hN
    obtain ⟨cs, hv, ys, zs, rfl, ⟨hl, hA⟩, hz⟩ := hx Φ a w f hG hN
    have hz : zs = [] := hz
    subst hz
    have hit : i.toNat < l.length := by omega
    obtain ⟨us, vs, ws, rfl, q1, q2, _⟩ := hA.at hsz i.toNat hit
    have e1 : l.getD i.toNat default = l[i.toNat] := by simp [List.getD, hit]
    have q3 : vs.length = sz := by rw [q2.len, hsz]
    refine ⟨.agg vs.toArray, ?_, vs, rfl, by rw [e1]; exact q2⟩
    simp only [execOp, hv, hy1]
    have e3 : (us ++ (vs ++ ws)).drop (i.toNat * sz) = vs ++ ws := by rw [← q1]; simp
    simp [Instr.index, asIntOf, run_underlying hu, hi, hs, part, ha, e3]
    rw [← q3]; simp
end
theorem RF {α : Type} {c : α → List Ck} {z : α} {zs : List Value} (h : ∀ Φ, Cl Φ zs (c z)) (Φ : Cg) : ∀ n, Df Φ c (List.replicate n zs).flatten (List.replicate n z)
  | 0 => rfl
  | n + 1 => ⟨zs, (List.replicate n zs).flatten, rfl, h Φ, RF h Φ n⟩
theorem QD {α : Type} {n sz : Nat} {c : α → List Ck} {hsz : ∀ x, lens (c x) = sz} {z : α} {zs cs : List Value} (e : cs = (List.replicate n zs).flatten) (h : ∀ Φ, Cl Φ zs (c z)) : ∀ Φ, Cl Φ cs [C7 n sz c hsz (List.replicate n z)] :=
  fun Φ => ⟨cs, [], by simp, ⟨by simp, by rw [e]; exact RF h Φ n⟩, rfl⟩

end
section
open Go Go.RowKit Go.Proofs
set_option linter.unusedVariables false
set_option linter.unusedSimpArgs false

def own {α : Type} (v : Value) (T : TypeId) (sz : Nat) (c : α → List Ck) (xs : List α) : RP := ⟨fun Φ f w => xs.length ≤ CW ∧ ((v = .slice none 0 0 ∧ xs = [] ∧ f = []) ∨
    ∃ b cap cs zs, v = .slice (some ⟨b, 0, none⟩) xs.length cap ∧ f = [b] ∧ w.heap[b]? = some (.cells (cs ++ zs).toArray T (0, 0)) ∧ Df Φ c cs xs ∧ (cs ++ zs).length = cap * sz ∧ xs.length ≤ cap ∧ ∀ o, Φ b o = none), by
  rintro Φ Φ' f w w' hle hs hb ⟨hm, ⟨h1, h2, h3⟩ | ⟨b, cap, cs, zs, h1, h2, h3, h4, h5, h6, h8⟩⟩
  · exact ⟨hm, .inl ⟨h1, h2, h3⟩⟩
  · refine ⟨hm, .inr ⟨b, cap, cs, zs, h1, h2, ?_, h4.mono hle, h5, h6, fun o => ?_⟩⟩
    · rw [hb b (by simp [h2])]; exact h3
    · rw [hs b (by simp [h2])]; exact h8 o⟩
theorem AA.Nc {c : Cx} {l : List CE} {a : Act} {w : World} {α : Type} (T : TypeId) (sz : Nat) (ck : α → List Ck) (h : AA c l a w) : AA c (l ++ [.res (own (.slice none 0 0) T sz ck ([] : List α))]) a w := by
  obtain ⟨Φ, fp, h⟩ := h
  have hx : ∀ i, i < l.length → B1 CE.none (l ++ [.res (own (.slice none 0 0) T sz ck ([] : List α))]) i = B1 .none l i := fun i hi => by rw [Cw, if_pos hi]
  refine ⟨Φ, fun i => if i < l.length then fp i else [], h.defers, h.size, h.Hh, h.Hz, h.step, fun i hi => ?_, fun i hi => ?_, fun i j hi hj hne => ?_⟩
  · by_cases hlt : i < l.length
    · rw [hx i hlt]; simp only [if_pos hlt]; exact h.holds i hlt
    · have : i = l.length := by simp at hi; omega
      subst this
      rw [Cw, if_neg hlt]
      simp only [if_neg hlt]
      simp only [Nat.sub_self]
      exact ⟨by simp [CW], .inl ⟨rfl, rfl, rfl⟩⟩
  · by_cases hlt : i < l.length
    · simp only [if_pos hlt]; exact h.own i hlt
    · simp [hlt]
  · by_cases hlt : i < l.length
    · by_cases hlt2 : j < l.length
      · simp only [if_pos hlt, if_pos hlt2]; exact h.apart i j hlt hlt2 hne
      · simp [hlt2]
    · simp [hlt]
theorem M6 {α : Type} {P : Program} {w : World} {sT xT ty e : TypeId} {i : TypeInfo} {z : Value} {u v : Value} {c : α → List Ck} {xs ys : List α} {ds : List Value} {Φ : Cg} {f : List Nat} (hS : Src P w sT xT ty e i z u ys.length ds) (hsz : ∀ x, lens (c x) = i.size) (hpos : 0 < i.size) (hzs : z.cells.size = i.size)
    (hP : Dc Φ w) (hf : ∀ b ∈ f, b < w.heap.size) (h : (own v e i.size c xs).p Φ f w) (hA : Df Φ c ds ys) (hm : xs.length + ys.length ≤ CW) (hb : (xs.length + ys.length) * i.bytes ≤ 140737488355328) :
    ∃ (v' : Value) (w' : World) (f' : List Nat), (Builtin.append_ #[sT, xT] ty #[v, u]).run P w = .ok v' w' ∧ (own v' e i.size c (xs ++ ys)).p Φ f' w' ∧ Step w Φ f w' Φ ∧ Dc Φ w' ∧ f'.Nodup ∧ ∀ b ∈ f', b < w'.heap.size ∧ (b ∈ f ∨ w.heap.size ≤ b) := by
  have hdl : ds.length = ys.length * i.size := hA.len hsz
  have h63 : ((xs.length + ys.length : Nat) : Int) ≤ 9223372036854775807 := by have := (GK hm).2; simp [IntKind.max, IntKind.bits, IntKind.signed] at this; omega
  have hnew : ∀ (cs : List Value) (cap : Nat) (v0 : Value), Df Φ c cs xs → xs.length + ys.length ≤ cap → v0 = .slice (some ⟨w.heap.size, 0, none⟩) (xs.length + ys.length) cap →
      ∀ w', w' = w.drew.alloc (.cells (cs.toArray ++ ds.toArray ++ Builtin.zeroCells z.cells (cap - (xs.length + ys.length))) e) →
      (Builtin.append_ #[sT, xT] ty #[v, u]).run P w = .ok v0 w' →
      ∃ (v' : Value) (w' : World) (f' : List Nat), (Builtin.append_ #[sT, xT] ty #[v, u]).run P w = .ok v' w' ∧ (own v' e i.size c (xs ++ ys)).p Φ f' w' ∧ Step w Φ f w' Φ ∧ Dc Φ w' ∧ f'.Nodup ∧ ∀ b ∈ f', b < w'.heap.size ∧ (b ∈ f ∨ w.heap.size ≤ b) := by
    intro cs cap v0 hcs hcap hv w' hw hr
    subst hw
    refine ⟨v0, _, [w.heap.size], hr, ⟨by simpa using hm, .inr ⟨w.heap.size, cap, cs ++ ds, (Builtin.zeroCells z.cells (cap - (xs.length + ys.length))).toList, by rw [hv]; simp, rfl, ?_, hcs.append hA, ?_, by simpa using hcap, fun o => ?_⟩⟩, ?_, ⟨fun b o v e => ?_, fun b o v e => ?_⟩, by simp, by simp⟩
    · rw [show w.heap.size = w.drew.heap.size from rfl, heap_alloc_new]
      congr 2
      apply Array.ext'
      simp
    · have h1 := hcs.len hsz
      simp only [List.length_append, h1, hdl, HS, hzs]
      rw [← Nat.add_mul, ← Nat.add_mul]
      congr 1
      omega
    · cases e : Φ w.heap.size o with
      | none => rfl
      | some v => have := hP.lt _ o v e; omega
    · exact ⟨rfl, rfl, rfl, by simp, fun b hb _ => @Go.heap_alloc_old w.drew _ b hb, Cg.le_refl _, fun b hb _ => rfl⟩
    · have := hP.lt b o v e
      simp; omega
    · rw [World.cell?_alloc_lt _ _ _ (show b < w.drew.heap.size from hP.lt b o v e)]
      exact hP.cell b o v e
  obtain ⟨hm0, ⟨rfl, rfl, rfl⟩ | ⟨b, cap, cs, zs, rfl, rfl, hblk, hcs, hlen, hcap, hfree⟩⟩ := h
  · by_cases h0 : ys.length = 0
    · have hy : ys = [] := List.eq_nil_of_length_eq_zero h0
      subst hy
      exact ⟨.slice none 0 0, w, [], hS.idle rfl, ⟨by simp [CW], .inl ⟨rfl, rfl, rfl⟩⟩, Step.refl _ _ _, hP, List.nodup_nil, by simp⟩
    · have hr := hS.fresh (by omega) (by simpa using h63) (by simp at hb; omega)
      refine hnew [] (grownCap w ys.length 0 e) _ rfl ?_ (by simp) _ ?_ hr
      · have := grownCap_ge w ys.length 0 e; simpa using this
      · simp
  · have hcl := hcs.len hsz
    by_cases hroom : xs.length + ys.length ≤ cap
    · have hfit : xs.length * i.size + ds.length ≤ (cs ++ zs).toArray.size := by
        simp only [List.size_toArray, hlen, hdl, ← Nat.add_mul]
        exact Nat.mul_le_mul_right _ hroom
      have hr := hS.room b xs.length cap (cs ++ zs).toArray hblk hroom hfit
      have hrow : ((cs ++ zs).toArray.toList.take (xs.length * i.size) ++ ds ++ (cs ++ zs).toArray.toList.drop (xs.length * i.size + ds.length)) = cs ++ ds ++ zs.drop ds.length := by
        simp only [← hcl]
        rw [List.take_left, List.drop_length_add_append]
      rw [hrow] at hr
      have hb0 := hf b (by simp)
      have hnb : (w.setRow b (cs ++ ds ++ zs.drop ds.length).toArray).heap[b]? = some (.cells (cs ++ ds ++ zs.drop ds.length).toArray e (0, 0)) := setRow_heap w b _ _ e _ hblk
      refine ⟨_, _, [b], hr, ⟨by simpa using hm, .inr ⟨b, cap, cs ++ ds, zs.drop ds.length, by simp, rfl, hnb, hcs.append hA, ?_, by simpa using hroom, hfree⟩⟩, ?_, ⟨fun b' o v' e' => ?_, fun b' o v' e' => ?_⟩, by simp, by simpa using hb0⟩
      · simp only [List.length_append, List.length_drop] at hlen ⊢
        have : (xs.length + ys.length) * i.size ≤ cap * i.size := Nat.mul_le_mul_right _ hroom
        rw [Nat.add_mul] at this
        omega
      · exact ⟨rfl, rfl, rfl, by simp, fun b' hb' hne => setRow_other w b b' _ (by simpa using hne), Cg.le_refl _, fun b' hb' hne => rfl⟩
      · rw [setRow_size]; exact hP.lt b' o v' e'
      · by_cases hbb : b' = b
        · subst hbb; rw [hfree o] at e'; cases e'
        · exact (World.cell?_of_block (w := w) (setRow_other w b b' _ hbb)).trans (hP.cell b' o v' e')
    · have hold : ∀ j v, cs[j]? = some v → w.cell? ((⟨b, 0, none⟩ : Addr).add j) = some v := fun j v hj => by
        rw [Addr.add_lit, Nat.zero_add, cell_of hblk]
        have : j < cs.length := by
          rcases Nat.lt_or_ge j cs.length with q | q
          · exact q
          · rw [List.getElem?_eq_none q] at hj; cases hj
        rw [List.getElem?_append_left this]; exact hj
      have hr := hS.grow ⟨b, 0, none⟩ xs.length cap cs hcl hold hcap (by omega) h63 (growslice_fits (by omega) hb)
      refine hnew cs (grownCap w (xs.length + ys.length) cap e) _ hcs (grownCap_ge w _ _ e) rfl _ rfl hr
section ops
variable {P : Program} {G : FP} {N : List CE} {d : Nat} {ty : TypeId} {pos : String} {af : Array Edge} {gd : Option (Nat × Bool)}
theorem JB {α : Type} {v : Value} {e sT xT : TypeId} {i : TypeInfo} {z : Value} {c : α → List Ck} {xs ys : List α} {s x : Operand} (hsz : ∀ x, lens (c x) = i.size) (hpos : 0 < i.size) (hzs : z.cells.size = i.size) (hs : Bb G N s (Az v))
    (hx : ∀ (Φ : Cg) (a : Act) (w : World) (f : List (List Nat)), Dc Φ w → G.p Φ → Cv Φ a.tmps w N f → ∃ ds, Src P w sT xT ty e i z (a.eval x) ys.length ds ∧ Df Φ c ds ys) (hm : xs.length + ys.length ≤ CW) (hb : (xs.length + ys.length) * i.bytes ≤ 140737488355328) :
    BM P G ⟨some d, .call ⟨.builtin .append, #[s, x], #[sT, xT]⟩, ty, pos, af, gd⟩ N [.res (own v e i.size c xs)] (fun v' => [.slot d (Az v'), .res (own v' e i.size c (xs ++ ys))]) := by
  intro Φ a w fN fC h1 h2 h3 h4 h5 h6 h7 K Q hK
  match fC, h4 with
  | [f], ⟨hacc, _⟩ =>
  obtain ⟨ds, hS, hA⟩ := hx Φ a w fN h1 h2 h3
  have hv : a.eval s = v := hs Φ a w fN h2 h3
  obtain ⟨v', w', f', hr, hacc', hst, hP', hnd, hfb⟩ := M6 hS hsz hpos hzs h1 (fun b hb => h6 b (by simp [hb])) hacc hA hm hb
  have hrun : (execOp a.eval ⟨some d, .call ⟨.builtin .append, #[s, x], #[sT, xT]⟩, ty, pos, af, gd⟩).run P w = .ok (.value v') w' := by
    simp only [execOp, resolve, List.map_toArray, List.map_cons, List.map_nil, hv, Sem.run_bind, Sem.run_pure, Result.andThen_ok, invoke, builtin, hr]
  unfold Oper.wp
  rw [hrun, Oper.upon_value]
  exact hK v' w' Φ [[], f'] (by simpa using hst) hP' ⟨⟨rfl, v', Du a v' d (h7 d rfl), rfl⟩, hacc', trivial⟩ (by simpa using hnd) (by simpa using hfb)
theorem Ff {α : Type} {v : Value} {e sT : TypeId} {i : TypeInfo} {z : Value} {c : α → List Ck} {xs ys : List α} {s x : Operand} (ht : P.underlying sT = some (.slice e)) (hi : P.info? e = some i) (hz : i.zero = some z) (hsz : ∀ x, lens (c x) = i.size) (hpos : 0 < i.size) (hzs : z.cells.size = i.size)
    (hs : Bb G N s (Az v)) (hx : Bb G N x (AJ c ys)) (hb : xs.length + ys.length ≤ CW ∧ (xs.length + ys.length) * i.bytes ≤ 140737488355328) :
    BM P G ⟨some d, .call ⟨.builtin .append, #[s, x], #[sT, sT]⟩, ty, pos, af, gd⟩ N [.res (own v e i.size c xs)] (fun v' => [.slot d (Az v'), .res (own v' e i.size c (xs ++ ys))]) :=
  JB hsz hpos hzs hs (fun Φ a w f hP hG hN => by
    obtain ⟨_, ⟨hv, rfl⟩ | ⟨b, o, cap, ds, hv, _, hA, hp⟩ | ⟨rfl, b, cap, hv⟩⟩ := hx Φ a w f hG hN
    · rw [hv]; exact ⟨[], Src.nil ht hi, rfl⟩
    rotate_left
    · rw [hv]; exact ⟨[], Src.slice ht hi hz (by simp) (fun j v hj => by simp at hj) (by simp), rfl⟩
    · rw [hv]; exact ⟨ds, Src.slice ht hi hz (hA.len hsz) (fun j v hj => by rw [Addr.add_lit]; exact hP.cell _ _ _ (hp j v hj)) hA.cell, hA⟩) hb.1 hb.2
def MB (q : Value) (off : Nat) : VP := ⟨fun _ v => ∃ b len cap, q = .slice (some ⟨b, 0, none⟩) len cap ∧ v = .pointer (some ⟨b, off, none⟩), fun _ h => h⟩
theorem Fz {α : Type} {t e : TypeId} {x : Nat} {y : Operand} {c : α → List Ck} {xs : List α} {k : IntKind} {i : Int} {sz : Nat} {q : Value} (i0 j : Nat) (hu : P.underlying t = some (.slice e)) (hs : ∀ w, (sizeOf e).run P w = .ok sz w)
    (hx : B1 .none N i0 = .slot x (Az q)) (hr : B1 .none N j = .res (own q e sz c xs)) (hy : Bb G N y (Ag k i)) (hi : 0 ≤ i ∧ i < xs.length) : BM P G ⟨some d, .indexAddr t (.tmp x) y, ty, pos, af, gd⟩ N [] (fun _ => [.slot d (MB q (i.toNat * sz))]) :=
  BM.val fun Φ a w f _ hG hN => by
    obtain ⟨hy1, _⟩ := hy Φ a w f hG hN
    have hv : a.eval (.tmp x) = q := opt (G := G) i0 hx Φ a w f hG hN
    obtain ⟨g, _, ⟨_, rfl, _⟩ | ⟨b, cap, cs, zs, hq, _⟩⟩ := hN.res j hr
    · simp at hi; omega
    · refine ⟨.pointer (some ⟨b, i.toNat * sz, none⟩), ?_, b, _, _, hq, rfl⟩
      simp only [execOp, hv, hy1, hq]
      simp [Instr.indexAt, run_underlying hu, asIntOf, hi, hs, Addr.add_lit]
end ops
theorem Ex.of_eq {Φ : Cg} {b : Nat} {cs : List Value} (h : ∀ o, Φ b o = cs[o]?) : Ex Φ b 0 cs := fun j v hj => by rw [Nat.zero_add, h]; exact hj
theorem AA.I2 {c : Cx} {l : List CE} {a : Act} {w : World} {α : Type} {v : Value} {T : TypeId} {sz : Nat} {ck : α → List Ck} {xs : List α} (h : AA c l a w) (j : Nat) (hj : B1 .none l j = .res (own v T sz ck xs)) : AA c (l.set j (.res (acc v T sz ck xs))) a w := by
  obtain ⟨Φ, fp, h⟩ := h
  have hjl := DP hj (by simp)
  have hx := h.holds j hjl
  rw [hj] at hx
  have hset : ∀ i, i ≠ j → B1 CE.none (l.set j (.res (acc v T sz ck xs))) i = B1 .none l i := fun i hi => by rw [DD, if_neg (fun hc => hi hc.1.symm)]
  have hsame : B1 CE.none (l.set j (.res (acc v T sz ck xs))) j = .res (acc v T sz ck xs) := by rw [DD, if_pos ⟨rfl, hjl⟩]
  obtain ⟨hm, ⟨hv, hxs, hf⟩ | ⟨b, cap, cs, zs, hv, hf, hb, hA, hlen, hcap, hn⟩⟩ := hx
  · refine ⟨Φ, fp, h.defers, h.size, h.Hh, h.Hz, h.step, fun i hi => ?_, fun i hi => h.own i (by simpa using hi), fun i k hi hk => h.apart i k (by simpa using hi) (by simpa using hk)⟩
    have hi : i < l.length := by simpa using hi
    by_cases q : i = j
    · subst q; rw [hsame]; exact ⟨hm, .inl ⟨hv, hxs, hf⟩⟩
    · rw [hset i q]; exact h.holds i hi
  · have hown := (h.own j hjl).2 b (by rw [hf]; simp)
    let Φ' : Cg := fun b' o => if b' = b then cs[o]? else Φ b' o
    have hle : Cg.le Φ Φ' := fun b' o v e => by
      by_cases hbb : b' = b
      · rw [hbb, hn o] at e; cases e
      · simp only [Φ', if_neg hbb]; exact e
    have hap : ∀ i, i < l.length → i ≠ j → ∀ x ∈ fp i, x ≠ b := fun i hi hne x hx e => h.apart i j hi hjl hne x hx (by rw [hf, e]; simp)
    refine ⟨Φ', fp, h.defers, h.size, ⟨fun b' o v e => ?_, fun b' o v e => ?_⟩, c.G.mono hle h.Hz, h.step.trans (G := [b]) ⟨rfl, rfl, rfl, Nat.le_refl _, fun _ _ _ => rfl, hle, fun b' _ hne => by funext o; simp only [Φ', if_neg (by simpa using hne : ¬ b' = b)]⟩ (fun b' hb' hlt => by
      simp only [List.mem_singleton] at hb'
      subst hb'
      rcases hown.2 with q | q
      · exact q
      · omega), fun i hi => ?_, fun i hi => h.own i (by simpa using hi), fun i k hi hk => h.apart i k (by simpa using hi) (by simpa using hk)⟩
    · by_cases hbb : b' = b
      · rw [hbb]; exact hown.1
      · simp only [Φ', if_neg hbb] at e; exact h.Hh.lt b' o v e
    · by_cases hbb : b' = b
      · subst hbb
        simp only [Φ', if_pos trivial] at e
        rw [cell_of hb]
        have : o < cs.length := by
          rcases Nat.lt_or_ge o cs.length with q | q
          · exact q
          · rw [List.getElem?_eq_none q] at e; cases e
        rw [List.getElem?_append_left this]; exact e
      · simp only [Φ', if_neg hbb] at e; exact h.Hh.cell b' o v e
    · have hi : i < l.length := by simpa using hi
      by_cases q : i = j
      · subst q
        rw [hsame]
        exact ⟨hm, .inr ⟨b, cap, cs, zs, hv, hf, hb, hA.mono hle, hlen, hcap, Ex.of_eq (fun o => by simp only [Φ', if_pos trivial]), fun o ho => by simp only [Φ', if_pos trivial]; exact List.getElem?_eq_none ho⟩⟩
      · rw [hset i q]
        exact CE.Gt (h.holds i hi) hle (fun x hx => by funext o; simp only [Φ', if_neg (hap i hi q x hx)]) (fun _ _ => rfl) (fun _ _ => rfl)

end
section
open Go Go.RowKit Go.Proofs
set_option linter.unusedVariables false
set_option linter.unusedSimpArgs false

def MA : VP := ⟨fun _ v => v = .slice none 0 0 ∨ ∃ a, v = .slice (some a) 0 0, fun _ h => h⟩
section ops
variable {P : Program} {G : FP} {N : List CE} {d : Nat} {ty : TypeId} {pos : String} {af : Array Edge} {gd : Option (Nat × Bool)}
theorem Jx {w : World} {sT ty e : TypeId} {i : TypeInfo} (ht : P.underlying sT = some (.slice e)) (hi : P.info? e = some i) (a : Addr) (u : Value) (hu : u = .slice none 0 0 ∨ ∃ b cap, u = .slice (some b) 0 cap) :
    (Builtin.append_ #[sT, sT] ty #[.slice (some a) 0 0, u]).run P w = .ok (.slice (some a) 0 0) w := by
  rcases hu with rfl | ⟨b, cap, rfl⟩
  · simp [Builtin.append_, run_underlying ht, sizeOf, typeInfo, hi, Builtin.lenOf, Builtin.firstCells, storeCells]
  · simp [Builtin.append_, run_underlying ht, sizeOf, typeInfo, hi, Builtin.lenOf, Builtin.firstCells, storeCells, loadCells, loadCellsFrom]
theorem GJ {α : Type} {e sT : TypeId} {i : TypeInfo} {z : Value} {c : α → List Ck} {ys : List α} {s x : Operand} (ht : P.underlying sT = some (.slice e)) (hi : P.info? e = some i) (hz : i.zero = some z) (hsz : ∀ x, lens (c x) = i.size) (hpos : 0 < i.size) (hzs : z.cells.size = i.size)
    (hs : Bb G N s MA) (hx : Bb G N x (AJ c ys)) (hb : ys.length * i.bytes ≤ 140737488355328) :
    BM P G ⟨some d, .call ⟨.builtin .append, #[s, x], #[sT, sT]⟩, ty, pos, af, gd⟩ N [] (fun _ => [.slot d (AJ c ys)]) := by
  intro Φ a w fN fC h1 h2 h3 h4 h5 h6 h7 K Q hK
  match fC, h4 with
  | [], _ =>
  have hxv := hx Φ a w fN h2 h3
  have hsv := hs Φ a w fN h2 h3
  have hmx := hxv.1
  have h63 : ((ys.length : Nat) : Int) ≤ 9223372036854775807 := by have := (GK hmx).2; simp [IntKind.max, IntKind.bits, IntKind.signed] at this; omega
  have hexec : ∀ v' w', (Builtin.append_ #[sT, sT] ty #[a.eval s, a.eval x]).run P w = .ok v' w' → (execOp a.eval ⟨some d, .call ⟨.builtin .append, #[s, x], #[sT, sT]⟩, ty, pos, af, gd⟩).run P w = .ok (.value v') w' := by
    intro v' w' hr
    simp only [execOp, resolve, List.map_toArray, List.map_cons, List.map_nil, Sem.run_bind, Sem.run_pure, Result.andThen_ok, invoke, builtin, hr]
  by_cases h0 : ys.length = 0
  · have hy : ys = [] := List.eq_nil_of_length_eq_zero h0
    subst hy
    have hxe : a.eval x = .slice none 0 0 ∨ ∃ b cap, a.eval x = .slice (some b) 0 cap := by
      rcases hxv.2 with ⟨h, _⟩ | ⟨b, o, cap, cs, h, _⟩ | ⟨_, b, cap, h⟩
      · exact .inl h
      · exact .inr ⟨_, _, h⟩
      · exact .inr ⟨_, _, h⟩
    rcases hsv with hv | ⟨ad, hv⟩
    · have hr : (Builtin.append_ #[sT, sT] ty #[a.eval s, a.eval x]).run P w = .ok (.slice none 0 0) w := by
        rw [hv]
        rcases hxe with h | ⟨b, cap, h⟩
        · rw [h]; exact (Src.nil (w := w) (z := z) ht hi).idle rfl
        · rw [h]; exact (Src.slice (w := w) (z := z) (n := 0) (ds := []) ht hi hz (by simp) (fun j v hj => by simp at hj) (by simp)).idle rfl
      unfold Oper.wp
      rw [hexec _ _ hr, Oper.upon_value]
      exact hK _ w Φ [[]] (Step.refl _ _ _) h1 ⟨⟨rfl, _, Du a _ d (h7 d rfl), by simp [CW], .inl ⟨rfl, rfl⟩⟩, trivial⟩ (by simp) (by simp)
    · have hr : (Builtin.append_ #[sT, sT] ty #[a.eval s, a.eval x]).run P w = .ok (.slice (some ad) 0 0) w := by
        rw [hv]; exact Jx ht hi ad _ hxe
      unfold Oper.wp
      rw [hexec _ _ hr, Oper.upon_value]
      exact hK _ w Φ [[]] (Step.refl _ _ _) h1 ⟨⟨rfl, _, Du a _ d (h7 d rfl), by simp [CW], .inr (.inr ⟨rfl, ad, 0, rfl⟩)⟩, trivial⟩ (by simp) (by simp)
  · obtain ⟨ds, hS, hA⟩ : ∃ ds, Src P w sT sT ty e i z (a.eval x) ys.length ds ∧ Df Φ c ds ys := by
      rcases hxv.2 with ⟨h, rfl⟩ | ⟨b, o, cap, ds, hv, _, hA, hp⟩ | ⟨rfl, b, cap, hv⟩
      · exact absurd rfl h0
      · rw [hv]; exact ⟨ds, Src.slice ht hi hz (hA.len hsz) (fun j v hj => by rw [Addr.add_lit]; exact h1.cell _ _ _ (hp j v hj)) hA.cell, hA⟩
      · exact absurd rfl h0
    have hdl : ds.length = ys.length * i.size := hA.len hsz
    have hnew : ∃ cap, ys.length ≤ cap ∧ (Builtin.append_ #[sT, sT] ty #[a.eval s, a.eval x]).run P w = .ok (.slice (some ⟨w.heap.size, 0, none⟩) ys.length cap) (w.drew.alloc (.cells (ds.toArray ++ Builtin.zeroCells z.cells (cap - ys.length)) e)) := by
      rcases hsv with hv | ⟨ad, hv⟩
      · refine ⟨grownCap w ys.length 0 e, by have := grownCap_ge w ys.length 0 e; simpa using this, ?_⟩
        rw [hv]; exact hS.fresh (by omega) h63 (by omega)
      · refine ⟨grownCap w (0 + ys.length) 0 e, by have := grownCap_ge w (0 + ys.length) 0 e; simpa using this, ?_⟩
        rw [hv]
        have hr := hS.grow ad 0 0 [] (by simp) (fun j v hj => by simp at hj) (Nat.le_refl _) (by omega) (by simpa using h63) (growslice_fits (by omega) (by simpa using hb))
        simpa using hr
    obtain ⟨cap, hcap, hr⟩ := hnew
    let Φ' : Cg := fun b o => if b = w.heap.size then ds[o]? else Φ b o
    have hle : Cg.le Φ Φ' := fun b o v e => by
      have := h1.lt b o v e
      simp only [Φ', if_neg (by omega : ¬ b = w.heap.size)]
      exact e
    unfold Oper.wp
    rw [hexec _ _ hr, Oper.upon_value]
    refine hK _ _ Φ' [[]] ⟨rfl, rfl, rfl, by simp, fun b hb _ => @Go.heap_alloc_old w.drew _ b hb, hle, fun b hb _ => by funext o; simp only [Φ', if_neg (by omega : ¬ b = w.heap.size)]⟩ ⟨fun b o v e => ?_, fun b o v e => ?_⟩
      ⟨⟨rfl, _, Du a _ d (h7 d rfl), hmx, .inr (.inl ⟨w.heap.size, 0, cap, ds, rfl, hcap, hA.mono hle, fun j v hj => by simp only [Φ', if_pos trivial, Nat.zero_add]; exact hj⟩)⟩, trivial⟩ (by simp) (by simp)
    · by_cases hbb : b = w.heap.size
      · simp [hbb]
      · simp only [Φ', if_neg hbb] at e
        have := h1.lt b o v e
        simp; omega
    · by_cases hbb : b = w.heap.size
      · subst hbb
        simp only [Φ', if_pos trivial] at e
        rw [show w.heap.size = w.drew.heap.size from rfl, World.cell?_alloc_new]
        have hlt : o < ds.length := by
          rcases Nat.lt_or_ge o ds.length with q | q
          · exact q
          · rw [List.getElem?_eq_none q] at e; cases e
        rw [Array.getElem?_append_left (by simpa using hlt)]
        simpa using e
      · simp only [Φ', if_neg hbb] at e
        rw [World.cell?_alloc_lt _ _ _ (show b < w.drew.heap.size from h1.lt b o v e)]
        exact h1.cell b o v e
end ops

end
section
open Go Go.RowKit Go.Proofs
set_option linter.unusedVariables false
set_option linter.unusedSimpArgs false

def Fg {α : Type} (xs : List α) : VP := ⟨fun _ v => ∃ b : Bool, v = .bool b ∧ (b = true → xs = []), fun _ h => h⟩
theorem Gj {P : Program} {α : Type} {c : α → List Ck} {xs : List α} {t e : TypeId} (hu : P.underlying t = some (.slice e)) : IS P .eql t (AJ c xs) (Az (.slice none 0 0)) (Fg xs) := by
  rintro Φ u v w x y ⟨_, hx⟩ hv
  have hv : v = .slice none 0 0 := hv
  subst hv
  have hrun : ∀ (a : Option Addr) (n cap : Nat), (do eqGuard .eql t x y (.slice a n cap) (.slice none 0 0); binOp .eql t (.slice a n cap) (.slice none 0 0) : Sem Value).run P w = .ok (.bool a.isNone) w := by
    intro a n cap
    simp only [eqGuard_at_slice, binOp]
    simp [Op.equal, Op.maxDepth, Lib.run_equalIn_slice_nil w 9999 t e a n cap 0 0 hu]
  rcases hx with ⟨rfl, rfl⟩ | ⟨b, o, cap, cs, rfl, _⟩ | ⟨rfl, a, cap, rfl⟩
  · exact ⟨_, hrun _ _ _, _, rfl, fun _ => rfl⟩
  · exact ⟨_, hrun _ _ _, _, rfl, fun h => by cases h⟩
  · exact ⟨_, hrun _ _ _, _, rfl, fun _ => rfl⟩
theorem AA.Oi {c : Cx} {l : List CE} {a : Act} {w : World} {α : Type} {xs : List α} {d : Nat} (h : AA c l a w) (i : Nat) (he : B1 .none l i = .slot d (Fg xs)) : ∃ b : Bool, (b = true → xs = []) ∧ AA c (l.set i (.slot d (AL b))) a w := by
  obtain ⟨Φ, fp, h0⟩ := h
  have hi := DP he (by simp)
  have hx := h0.holds i hi
  rw [he] at hx
  obtain ⟨hf, v, hv, b, hb, hq⟩ := hx
  subst hb
  refine ⟨b, hq, Φ, fp, h0.defers, h0.size, h0.Hh, h0.Hz, h0.step, fun j hj => ?_, fun j hj => h0.own j (by simpa using hj), fun j k hj hk => h0.apart j k (by simpa using hj) (by simpa using hk)⟩
  have hj : j < l.length := by simpa using hj
  by_cases e : i = j
  · subst e
    rw [DD, if_pos ⟨rfl, hi⟩]
    exact ⟨hf, _, hv, rfl⟩
  · rw [DD, if_neg (fun hc => e hc.1)]
    exact h0.holds j hj
section ops
variable {P : Program} {G : FP} {N : List CE} {d : Nat} {ty : TypeId} {pos : String} {af : Array Edge} {gd : Option (Nat × Bool)}
theorem LA {t e : TypeId} {sz : Nat} (hu : P.underlying t = some (.slice e)) (hs : ∀ w, (sizeOf e).run P w = .ok sz w) {z : Value} (hz : ∀ w, (zeroValue e).run P w = .ok z w) :
    BM P G ⟨some d, .buildSlice t 0 #[], ty, pos, af, gd⟩ N [] (fun _ => [.slot d MA]) := by
  intro Φ a w fN fC h1 h2 h3 h4 h5 h6 h7 K Q hK
  match fC, h4 with
  | [], _ =>
    have hrun : (execOp a.eval ⟨some d, .buildSlice t 0 #[], ty, pos, af, gd⟩).run P w = .ok (.value (.slice (some ⟨w.heap.size, 0, none⟩) 0 0)) (w.alloc (.cells #[] e)) := by
      simp [execOp, Instr.buildSlice, run_underlying hu, hs, hz, Instr.fill, newRow]
      have e0 : (Array.range 0).map (fun _ => (default : Value)) = #[] := by apply Array.ext'; simp [Array.toList_range]
      rw [e0]
    unfold Oper.wp
    rw [hrun, Oper.upon_value]
    exact hK _ _ Φ [[]] (GY w Φ _) (HM h1 _) ⟨⟨rfl, _, Du a _ d (h7 d rfl), .inr ⟨_, rfl⟩⟩, trivial⟩ (by simp) (by simp)
end ops
def RP.spare : RP := ⟨fun _ _ _ => True, fun _ _ _ _ => trivial⟩
theorem settle {α : Type} {p q : Value} {T T' : TypeId} {sz : Nat} {c : α → List Ck} {xs : List α} {pre post : List Ck} : RP.le (RP.sep (lb p T (pre ++ [one (Az q)] ++ post)) (acc q T' sz c xs)) (RP.sep (lb p T (pre ++ [one (AJ c xs)] ++ post)) RP.spare) := by
  rintro Φ f w ⟨f1, f2, rfl, ⟨b, cs, h1, h2, h3, hL, hn⟩, h4⟩
  refine ⟨f1, f2, rfl, ⟨b, cs, h1, h2, h3, ?_, hn⟩, trivial⟩
  obtain ⟨us, zs, rfl, g1, g2⟩ := hL.split
  obtain ⟨xs', ys, rfl, g3, ⟨y1, y2, rfl, ⟨v, rfl, hv1, hv2⟩, hy2⟩⟩ := g1.split
  have hv2 : v = q := hv2
  subst hv2
  exact (g3.append (M := [one (AJ c xs)]) ⟨[v], y2, rfl, ⟨v, rfl, hv1, KD h4⟩, hy2⟩).append g2

end
section
open Go Go.RowKit Go.Proofs

structure Lj where
  CO : List Nat
  cons : List Nat
  C0 : List GE
def eN (E : List GE) (β : Nat → Value) (r : Nat) : CE := (B1 (.base .none) E r).at β

inductive Acc (P : Program) (G : FP) (ops : Array Oper) : List GE → Nat → List Oper → List Lj → Prop
  | nil {E : List GE} {i : Nat} : Acc P G ops E i [] []
  | cons {E : List GE} {i : Nat} {o : Oper} {l : List Oper} {ts : List Lj} (t : Lj)
    (h : ∀ β : Nat → Value, AB P G ops o (t.CO.map (eN E β)) (t.cons.map (eN E β)) (fun v => t.C0.map fun g => g.at fun k => if k = i then v else β k))
    (hr : Acc P G ops (E ++ t.C0) (i + 1) l ts) : Acc P G ops E i (o :: l) (t :: ts)

def PE (l m : List Nat) : List Nat := m.foldl (fun acc x => if acc.contains x then acc else x :: acc) l
def Ry (ops : Array Oper) (k : Nat) (b : List (List Nat)) : List (List Nat) := b ++ [(direct ops k).foldl (fun acc j => PE (PE acc [j]) (B1 [] b j)) []]
def QP (ops : Array Oper) : Nat → List (List Nat)
  | 0 => []
  | k + 1 => Ry ops k (QP ops k)
def QO : Nat → List (List Nat)
  | 0 => []
  | k + 1 => QO k ++ [List.range k]
def SC (ops : Array Oper) : Bool → List (List Nat)
  | true => QP ops ops.size
  | false => QO ops.size
def K8 : Nat → List Lj → List Oper → List (List Nat) → List IN
  | s, t :: ts, o :: os, b :: bs => ⟨t.CO, t.cons, List.range' s t.C0.length, b, o.dst⟩ :: K8 (s + t.C0.length) ts os bs
  | _, _, _, _ => []
def NB : Nat → List Lj → List Nat
  | _, [] => []
  | i, t :: ts => t.C0.map (fun _ => i) ++ NB (i + 1) ts
def LR : List Lj → List GE
  | [] => []
  | t :: ts => t.C0 ++ LR ts
def RY : Nat → List Lj → Bool
  | _, [] => true
  | s, t :: ts => (t.CO ++ t.cons).all (fun r => decide (r < s)) && RY (s + t.C0.length) ts

theorem Acc.ok {P : Program} {G : FP} {ops : Array Oper} (p : Dx) : ∀ {l : List Oper} {E : List GE} {i : Nat} {ts : List Lj} {bs : List (List Nat)}, Acc P G ops E i l ts → bs.length = l.length → RY E.length ts = true →
    p.HF = E ++ LR ts → (∀ j, p.op (i + j) = B1 IN.none (K8 E.length ts l bs) j) → p.Ok P G ops l i
  | [], _, _, _, _, _, _, _, _, _ => trivial
  | o :: l, E, i, ts, bs, h, hb, hr, he, ho => by
    cases h with
    | @cons _ _ _ _ ts t h1 h2 =>
      cases bs with
      | nil => simp at hb
      | cons b bs =>
        simp only [RY, Bool.and_eq_true, List.all_eq_true, decide_eq_true_eq, List.mem_append] at hr
        have h0 := ho 0
        simp only [Nat.add_zero, K8, B1] at h0
        have hE : ∀ β r, r < E.length → p.E β r = eN E β r := fun β r hlt => by
          simp only [Dx.E, eN, he]
          rw [Cw, if_pos hlt]
        have hg : ∀ β, (List.range' E.length t.C0.length).map (p.E β) = t.C0.map fun g => g.at β := fun β => by
          refine List.ext_getElem (by simp) fun k hk1 hk2 => ?_
          simp only [List.length_map, List.length_range'] at hk1
          simp only [List.getElem_map, List.getElem_range', Nat.one_mul, Dx.E, he, LR]
          rw [Cw, if_neg (by omega), Cw, if_pos (by omega), DZ]
          simp [List.getD, show E.length + k - E.length = k by omega, hk1]
        refine ⟨⟨by rw [h0], fun β => ?_⟩, ?_⟩
        · rw [h0]
          have e1 : t.CO.map (p.E β) = t.CO.map (eN E β) := List.map_congr_left fun r hm => hE β r (hr.1 r (.inl hm))
          have e2 : t.cons.map (p.E β) = t.cons.map (eN E β) := List.map_congr_left fun r hm => hE β r (hr.1 r (.inr hm))
          simp only [e1, e2, hg]
          exact h1 β
        · refine Acc.ok p h2 (by simpa using hb) (by simpa using hr.2) (by rw [he, LR, List.append_assoc]) fun j => ?_
          have := ho (j + 1)
          simp only [K8, B1] at this
          rw [show i + 1 + j = i + (j + 1) by omega, this]
          simp

def lk (l : List CE) (N : List GE) (β : Nat → Value) (r : Nat) : CE := bif Nat.ble 500 r then (B1 (.base .none) N (r - 500)).at β else B1 .none l r
def ab (m c r : Nat) : Nat := bif Nat.ble 500 r then m + (c - 1 - (r - 500)) else r
def Sh (m c r : Nat) : Bool := bif Nat.ble 500 r then decide (r - 500 < c) else decide (r < m)
theorem Mt {l : List CE} {N : List GE} {r : Nat} (h : Sh l.length N.length r = true) (β : Nat → Value) : lk l N β r = eN (l.map .base ++ N.reverse) β (ab l.length N.length r) ∧ ab l.length N.length r < l.length + N.length := by
  unfold lk eN ab
  unfold Sh at h
  cases hb : Nat.ble 500 r with
  | false =>
    simp only [hb, cond_false, decide_eq_true_eq] at h
    simp only [cond_false]
    rw [Cw, if_pos (by simpa using h), IC .none _ _ _ _ h]
    exact ⟨rfl, by omega⟩
  | true =>
    simp only [hb, cond_true, decide_eq_true_eq] at h
    simp only [cond_true]
    rw [Cw, if_neg (by simp)]
    refine ⟨?_, by omega⟩
    rw [DZ, DZ]
    simp only [List.getD, List.length_map, show l.length + (N.length - 1 - (r - 500)) - l.length = N.length - 1 - (r - 500) by omega]
    rw [List.getElem?_reverse (by omega), show N.length - 1 - (N.length - 1 - (r - 500)) = r - 500 by omega]
def Iq : List GE → List GE → List GE
  | [], N => N
  | g :: gs, N => Iq gs (g :: N)
theorem Ip : ∀ (gs N : List GE), Iq gs N = gs.reverse ++ N
  | [], _ => rfl
  | g :: gs, N => by simp [Iq, Ip gs]
inductive Ac (P : Program) (G : FP) (ops : Array Oper) (l : List CE) : List GE → Nat → List Oper → List Lj → List GE → Prop
  | nil {N : List GE} {i : Nat} : Ac P G ops l N i [] [] N
  | cons {N Nf : List GE} {i : Nat} {o : Oper} {os : List Oper} {ts : List Lj} (t : Lj)
    (h : ∀ β : Nat → Value, AB P G ops o (t.CO.map (lk l N β)) (t.cons.map (lk l N β)) (fun v => t.C0.map fun g => g.at fun k => if k = i then v else β k))
    (hr : Ac P G ops l (Iq t.C0 N) (i + 1) os ts Nf) : Ac P G ops l N i (o :: os) (t :: ts) Nf
def cv (m : Nat) : Nat → List Lj → List Lj
  | _, [] => []
  | c, t :: ts => ⟨t.CO.map (ab m c), t.cons.map (ab m c), t.C0⟩ :: cv m (c + t.C0.length) ts
def Sj (m : Nat) : Nat → List Lj → Bool
  | _, [] => true
  | c, t :: ts => (t.CO ++ t.cons).all (Sh m c) && Sj m (c + t.C0.length) ts
theorem Pp (m : Nat) : ∀ (ts : List Lj) (c : Nat), LR (cv m c ts) = LR ts
  | [], _ => rfl
  | t :: ts, c => by simp [cv, LR, Pp m ts]
theorem Ac.acc {P : Program} {G : FP} {ops : Array Oper} {l : List CE} : ∀ {os : List Oper} {N Nf : List GE} {i : Nat} {ts : List Lj}, Ac P G ops l N i os ts Nf → Sj l.length N.length ts = true →
    Acc P G ops (l.map .base ++ N.reverse) i os (cv l.length N.length ts) ∧ RY (l.length + N.length) (cv l.length N.length ts) = true ∧ Nf = (LR ts).reverse ++ N
  | [], _, _, _, _, h, _ => by cases h; exact ⟨.nil, rfl, rfl⟩
  | o :: os, N, Nf, i, _, h, hq => by
    cases h with
    | @cons _ _ _ _ _ ts t h1 h2 =>
      simp only [Sj, Bool.and_eq_true, List.all_eq_true, List.mem_append] at hq
      have hlen : (Iq t.C0 N).length = N.length + t.C0.length := by rw [Ip]; simp; omega
      obtain ⟨a1, a2, a3⟩ := Ac.acc h2 (by rw [hlen]; exact hq.2)
      rw [hlen] at a1 a2
      refine ⟨?_, ?_, ?_⟩
      · refine Acc.cons _ (fun β => ?_) (by rw [List.append_assoc, show N.reverse ++ t.C0 = (Iq t.C0 N).reverse by rw [Ip]; simp]; exact a1)
        have e1 : (t.CO.map (ab l.length N.length)).map (eN (l.map .base ++ N.reverse) β) = t.CO.map (lk l N β) := by
          rw [List.map_map]; exact List.map_congr_left fun r hr => (Mt (hq.1 r (.inl hr)) β).1.symm
        have e2 : (t.cons.map (ab l.length N.length)).map (eN (l.map .base ++ N.reverse) β) = t.cons.map (lk l N β) := by
          rw [List.map_map]; exact List.map_congr_left fun r hr => (Mt (hq.1 r (.inr hr)) β).1.symm
        simp only [e1, e2]
        exact h1 β
      · simp only [cv, RY, Bool.and_eq_true, List.all_eq_true, decide_eq_true_eq, List.mem_append, List.mem_map]
        refine ⟨?_, by rw [← Nat.add_assoc] at a2; exact a2⟩
        rintro r (⟨q, hm, rfl⟩ | ⟨q, hm, rfl⟩)
        · exact (Mt (hq.1 q (.inl hm)) (fun _ => undef)).2
        · exact (Mt (hq.1 q (.inr hm)) (fun _ => undef)).2
      · rw [a3, Ip, LR]; simp

def Pc (l : List CE) (N : List GE) (r : Nat) : GE := bif Nat.ble 500 r then B1 (.base .none) N (r - 500) else .base (B1 .none l r)
theorem Rn (l : List CE) (N : List GE) (r : Nat) (β : Nat → Value) : (Pc l N r).at β = lk l N β r := by
  unfold Pc lk; cases Nat.ble 500 r <;> rfl
inductive Dp (l : List CE) (N : List GE) : List Nat → ((Nat → Value) → List CE) → Prop
  | nil : Dp l N [] (fun _ => [])
  | cons {k : Nat} {ks : List Nat} {g : GE} {L : (Nat → Value) → List CE} (h : Pc l N k = g) (hr : Dp l N ks L) : Dp l N (k :: ks) (fun β => g.at β :: L β)
section
variable {l : List CE} {N : List GE} {k : Nat} {ks : List Nat} {L : (Nat → Value) → List CE} {d i j m : Nat} {v : Value}
theorem Dp.bs {V : VP} (h : Pc l N k = .base (.slot d V)) (hr : Dp l N ks L) : Dp l N (k :: ks) (fun β => .slot d V :: L β) := Dp.cons h hr
theorem Dp.br {R : RP} (h : Pc l N k = .base (.res R)) (hr : Dp l N ks L) : Dp l N (k :: ks) (fun β => .res R :: L β) := Dp.cons h hr
theorem Dp.bf {V : VP} (h : Pc l N k = .base (.fact V v)) (hr : Dp l N ks L) : Dp l N (k :: ks) (fun β => .fact V v :: L β) := Dp.cons h hr
theorem Dp.bn (h : Pc l N k = .base .none) (hr : Dp l N ks L) : Dp l N (k :: ks) (fun β => .none :: L β) := Dp.cons h hr
theorem Dp.s {V : Value → Value → VP} (h : Pc l N k = .slot d i j V) (hr : Dp l N ks L) : Dp l N (k :: ks) (fun β => .slot d (V (β i) (β j)) :: L β) := Dp.cons h hr
theorem Dp.r {R : Value → Value → RP} (h : Pc l N k = .res i j R) (hr : Dp l N ks L) : Dp l N (k :: ks) (fun β => .res (R (β i) (β j)) :: L β) := Dp.cons h hr
theorem Dp.s3 {V : Value → Value → Value → VP} (h : Pc l N k = .slot3 d i j m V) (hr : Dp l N ks L) : Dp l N (k :: ks) (fun β => .slot d (V (β i) (β j) (β m)) :: L β) := Dp.cons h hr
theorem Dp.r3 {R : Value → Value → Value → RP} (h : Pc l N k = .res3 i j m R) (hr : Dp l N ks L) : Dp l N (k :: ks) (fun β => .res (R (β i) (β j) (β m)) :: L β) := Dp.cons h hr
end
theorem Dp.eq {l : List CE} {N : List GE} : ∀ {ks : List Nat} {L : (Nat → Value) → List CE}, Dp l N ks L → ∀ β, L β = ks.map (lk l N β)
  | [], _, h, β => by cases h; rfl
  | k :: ks, _, h, β => by
    cases h with
    | cons h hr => simp only [List.map_cons, Dp.eq hr β, ← Rn, h]
inductive Ek (l : List CE) : List Nat → List CE → Prop
  | nil : Ek l [] []
  | cons {k : Nat} {ks : List Nat} {e : CE} {L : List CE} (h : B1 .none l k = e) (hr : Ek l ks L) : Ek l (k :: ks) (e :: L)
theorem Ek.s {l : List CE} {k : Nat} {ks : List Nat} {d : Nat} {V : VP} {L : List CE} (h : B1 .none l k = .slot d V) (hr : Ek l ks L) : Ek l (k :: ks) (.slot d V :: L) := Ek.cons h hr
theorem Ek.r {l : List CE} {k : Nat} {ks : List Nat} {R : RP} {L : List CE} (h : B1 .none l k = .res R) (hr : Ek l ks L) : Ek l (k :: ks) (.res R :: L) := Ek.cons h hr
theorem Ek.f {l : List CE} {k : Nat} {ks : List Nat} {V : VP} {v : Value} {L : List CE} (h : B1 .none l k = .fact V v) (hr : Ek l ks L) : Ek l (k :: ks) (.fact V v :: L) := Ek.cons h hr
theorem Ek.n {l : List CE} {k : Nat} {ks : List Nat} {L : List CE} (h : B1 .none l k = .none) (hr : Ek l ks L) : Ek l (k :: ks) (.none :: L) := Ek.cons h hr
theorem Ek.eq {l : List CE} : ∀ {ks : List Nat} {L : List CE}, Ek l ks L → L = ks.map (B1 .none l)
  | [], _, h => by cases h; rfl
  | k :: ks, _, h => by
    cases h with
    | cons h hr => simp only [List.map_cons, ← Ek.eq hr, h]

def Rj (n : Nat) (l : List CE) (ts : List Lj) (ops : Array Oper) (draw : Bool) (ks : List Nat) : Bool :=
  Sj l.length 0 ts && decide ((SC ops draw).length = ops.toList.length) && ks.all (Sh l.length (LR ts).length) &&
    J0 (EY n l (LR (cv l.length 0 ts)) (NB 0 (cv l.length 0 ts)) (K8 l.length (cv l.length 0 ts) ops.toList (SC ops draw))) ops draw (LR (cv l.length 0 ts)).length (NB 0 (cv l.length 0 ts)).length (ks.map (ab l.length (LR ts).length))

theorem Cd {P : Program} {c : Cx} {id n : Nat} {ops : Array Oper} {draw : Bool} {Q : Exit → Act → World → Prop} {a : Act} {w : World} {l : List CE} {G : FP} {ts : List Lj} {Nf : List GE} {L : (Nat → Value) → List CE} (hm : P.follows .mixedOrders = true) (hn : c.n = n) (hG : c.G = G)
    (h : AA c l a w) (ks : List Nat) (hA : Ac P G ops l [] 0 ops.toList ts Nf)
    (hQ : ∀ (β : Nat → Value) (a : Act) (w : World), AA c (L β) a w → Q .normal a w)
    (hL : Dp l Nf ks L := by repeat first | exact Dp.nil | (apply Dp.bs; exact rfl) | (apply Dp.br; exact rfl) | (apply Dp.s; exact rfl) | (apply Dp.r; exact rfl) | (apply Dp.bf; exact rfl) | (apply Dp.bn; exact rfl) | (apply Dp.s3; exact rfl) | (apply Dp.r3; exact rfl))
    (hc : Rj n l ts ops draw ks = true := by kernel_rfl) : (Code.region id ops draw).wp P Q a w := by
  simp only [Rj, Bool.and_eq_true, decide_eq_true_eq] at hc
  obtain ⟨⟨⟨c1, c2⟩, c3⟩, c4⟩ := hc
  obtain ⟨a1, a2, a3⟩ := Ac.acc hA (by simpa using c1)
  simp only [List.length_nil, List.reverse_nil, List.append_nil, Nat.add_zero] at a1 a2 a3
  refine Co (LR (cv l.length 0 ts)) _ _ _ hm hn hG h c4 (Acc.ok _ a1 c2 (by simpa using a2) rfl fun j => ?_) fun β a w hs => hQ β a w ?_
  · simp [Dx.op, EY]
  · rw [hL.eq β, a3]
    have e : ks.map (lk l (LR ts).reverse β) = (ks.map (ab l.length (LR ts).length)).map ((EY n l (LR (cv l.length 0 ts)) (NB 0 (cv l.length 0 ts)) (K8 l.length (cv l.length 0 ts) ops.toList (SC ops draw))).E β) := by
      rw [List.map_map]
      refine List.map_congr_left fun r hr => ?_
      have := (Mt (l := l) (N := (LR ts).reverse) (r := r) (by simpa using (List.all_eq_true.1 c3) r hr) β).1
      rw [this]
      simp [eN, Dx.E, EY, Pp]
    rw [e]; exact hs
theorem As {P : Program} {c : Cx} {id n : Nat} {ops : Array Oper} {draw : Bool} {Q : Exit → Act → World → Prop} {y : Code} {a : Act} {w : World} {l : List CE} {G : FP} {ts : List Lj} {Nf : List GE} {L : (Nat → Value) → List CE} (hm : P.follows .mixedOrders = true) (hn : c.n = n) (hG : c.G = G)
    (h : AA c l a w) (ks : List Nat) (hA : Ac P G ops l [] 0 ops.toList ts Nf)
    (hQ : ∀ (β : Nat → Value) (a : Act) (w : World), AA c (L β) a w → y.wp P Q a w)
    (hL : Dp l Nf ks L := by repeat first | exact Dp.nil | (apply Dp.bs; exact rfl) | (apply Dp.br; exact rfl) | (apply Dp.s; exact rfl) | (apply Dp.r; exact rfl) | (apply Dp.bf; exact rfl) | (apply Dp.bn; exact rfl) | (apply Dp.s3; exact rfl) | (apply Dp.r3; exact rfl))
    (hc : Rj n l ts ops draw ks = true := by kernel_rfl) : (Code.seq (Code.region id ops draw) y).wp P Q a w :=
  wp_seq (Cd hm hn hG h ks hA hQ hL hc)

section
variable {P : Program} {G : FP} {ops : Array Oper} {l : List CE} {N Nf : List GE} {i : Nat} {o : Oper} {os : List Oper} {ts : List Lj} {dst : Option Nat} {op : Op} {ty : TypeId} {pos : String} {af : Array Edge}
theorem og (CO cons : List Nat) (C0 : List GE) (h : ∀ {β : Nat → Value}, AB P G ops o (CO.map (lk l N β)) (cons.map (lk l N β)) (fun v => C0.map fun g => g.at fun k => if k = i then v else β k))
    (hr : Ac P G ops l (Iq C0 N) (i + 1) os ts Nf) : Ac P G ops l N i (o :: os) (⟨CO, cons, C0⟩ :: ts) Nf := Ac.cons ⟨CO, cons, C0⟩ (fun _ => h) hr
theorem oe (CO cons : List Nat) {Gs : List CE} (h : ∀ {β : Nat → Value}, AB P G ops o (CO.map (lk l N β)) (cons.map (lk l N β)) (fun _ => Gs))
    (hr : Ac P G ops l (Iq (Gs.map .base) N) (i + 1) os ts Nf) : Ac P G ops l N i (o :: os) (⟨CO, cons, Gs.map .base⟩ :: ts) Nf :=
  Ac.cons ⟨CO, cons, Gs.map .base⟩ (fun β => by
    have e : (fun v : Value => (Gs.map GE.base).map fun g => g.at fun k => if k = i then v else β k) = fun _ => Gs := by
      funext v
      rw [List.map_map]
      exact (List.map_congr_left fun x _ => rfl).trans (List.map_id _)
    simp only [e]
    exact h) hr
theorem ov (CO : List Nat) {d : Nat} {V : VP} (h : ∀ {β : Nat → Value}, BM P G ⟨dst, op, ty, pos, af, none⟩ (CO.map (lk l N β)) [] (fun _ => [.slot d V]))
    (hr : Ac P G ops l (.base (.slot d V) :: N) (i + 1) os ts Nf) : Ac P G ops l N i (⟨dst, op, ty, pos, af, none⟩ :: os) (⟨CO, [], [.base (.slot d V)]⟩ :: ts) Nf :=
  oe CO [] (Gs := [.slot d V]) (AB.plain h rfl) hr
theorem od (CO : List Nat) (k : Nat) {d : Nat} {V : VP} (h : ∀ {β : Nat → Value}, BM P G ⟨dst, op, ty, pos, af, none⟩ (CO.map (lk l N β)) [] (fun _ => [.slot d V]))
    (hr : Ac P G ops l (.base (.slot d V) :: N) (i + 1) os ts Nf) : Ac P G ops l N i (⟨dst, op, ty, pos, af, none⟩ :: os) (⟨CO, [k], [.base (.slot d V)]⟩ :: ts) Nf :=
  oe CO [k] (Gs := [.slot d V]) (AB.drop _ (AB.plain h rfl)) hr
theorem ou (CO : List Nat) (k : Nat) {R : RP} (h : ∀ {β : Nat → Value}, BM P G ⟨dst, op, ty, pos, af, none⟩ (CO.map (lk l N β)) [lk l N β k] (fun _ => [.res R]))
    (hr : Ac P G ops l (.base (.res R) :: N) (i + 1) os ts Nf) : Ac P G ops l N i (⟨dst, op, ty, pos, af, none⟩ :: os) (⟨CO, [k], [.base (.res R)]⟩ :: ts) Nf :=
  oe CO [k] (Gs := [.res R]) (AB.plain h rfl) hr
theorem ob (CO : List Nat) {d : Nat} {T : TypeId} {L : List Ck} (h : ∀ {β : Nat → Value}, BM P G ⟨dst, op, ty, pos, af, none⟩ (CO.map (lk l N β)) [] (fun v => [.slot d (Av v 0), .res (lb v T L)]))
    (hr : Ac P G ops l (.res i 100000 (fun v _ => lb v T L) :: .slot d i 100000 (fun v _ => Av v 0) :: N) (i + 1) os ts Nf) :
    Ac P G ops l N i (⟨dst, op, ty, pos, af, none⟩ :: os) (⟨CO, [], [.slot d i 100000 (fun v _ => Av v 0), .res i 100000 (fun v _ => lb v T L)]⟩ :: ts) Nf :=
  og CO [] _ (AB.plain (by simpa [GE.at] using h) rfl) hr
variable {d : Nat}
theorem oc (CO cons : List Nat) {f : FuncId} {xs : List Operand} {tys : Array TypeId} {args : List VP} {pre post : List RP} {res : VP} (hcall : ∀ args w, (callFunc f args).run P w = .ok (.enter f args) w)
    (hc : AH P G f args pre (fun _ => post) res) (hx : ∀ {β : Nat → Value}, Ge G (CO.map (lk l N β)) xs args) (hr : Ac P G ops l (Iq ((.slot d res :: post.map .res).map .base) N) (i + 1) os ts Nf)
    (hC : ∀ β, cons.map (lk l N β) = pre.map .res := by intro β; rfl) :
    Ac P G ops l N i (⟨some d, .call ⟨.value (.func f), xs.toArray, tys⟩, ty, pos, af, none⟩ :: os) (⟨CO, cons, (.slot d res :: post.map .res).map .base⟩ :: ts) Nf :=
  oe CO cons (fun {β} => AB.plain (by rw [hC]; exact Gc hcall hc hx) rfl) hr
end

section
variable {G : FP} {N : List CE} {t : Nat} {V : VP} {e0 e1 e2 : CE}
theorem q0 : Bb G (.slot t V :: N) (.tmp t) V := opt 0 rfl
theorem q1 : Bb G (e0 :: .slot t V :: N) (.tmp t) V := opt 1 rfl
theorem q2 : Bb G (e0 :: e1 :: .slot t V :: N) (.tmp t) V := opt 2 rfl
theorem q3 : Bb G (e0 :: e1 :: e2 :: .slot t V :: N) (.tmp t) V := opt 3 rfl
theorem qi {k : IntKind} {x : Int} (h : E5 k x := by decide) : Bb G N (.const (.int k x)) (Ag k x) := D2 (ic h)
theorem qb {b : Bool} : Bb G N (.const (.bool b)) (AL b) := D2 (bc b)
end
theorem An {P : Program} {G : FP} {N : List CE} {d : Nat} {ty : TypeId} {pos : String} {af : Array Edge} {gd : Option (Nat × Bool)} {T T0 : TypeId} {x : Operand} {p : Value} {n : Nat} {L : List Ck} (j : Nat) (ha : ∀ w, (isAgg T).run P w = .ok true w) (hs : ∀ w, (sizeOf T).run P w = .ok n w)
    (hx : Bb G N x (Av p 0)) (he : B1 .none N j = .res (lb p T0 L) := by rfl) (hn : lens L = n := by rfl) :
    BM P G ⟨some d, .load T x, ty, pos, af, gd⟩ N [] (fun _ => [.slot d (Au L)]) :=
  AT [] L [] j ha hs hx (by simpa using he) rfl hn
theorem Aq {P : Program} {G : FP} {N : List CE} {ty : TypeId} {pos : String} {af : Array Edge} {gd : Option (Nat × Bool)} {T T0 : TypeId} {x y : Operand} {p : Value} {n : Nat} {V : VP} {L M : List Ck} (hs : ∀ w, (sizeOf T).run P w = .ok n w)
    (hx : Bb G N x (Av p 0)) (hy : Bb G N y V) (hc : Cells V M) (hm : lens L = n := by rfl) (hM : lens M = n := by rfl) :
    BM P G ⟨none, .store T x y, ty, pos, af, gd⟩ N [.res (lb p T0 L)] (fun _ => [.res (lb p T0 M)]) := by
  have := B8 (P := P) (G := G) (N := N) (ty := ty) (pos := pos) (af := af) (gd := gd) (T0 := T0) (p := p) (k := 0) [] L [] M hs hx hy hc rfl hm hM
  simpa using this

theorem CC {P : Program} {c : Cx} {l l1 l2 : List CE} {a : Act} {w : World} {Q : Exit → Act → World → Prop} {t : Nat} {b : Bool} {x y : Code} {α : Type} {X Y : Option α} {r : Option α} (h : AA c l a w) (hF : (if b = true then X else Y) = r) (i : Nat) (k1 k2 : List Nat)
    (ht : b = true → X = r → AA c l1 a w → x.wp P Q a w) (hf : b = false → Y = r → AA c l2 a w → y.wp P Q a w)
    (he : B1 .none l i = .slot t (AL b) := by rfl)
    (h1 : Ek l k1 l1 := by repeat first | exact Ek.nil | (apply Ek.s; exact rfl) | (apply Ek.r; exact rfl) | (apply Ek.f; exact rfl) | (apply Ek.n; exact rfl))
    (h2 : Ek l k2 l2 := by repeat first | exact Ek.nil | (apply Ek.s; exact rfl) | (apply Ek.r; exact rfl) | (apply Ek.f; exact rfl) | (apply Ek.n; exact rfl))
    (d1 : (distinct k1 && k1.all fun k => decide (k < l.length)) = true := by rfl) (d2 : (distinct k2 && k2.all fun k => decide (k < l.length)) = true := by rfl) :
    (Code.cond (.tmp t) x y).wp P Q a w :=
  Gx h i he (fun hb => ht hb (CQ hb hF) (by rw [h1.eq]; exact h.sub k1 d1)) (fun hb => hf hb (CT hb hF) (by rw [h2.eq]; exact h.sub k2 d2))
theorem AA.Sg {c : Cx} {l l1 : List CE} {a : Act} {w : World} (h : AA c l a w) (ks : List Nat)
    (h1 : Ek l ks l1 := by repeat first | exact Ek.nil | (apply Ek.s; exact rfl) | (apply Ek.r; exact rfl) | (apply Ek.f; exact rfl) | (apply Ek.n; exact rfl))
    (hk : (distinct ks && ks.all fun k => decide (k < l.length)) = true := by rfl) : AA c l1 a w := by
  rw [h1.eq]; exact h.sub ks hk
end
section
open Go Go.RowKit Go.Proofs
set_option linter.unusedVariables false
set_option linter.unusedSimpArgs false

section eqs
variable {P : Program}
def RC (P : Program) (d : Nat) (T : TypeId) (L M : List Ck) (b : Bool) : Prop := ∀ (Φ : Cg) (w : World) (dd : Nat) (pre post pre' post' cs ds : List Value), Cl Φ cs L → Cl Φ ds M → pre.length = pre'.length →
  ∃ u v, (part T (pre ++ cs ++ post).toArray pre.length).run P w = .ok u w ∧ (part T (pre' ++ ds ++ post').toArray pre.length).run P w = .ok v w ∧ (Op.equalIn (dd + d) T u v).run P w = .ok b w
theorem RC.Po {d d' : Nat} {T : TypeId} {L M : List Ck} {b : Bool} (h : RC P d T L M b) (hd : d ≤ d') : RC P d' T L M b := fun Φ w dd pre post pre' post' cs ds h1 h2 h3 => by
  obtain ⟨u, v, k1, k2, k3⟩ := h Φ w (dd + (d' - d)) pre post pre' post' cs ds h1 h2 h3
  rw [show dd + (d' - d) + d = dd + d' by omega] at k3
  exact ⟨u, v, k1, k2, k3⟩
theorem Mi {T : TypeId} {w : World} {pre post : List Value} {v : Value} (ha : ∀ w, (isAgg T).run P w = .ok false w) : (part T (pre ++ [v] ++ post).toArray pre.length).run P w = .ok v w := by
  simp [part, ha]
theorem Mj {T : TypeId} {w : World} {pre post cs : List Value} (ha : ∀ w, (isAgg T).run P w = .ok true w) (hs : ∀ w, (sizeOf T).run P w = .ok cs.length w) : (part T (pre ++ cs ++ post).toArray pre.length).run P w = .ok (.agg cs.toArray) w := by
  simp only [part, Sem.run_bind, ha, Result.andThen_ok, if_true, hs, Sem.run_pure]
  congr 2
  apply Array.ext'
  simp
theorem Qr {d : Nat} {T : TypeId} {V W : VP} {b : Bool} (ha : ∀ w, (isAgg T).run P w = .ok false w) (h : ∀ Φ w dd u v, V.p Φ u → W.p Φ v → (Op.equalIn (dd + d) T u v).run P w = .ok b w) : RC P d T [one V] [one W] b := by
  rintro Φ w dd pre post pre' post' cs ds ⟨x1, y1, rfl, ⟨v, rfl, _, hv⟩, h1⟩ ⟨x2, y2, rfl, ⟨u, rfl, _, hu⟩, h2⟩ hl
  have h1 : y1 = [] := h1
  have h2 : y2 = [] := h2
  subst h1 h2
  refine ⟨v, u, Mi ha, ?_, h Φ w dd v u hv hu⟩
  rw [hl]
  exact Mi ha
theorem NK {k : IntKind} {T : TypeId} {x y : Int} (hu : P.underlying T = some (.int k)) (ha : ∀ w, (isAgg T).run P w = .ok false w) : RC P 1 T [one (Ag k x)] [one (Ag k y)] (decide (x = y)) :=
  Qr ha fun Φ w dd u v h1 h2 => by
    obtain ⟨rfl, _⟩ := h1
    obtain ⟨rfl, _⟩ := h2
    rw [run_equalIn_int w dd T _ _ _ _ hu]
    congr 1
theorem Jg {t e : TypeId} {n : Nat} {i : TypeInfo} {l m : List UInt8} (hu : P.underlying t = some (.array n e)) (he : P.underlying e = some (.int .u8)) (hi : P.info? e = some i) (hs : ∀ w, (sizeOf e).run P w = .ok 1 w)
    (ha : ∀ w, (isAgg e).run P w = .ok false w) (hat : ∀ w, (isAgg t).run P w = .ok true w) (hst : ∀ w, (sizeOf t).run P w = .ok n w) : RC P 2 t [Af n l] [Af n m] (decide (l = m)) := by
  rintro Φ w dd pre post pre' post' cs ds ⟨x1, y1, rfl, ⟨hl, rfl⟩, h1⟩ ⟨x2, y2, rfl, ⟨hm, rfl⟩, h2⟩ hp
  have h1 : y1 = [] := h1
  have h2 : y2 = [] := h2
  subst h1 h2
  simp only [List.append_nil]
  refine ⟨_, _, Mj hat (by simpa [hl] using hst), ?_, F8 hu he hi hs ha hl hm dd w⟩
  rw [hp]
  exact Mj hat (by simpa [hm] using hst)
inductive Ox (P : Program) (d : Nat) : List Field → Nat → List Ck → List Ck → Bool → Prop
  | nil {off : Nat} : Ox P d [] off [] [] true
  | cons {f : Field} {fs : List Field} {off n : Nat} {L M L' M' : List Ck} {b b' : Bool} (hn : f.name ≠ "_") (ho : f.offset = off) (h : RC P d f.type L M b) (hl : lens L = n) (hm : lens M = n) (hr : Ox P d fs (off + n) L' M' b') : Ox P d (f :: fs) off (L ++ L') (M ++ M') (b && b')
theorem Pm {d : Nat} {fs : List Field} {off : Nat} {L M : List Ck} {b : Bool} (h : Ox P d fs off L M b) : ∀ (Φ : Cg) (w : World) (dd : Nat) (pre pre' cs ds : List Value), Cl Φ cs L → Cl Φ ds M → pre.length = off → pre'.length = off →
    (Op.eqFields (dd + d) (pre ++ cs).toArray (pre' ++ ds).toArray fs).run P w = .ok b w := by
  induction h with
  | nil => intro Φ w dd pre pre' cs ds h1 h2 h3 h4; simp [Op.eqFields]
  | @cons f fs off n L M L' M' b b' hn ho h hl hm hr ih =>
    intro Φ w dd pre pre' cs ds h1 h2 h3 h4
    obtain ⟨c1, c2, rfl, k1, k2⟩ := h1.split
    obtain ⟨d1, d2, rfl, q1, q2⟩ := h2.split
    obtain ⟨u, v, e1, e2, e3⟩ := h Φ w dd pre c2 pre' d2 c1 d1 k1 q1 (by omega)
    have i := ih Φ w dd (pre ++ c1) (pre' ++ d1) c2 d2 k2 q2 (by rw [List.length_append, k1.len]; omega) (by rw [List.length_append, q1.len]; omega)
    rw [h3] at e1 e2
    simp only [Op.eqFields, hn, ne_eq, not_false_eq_true, if_true, Sem.run_bind, ho, Result.andThen_ok]
    simp only [← List.append_assoc]
    rw [e1]
    simp only [Result.andThen_ok]
    rw [e2]
    simp only [Result.andThen_ok]
    rw [e3]
    simp only [Result.andThen_ok]
    cases b with
    | false => simp
    | true => simpa using i
theorem Qq {d : Nat} {t : TypeId} {fields : Array Field} {L M : List Ck} {b : Bool} (hu : P.underlying t = some (.struct fields)) (hp : P.stoodInHeld t = false) (h : Ox P d fields.toList 0 L M b) (Φ : Cg) (w : World) (dd : Nat) (cs ds : List Value) (h1 : Cl Φ cs L) (h2 : Cl Φ ds M) :
    (Op.equalIn (dd + (d + 1)) t (.agg cs.toArray) (.agg ds.toArray)).run P w = .ok b w := by
  have hfo : P.fieldsOf t = fields := by simp [Program.fieldsOf, hu]
  rw [← Nat.add_assoc, run_equalIn_struct w (dd + d) t _ _ (by rw [hfo]; exact hu) hp, hfo]
  exact Pm h Φ w dd [] [] cs ds h1 h2 rfl rfl
theorem Ld {d : Nat} {t : TypeId} {fields : Array Field} {L M : List Ck} {b : Bool} (hu : P.underlying t = some (.struct fields)) (hp : P.stoodInHeld t = false) (hg : P.eqGuardType P.depth t = false) (h : Ox P d fields.toList 0 L M b) (hd : d < 9999 := by decide) : IS P .neq t (Au L) (Au M) (AL (!b)) := by
  rintro Φ u v w x y ⟨cs, rfl, h1⟩ ⟨ds, rfl, h2⟩
  have e := Qq hu hp h Φ w (10000 - (d + 1)) cs ds h1 h2
  rw [show 10000 - (d + 1) + (d + 1) = 10000 by omega] at e
  refine ⟨.bool (!b), ?_, rfl⟩
  simp only [Sem.run_bind, run_eqGuard_agg w .neq t x y _ _ hg, Result.andThen_ok, run_neq_struct w, e]
end eqs

def Kt (P : Program) (G : FP) {α β : Type} (A : α → List VP) (B : β → VP) (g : α → Option β) : VP := ⟨fun Φ v => ∃ (f : FuncId) (cs : List Value), v = .func (.func f) #[] cs.toArray ∧ (∀ args w, (callFunc f args).run P w = .ok (.enter f args) w) ∧
    ∀ Φ', Cg.le Φ Φ' → ∀ x r, g x = some r → ∀ w vs, Dc Φ' w → G.p Φ' → EG Φ' (A x) vs → Calls P f (vs ++ cs).toArray w fun e w' => ∃ v Φ'', e = .returned v ∧ Step w Φ' [] w' Φ'' ∧ Dc Φ'' w' ∧ (B r).p Φ'' v,
  fun hle ⟨f, cs, h1, h2, h3⟩ => ⟨f, cs, h1, h2, fun Φ' hle' => h3 Φ' (Cg.le_trans hle hle')⟩⟩
theorem EG.append {Φ : Cg} : ∀ {l m : List VP} {us vs : List Value}, EG Φ l us → EG Φ m vs → EG Φ (l ++ m) (us ++ vs)
  | [], m, [], vs, _, k => k
  | V :: l, m, u :: us, vs, h, k => ⟨h.1, EG.append h.2 k⟩
  | [], _, _ :: _, _, h, _ => h.elim
  | _ :: _, _, [], _, h, _ => h.elim
theorem RZ {P : Program} {G : FP} {α β : Type} {A : α → List VP} {B : β → VP} {g : α → Option β} {f : FuncId} {Cs : List VP} {cs : List Value} {Φ : Cg} (hcall : ∀ args w, (callFunc f args).run P w = .ok (.enter f args) w)
    (hF : ∀ x r, g x = some r → AH P G f (A x ++ Cs) [] (fun _ => []) (B r)) (hc : EG Φ Cs cs) : (Kt P G A B g).p Φ (.func (.func f) #[] cs.toArray) := by
  refine ⟨f, cs, rfl, hcall, fun Φ' hle x r hg w vs h1 h2 h3 => ?_⟩
  refine (hF x r hg Φ' w (vs ++ cs) [] h1 h2 (h3.append (hc.mono hle)) trivial (by simp) (by simp)).mono fun e w' hq => ?_
  obtain ⟨v, Φ'', fs', rfl, q1, q2, q3, _⟩ := hq
  exact ⟨v, Φ'', rfl, by simpa using q1, q2, q3⟩
section ops
variable {P : Program} {G : FP} {N : List CE} {d : Nat} {ty : TypeId} {pos : String} {af : Array Edge} {gd : Option (Nat × Bool)}
theorem K7 {α β : Type} {A : α → List VP} {B : β → VP} {g : α → Option β} {x : α} {r : β} {f : Operand} {xs : List Operand} {tys : Array TypeId} (hf : Bb G N f (Kt P G A B g)) (hx : Ge G N xs (A x)) (hg : g x = some r) :
    BM P G ⟨some d, .call ⟨.value f, xs.toArray, tys⟩, ty, pos, af, gd⟩ N [] (fun _ => [.slot d (B r)]) := by
  intro Φ a w fN fC h1 h2 h3 h4 h5 h6 h7 K Q hK
  match fC, h4 with
  | [], _ =>
  have hargs := hx.eval h2 h3
  obtain ⟨fi, cs, hv, hcall, hq⟩ := hf Φ a w fN h2 h3
  have hcl := hq Φ (Cg.le_refl _) x r hg w _ h1 h2 hargs
  have hrun : (execOp a.eval ⟨some d, .call ⟨.value f, xs.toArray, tys⟩, ty, pos, af, gd⟩).run P w = .ok (.enter fi (xs.map a.eval ++ cs).toArray) w := by
    simp [execOp, resolve, hv, Deferred.ofValue, invoke, hcall]
  unfold Oper.wp
  rw [hrun, Oper.upon_enter]
  refine hcl.mono fun e w' hq => ?_
  obtain ⟨v, Φ', rfl, q1, q2, q3⟩ := hq
  exact hK v w' Φ' [[]] (by simpa using q1) q2 ⟨⟨rfl, v, Du a v d (h7 d rfl), q3⟩, trivial⟩ (by simp) (by simp)
end ops

end
section
open Go Go.RowKit Go.Proofs
set_option linter.unusedVariables false
set_option linter.unusedSimpArgs false

theorem Qb {α : Type} {v : Value} {T : TypeId} {sz : Nat} {ck : α → List Ck} {xs : List α} {Φ : Cg} {f : List Nat} {w : World} (hP : Dc Φ w) (h : (own v T sz ck xs).p Φ f w) (hf : ∀ b ∈ f, b < w.heap.size) :
    ∃ Φ', Step w Φ f w Φ' ∧ Dc Φ' w ∧ (acc v T sz ck xs).p Φ' f w ∧ ∀ b, b ∉ f → Φ' b = Φ b := by
  obtain ⟨hm, ⟨hv, hxs, rfl⟩ | ⟨b, cap, cs, zs, hv, rfl, hb, hA, hlen, hcap, hn⟩⟩ := h
  · exact ⟨Φ, Step.refl _ _ _, hP, ⟨hm, .inl ⟨hv, hxs, rfl⟩⟩, fun _ _ => rfl⟩
  · let Φ' : Cg := fun b' o => if b' = b then cs[o]? else Φ b' o
    have hle : Cg.le Φ Φ' := fun b' o v e => by
      by_cases hbb : b' = b
      · rw [hbb, hn o] at e; cases e
      · simp only [Φ', if_neg hbb]; exact e
    have hs : ∀ b', b' ∉ [b] → Φ' b' = Φ b' := fun b' hne => by funext o; simp only [Φ', if_neg (by simpa using hne : ¬ b' = b)]
    refine ⟨Φ', ⟨rfl, rfl, rfl, Nat.le_refl _, fun _ _ _ => rfl, hle, fun b' _ hne => hs b' hne⟩, ⟨fun b' o v e => ?_, fun b' o v e => ?_⟩, ⟨hm, .inr ⟨b, cap, cs, zs, hv, rfl, hb, hA.mono hle, hlen, hcap, Ex.of_eq (fun o => by simp only [Φ', if_pos trivial]), fun o ho => by simp only [Φ', if_pos trivial]; exact List.getElem?_eq_none ho⟩⟩, hs⟩
    · by_cases hbb : b' = b
      · rw [hbb]; exact hf b (by simp)
      · simp only [Φ', if_neg hbb] at e; exact hP.lt b' o v e
    · by_cases hbb : b' = b
      · subst hbb
        simp only [Φ', if_pos trivial] at e
        rw [cell_of hb]
        have : o < cs.length := by
          rcases Nat.lt_or_ge o cs.length with q | q
          · exact q
          · rw [List.getElem?_eq_none q] at e; cases e
        rw [List.getElem?_append_left this]; exact e
      · simp only [Φ', if_neg hbb] at e; exact hP.cell b' o v e
theorem Cv.OR {Φ Φ1 : Cg} {a : Act} {w : World} {f : List Nat} (hle : Cg.le Φ Φ1) (k : ∀ b, b ∉ f → Φ1 b = Φ b) : ∀ {es : List CE} {gs : List (List Nat)}, (∀ b ∈ gs.flatten, b ∉ f) → Cv Φ a.tmps w es gs → Cv Φ1 a.tmps w es gs
  | [], [], _, _ => trivial
  | e :: es, g :: gs, hb, h => ⟨CE.Gt h.1 hle (fun b hb' => k b (hb b (by simp [hb']))) (fun _ _ => rfl) (fun _ _ => rfl), Cv.OR hle k (fun b hb' => hb b (by simp only [List.flatten_cons, List.mem_append]; exact .inr hb')) h.2⟩
  | [], _ :: _, _, h => h.elim
  | _ :: _, [], _, h => h.elim
theorem Iy {α : Type} {v : Value} {T : TypeId} {sz : Nat} {c : α → List Ck} {xs : List α} : ∀ Φ f w, (own v T sz c xs).p Φ f w → v.oneCell' = true := by
  rintro Φ f w ⟨_, ⟨rfl, _⟩ | ⟨b, cap, cs, zs, rfl, _⟩⟩ <;> rfl
section ops
variable {P : Program} {G : FP} {N : List CE} {d : Nat} {ty : TypeId} {pos : String} {af : Array Edge} {gd : Option (Nat × Bool)}
theorem BM.I2 {o : Oper} {α : Type} {v : Value} {T : TypeId} {sz : Nat} {ck : α → List Ck} {xs : List α} {C : List CE} {Gv : Value → List CE} (h : BM P G o N (.res (acc v T sz ck xs) :: C) Gv) : BM P G o N (.res (own v T sz ck xs) :: C) Gv := by
  intro Φ a w fN fC h1 h2 h3 h4 h5 h6 h7 K Q hK
  match fC, h4 with
  | f :: fC, h4 =>
    simp only [List.flatten_cons] at h5 h6 hK
    have hres : (own v T sz ck xs).p Φ f w := h4.1
    obtain ⟨Φ1, k1, k2, k3, k4⟩ := Qb h1 hres (fun b hb => h6 b (by simp [hb]))
    rw [List.nodup_append] at h5
    obtain ⟨n1, n2, n3⟩ := h5
    have n2' := n2
    rw [List.nodup_append] at n2
    have hN1 := Cv.OR k1.le k4 (fun b hb hf => n3 b hb b (by simp [hf]) rfl) h3
    have hC1 := Cv.OR k1.le k4 (fun b hb hf => n2.2.2 b hf b hb rfl) h4.2
    refine h Φ1 a w fN (f :: fC) k2 (G.mono k1.le h2) hN1 ⟨k3, hC1⟩ (by simp only [List.flatten_cons]; rw [List.nodup_append]; exact ⟨n1, n2', n3⟩) (by simpa only [List.flatten_cons] using h6) h7 K Q fun v w' Φ' fG q1 q2 q3 q4 q5 => ?_
    simp only [List.flatten_cons] at q1 q5
    exact hK v w' Φ' fG ((k1.LW (F' := f ++ fC.flatten) fun b hb _ => by simp [hb]).trans q1 (fun b hb _ => hb)) q2 q3 q4 q5
theorem Kh {α : Type} {t e : TypeId} {sz : Nat} {c : α → List Ck} (hu : P.underlying t = some (.slice e)) (hs : ∀ w, (sizeOf e).run P w = .ok sz w) {z : Value} (hz : ∀ w, (zeroValue e).run P w = .ok z w) :
    BM P G ⟨some d, .buildSlice t 0 #[], ty, pos, af, gd⟩ N [] (fun v => [.slot d (Az v), .res (own v e sz c ([] : List α))]) := by
  intro Φ a w fN fC h1 h2 h3 h4 h5 h6 h7 K Q hK
  match fC, h4 with
  | [], _ =>
    have hrun : (execOp a.eval ⟨some d, .buildSlice t 0 #[], ty, pos, af, gd⟩).run P w = .ok (.value (.slice (some ⟨w.heap.size, 0, none⟩) 0 0)) (w.alloc (.cells #[] e)) := by
      simp [execOp, Instr.buildSlice, run_underlying hu, hs, hz, Instr.fill, newRow]
      have e0 : (Array.range 0).map (fun _ => (default : Value)) = #[] := by apply Array.ext'; simp [Array.toList_range]
      rw [e0]
    unfold Oper.wp
    rw [hrun, Oper.upon_value]
    refine hK _ _ Φ [[], [w.heap.size]] (GY w Φ _) (HM h1 _) ⟨⟨rfl, _, Du a _ d (h7 d rfl), rfl⟩, ⟨by simp [CW], .inr ⟨w.heap.size, 0, [], [], rfl, rfl, ?_, rfl, by simp, by simp, fun o => ?_⟩⟩, trivial⟩ (by simp) (by simp)
    · rw [heap_alloc_new]; rfl
    · cases e : Φ w.heap.size o with
      | none => rfl
      | some v => have := h1.lt _ o v e; omega
theorem GR {s : TypeId} {x : Operand} {q : Value} {fields : Array Field} {i n : Nat} {fd : Field} (k m : Nat) (hu : P.underlying s = some (.struct fields)) (hi : fields[i]? = some fd) (hs : ∀ w, (sizeOf fd.type).run P w = .ok n w) (hn : n ≠ 0)
    (hx : Bb G N x (MB q k)) (hm : k + fd.offset = m) : BM P G ⟨some d, .fieldAddr s x i, ty, pos, af, gd⟩ N [] (fun _ => [.slot d (MB q m)]) :=
  BM.val fun Φ a w f _ hG hN => by
    obtain ⟨b, len, cap, hp, hv⟩ := hx Φ a w f hG hN
    refine ⟨_, ?_, b, len, cap, hp, rfl⟩
    simp only [execOp, hv]
    rw [Sem.run_bind, Hp hu hi hs hn, ← hm]
    rfl
theorem Qs {α : Type} {q : Value} {k : Nat} {Φ : Cg} {v : Value} {T : TypeId} {sz : Nat} {c : α → List Ck} {xs : List α} {f : List Nat} {w : World} (h : (MB q k).p Φ v) (ho : (own q T sz c xs).p Φ f w) :
    ∃ b cap cs zs, q = .slice (some ⟨b, 0, none⟩) xs.length cap ∧ f = [b] ∧ w.heap[b]? = some (.cells (cs ++ zs).toArray T (0, 0)) ∧ Df Φ c cs xs ∧ (cs ++ zs).length = cap * sz ∧ xs.length ≤ cap ∧ (∀ o, Φ b o = none) ∧ v = .pointer (some ⟨b, k, none⟩) := by
  obtain ⟨b, len, cap, hq, hv⟩ := h
  obtain ⟨hm, ⟨e, _⟩ | ⟨b', cap', cs, zs, e, hf, hb, hA, hlen, hcap, hn⟩⟩ := ho
  · rw [e] at hq; cases hq
  · have : b' = b := by rw [hq] at e; simp at e; exact e.1.symm
    subst this
    exact ⟨b', cap', cs, zs, e, hf, hb, hA, hlen, hcap, hn, hv⟩
theorem G0 {α : Type} [Inhabited α] {T T0 : TypeId} {x y : Operand} {q : Value} {k sz n : Nat} {V : VP} {c : α → List Ck} {xs : List α} {i : Int} {z : α} (hsz : ∀ x, lens (c x) = sz) (pre mid post mid' : List Ck) (hs : ∀ w, (sizeOf T).run P w = .ok n w)
    (hx : Bb G N x (MB q k)) (hy : Bb G N y V) (hV : Cells V mid') (hc : c (xs.getD i.toNat default) = pre ++ mid ++ post) (hz : c z = pre ++ mid' ++ post) (hn : lens mid = n) (hn' : lens mid' = n) (hk : k = i.toNat * sz + lens pre) (hi : 0 ≤ i ∧ i < xs.length) :
    BM P G ⟨none, .store T x y, ty, pos, af, gd⟩ N [.res (own q T0 sz c xs)] (fun _ => [.res (own q T0 sz c (xs.set i.toNat z))]) := by
  intro Φ a w fN fC h1 h2 h3 h4 h5 h6 h7 K Q hK
  match fC, h4 with
  | [f], ⟨ho, _⟩ =>
    have hmx : xs.length ≤ CW := ho.1
    obtain ⟨b, cap, cs, zs, hq, rfl, hb, hA, hlen, hcap, hfree, hv⟩ := Qs (hx Φ a w fN h2 h3) ho
    have hit : i.toNat < xs.length := by omega
    obtain ⟨us, vs, ws, rfl, q1, q2, q3, q4⟩ := hA.at hsz i.toNat hit
    have e1 : xs.getD i.toNat default = xs[i.toNat] := by simp [List.getD, hit]
    rw [← e1, hc] at q2
    obtain ⟨v12, v3, rfl, r1, r2⟩ := q2.split
    obtain ⟨v1, v2, rfl, r3, r4⟩ := r1.split
    have hcell := hV Φ _ (hy Φ a w fN h2 h3)
    have hyl : (a.eval y).cells.toList.length = n := by rw [hcell.len, hn']
    have l1 := r3.len
    have l2 := r4.len
    obtain ⟨w', s1, s2, s3, s4, s5, s6, s7⟩ := E8 (P := P) (b := b) (k := k) (a.eval y).cells.toList 0 w ((us ++ (v1 ++ v2 ++ v3) ++ ws) ++ zs) hb (by
      simp only [List.length_append] at *; omega) hcell.cell
    have hblk : w'.heap[b]? = some (.cells ((us ++ (v1 ++ (a.eval y).cells.toList ++ v3) ++ ws) ++ zs).toArray T0 (0, 0)) := by
      rw [s2]
      congr 3
      have t1 : ((us ++ (v1 ++ v2 ++ v3) ++ ws) ++ zs).take (k + 0) = us ++ v1 := by
        rw [Nat.add_zero, hk, ← q1, ← l1]
        simp only [List.append_assoc]
        rw [List.take_length_add_append, List.take_left]
      have t2 : ((us ++ (v1 ++ v2 ++ v3) ++ ws) ++ zs).drop (k + 0 + (a.eval y).cells.toList.length) = v3 ++ ws ++ zs := by
        rw [Nat.add_zero, hk, ← q1, ← l1, hyl, ← hn, ← l2]
        simp only [List.append_assoc]
        rw [Nat.add_assoc, List.drop_length_add_append, List.drop_length_add_append, List.drop_left]
      rw [t1, t2]
      simp
    have hrun : (execOp a.eval ⟨none, .store T x y, ty, pos, af, gd⟩).run P w = .ok .skip w' := by
      have hsz' : ¬ (a.eval y).cells.size ≠ n := by rw [← Array.length_toList, hyl]; simp
      simp only [execOp, hv, Instr.storeAt, Instr.sureAddr, storeVar, Sem.run_bind, Sem.run_pure, Result.andThen_ok, hs]
      simp only [if_neg hsz']
      simp [s1]
    unfold Oper.wp
    rw [hrun, Oper.upon_skip]
    have hl' : xs.set i.toNat z = xs.take i.toNat ++ z :: xs.drop (i.toNat + 1) := Im _ _ _ hit
    have hnew : Cl Φ (v1 ++ (a.eval y).cells.toList ++ v3) (c z) := by rw [hz]; exact (r3.append hcell).append r2
    refine hK undef w' Φ [[b]] ⟨s5, s6, s7, Nat.le_of_eq s4.symm, fun c hc' hne => s3 c (fun e => hne (by simp [e])), Cg.le_refl _, fun _ _ _ => rfl⟩
      ⟨fun c o v e => by rw [s4]; exact h1.lt c o v e, fun c o v e => ?_⟩ ⟨⟨by simpa using hmx, .inr ⟨b, cap, _, zs, by simpa using hq, rfl, hblk, ?_, ?_, by simpa using hcap, hfree⟩⟩, trivial⟩ (by simp) (fun c hc' => ?_)
    · have hne : c ≠ b := fun e' => by rw [e', hfree o] at e; cases e
      exact (World.cell?_of_block (w := w) (s3 c hne)).trans (h1.cell c o v e)
    · rw [hl', List.append_assoc]
      exact q3.append ⟨_, ws, rfl, hnew, q4⟩
    · simp only [List.length_append] at hlen ⊢; omega
    · simp at hc'
      subst hc'
      have := h6 c (by simp)
      exact ⟨by rw [s4]; exact this, .inl (by simp)⟩
inductive GM : List CE → List Ck → List Ck → Prop
  | nil {C : List CE} : GM C [] []
  | JH {C : List CE} {k : Ck} {L L' : List Ck} (h : GM C L L') : GM C (k :: L) (k :: L')
  | sub {C : List CE} {L L' : List Ck} {α : Type} {q : Value} {T : TypeId} {sz : Nat} {c : α → List Ck} {xs : List α} (j : Nat) (hr : B1 .none C j = .res (acc q T sz c xs)) (h : GM C L L') : GM C (one (Az q) :: L) (one (AJ c xs) :: L')
theorem GM.rel {C : List CE} {Φ : Cg} {tmps : Array Value} {w : World} {f : List (List Nat)} (hC : Cv Φ tmps w C f) : ∀ {L L' : List Ck} {cs : List Value}, GM C L L' → Cl Φ cs L → Cl Φ cs L'
  | _, _, _, .nil, h => h
  | _, _, _, .JH k, ⟨xs, ys, e, h1, h2⟩ => ⟨xs, ys, e, h1, GM.rel hC k h2⟩
  | _, _, _, .sub j hr k, ⟨xs, ys, e, ⟨v, hv, h1, h2⟩, h3⟩ => by
    obtain ⟨g, ho⟩ := hC.res j hr
    have h2 : v = _ := h2
    subst h2
    exact ⟨xs, ys, e, ⟨v, hv, h1, KD ho⟩, GM.rel hC k h3⟩
theorem Mo {T T0 : TypeId} {x : Operand} {p : Value} {n : Nat} {L L' : List Ck} (Rs : List RP) (j : Nat) (ha : ∀ w, (isAgg T).run P w = .ok true w) (hs : ∀ w, (sizeOf T).run P w = .ok n w)
    (hx : Bb G N x (Av p 0)) (he : B1 .none N j = .res (lb p T0 L)) (hn : lens L = n) (hsub : GM (Rs.map .res) L L') : BM P G ⟨some d, .load T x, ty, pos, af, gd⟩ N (Rs.map .res) (fun _ => .slot d (Au L') :: Rs.map .res) := by
  intro Φ a w fN fC h1 h2 h3 h4 h5 h6 h7 K Q hK
  obtain ⟨b, hp, hv⟩ := hx Φ a w fN h2 h3
  obtain ⟨g, b', cs, hp', _, hb, hL, _⟩ := h3.res j he
  have : b' = b := by rw [hp] at hp'; simpa using hp'.symm
  subst this
  have hrun : (execOp a.eval ⟨some d, .load T x, ty, pos, af, gd⟩).run P w = .ok (.value (.agg cs.toArray)) w := by
    simp only [execOp, hv]
    rw [Sem.run_bind, Ez (cs := cs) ha hs (by rw [hL.len, hn]) (fun r v hr => by rw [cell_of hb, Nat.zero_add]; exact hr)]
    rfl
  unfold Oper.wp
  rw [hrun, Oper.upon_value]
  rw [List.nodup_append] at h5
  exact hK _ w Φ ([] :: fC) ((Step.refl w Φ []).LW (by simp)) h1 ⟨⟨rfl, _, Du a _ d (h7 d rfl), cs, rfl, hsub.rel h4 hL⟩, Cv.Na (Cv.Lr h4)⟩ (by simpa using h5.2.1) (fun b hb => ⟨h6 b (by simp only [List.mem_append]; exact .inr (by simpa using hb)), .inl (by simpa using hb)⟩)
end ops

end
section
open Go Go.RowKit Go.Proofs
set_option linter.unusedVariables false
set_option linter.unusedSimpArgs false

section ops
variable {P : Program} {G : FP} {N : List CE} {d : Nat} {ty : TypeId} {pos : String} {af : Array Edge} {gd : Option (Nat × Bool)}
theorem M7 {k : IntKind} {x y : Operand} {m n : Int} {tys : Array TypeId} (hx : Bb G N x (Ag k m)) (hy : Bb G N y (Ag k n)) :
    BM P G ⟨some d, .call ⟨.builtin .min, #[x, y], tys⟩, ty, pos, af, gd⟩ N [] (fun _ => [.slot d (Ag k (if n < m then n else m))]) :=
  BM.val fun Φ a w f _ hG hN => by
    obtain ⟨h1, h2⟩ := hx Φ a w f hG hN
    obtain ⟨h3, h4⟩ := hy Φ a w f hG hN
    refine ⟨.int k (if n < m then n else m), ?_, rfl, by split <;> assumption⟩
    simp [execOp, resolve, h1, h3, invoke, builtin, Builtin.min_, Builtin.min2]
end ops

end
section
open Go Go.RowKit Go.Proofs
set_option linter.unusedVariables false
theorem O3 {P : Program} {G : FP} {N : List CE} {d : Nat} {ty : TypeId} {pos : String} {af : Array Edge} {gd : Option (Nat × Bool)} {f : FuncId} {x y z : Operand} {a b c : Int} {tys : Array TypeId}
    (hr : ∀ (a b c : Int) (w : World), 0 ≤ a → 0 ≤ b → 0 ≤ c → c ≤ 1 → (callFunc f #[.int .u64 a, .int .u64 b, .int .u64 c]).run P w = .ok (.value (.tuple #[.int .u64 ((a + b + c) % 18446744073709551616), .int .u64 ((a + b + c) / 18446744073709551616)])) w)
    (hx : Bb G N x (Ag .u64 a)) (hy : Bb G N y (Ag .u64 b)) (hz : Bb G N z (Ag .u64 c)) (hv : c ≤ 1) :
    BM P G ⟨some d, .call ⟨.value (.func f), #[x, y, z], tys⟩, ty, pos, af, gd⟩ N [] (fun _ => [.slot d (Db [Ag .u64 ((a + b + c) % 18446744073709551616), Ag .u64 ((a + b + c) / 18446744073709551616)])]) :=
  BM.val fun Φ ac w fp _ hG hN => by
    obtain ⟨h1, h2⟩ := hx Φ ac w fp hG hN
    obtain ⟨h3, h4⟩ := hy Φ ac w fp hG hN
    obtain ⟨h5, h6⟩ := hz Φ ac w fp hG hN
    have r2 := h2; have r4 := h4; have r6 := h6
    simp [E5, IntKind.min, IntKind.max, IntKind.bits, IntKind.signed] at r2 r4 r6
    refine ⟨.tuple #[.int .u64 ((a + b + c) % 18446744073709551616), .int .u64 ((a + b + c) / 18446744073709551616)], ?_, ?_⟩
    · have e : ac.eval (.func f) = .func (.func f) #[] #[] := rfl
      simp [execOp, resolve, e, h1, h3, h5, Deferred.ofValue, invoke, hr a b c w (by omega) (by omega) (by omega) hv]
    · exact ⟨_, rfl, ⟨⟨rfl, by simp [E5, IntKind.min, IntKind.max, IntKind.bits, IntKind.signed]; omega⟩, ⟨rfl, by simp [E5, IntKind.min, IntKind.max, IntKind.bits, IntKind.signed]; omega⟩, trivial⟩⟩

end
section
open Go Go.RowKit Go.Proofs
set_option linter.unusedVariables false
set_option linter.unusedSimpArgs false
section ops
variable {P : Program} {G : FP} {N : List CE} {d : Nat} {ty : TypeId} {pos : String} {af : Array Edge} {gd : Option (Nat × Bool)}
theorem Hv {α β : Type} {A : α → List VP} {B : β → VP} {g : α → Option β} {f : FuncId} {xs : List Operand} {Cs : List VP} (hcall : ∀ args w, (callFunc f args).run P w = .ok (.enter f args) w)
    (hF : ∀ x r, g x = some r → AH P G f (A x ++ Cs) [] (fun _ => []) (B r)) (hx : Ge G N xs Cs) :
    BM P G ⟨some d, .makeFunc (.func f) #[] xs.toArray, ty, pos, af, gd⟩ N [] (fun _ => [.slot d (Kt P G A B g)]) :=
  BM.val fun Φ a w fp _ hG hN => ⟨.func (.func f) #[] (xs.map a.eval).toArray, by simp [execOp, Instr.makeFunc], RZ hcall hF (hx.eval hG hN)⟩
end ops
end
section
open Go Go.RowKit Go.Proofs
set_option linter.unusedVariables false
set_option linter.unusedSimpArgs false
def FY (k : IntKind) (x : Int) : Value := .int k x
section keys
variable {P : Program} {kt : TypeId}
theorem Ja {q : IntKind} (hu : P.underlying kt = some (.int q)) : KF P kt (FY q) (fun x => E5 q x) where
  check b k w _ := by
    unfold Instr.checkKey
    simp [FY, run_underlying hu]
  find es ks k w _ hk _ := by
    have key : ∀ (es : List MapEntry) (ks : List Int) (i : Nat), es.map (·.key) = ks.map (FY q) → Instr.findNow (.int q) (FY q k) es i = some ((Jo k ks).bind fun j => es[j]?.map fun e => (i + j, e.val)) := by
      intro es
      induction es with
      | nil => intro ks i h; cases ks with
                             | nil => rfl
                             | cons x ks => simp at h
      | cons e es ih =>
        intro ks i h
        cases ks with
        | nil => simp at h
        | cons x ks =>
          simp only [List.map_cons, List.cons.injEq] at h
          have hs : Instr.sameNow (.int q) (FY q k) e.key = some (decide (k = x)) := by
            rw [h.1]
            simp only [Instr.sameNow, FY, if_true]
            rfl
          unfold Instr.findNow
          rw [hs]
          by_cases hx : k = x
          · simp [hx, Jo]
          · simp only [hx, decide_false, Jo, if_neg hx]
            rw [ih ks (i + 1) h.2]
            cases Jo k ks with
            | none => rfl
            | some j => simp [Nat.add_comm, Nat.add_left_comm]
    have := key es ks 0 hk
    simp only [Nat.zero_add] at this
    simp only [Instr.findKey, Sem.run_bind, run_underlying hu, Result.andThen_ok]
    rw [this]
    rfl
  same k := by simp [Instr.sameBits, FY]
theorem Jc {q : IntKind} {x : Int} : ∀ Φ u, (Ag q x).p Φ u → u = FY q x ∧ E5 q x := fun _ _ h => ⟨h.1, h.2⟩
end keys

end
end Go.Proofs.YteboiefnflipjaaGreatDoor
