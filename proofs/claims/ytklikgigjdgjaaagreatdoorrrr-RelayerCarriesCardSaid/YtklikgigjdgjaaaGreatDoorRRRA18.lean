/- The operations on maps of one's own. -/
import Derived.Test.YtklikgigjdgjaaaGreatDoorRRRA17
namespace Go.Proofs.YtklikgigjdgjaaaGreatDoorRRR
open Go Go.RowKit

/-- A map of one's own: its entries, in the order in which they came. -/
def mapR {K V : Type} (v : Value) (kV : K → Value) (kOk : K → Prop) (eR : Value → V → RP) (m : List (K × V)) : RP := ⟨fun Φ f w => ∃ b es clock fs, v = .map (some b) ∧ f = b :: List.flatten fs ∧ w.heap[b]? = some (.map es clock) ∧
    EntsL Φ w kV eR es.toList m fs ∧ (es.toList.map (·.born)).Nodup ∧ (∀ e ∈ es.toList, e.born < clock) ∧ (m.map (·.1)).Nodup ∧ ∀ x ∈ m, kOk x.1, by
  rintro Φ Φ' f w w' hle hs hb ⟨b, es, clock, fs, h1, rfl, h3, h4, h5⟩
  exact ⟨b, es, clock, fs, h1, rfl, by rw [hb b (by simp)]; exact h3, h4.loc hle (fun c hc => hs c (by simp [hc])) (fun c hc => hb c (by simp [hc])), h5⟩⟩

theorem setObj_heap {w : World} {b : Nat} {o o' : Obj} (h : w.heap[b]? = some o) : ({ w with heap := w.heap.setIfInBounds b o' } : World).heap[b]? = some o' := by
  have hlt : b < w.heap.size := (Array.getElem?_eq_some_iff.1 h).1
  simp [Array.getElem?_setIfInBounds, hlt]
theorem setObj_other {w : World} {b c : Nat} {o' : Obj} (h : c ≠ b) : ({ w with heap := w.heap.setIfInBounds b o' } : World).heap[c]? = w.heap[c]? := by
  simp [Array.getElem?_setIfInBounds, Ne.symm h]
theorem pub_map {Φ : Pub} {w : World} {b : Nat} {es : Array MapEntry} {clock : Nat} (hP : PubOk Φ w) (h : w.heap[b]? = some (.map es clock)) (o : Nat) : Φ b o = none := by
  cases e : Φ b o with
  | none => rfl
  | some v =>
    have := hP.cell b o v e
    simp [World.cell?, h] at this
theorem pub_setObj {Φ : Pub} {w : World} {b : Nat} {es : Array MapEntry} {clock : Nat} {o' : Obj} (hP : PubOk Φ w) (h : w.heap[b]? = some (.map es clock)) : PubOk Φ { w with heap := w.heap.setIfInBounds b o' } :=
  ⟨fun c o v e => by simpa using hP.lt c o v e, fun c o v e => by
    have hne : c ≠ b := fun e' => by rw [e', pub_map hP h o] at e; cases e
    exact (World.cell?_of_block (w := w) (setObj_other hne)).trans (hP.cell c o v e)⟩
theorem step_setObj (w : World) (Φ : Pub) (b : Nat) (o' : Obj) : Step w Φ [b] { w with heap := w.heap.setIfInBounds b o' } Φ :=
  ⟨rfl, rfl, rfl, by simp, fun c hc hne => setObj_other (by simpa using hne), Pub.le_refl _, fun _ _ _ => rfl⟩

section ops
variable {P : Program} {G : FP} {N : List Ent} {d : Nat} {ty : TypeId} {pos : String} {af : Array Edge} {gd : Option (Nat × Bool)} {K V : Type} {kV : K → Value} {kOk : K → Prop} {eR : Value → V → RP}

theorem op_makeMap {t : TypeId} : OpOk P G ⟨some d, .makeMap t none, ty, pos, af, gd⟩ N [] (fun v => [.slot d (eqVP v), .res (mapR v kV kOk eR [])]) := by
  intro Φ a w fN fC h1 h2 h3 h4 h5 h6 h7 K Q hK
  match fC, h4 with
  | [], _ =>
    have hrun : (execOp a.eval ⟨some d, .makeMap t none, ty, pos, af, gd⟩).run P w = .ok (.value (.map (some w.heap.size))) (w.alloc (.map #[] 0)) := by
      simp [execOp, Instr.makeMap]
    unfold Oper.wp
    rw [hrun, Oper.upon_value]
    exact hK _ _ Φ [[], [w.heap.size]] (step_alloc w Φ _) (pub_alloc h1 _) ⟨⟨rfl, _, put_get a _ d (h7 d rfl), rfl⟩, ⟨w.heap.size, #[], 0, [], rfl, rfl, heap_alloc_new _ _, trivial, by simp, by simp, by simp, by simp⟩, trivial⟩ (by simp) (by simp)

variable [DecidableEq K]
theorem find_map {kt : TypeId} (hk : KeyOk P kt kV kOk) {Φ : Pub} {w : World} {es : List MapEntry} {m : List (K × V)} {fs : List (List Nat)} (h : EntsL Φ w kV eR es m fs) (hall : ∀ x ∈ m, kOk x.1) {k : K} (hkk : kOk k) (w' : World) :
    (Instr.findKey kt (kV k) es).run P w' = .ok ((kix k (m.map (·.1))).bind fun i => es[i]?.map fun e => (i, e.val)) w' :=
  hk.find es (m.map (·.1)) k w' hkk h.keys (fun x hx => by obtain ⟨y, hy, rfl⟩ := List.mem_map.1 hx; exact hall y hy)

/-- The entry of a key, or the zero value: told by what an element reads as. -/
theorem op_lookup {t kt e : TypeId} {x y : Operand} {c : Bool} {v z : Value} {m : List (K × V)} {k : K} {Vk : VP} {R0 : RP} (eV : V → VP) (dflt : V) (j : Nat) (hu : P.underlying t = some (.map kt e)) (hk : KeyOk P kt kV kOk) (hz : ∀ w, (zeroValue e).run P w = .ok z w)
    (hx : OpndOk G N x (eqVP v)) (hy : OpndOk G N y Vk) (hVk : ∀ Φ u, Vk.p Φ u → u = kV k ∧ kOk k) (hR : nthD .none N j = .res R0) (hR0 : ∀ Φ f w, R0.p Φ f w → ∃ g, (mapR v kV kOk eR m).p Φ g w)
    (hread : ∀ Φ f w u x, (eR u x).p Φ f w → (eV x).p Φ u) (hdf : ∀ Φ, (eV dflt).p Φ z) :
    OpOk P G ⟨some d, .lookup t x y c, ty, pos, af, gd⟩ N [] (fun _ => [.slot d (if c then tupVP [eV ((lkp k m).getD dflt), boolVP (lkp k m).isSome] else eV ((lkp k m).getD dflt))]) :=
  OpOk.val fun Φ a w f _ hG hN => by
    have hv : a.eval x = v := hx Φ a w f hG hN
    obtain ⟨hkv, hkk⟩ := hVk Φ _ (hy Φ a w f hG hN)
    obtain ⟨f0, hf0⟩ := hN.res j hR
    obtain ⟨g, b, es, clock, fs, rfl, _, hb, hE, _, _, _, hall⟩ := hR0 _ _ _ hf0
    have hfind := find_map hk hE hall hkk w
    have hgo : (getObj b).run P w = .ok (.map es clock) w := by simp [getObj, Sem.run, hb]
    cases hi : kix k (m.map (·.1)) with
    | none =>
      obtain ⟨h1, _, _⟩ := kix_none hi
      rw [hi] at hfind
      have hfind : (Instr.findKey kt (kV k) es.toList).run P w = .ok none w := hfind
      refine ⟨if c then .tuple #[z, .bool false] else z, ?_, ?_⟩
      · simp only [execOp, hv, hkv, Instr.lookup, Sem.run_bind, run_underlying hu, Result.andThen_ok, hgo, Sem.run_pure, hk.check _ _ _ hkk, hfind, hz]
      · rw [h1]
        cases c
        · exact hdf Φ
        · exact ⟨[z, .bool false], rfl, hdf Φ, rfl, trivial⟩
    | some i =>
      obtain ⟨x', h1, h2, _, h4⟩ := kix_some hi
      obtain ⟨en, f', h5, _, _, h6⟩ := hE.get i _ h1
      rw [hi] at hfind
      have hfind : (Instr.findKey kt (kV k) es.toList).run P w = .ok (some (i, en.val)) w := by rw [hfind]; simp only [Option.bind_some, h5, Option.map_some]
      refine ⟨if c then .tuple #[en.val, .bool true] else en.val, ?_, ?_⟩
      · simp only [execOp, hv, hkv, Instr.lookup, Sem.run_bind, run_underlying hu, Result.andThen_ok, hgo, Sem.run_pure, hk.check _ _ _ hkk, hfind]
      · rw [h2]
        have := hread _ _ _ _ _ h6
        cases c
        · exact this
        · exact ⟨[en.val, .bool true], rfl, this, rfl, trivial⟩
omit [DecidableEq K] in
theorem op_len_map {t kt e ty' : TypeId} {x : Operand} {v : Value} {m : List (K × V)} {R0 : RP} (j : Nat) (hu : P.underlying t = some (.map kt e)) (hx : OpndOk G N x (eqVP v)) (hR : nthD .none N j = .res R0) (hR0 : ∀ Φ f w, R0.p Φ f w → ∃ g, (mapR v kV kOk eR m).p Φ g w) (hm : m.length ≤ mxl) :
    OpOk P G ⟨some d, .call ⟨.builtin .len, #[x], #[t]⟩, ty', pos, af, gd⟩ N [] (fun _ => [.slot d (intVP .i64 m.length)]) :=
  OpOk.val fun Φ a w f _ hG hN => by
    have hv : a.eval x = v := hx Φ a w f hG hN
    obtain ⟨f0, hf0⟩ := hN.res j hR
    obtain ⟨g, b, es, clock, fs, rfl, _, hb, hE, _⟩ := hR0 _ _ _ hf0
    have hgo : (getObj b).run P w = .ok (.map es clock) w := by simp [getObj, Sem.run, hb]
    have hl := hE.len.1
    refine ⟨goInt es.size, ?_, ?_, len_in hm⟩
    · simp [execOp, resolve, hv, invoke, builtin, Builtin.len_, run_underlying hu, hgo]
    · have : es.size = m.length := by simpa using hl
      rw [this]; rfl

theorem nodup_snoc {α : Type _} {l : List α} {x : α} (h : l.Nodup) (hx : x ∉ l) : (l ++ [x]).Nodup :=
  List.nodup_append.2 ⟨h, by simp, fun a ha b hb e => by simp at hb; subst hb; subst e; exact hx ha⟩

/-- m[k] = y: elements that hold no blocks of their own. -/
theorem op_mapUpdate {t kt e : TypeId} {x y u : Operand} {v : Value} {m : List (K × V)} {k : K} {n : V} {Vk : VP} {eV : V → VP} (hu : P.underlying t = some (.map kt e)) (hk : KeyOk P kt kV kOk)
    (hx : OpndOk G N x (eqVP v)) (hy : OpndOk G N y Vk) (hVk : ∀ Φ u, Vk.p Φ u → u = kV k ∧ kOk k) (hn : OpndOk G N u (eV n)) :
    OpOk P G ⟨none, .mapUpdate t x y u, ty, pos, af, gd⟩ N [.res (mapR v kV kOk (fun u y => RP.val (eV y) u) m)] (fun _ => [.res (mapR v kV kOk (fun u y => RP.val (eV y) u) (upd k n m))]) := by
  intro Φ a w fN fC h1 h2 h3 h4 h5 h6 h7 KK Q hK
  match fC, h4 with
  | [f], ⟨⟨b, es, clock, fs, hveq, hf, hb, hE, hbn, hbc, hkn, hall⟩, _⟩ =>
    subst hf
    have hv : a.eval x = v := hx Φ a w fN h2 h3
    obtain ⟨hkv, hkk⟩ := hVk Φ _ (hy Φ a w fN h2 h3)
    have hnv := hn Φ a w fN h2 h3
    have hfind := find_map hk hE hall hkk w
    have hgo : (getObj b).run P w = .ok (.map es clock) w := by simp [getObj, Sem.run, hb]
    have hso : ∀ o', (setObj b o').run P w = .ok () { w with heap := w.heap.setIfInBounds b o' } := fun o' => by simp [setObj, Sem.run, hb]
    have hfs0 : ∀ (es : List MapEntry) (m : List (K × V)) (fs : List (List Nat)), EntsL Φ w kV (fun u y => RP.val (eV y) u) es m fs → fs.flatten = [] := by
      intro es
      induction es with
      | nil => intro m fs h; match m, fs, h with
                             | [], [], _ => rfl
                             | [], _ :: _, h => exact h.elim
                             | _ :: _, _, h => exact h.elim
      | cons e es ih => intro m fs h; match m, fs, h with
                                      | [], _, h => exact h.elim
                                      | _ :: _, [], h => exact h.elim
                                      | _ :: m, f :: fs, h => simp [h.2.1.1, ih m fs h.2.2]
    have hff := hfs0 _ _ _ hE
    rw [hff] at hK h5 h6
    have hdone : ∀ (es' : Array MapEntry) (clock' : Nat) (fs' : List (List Nat)), EntsL Φ w kV (fun u y => RP.val (eV y) u) es'.toList (upd k n m) fs' → (es'.toList.map (·.born)).Nodup → (∀ e ∈ es'.toList, e.born < clock') →
        (execOp a.eval ⟨none, .mapUpdate t x y u, ty, pos, af, gd⟩).run P w = .ok .skip { w with heap := w.heap.setIfInBounds b (.map es' clock') } → (Oper.mk none (.mapUpdate t x y u) ty pos af gd).wp P a w KK Q := by
      intro es' clock' fs' q1 q2 q3 q4
      have hff' := hfs0 _ _ _ q1
      unfold Oper.wp
      rw [q4, Oper.upon_skip]
      refine hK undef _ Φ [b :: fs'.flatten] (by simpa using step_setObj w Φ b _) (pub_setObj h1 hb) ⟨⟨b, es', clock', fs', hveq, rfl, setObj_heap hb, q1.loc (Pub.le_refl _) (fun _ _ => rfl) (fun c hc => by rw [hff'] at hc; simp at hc), q2, q3, upd_keys k n m hkn, upd_all k n hkk m hall⟩, trivial⟩ (by simp [hff']) (fun c hc => ?_)
      simp [hff'] at hc
      subst hc
      have := h6 c (by simp)
      exact ⟨by simpa using this, .inl (by simp)⟩
    subst hveq
    cases hi : kix k (m.map (·.1)) with
    | none =>
      obtain ⟨_, q2, _⟩ := kix_none hi
      rw [hi] at hfind
      have hfind : (Instr.findKey kt (kV k) es.toList).run P w = .ok none w := hfind
      refine hdone (es.push { key := kV k, val := a.eval u, born := clock }) (clock + 1) (fs ++ [[]]) ?_ ?_ ?_ ?_
      · rw [q2, Array.toList_push]
        exact hE.append ⟨rfl, ⟨rfl, hnv⟩, trivial⟩
      · rw [Array.toList_push, List.map_append]
        refine nodup_snoc hbn fun hm => ?_
        obtain ⟨e', he', hbe⟩ := List.mem_map.1 hm
        have := hbc e' he'
        simp at hbe
        omega
      · intro e' he'
        rw [Array.toList_push, List.mem_append] at he'
        rcases he' with he' | he'
        · have := hbc e' he'; omega
        · simp at he'; subst he'; simp
      · simp only [execOp, hv, hkv, Instr.mapUpdate, Sem.run_bind, run_underlying hu, Result.andThen_ok, hgo, hk.check _ _ _ hkk, hfind, hso]
        rfl
    | some i =>
      obtain ⟨x', q1, _, q3, q4⟩ := kix_some hi
      obtain ⟨en, f', q5, q6, q7, q8⟩ := hE.get i _ q1
      rw [hi] at hfind
      have hfind : (Instr.findKey kt (kV k) es.toList).run P w = .ok (some (i, en.val)) w := by rw [hfind]; simp only [Option.bind_some, q5, Option.map_some]
      have hest : es[i]? = some en := by simpa using q5
      have hil : i < es.size := (Array.getElem?_eq_some_iff.1 hest).1
      have hge : es[i] = en := (Array.getElem?_eq_some_iff.1 hest).2
      have hmod : (es.modify i fun e => { e with key := kV k, val := a.eval u }).toList = es.toList.set i { en with key := kV k, val := a.eval u } := by
        apply List.ext_getElem?
        intro j'
        rw [List.getElem?_set]
        simp only [Array.getElem?_toList, Array.getElem?_modify]
        by_cases hj : i = j'
        · subst hj
          simp [hil, hge]
        · simp [hj]
      refine hdone (es.modify i fun e => { e with key := kV k, val := a.eval u }) clock (fs.set i []) ?_ ?_ ?_ ?_
      · rw [q3, hmod]
        exact hE.set i rfl ⟨rfl, hnv⟩
      · rw [hmod, List.map_set]
        have : (es.toList.map (·.born)).set i en.born = es.toList.map (·.born) := by
          apply List.ext_getElem?
          intro j'
          rw [List.getElem?_set]
          by_cases hj : i = j'
          · subst hj; simp [hil, hge]
          · simp [hj]
        simp only [this]
        exact hbn
      · intro e' he'
        rw [hmod] at he'
        rcases List.mem_or_eq_of_mem_set he' with he' | he'
        · exact hbc e' he'
        · subst he'
          exact hbc en (List.mem_of_getElem? q5)
      · have hks : (Instr.keyThatStays (((es[i]?).map (·.key)).getD (kV k)) (kV k)).run P w = .ok (kV k) w := by
          simp only [hest, Option.map_some, Option.getD_some, q7, Instr.keyThatStays, hk.same, if_true, Sem.run_pure]
        simp only [execOp, hv, hkv, Instr.mapUpdate, Sem.run_bind, run_underlying hu, Result.andThen_ok, hgo, hk.check _ _ _ hkk, hfind, hks, hso]
        rfl
end ops
end Go.Proofs.YtklikgigjdgjaaaGreatDoorRRR
