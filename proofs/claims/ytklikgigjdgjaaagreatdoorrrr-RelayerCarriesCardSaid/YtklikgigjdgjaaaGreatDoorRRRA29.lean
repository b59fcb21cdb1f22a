/- Structs compared; function values that hold published variables. -/
import Derived.Test.YtklikgigjdgjaaaGreatDoorRRRA28
import Derived.Laws.StructEq
namespace Go.Proofs.YtklikgigjdgjaaaGreatDoorRRR
open Go Go.RowKit Go.Proofs
set_option linter.unusedVariables false
set_option linter.unusedSimpArgs false

section eqs
variable {P : Program}
/-- Two values of a type, told by their cells, among others' cells: compared. -/
def EqC (P : Program) (d : Nat) (T : TypeId) (L M : List Ck) (b : Bool) : Prop := ∀ (Φ : Pub) (w : World) (dd : Nat) (pre post pre' post' cs ds : List Value), Lrel Φ cs L → Lrel Φ ds M → pre.length = pre'.length →
  ∃ u v, (part T (pre ++ cs ++ post).toArray pre.length).run P w = .ok u w ∧ (part T (pre' ++ ds ++ post').toArray pre.length).run P w = .ok v w ∧ (Op.equalIn (dd + d) T u v).run P w = .ok b w
theorem EqC.deeper {d d' : Nat} {T : TypeId} {L M : List Ck} {b : Bool} (h : EqC P d T L M b) (hd : d ≤ d') : EqC P d' T L M b := fun Φ w dd pre post pre' post' cs ds h1 h2 h3 => by
  obtain ⟨u, v, k1, k2, k3⟩ := h Φ w (dd + (d' - d)) pre post pre' post' cs ds h1 h2 h3
  rw [show dd + (d' - d) + d = dd + d' by omega] at k3
  exact ⟨u, v, k1, k2, k3⟩
theorem part_one {T : TypeId} {w : World} {pre post : List Value} {v : Value} (ha : ∀ w, (isAgg T).run P w = .ok false w) : (part T (pre ++ [v] ++ post).toArray pre.length).run P w = .ok v w := by
  simp [part, ha]
theorem part_agg {T : TypeId} {w : World} {pre post cs : List Value} (ha : ∀ w, (isAgg T).run P w = .ok true w) (hs : ∀ w, (sizeOf T).run P w = .ok cs.length w) : (part T (pre ++ cs ++ post).toArray pre.length).run P w = .ok (.agg cs.toArray) w := by
  simp only [part, Sem.run_bind, ha, Result.andThen_ok, if_true, hs, Sem.run_pure]
  congr 2
  apply Array.ext'
  simp
/-- Scalars. -/
theorem eqc_one {d : Nat} {T : TypeId} {V W : VP} {b : Bool} (ha : ∀ w, (isAgg T).run P w = .ok false w) (h : ∀ Φ w dd u v, V.p Φ u → W.p Φ v → (Op.equalIn (dd + d) T u v).run P w = .ok b w) : EqC P d T [one V] [one W] b := by
  rintro Φ w dd pre post pre' post' cs ds ⟨x1, y1, rfl, ⟨v, rfl, _, hv⟩, h1⟩ ⟨x2, y2, rfl, ⟨u, rfl, _, hu⟩, h2⟩ hl
  have h1 : y1 = [] := h1
  have h2 : y2 = [] := h2
  subst h1 h2
  refine ⟨v, u, part_one ha, ?_, h Φ w dd v u hv hu⟩
  rw [hl]
  exact part_one ha
theorem eqc_int {k : IntKind} {T : TypeId} {x y : Int} (hu : P.underlying T = some (.int k)) (ha : ∀ w, (isAgg T).run P w = .ok false w) : EqC P 1 T [one (intVP k x)] [one (intVP k y)] (decide (x = y)) :=
  eqc_one ha fun Φ w dd u v h1 h2 => by
    obtain ⟨rfl, _⟩ := h1
    obtain ⟨rfl, _⟩ := h2
    rw [run_equalIn_int w dd T _ _ _ _ hu]
    congr 1
theorem eqc_bool {T : TypeId} {x y : Bool} (hu : P.underlying T = some .bool) (ha : ∀ w, (isAgg T).run P w = .ok false w) : EqC P 1 T [one (boolVP x)] [one (boolVP y)] (x == y) :=
  eqc_one ha fun Φ w dd u v h1 h2 => by
    have h1 : u = .bool x := h1
    have h2 : v = .bool y := h2
    subst h1 h2
    simp [Op.equalIn, run_underlying hu]
theorem eqc_str {T : TypeId} {x y : List UInt8} (hu : P.underlying T = some .string) (ha : ∀ w, (isAgg T).run P w = .ok false w) : EqC P 1 T [one (strVP x)] [one (strVP y)] (decide (x = y)) :=
  eqc_one ha fun Φ w dd u v h1 h2 => by
    obtain ⟨rfl, _⟩ := h1
    obtain ⟨rfl, _⟩ := h2
    have e : ((⟨x.toArray⟩ : ByteArray) == ⟨y.toArray⟩) = decide (x = y) := by
      rw [beq_toListBytes, ByteArray.toList_eq, ByteArray.toList_eq, Bool.eq_iff_iff]
      simp
    simp [Op.equalIn, run_underlying hu, e]
theorem eqc_bytes {t e : TypeId} {n : Nat} {i : TypeInfo} {l m : List UInt8} (hu : P.underlying t = some (.array n e)) (he : P.underlying e = some (.int .u8)) (hi : P.info? e = some i) (hs : ∀ w, (sizeOf e).run P w = .ok 1 w)
    (ha : ∀ w, (isAgg e).run P w = .ok false w) (hat : ∀ w, (isAgg t).run P w = .ok true w) (hst : ∀ w, (sizeOf t).run P w = .ok n w) : EqC P 2 t [bytesCk n l] [bytesCk n m] (decide (l = m)) := by
  rintro Φ w dd pre post pre' post' cs ds ⟨x1, y1, rfl, ⟨hl, rfl⟩, h1⟩ ⟨x2, y2, rfl, ⟨hm, rfl⟩, h2⟩ hp
  have h1 : y1 = [] := h1
  have h2 : y2 = [] := h2
  subst h1 h2
  simp only [List.append_nil]
  refine ⟨_, _, part_agg hat (by simpa [hl] using hst), ?_, run_eq_bytes hu he hi hs ha hl hm dd w⟩
  rw [hp]
  exact part_agg hat (by simpa [hm] using hst)
/-- Fields, one behind the other. -/
inductive EqFs (P : Program) (d : Nat) : List Field → Nat → List Ck → List Ck → Bool → Prop
  | nil {off : Nat} : EqFs P d [] off [] [] true
  | cons {f : Field} {fs : List Field} {off n : Nat} {L M L' M' : List Ck} {b b' : Bool} (hn : f.name ≠ "_") (ho : f.offset = off) (h : EqC P d f.type L M b) (hl : lens L = n) (hm : lens M = n) (hr : EqFs P d fs (off + n) L' M' b') : EqFs P d (f :: fs) off (L ++ L') (M ++ M') (b && b')
theorem eqfs_run {d : Nat} {fs : List Field} {off : Nat} {L M : List Ck} {b : Bool} (h : EqFs P d fs off L M b) : ∀ (Φ : Pub) (w : World) (dd : Nat) (pre pre' cs ds : List Value), Lrel Φ cs L → Lrel Φ ds M → pre.length = off → pre'.length = off →
    (Op.eqFields (dd + d) (pre ++ cs).toArray (pre' ++ ds).toArray fs).run P w = .ok b w := by
  induction h with
  | nil => intro Φ w dd pre pre' cs ds h1 h2 h3 h4; simp [Op.eqFields]
  | @cons f fs off n L M L' M' b b' hn ho h hl hm hr ih =>
    intro Φ w dd pre pre' cs ds h1 h2 h3 h4
    obtain ⟨c1, c2, rfl, k1, k2⟩ := h1.split
    obtain ⟨d1, d2, rfl, q1, q2⟩ := h2.split
    obtain ⟨u, v, e1, e2, e3⟩ := h Φ w dd pre c2 pre' d2 c1 d1 k1 q1 (by omega)
    have i := ih Φ w dd (pre ++ c1) (pre' ++ d1) c2 d2 k2 q2 (by rw [List.length_append, k1.len]; omega) (by rw [List.length_append, q1.len]; omega)
    rw [h3] at e1 e2
    simp only [Op.eqFields, hn, ne_eq, not_false_eq_true, if_true, Sem.run_bind, ho, Result.andThen_ok]
    simp only [← List.append_assoc]
    rw [e1]
    simp only [Result.andThen_ok]
    rw [e2]
    simp only [Result.andThen_ok]
    rw [e3]
    simp only [Result.andThen_ok]
    cases b with
    | false => simp
    | true => simpa using i
theorem eqs_run {d : Nat} {t : TypeId} {fields : Array Field} {L M : List Ck} {b : Bool} (hu : P.underlying t = some (.struct fields)) (hp : P.stoodInHeld t = false) (h : EqFs P d fields.toList 0 L M b) (Φ : Pub) (w : World) (dd : Nat) (cs ds : List Value) (h1 : Lrel Φ cs L) (h2 : Lrel Φ ds M) :
    (Op.equalIn (dd + (d + 1)) t (.agg cs.toArray) (.agg ds.toArray)).run P w = .ok b w := by
  have hfo : P.fieldsOf t = fields := by simp [Program.fieldsOf, hu]
  rw [← Nat.add_assoc, run_equalIn_struct w (dd + d) t _ _ (by rw [hfo]; exact hu) hp, hfo]
  exact eqfs_run h Φ w dd [] [] cs ds h1 h2 rfl rfl
theorem eqc_struct {d n : Nat} {t : TypeId} {fields : Array Field} {L M : List Ck} {b : Bool} (hu : P.underlying t = some (.struct fields)) (hp : P.stoodInHeld t = false) (hat : ∀ w, (isAgg t).run P w = .ok true w) (hst : ∀ w, (sizeOf t).run P w = .ok n w) (hl : lens L = n) (hm : lens M = n) (h : EqFs P d fields.toList 0 L M b) : EqC P (d + 1) t L M b := by
  intro Φ w dd pre post pre' post' cs ds h1 h2 hpl
  refine ⟨_, _, part_agg hat (by rw [h1.len, hl]; exact hst), ?_, eqs_run hu hp h Φ w dd cs ds h1 h2⟩
  rw [hpl]
  exact part_agg hat (by rw [h2.len, hm]; exact hst)
theorem bin_steql {d : Nat} {t : TypeId} {fields : Array Field} {L M : List Ck} {b : Bool} (hu : P.underlying t = some (.struct fields)) (hp : P.stoodInHeld t = false) (hg : P.eqGuardType P.depth t = false) (h : EqFs P d fields.toList 0 L M b) (hd : d < 9999 := by decide) : Bin P .eql t (aggVP L) (aggVP M) (boolVP b) := by
  rintro Φ u v w x y ⟨cs, rfl, h1⟩ ⟨ds, rfl, h2⟩
  have e := eqs_run hu hp h Φ w (10000 - (d + 1)) cs ds h1 h2
  rw [show 10000 - (d + 1) + (d + 1) = 10000 by omega] at e
  refine ⟨.bool b, ?_, rfl⟩
  simp only [Sem.run_bind, run_eqGuard_agg w .eql t x y _ _ hg, Result.andThen_ok, run_eql_struct w, e]
theorem bin_stneq {d : Nat} {t : TypeId} {fields : Array Field} {L M : List Ck} {b : Bool} (hu : P.underlying t = some (.struct fields)) (hp : P.stoodInHeld t = false) (hg : P.eqGuardType P.depth t = false) (h : EqFs P d fields.toList 0 L M b) (hd : d < 9999 := by decide) : Bin P .neq t (aggVP L) (aggVP M) (boolVP (!b)) := by
  rintro Φ u v w x y ⟨cs, rfl, h1⟩ ⟨ds, rfl, h2⟩
  have e := eqs_run hu hp h Φ w (10000 - (d + 1)) cs ds h1 h2
  rw [show 10000 - (d + 1) + (d + 1) = 10000 by omega] at e
  refine ⟨.bool (!b), ?_, rfl⟩
  simp only [Sem.run_bind, run_eqGuard_agg w .neq t x y _ _ hg, Result.andThen_ok, run_neq_struct w, e]
end eqs

/-- A function value: of an argument x it answers as g does, and turns nothing. -/
def fnVP (P : Program) (G : FP) {α β : Type} (A : α → List VP) (B : β → VP) (g : α → Option β) : VP := ⟨fun Φ v => ∃ (f : FuncId) (cs : List Value), v = .func (.func f) #[] cs.toArray ∧ (∀ args w, (callFunc f args).run P w = .ok (.enter f args) w) ∧
    ∀ Φ', Pub.le Φ Φ' → ∀ x r, g x = some r → ∀ w vs, PubOk Φ' w → G.p Φ' → ArgsL Φ' (A x) vs → Calls P f (vs ++ cs).toArray w fun e w' => ∃ v Φ'', e = .returned v ∧ Step w Φ' [] w' Φ'' ∧ PubOk Φ'' w' ∧ (B r).p Φ'' v,
  fun hle ⟨f, cs, h1, h2, h3⟩ => ⟨f, cs, h1, h2, fun Φ' hle' => h3 Φ' (Pub.le_trans hle hle')⟩⟩
theorem ArgsL.append {Φ : Pub} : ∀ {l m : List VP} {us vs : List Value}, ArgsL Φ l us → ArgsL Φ m vs → ArgsL Φ (l ++ m) (us ++ vs)
  | [], m, [], vs, _, k => k
  | V :: l, m, u :: us, vs, h, k => ⟨h.1, ArgsL.append h.2 k⟩
  | [], _, _ :: _, _, h, _ => h.elim
  | _ :: _, _, [], _, h, _ => h.elim
theorem fn_of {P : Program} {G : FP} {α β : Type} {A : α → List VP} {B : β → VP} {g : α → Option β} {f : FuncId} {Cs : List VP} {cs : List Value} {Φ : Pub} (hcall : ∀ args w, (callFunc f args).run P w = .ok (.enter f args) w)
    (hF : ∀ x r, g x = some r → CallOk P G f (A x ++ Cs) [] (fun _ => []) (B r)) (hc : ArgsL Φ Cs cs) : (fnVP P G A B g).p Φ (.func (.func f) #[] cs.toArray) := by
  refine ⟨f, cs, rfl, hcall, fun Φ' hle x r hg w vs h1 h2 h3 => ?_⟩
  refine (hF x r hg Φ' w (vs ++ cs) [] h1 h2 (h3.append (hc.mono hle)) trivial (by simp) (by simp)).mono fun e w' hq => ?_
  obtain ⟨v, Φ'', fs', rfl, q1, q2, q3, _⟩ := hq
  exact ⟨v, Φ'', rfl, by simpa using q1, q2, q3⟩
section ops
variable {P : Program} {G : FP} {N : List Ent} {d : Nat} {ty : TypeId} {pos : String} {af : Array Edge} {gd : Option (Nat × Bool)}
/-- A call of a function value. -/
theorem op_callfn {α β : Type} {A : α → List VP} {B : β → VP} {g : α → Option β} {x : α} {r : β} {f : Operand} {xs : List Operand} {tys : Array TypeId} (hf : OpndOk G N f (fnVP P G A B g)) (hx : OpndsOk G N xs (A x)) (hg : g x = some r) :
    OpOk P G ⟨some d, .call ⟨.value f, xs.toArray, tys⟩, ty, pos, af, gd⟩ N [] (fun _ => [.slot d (B r)]) := by
  intro Φ a w fN fC h1 h2 h3 h4 h5 h6 h7 K Q hK
  match fC, h4 with
  | [], _ =>
  have hargs := hx.eval h2 h3
  obtain ⟨fi, cs, hv, hcall, hq⟩ := hf Φ a w fN h2 h3
  have hcl := hq Φ (Pub.le_refl _) x r hg w _ h1 h2 hargs
  have hrun : (execOp a.eval ⟨some d, .call ⟨.value f, xs.toArray, tys⟩, ty, pos, af, gd⟩).run P w = .ok (.enter fi (xs.map a.eval ++ cs).toArray) w := by
    simp [execOp, resolve, hv, Deferred.ofValue, invoke, hcall]
  unfold Oper.wp
  rw [hrun, Oper.upon_enter]
  refine hcl.mono fun e w' hq => ?_
  obtain ⟨v, Φ', rfl, q1, q2, q3⟩ := hq
  exact hK v w' Φ' [[]] (by simpa using q1) q2 ⟨⟨rfl, v, put_get a v d (h7 d rfl), q3⟩, trivial⟩ (by simp) (by simp)
/-- Variables of one's own that a function value takes hold of: from then on they are not written. -/
def capE : List (Value × TypeId × List Ck) → List Ent
  | [] => []
  | (p, T, L) :: l => .res (lb p T L) :: capE l
def capV : List (Value × TypeId × List Ck) → List VP
  | [] => []
  | (_, _, L) :: l => ppVP L :: capV l
def capO (G : FP) (N : List Ent) : List Operand → List (Value × TypeId × List Ck) → Prop
  | [], [] => True
  | x :: xs, (p, _, _) :: l => OpndOk G N x (lpVP p 0) ∧ capO G N xs l
  | _, _ => False
theorem pub_lb {p : Value} {T : TypeId} {L : List Ck} {Φ : Pub} {f : List Nat} {w : World} (hP : PubOk Φ w) (h : (lb p T L).p Φ f w) (hf : ∀ b ∈ f, b < w.heap.size) : ∃ Φ', Step w Φ f w Φ' ∧ PubOk Φ' w ∧ (ppVP L).p Φ' p ∧ ∀ b, b ∉ f → Φ' b = Φ b := by
  obtain ⟨b, cs, hp, rfl, hb, hL, hn⟩ := h
  let Φ' : Pub := fun b' o => if b' = b then cs[o]? else Φ b' o
  have hle : Pub.le Φ Φ' := fun b' o v e => by
    by_cases hbb : b' = b
    · rw [hbb, hn o] at e; cases e
    · simp only [Φ', if_neg hbb]; exact e
  have hs : ∀ b', b' ∉ [b] → Φ' b' = Φ b' := fun b' hne => by funext o; simp only [Φ', if_neg (by simpa using hne : ¬ b' = b)]
  refine ⟨Φ', ⟨rfl, rfl, rfl, Nat.le_refl _, fun _ _ _ => rfl, hle, fun b' _ hne => hs b' hne⟩, ⟨fun b' o v e => ?_, fun b' o v e => ?_⟩, ⟨b, 0, cs, hp, hL.mono hle, fun o v hv => by simp only [Φ', if_pos trivial, Nat.zero_add]; exact hv⟩, hs⟩
  · by_cases hbb : b' = b
    · rw [hbb]; exact hf b (by simp)
    · simp only [Φ', if_neg hbb] at e; exact hP.lt b' o v e
  · by_cases hbb : b' = b
    · subst hbb
      simp only [Φ', if_pos trivial] at e
      rw [cell_of hb]; exact e
    · simp only [Φ', if_neg hbb] at e; exact hP.cell b' o v e
theorem caps_pub {w : World} : ∀ {xs : List Operand} {l : List (Value × TypeId × List Ck)} {Φ : Pub} {a : Act} {fN fC : List (List Nat)}, PubOk Φ w → G.p Φ → HoldL Φ a.tmps w N fN → capO G N xs l → HoldL Φ a.tmps w (capE l) fC → (fN.flatten ++ fC.flatten).Nodup → (∀ b ∈ fN.flatten ++ fC.flatten, b < w.heap.size) →
    ∃ Φ', Step w Φ fC.flatten w Φ' ∧ PubOk Φ' w ∧ ArgsL Φ' (capV l) (xs.map a.eval)
  | [], [], Φ, a, fN, fC, h1, h2, h3, h4, h5, h6, h7 => ⟨Φ, (Step.refl w Φ []).widen (by simp), h1, trivial⟩
  | x :: xs, (p, T, L) :: l, Φ, a, fN, fC, h1, h2, h3, h4, h5, h6, h7 => by
    match fC, h5 with
    | f :: fC, h5 =>
      simp only [List.flatten_cons] at h6 h7
      have hres : (lb p T L).p Φ f w := h5.1
      obtain ⟨Φ1, k1, k2, k3, k4⟩ := pub_lb h1 hres (fun b hb => h7 b (by simp [hb]))
      rw [List.nodup_append] at h6
      obtain ⟨n1, n2, n3⟩ := h6
      rw [List.nodup_append] at n2
      have hN1 : HoldL Φ1 a.tmps w N fN := by
        have : ∀ {es : List Ent} {gs : List (List Nat)}, (∀ b ∈ gs.flatten, b ∉ f) → HoldL Φ a.tmps w es gs → HoldL Φ1 a.tmps w es gs := by
          intro es
          induction es with
          | nil => intro gs _ h; cases gs with
            | nil => trivial
            | cons => exact h.elim
          | cons e es ih => intro gs hb h; cases gs with
            | nil => exact h.elim
            | cons g gs => exact ⟨Ent.holds_mono h.1 k1.le (fun b hb' => k4 b (hb b (by simp [hb']))) (fun _ _ => rfl) (fun _ _ => rfl), ih (fun b hb' => hb b (by simp only [List.flatten_cons, List.mem_append]; exact .inr hb')) h.2⟩
        exact this (fun b hb hf => n3 b hb b (by simp [hf]) rfl) h3
      have hC1 : HoldL Φ1 a.tmps w (capE l) fC := by
        have : ∀ {es : List Ent} {gs : List (List Nat)}, (∀ b ∈ gs.flatten, b ∉ f) → HoldL Φ a.tmps w es gs → HoldL Φ1 a.tmps w es gs := by
          intro es
          induction es with
          | nil => intro gs _ h; cases gs with
            | nil => trivial
            | cons => exact h.elim
          | cons e es ih => intro gs hb h; cases gs with
            | nil => exact h.elim
            | cons g gs => exact ⟨Ent.holds_mono h.1 k1.le (fun b hb' => k4 b (hb b (by simp [hb']))) (fun _ _ => rfl) (fun _ _ => rfl), ih (fun b hb' => hb b (by simp only [List.flatten_cons, List.mem_append]; exact .inr hb')) h.2⟩
        exact this (fun b hb hf => n2.2.2 b hf b hb rfl) h5.2
      obtain ⟨Φ2, q1, q2, q3⟩ := caps_pub k2 (G.mono k1.le h2) hN1 h4.2 hC1 (by rw [List.nodup_append]; exact ⟨n1, n2.2.1, fun b hb c hc => n3 b hb c (by simp [hc])⟩) (fun b hb => h7 b (by simp only [List.mem_append] at hb ⊢; exact hb.imp id .inr))
      refine ⟨Φ2, (k1.widen (F' := f ++ fC.flatten) fun b hb _ => by simp [hb]).trans q1 (fun b hb _ => by simp [hb]), q2, ⟨?_, q3⟩⟩
      have he : a.eval x = p := by
        obtain ⟨b, hp, hv⟩ := h4.1 Φ a w fN h2 h3
        rw [hv, hp]
      rw [he]
      exact (ppVP L).mono q1.le k3
    | [], h5 => exact h5.elim
  | [], _ :: _, _, _, _, _, _, _, _, h, _, _, _ => h.elim
  | _ :: _, [], _, _, _, _, _, _, _, h, _, _, _ => h.elim
theorem op_makeFunc {α β : Type} {A : α → List VP} {B : β → VP} {g : α → Option β} {f : FuncId} {xs : List Operand} (l : List (Value × TypeId × List Ck)) (hcall : ∀ args w, (callFunc f args).run P w = .ok (.enter f args) w)
    (hF : ∀ x r, g x = some r → CallOk P G f (A x ++ capV l) [] (fun _ => []) (B r)) (hx : capO G N xs l) :
    OpOk P G ⟨some d, .makeFunc (.func f) #[] xs.toArray, ty, pos, af, gd⟩ N (capE l) (fun _ => [.slot d (fnVP P G A B g)]) := by
  intro Φ a w fN fC h1 h2 h3 h4 h5 h6 h7 K Q hK
  obtain ⟨Φ', q1, q2, q3⟩ := caps_pub h1 h2 h3 hx h4 h5 h6
  have hrun : (execOp a.eval ⟨some d, .makeFunc (.func f) #[] xs.toArray, ty, pos, af, gd⟩).run P w = .ok (.value (.func (.func f) #[] (xs.map a.eval).toArray)) w := by
    simp [execOp, Instr.makeFunc]
  unfold Oper.wp
  rw [hrun, Oper.upon_value]
  exact hK _ w Φ' [[]] q1 q2 ⟨⟨rfl, _, put_get a _ d (h7 d rfl), fn_of hcall hF q3⟩, trivial⟩ (by simp) (by simp)
end ops
end Go.Proofs.YtklikgigjdgjaaaGreatDoorRRR
