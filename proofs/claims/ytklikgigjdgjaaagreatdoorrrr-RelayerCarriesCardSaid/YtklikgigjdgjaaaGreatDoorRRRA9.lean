/- What is handed back; slices that grow by append. -/
import Derived.Test.YtklikgigjdgjaaaGreatDoorRRRA8
import Derived.Laws.AppendOwn
import Derived.Lib.AppendStr
namespace Go.Proofs.YtklikgigjdgjaaaGreatDoorRRR
open Go Go.RowKit

section rets
variable {P : Program} {c : Cx} {l : List Ent} {a : Act} {w : World}

def rval (tmps : Array Value) : ResultVar → Sem Value
  | .tmp t => pure (tmps.getD t undef)
  | .cell x t => do loadVar t (← asAddr (tmps.getD x undef))
theorem results_rval (fn : Func) (tmps : Array Value) : results fn tmps = (fn.results.mapM (rval tmps) >>= fun vs => pure (if h : vs.size = 1 then vs[0] else .tuple vs)) := rfl
/-- A result's property, out of the state. -/
def ROk (P : Program) (c : Cx) (l : List Ent) (r : ResultVar) (V : VP) : Prop := ∀ (a : Act) (w : World) (Φ : Pub) (fp : Nat → List Nat), SatAt c (nthD .none l) (fun i => i < l.length) a w Φ fp →
  ∃ v, (rval a.tmps r).run P w = .ok v w ∧ V.p Φ v
theorem r_tmp {t : Nat} {V : VP} (i : Nat) (he : nthD .none l i = .slot t V) : ROk P c l (.tmp t) V := by
  intro a w Φ fp h
  have hi := nthD_lt he (by simp)
  have := h.holds i hi
  rw [he] at this
  obtain ⟨_, v, hv, hV⟩ := this
  exact ⟨v, by simp [rval, hv], hV⟩
theorem r_cell {t : Nat} {T T0 : TypeId} {q : Value} {L : List Ck} {n : Nat} (i j : Nat) (he : nthD .none l i = .slot t (lpVP q 0)) (hf : nthD .none l j = .res (lb q T0 L))
    (ha : ∀ w, (isAgg T).run P w = .ok true w) (hs : ∀ w, (sizeOf T).run P w = .ok n w) (hn : lens L = n) : ROk P c l (.cell t T) (aggVP L) := by
  intro a w Φ fp h
  have hi := nthD_lt he (by simp)
  have hj := nthD_lt hf (by simp)
  have h1 := h.holds i hi
  rw [he] at h1
  obtain ⟨_, v, hv, b, hq, hvp⟩ := h1
  have h2 := h.holds j hj
  rw [hf] at h2
  obtain ⟨b', cs, hq', _, hb, hL, _⟩ := h2
  have : b' = b := by rw [hq] at hq'; simpa using hq'.symm
  subst this
  refine ⟨.agg cs.toArray, ?_, cs, rfl, hL⟩
  have hr := run_loadAt_agg (P := P) (w := w) (b := b') (k := 0) (cs := cs) ha hs (by rw [hL.len, hn]) (fun i v hi => by rw [cell_of hb, Nat.zero_add]; exact hi)
  simp only [Instr.loadAt, Instr.sureAddr, Sem.run_bind, Sem.run_pure, Result.andThen_ok] at hr
  simp [rval, hv, hvp, asAddr, hr]
theorem r_cell1 {t : Nat} {T T0 : TypeId} {q : Value} {V : VP} (i j : Nat) (he : nthD .none l i = .slot t (lpVP q 0)) (hf : nthD .none l j = .res (lb q T0 [one V]))
    (ha : ∀ w, (isAgg T).run P w = .ok false w) : ROk P c l (.cell t T) V := by
  intro a w Φ fp h
  have hi := nthD_lt he (by simp)
  have hj := nthD_lt hf (by simp)
  have h1 := h.holds i hi
  rw [he] at h1
  obtain ⟨_, v, hv, b, hq, hvp⟩ := h1
  have h2 := h.holds j hj
  rw [hf] at h2
  obtain ⟨b', cs, hq', _, hb, ⟨ys, zs, rfl, ⟨u, rfl, _, hV⟩, hz⟩, _⟩ := h2
  have : b' = b := by rw [hq] at hq'; simpa using hq'.symm
  subst this
  refine ⟨u, ?_, hV⟩
  have hr := run_loadAt_one (P := P) (w := w) (b := b') (k := 0) (v := u) ha (by rw [cell_of hb]; simp)
  simp only [Instr.loadAt, Instr.sureAddr, Sem.run_bind, Sem.run_pure, Result.andThen_ok] at hr
  simp [rval, hv, hvp, asAddr, hr]

def RsOk (P : Program) (c : Cx) (l : List Ent) : List ResultVar → List VP → Prop
  | [], [] => True
  | r :: rs, V :: Vs => ROk P c l r V ∧ RsOk P c l rs Vs
  | _, _ => False

theorem rs_run {Φ : Pub} {fp : Nat → List Nat} (h : SatAt c (nthD .none l) (fun i => i < l.length) a w Φ fp) : ∀ {rs : List ResultVar} {Vs : List VP}, RsOk P c l rs Vs →
    ∃ vs : List Value, (rs.mapM (rval a.tmps)).run P w = .ok vs w ∧ ArgsL Φ Vs vs
  | [], [], _ => ⟨[], rfl, trivial⟩
  | r :: rs, V :: Vs, hr => by
    obtain ⟨v, h1, h2⟩ := hr.1 a w Φ fp h
    obtain ⟨vs, h3, h4⟩ := rs_run h hr.2
    refine ⟨v :: vs, ?_, h2, h4⟩
    simp only [List.mapM_cons, Sem.run_bind, h1, Result.andThen_ok, h3]
    rfl
  | [], _ :: _, h => h.elim
  | _ :: _, [], h => h.elim

/-- The objects among the entries. -/
theorem SatAt.resl {Φ : Pub} {fp : Nat → List Nat} (h : SatAt c (nthD .none l) (fun i => i < l.length) a w Φ fp) (js : List Nat) (hd : distinct js = true) (hlt : ∀ j ∈ js, j < l.length) (Rs : List RP) (hR : Rs.map .res = js.map (nthD .none l)) :
    ∃ fs, ResL Φ w Rs fs ∧ fs.flatten.Nodup ∧ ∀ b ∈ fs.flatten, b < w.heap.size ∧ (b ∈ c.F0 ∨ c.w0.heap.size ≤ b) := by
  have hnd := distinct_nodup hd
  refine ⟨js.map fp, ?_, flatten_nodup_of hnd (fun r hr => (h.own r (hlt r hr)).1) (fun r hr s hs hne => h.apart r s (hlt r hr) (hlt s hs) hne), fun b hb => ?_⟩
  · have h1 : HoldL Φ a.tmps w (js.map (nthD .none l)) (js.map fp) := HoldL.of_map _ _ _ fun r hr => h.holds r (hlt r hr)
    rw [← hR] at h1
    exact h1.res_of
  · obtain ⟨s, hs, hbs⟩ := List.mem_flatten.1 hb
    obtain ⟨r, hr, rfl⟩ := List.mem_map.1 hs
    exact (h.own r (hlt r hr)).2 b hbs

/-- One result. -/
theorem ret1 {fn : Func} {r : ResultVar} {V : VP} (h : SatL c l a w) (hr : fn.results = #[r]) (hV : ROk P c l r V) (js : List Nat) (Rs : List RP) (hd : distinct js = true) (hlt : (js.all fun j => decide (j < l.length)) = true) (hR : Rs.map .res = js.map (nthD .none l)) :
    RetOk P fn c V (fun _ => Rs) a w := by
  obtain ⟨Φ, fp, h⟩ := h
  obtain ⟨v, h1, h2⟩ := hV a w Φ fp h
  obtain ⟨fs, q1, q2, q3⟩ := h.resl js hd (fun j hj => by simpa using (List.all_eq_true.1 hlt) j hj) Rs hR
  refine ⟨h.defers, v, Φ, fs, ?_, h.step, h.pub, h2, q1, q2, q3⟩
  rw [results_rval, hr]
  simp [h1]
/-- No result, or several. -/
theorem retn {fn : Func} {rs : List ResultVar} {Vs : List VP} (h : SatL c l a w) (hr : fn.results = rs.toArray) (hn : rs.length ≠ 1) (hV : RsOk P c l rs Vs) (js : List Nat) (Rs : List RP) (hd : distinct js = true) (hlt : (js.all fun j => decide (j < l.length)) = true) (hR : Rs.map .res = js.map (nthD .none l)) :
    RetOk P fn c (tupVP Vs) (fun _ => Rs) a w := by
  obtain ⟨Φ, fp, h⟩ := h
  obtain ⟨vs, h1, h2⟩ := rs_run h hV
  obtain ⟨fs, q1, q2, q3⟩ := h.resl js hd (fun j hj => by simpa using (List.all_eq_true.1 hlt) j hj) Rs hR
  have hlen : vs.length = rs.length := by
    have e1 := h2.length
    have e2 : ∀ {rs : List ResultVar} {Vs : List VP}, RsOk P c l rs Vs → rs.length = Vs.length := by
      intro rs
      induction rs with
      | nil => intro Vs h; cases Vs <;> simp_all [RsOk]
      | cons r rs ih => intro Vs h; cases Vs with
                                    | nil => exact h.elim
                                    | cons V Vs => simp [ih h.2]
    rw [e1, e2 hV]
  refine ⟨h.defers, .tuple vs.toArray, Φ, fs, ?_, h.step, h.pub, ⟨vs, rfl, h2⟩, q1, q2, q3⟩
  rw [results_rval, hr]
  simp only [List.mapM_toArray, Sem.run_bind, Sem.run_map, h1, Result.andThen_ok]
  rw [dif_neg (by simp [hlen, hn])]
  rfl
end rets

/-- A slice of one's own that grows: what it holds is published, what lies behind it is free. -/
def acc {α : Type} (v : Value) (T : TypeId) (sz : Nat) (c : α → List Ck) (xs : List α) : RP := ⟨fun Φ f w => xs.length ≤ mxl ∧ ((v = .slice none 0 0 ∧ xs = [] ∧ f = []) ∨
    ∃ b cap cs zs, v = .slice (some ⟨b, 0, none⟩) xs.length cap ∧ f = [b] ∧ w.heap[b]? = some (.cells (cs ++ zs).toArray T (0, 0)) ∧ Arel Φ c cs xs ∧ (cs ++ zs).length = cap * sz ∧ xs.length ≤ cap ∧ PubAt Φ b 0 cs ∧ ∀ o, cs.length ≤ o → Φ b o = none), by
  rintro Φ Φ' f w w' hle hs hb ⟨hm, ⟨h1, h2, h3⟩ | ⟨b, cap, cs, zs, h1, h2, h3, h4, h5, h6, h7, h8⟩⟩
  · exact ⟨hm, .inl ⟨h1, h2, h3⟩⟩
  · refine ⟨hm, .inr ⟨b, cap, cs, zs, h1, h2, ?_, h4.mono hle, h5, h6, h7.mono hle, fun o ho => ?_⟩⟩
    · rw [hb b (by simp [h2])]; exact h3
    · rw [hs b (by simp [h2])]; exact h8 o ho⟩

theorem zeroCells_len (z : Array Value) (n : Nat) : (Builtin.zeroCells z n).toList.length = n * z.size := by simp [Builtin.zeroCells]

section ops
variable {P : Program} {G : FP} {N : List Ent} {d : Nat} {ty : TypeId} {pos : String} {af : Array Edge} {gd : Option (Nat × Bool)}

theorem acc_sl {α : Type} {v : Value} {T : TypeId} {sz : Nat} {c : α → List Ck} {xs : List α} {Φ : Pub} {f : List Nat} {w : World} (h : (acc v T sz c xs).p Φ f w) : (slVP c xs).p Φ v := by
  obtain ⟨hm, ⟨h1, h2, _⟩ | ⟨b, cap, cs, zs, h1, _, _, h4, _, h6, h7, _⟩⟩ := h
  · exact ⟨hm, .inl ⟨h1, h2⟩⟩
  · exact ⟨hm, .inr (.inl ⟨b, 0, cap, cs, h1, h6, h4, h7⟩)⟩
/-- A growing slice, read. -/
theorem opacc {α : Type} {v : Value} {T : TypeId} {sz : Nat} {c : α → List Ck} {xs : List α} {t : Nat} (i j : Nat) (he : nthD .none N i = .slot t (eqVP v)) (hf : nthD .none N j = .res (acc v T sz c xs)) : OpndOk G N (.tmp t) (slVP c xs) := by
  intro Φ a w f _ hN
  have hi := nthD_lt he (by simp)
  obtain ⟨g, hg, _⟩ := hN.nth i hi
  rw [he] at hg
  obtain ⟨_, u, hu, hV⟩ := hg
  have hV : u = v := hV
  subst hV
  obtain ⟨g', hr⟩ := hN.res j hf
  have := acc_sl hr
  simpa [Act.eval, hu] using this
end ops

/-- A growing slice that is handed back. -/
theorem r_acc {P : Program} {c : Cx} {l : List Ent} {α : Type} {v : Value} {T : TypeId} {sz : Nat} {ck : α → List Ck} {xs : List α} {t : Nat} (i j : Nat) (he : nthD .none l i = .slot t (eqVP v)) (hf : nthD .none l j = .res (acc v T sz ck xs)) :
    ROk P c l (.tmp t) (slVP ck xs) := by
  intro a w Φ fp h
  have hi := nthD_lt he (by simp)
  have hj := nthD_lt hf (by simp)
  have h1 := h.holds i hi
  rw [he] at h1
  obtain ⟨_, u, hu, hV⟩ := h1
  have hV : u = v := hV
  subst hV
  have h2 := h.holds j hj
  rw [hf] at h2
  exact ⟨u, by simp [rval, hu], acc_sl h2⟩

/-- A nil slice begins to grow. -/
theorem SatL.nilacc {c : Cx} {l : List Ent} {a : Act} {w : World} {α : Type} (T : TypeId) (sz : Nat) (ck : α → List Ck) (h : SatL c l a w) : SatL c (l ++ [.res (acc (.slice none 0 0) T sz ck ([] : List α))]) a w := by
  obtain ⟨Φ, fp, h⟩ := h
  have hx : ∀ i, i < l.length → nthD Ent.none (l ++ [.res (acc (.slice none 0 0) T sz ck ([] : List α))]) i = nthD .none l i := fun i hi => by rw [nthD_append, if_pos hi]
  refine ⟨Φ, fun i => if i < l.length then fp i else [], h.defers, h.size, h.pub, h.know, h.step, fun i hi => ?_, fun i hi => ?_, fun i j hi hj hne => ?_⟩
  · by_cases hlt : i < l.length
    · rw [hx i hlt]; simp only [if_pos hlt]; exact h.holds i hlt
    · have : i = l.length := by simp at hi; omega
      subst this
      rw [nthD_append, if_neg hlt]
      simp only [if_neg hlt]
      simp only [Nat.sub_self]
      exact ⟨by simp [mxl], .inl ⟨rfl, rfl, rfl⟩⟩
  · by_cases hlt : i < l.length
    · simp only [if_pos hlt]; exact h.own i hlt
    · simp [hlt]
  · by_cases hlt : i < l.length
    · by_cases hlt2 : j < l.length
      · simp only [if_pos hlt, if_pos hlt2]; exact h.apart i j hlt hlt2 hne
      · simp [hlt2]
    · simp [hlt]
end Go.Proofs.YtklikgigjdgjaaaGreatDoorRRR
