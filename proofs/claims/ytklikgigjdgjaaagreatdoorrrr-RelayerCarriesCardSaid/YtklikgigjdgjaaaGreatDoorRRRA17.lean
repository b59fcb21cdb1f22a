/- Maps: what a map of one's own holds; looked up, written, counted. -/
import Derived.Test.YtklikgigjdgjaaaGreatDoorRRRA16
import Derived.MapKept
namespace Go.Proofs.YtklikgigjdgjaaaGreatDoorRRR
open Go Go.RowKit

def EntsL {K V : Type} (Φ : Pub) (w : World) (kV : K → Value) (eR : Value → V → RP) : List MapEntry → List (K × V) → List (List Nat) → Prop
  | [], [], [] => True
  | e :: es, x :: xs, f :: fs => e.key = kV x.1 ∧ (eR e.val x.2).p Φ f w ∧ EntsL Φ w kV eR es xs fs
  | _, _, _ => False
theorem EntsL.loc {K V : Type} {Φ Φ' : Pub} {w w' : World} {kV : K → Value} {eR : Value → V → RP} (hle : Pub.le Φ Φ') : ∀ {es : List MapEntry} {m : List (K × V)} {fs : List (List Nat)}, (∀ b ∈ fs.flatten, Φ' b = Φ b) → (∀ b ∈ fs.flatten, w'.heap[b]? = w.heap[b]?) → EntsL Φ w kV eR es m fs → EntsL Φ' w' kV eR es m fs
  | [], [], [], _, _, h => h
  | e :: es, x :: xs, f :: fs, hs, hb, h => ⟨h.1, (eR _ _).loc hle (fun b hm => hs b (by simp [hm])) (fun b hm => hb b (by simp [hm])) h.2.1, EntsL.loc hle (fun b hm => hs b (by simp only [List.flatten_cons]; exact List.mem_append.2 (.inr hm))) (fun b hm => hb b (by simp only [List.flatten_cons]; exact List.mem_append.2 (.inr hm))) h.2.2⟩
  | [], [], _ :: _, _, _, h => h.elim
  | [], _ :: _, _, _, _, h => h.elim
  | _ :: _, [], _, _, _, h => h.elim
  | _ :: _, _ :: _, [], _, _, h => h.elim
theorem EntsL.len {K V : Type} {Φ : Pub} {w : World} {kV : K → Value} {eR : Value → V → RP} : ∀ {es : List MapEntry} {m : List (K × V)} {fs : List (List Nat)}, EntsL Φ w kV eR es m fs → es.length = m.length ∧ fs.length = m.length
  | [], [], [], _ => ⟨rfl, rfl⟩
  | _ :: _, _ :: _, _ :: _, h => by have := EntsL.len h.2.2; exact ⟨by simp [this.1], by simp [this.2]⟩
  | [], [], _ :: _, h => h.elim
  | [], _ :: _, _, h => h.elim
  | _ :: _, [], _, h => h.elim
  | _ :: _, _ :: _, [], h => h.elim
theorem EntsL.keys {K V : Type} {Φ : Pub} {w : World} {kV : K → Value} {eR : Value → V → RP} : ∀ {es : List MapEntry} {m : List (K × V)} {fs : List (List Nat)}, EntsL Φ w kV eR es m fs → es.map (·.key) = (m.map (·.1)).map kV
  | [], [], [], _ => rfl
  | _ :: _, _ :: _, _ :: _, h => by simp [h.1, EntsL.keys h.2.2]
  | [], [], _ :: _, h => h.elim
  | [], _ :: _, _, h => h.elim
  | _ :: _, [], _, h => h.elim
  | _ :: _, _ :: _, [], h => h.elim
theorem EntsL.get {K V : Type} {Φ : Pub} {w : World} {kV : K → Value} {eR : Value → V → RP} : ∀ {es : List MapEntry} {m : List (K × V)} {fs : List (List Nat)} (i : Nat) (x : K × V), EntsL Φ w kV eR es m fs → m[i]? = some x → ∃ e f, es[i]? = some e ∧ fs[i]? = some f ∧ e.key = kV x.1 ∧ (eR e.val x.2).p Φ f w
  | e :: es, y :: m, f :: fs, 0, x, h, hx => by simp at hx; subst hx; exact ⟨e, f, rfl, rfl, h.1, h.2.1⟩
  | e :: es, y :: m, f :: fs, i + 1, x, h, hx => by simpa using EntsL.get i x h.2.2 (by simpa using hx)
  | [], [], [], _, _, _, hx => by simp at hx
  | [], [], _ :: _, _, _, h, _ => h.elim
  | [], _ :: _, _, _, _, h, _ => h.elim
  | _ :: _, [], _, _, _, h, _ => h.elim
  | _ :: _, _ :: _, [], _, _, h, _ => h.elim
theorem EntsL.append {K V : Type} {Φ : Pub} {w : World} {kV : K → Value} {eR : Value → V → RP} : ∀ {es : List MapEntry} {m : List (K × V)} {fs : List (List Nat)} {es' : List MapEntry} {m' : List (K × V)} {fs' : List (List Nat)}, EntsL Φ w kV eR es m fs → EntsL Φ w kV eR es' m' fs' → EntsL Φ w kV eR (es ++ es') (m ++ m') (fs ++ fs')
  | [], [], [], _, _, _, _, k => k
  | _ :: _, _ :: _, _ :: _, _, _, _, h, k => ⟨h.1, h.2.1, EntsL.append h.2.2 k⟩
  | [], [], _ :: _, _, _, _, h, _ => h.elim
  | [], _ :: _, _, _, _, _, h, _ => h.elim
  | _ :: _, [], _, _, _, _, h, _ => h.elim
  | _ :: _, _ :: _, [], _, _, _, h, _ => h.elim
theorem EntsL.set {K V : Type} {Φ : Pub} {w : World} {kV : K → Value} {eR : Value → V → RP} : ∀ {es : List MapEntry} {m : List (K × V)} {fs : List (List Nat)} (i : Nat) {e : MapEntry} {x : K × V} {f : List Nat}, EntsL Φ w kV eR es m fs → e.key = kV x.1 → (eR e.val x.2).p Φ f w → EntsL Φ w kV eR (es.set i e) (m.set i x) (fs.set i f)
  | [], [], [], _, _, _, _, h, _, _ => by simpa using h
  | _ :: _, _ :: _, _ :: _, 0, _, _, _, h, h1, h2 => ⟨h1, h2, h.2.2⟩
  | _ :: _, _ :: _, _ :: _, i + 1, _, _, _, h, h1, h2 => ⟨h.1, h.2.1, EntsL.set i h.2.2 h1 h2⟩
  | [], [], _ :: _, _, _, _, _, h, _, _ => h.elim
  | [], _ :: _, _, _, _, _, _, h, _, _ => h.elim
  | _ :: _, [], _, _, _, _, _, h, _, _ => h.elim
  | _ :: _, _ :: _, [], _, _, _, _, h, _, _ => h.elim

/-- Where a key stands among keys. -/
def kix {K : Type} [DecidableEq K] (k : K) : List K → Option Nat
  | [] => none
  | x :: xs => if k = x then some 0 else (kix k xs).map (· + 1)
def lkp {K V : Type} [DecidableEq K] (k : K) : List (K × V) → Option V
  | [] => none
  | x :: xs => if k = x.1 then some x.2 else lkp k xs
def upd {K V : Type} [DecidableEq K] (k : K) (v : V) : List (K × V) → List (K × V)
  | [] => [(k, v)]
  | x :: xs => if k = x.1 then (k, v) :: xs else x :: upd k v xs
theorem kix_none {K V : Type} [DecidableEq K] {k : K} : ∀ {m : List (K × V)}, kix k (m.map (·.1)) = none → lkp k m = none ∧ (∀ v, upd k v m = m ++ [(k, v)]) ∧ k ∉ m.map (·.1)
  | [], _ => ⟨rfl, fun _ => rfl, by simp⟩
  | x :: m, h => by
    by_cases hk : k = x.1
    · simp [kix, hk] at h
    · simp only [List.map_cons, kix, if_neg hk, Option.map_eq_none_iff] at h
      obtain ⟨h1, h2, h3⟩ := kix_none h
      exact ⟨by simp [lkp, hk, h1], fun v => by simp [upd, hk, h2], by simp only [List.map_cons, List.mem_cons, not_or]; exact ⟨hk, h3⟩⟩
theorem kix_some {K V : Type} [DecidableEq K] {k : K} : ∀ {m : List (K × V)} {i : Nat}, kix k (m.map (·.1)) = some i → ∃ v, m[i]? = some (k, v) ∧ lkp k m = some v ∧ (∀ v', upd k v' m = m.set i (k, v')) ∧ i < m.length
  | [], i, h => by simp [kix] at h
  | x :: m, i, h => by
    by_cases hk : k = x.1
    · simp [kix, hk] at h
      subst h
      exact ⟨x.2, by simp [hk], by simp [lkp, hk], fun v' => by simp [upd, hk], by simp⟩
    · simp only [List.map_cons, kix, if_neg hk, Option.map_eq_some_iff] at h
      obtain ⟨j, h, rfl⟩ := h
      obtain ⟨v, h1, h2, h3, h4⟩ := kix_some h
      exact ⟨v, by simpa using h1, by simp [lkp, hk, h2], fun v' => by simp [upd, hk, h3], by simpa using h4⟩
theorem upd_keys {K V : Type} [DecidableEq K] (k : K) (v : V) : ∀ (m : List (K × V)), (m.map (·.1)).Nodup → ((upd k v m).map (·.1)).Nodup
  | [], _ => by simp [upd]
  | x :: m, h => by
    rw [List.map_cons, List.nodup_cons] at h
    by_cases hk : k = x.1
    · simp only [upd, if_pos hk, List.map_cons, List.nodup_cons]
      rw [hk]; exact h
    · simp only [upd, if_neg hk, List.map_cons, List.nodup_cons]
      refine ⟨fun hm => ?_, upd_keys k v m h.2⟩
      have : ∀ (m : List (K × V)) (y : K), y ∈ (upd k v m).map (·.1) → y = k ∨ y ∈ m.map (·.1) := by
        intro m
        induction m with
        | nil => intro y hy; simpa [upd] using hy
        | cons z m ih =>
          intro y hy
          simp only [upd] at hy
          by_cases hz : k = z.1
          · rw [if_pos hz, List.map_cons, List.mem_cons] at hy
            rcases hy with hy | hy
            · exact .inl hy
            · exact .inr (by rw [List.map_cons]; exact List.mem_cons_of_mem _ hy)
          · rw [if_neg hz, List.map_cons, List.mem_cons] at hy
            rcases hy with hy | hy
            · exact .inr (by rw [List.map_cons, hy]; exact List.mem_cons_self)
            · rcases ih y hy with h' | h'
              · exact .inl h'
              · exact .inr (by rw [List.map_cons]; exact List.mem_cons_of_mem _ h')
      rcases this m x.1 hm with h' | h'
      · exact hk h'.symm
      · exact h.1 h'
theorem upd_all {K V : Type} [DecidableEq K] {q : K → Prop} (k : K) (v : V) (hk : q k) : ∀ (m : List (K × V)), (∀ x ∈ m, q x.1) → ∀ x ∈ upd k v m, q x.1
  | [], _, x, hx => by simp [upd] at hx; subst hx; exact hk
  | y :: m, h, x, hx => by
    simp only [upd] at hx
    split at hx
    · rcases List.mem_cons.1 hx with rfl | hx
      · exact hk
      · exact h x (List.mem_cons_of_mem _ hx)
    · rcases List.mem_cons.1 hx with rfl | hx
      · exact h _ List.mem_cons_self
      · exact upd_all k v hk m (fun z hz => h z (List.mem_cons_of_mem _ hz)) x hx

/-- What is asked of a type of keys. -/
structure KeyOk (P : Program) (kt : TypeId) {K : Type} [DecidableEq K] (kV : K → Value) (kOk : K → Prop) : Prop where
  check : ∀ b k w, kOk k → (Instr.checkKey b 10000 kt (kV k)).run P w = .ok () w
  find : ∀ (es : List MapEntry) (ks : List K) (k : K) (w : World), kOk k → es.map (·.key) = ks.map kV → (∀ x ∈ ks, kOk x) → (Instr.findKey kt (kV k) es).run P w = .ok ((kix k ks).bind fun i => es[i]?.map fun e => (i, e.val)) w
  same : ∀ k, Instr.sameBits 10000 (kV k) (kV k) = true

theorem ba_beq (k x : List UInt8) : ((⟨k.toArray⟩ : ByteArray) == ⟨x.toArray⟩) = decide (k = x) := by
  show (k.toArray == x.toArray) = _
  rw [Bool.eq_iff_iff]
  simp
def strK (l : List UInt8) : Value := .string ⟨l.toArray⟩
def arrK (l : List UInt8) : Value := .agg (l.map byteC).toArray
section keys
variable {P : Program} {kt : TypeId}
theorem keyStr (hu : P.underlying kt = some .string) : KeyOk P kt strK (fun _ => True) where
  check b k w _ := by
    unfold Instr.checkKey
    simp [strK, run_underlying hu]
  find es ks k w _ hk _ := by
    have key : ∀ (es : List MapEntry) (ks : List (List UInt8)) (i : Nat), es.map (·.key) = ks.map strK → Instr.findNow .string (strK k) es i = some ((kix k ks).bind fun j => es[j]?.map fun e => (i + j, e.val)) := by
      intro es
      induction es with
      | nil => intro ks i h; cases ks with
                             | nil => rfl
                             | cons x ks => simp at h
      | cons e es ih =>
        intro ks i h
        cases ks with
        | nil => simp at h
        | cons x ks =>
          simp only [List.map_cons, List.cons.injEq] at h
          have hs : Instr.sameNow .string (strK k) e.key = some (decide (k = x)) := by
            rw [h.1]
            simp only [Instr.sameNow, strK, ba_beq]
          unfold Instr.findNow
          rw [hs]
          by_cases hx : k = x
          · simp [hx, kix]
          · simp only [hx, decide_false, kix, if_neg hx]
            rw [ih ks (i + 1) h.2]
            cases kix k ks with
            | none => rfl
            | some j => simp [Nat.add_comm, Nat.add_left_comm]
    have := key es ks 0 hk
    simp only [Nat.zero_add] at this
    simp only [Instr.findKey, Sem.run_bind, run_underlying hu, Result.andThen_ok]
    rw [this]
    rfl
  same k := by simp [Instr.sameBits, strK, ba_beq]
theorem run_checkBytes {e : TypeId} (he : P.underlying e = some (.int .u8)) (hs : ∀ w, (sizeOf e).run P w = .ok 1 w) (ha : ∀ w, (isAgg e).run P w = .ok false w) (b : Bool) (n : Nat) (l : List UInt8) (w : World) : ∀ (m k : Nat), k + m ≤ l.length →
    (forIn (List.range' k m) PUnit.unit fun i _ => do Instr.checkKey b (n + 1) e (← part e (l.map byteC).toArray (i * (← sizeOf e))); pure (ForInStep.yield PUnit.unit) : Sem PUnit).run P w = .ok PUnit.unit w
  | 0, k, _ => by simp
  | m + 1, k, h => by
    have ih := run_checkBytes he hs ha b n l w m (k + 1) (by omega)
    have hp : (part e (l.map byteC).toArray (k * 1)).run P w = .ok (byteC l[k]) w := by simp [part, ha, show k < l.length by omega]
    have hc : (Instr.checkKey b (n + 1) e (byteC l[k])).run P w = .ok () w := by
      unfold Instr.checkKey
      simp [run_underlying he, byteC]
    simp only [List.range'_succ, List.forIn_cons, Sem.run_bind, hs, Result.andThen_ok, hp, hc, Sem.run_pure]
    exact ih
theorem keyArr {e : TypeId} {n : Nat} {i : TypeInfo} (hu : P.underlying kt = some (.array n e)) (he : P.underlying e = some (.int .u8)) (hi : P.info? e = some i) (hs : ∀ w, (sizeOf e).run P w = .ok 1 w) (ha : ∀ w, (isAgg e).run P w = .ok false w) :
    KeyOk P kt arrK (fun l => l.length = n) where
  check b k w hk := by
    unfold Instr.checkKey arrK
    simp only [Sem.run_bind, run_underlying hu, Result.andThen_ok]
    have := run_checkBytes (P := P) he hs ha b 9998 k w n 0 (by omega)
    simp only [Std.Legacy.Range.forIn_eq_forIn_range', Std.Legacy.Range.size] at *
    simp at this ⊢
    rw [this]
    rfl
  find es ks k w hk hkeys hall := by
    have key : ∀ (es : List MapEntry) (ks : List (List UInt8)) (j : Nat), es.map (·.key) = ks.map arrK → (∀ x ∈ ks, x.length = n) → (Instr.findAsking kt (arrK k) es j).run P w = .ok ((kix k ks).bind fun q => es[q]?.map fun e => (j + q, e.val)) w := by
      intro es
      induction es with
      | nil => intro ks j h _; cases ks with
                               | nil => rfl
                               | cons x ks => simp at h
      | cons e' es ih =>
        intro ks j h hall
        cases ks with
        | nil => simp at h
        | cons x ks =>
          simp only [List.map_cons, List.cons.injEq] at h
          have heq : (Op.equal kt (arrK k) e'.key).run P w = .ok (decide (k = x)) w := by
            rw [h.1]
            exact run_eq_bytes hu he hi hs ha hk (hall x (by simp)) 9998 w
          unfold Instr.findAsking
          simp only [Sem.run_bind, heq, Result.andThen_ok]
          by_cases hx : k = x
          · simp [hx, kix]
          · simp only [hx, decide_false, kix, Bool.false_eq_true, if_false]
            rw [ih ks (j + 1) h.2 fun y hy => hall y (by simp [hy])]
            cases kix k ks with
            | none => rfl
            | some q => simp [Nat.add_comm, Nat.add_left_comm]
    have hnow : ∀ (es : List MapEntry), es.map (·.key) = ks.map arrK → Instr.findNow (.array n e) (arrK k) es 0 = if es = [] then some none else none := by
      intro es h
      cases es with
      | nil => rfl
      | cons e' es =>
        cases ks with
        | nil => simp at h
        | cons x ks =>
          simp only [List.map_cons, List.cons.injEq] at h
          simp [Instr.findNow, Instr.sameNow]
    simp only [Instr.findKey, Sem.run_bind, run_underlying hu, Result.andThen_ok, hnow es hkeys]
    by_cases h0 : es = []
    · subst h0
      have : ks = [] := by cases ks with
                           | nil => rfl
                           | cons x ks => simp at hkeys
      subst this
      simp [kix]
    · rw [if_neg h0]
      have := key es ks 0 hkeys hall
      simpa using this
  same k := by
    have : ∀ (l : List UInt8), ((l.map byteC).zip (l.map byteC)).all (fun (x, y) => Instr.sameBits 9999 x y) = true := by
      intro l
      induction l with
      | nil => rfl
      | cons x l ih => simp [Instr.sameBits, byteC] at ih ⊢; exact ih
    simp [Instr.sameBits, arrK, this]
end keys
end Go.Proofs.YtklikgigjdgjaaaGreatDoorRRR
