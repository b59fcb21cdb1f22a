/- Resources put together; objects opened and closed. -/
import Derived.Test.YtklikgigjdgjaaaGreatDoorRRRA15
namespace Go.Proofs.YtklikgigjdgjaaaGreatDoorRRR
open Go Go.RowKit

def RP.sep (R S : RP) : RP := ⟨fun Φ f w => ∃ f1 f2, f = f1 ++ f2 ∧ R.p Φ f1 w ∧ S.p Φ f2 w, by
  rintro Φ Φ' f w w' hle hs hb ⟨f1, f2, rfl, h1, h2⟩
  exact ⟨f1, f2, rfl, R.loc hle (fun b hm => hs b (by simp [hm])) (fun b hm => hb b (by simp [hm])) h1, S.loc hle (fun b hm => hs b (by simp [hm])) (fun b hm => hb b (by simp [hm])) h2⟩⟩
def RP.ex {α : Type} (R : α → RP) : RP := ⟨fun Φ f w => ∃ x, (R x).p Φ f w, by
  rintro Φ Φ' f w w' hle hs hb ⟨x, h⟩
  exact ⟨x, (R x).loc hle hs hb h⟩⟩
def RP.is (q : Prop) : RP := ⟨fun _ f _ => f = [] ∧ q, fun _ _ _ h => h⟩
def RP.val (V : VP) (v : Value) : RP := ⟨fun Φ f _ => f = [] ∧ V.p Φ v, fun hle _ _ h => ⟨h.1, V.mono hle h.2⟩⟩
/-- What one resource tells of another. -/
def RP.le (R S : RP) : Prop := ∀ Φ f w, R.p Φ f w → S.p Φ f w
theorem RP.le_refl (R : RP) : RP.le R R := fun _ _ _ h => h
theorem RP.le_ex {α : Type} {R : α → RP} (x : α) : RP.le (R x) (RP.ex R) := fun _ _ _ h => ⟨x, h⟩
theorem RP.le_trans {R S T : RP} (h : RP.le R S) (k : RP.le S T) : RP.le R T := fun Φ f w q => k Φ f w (h Φ f w q)

theorem nthD_set (l : List Ent) (i j : Nat) (e : Ent) : nthD .none (l.set i e) j = if i = j ∧ i < l.length then e else nthD .none l j := by
  simp only [nthD_eq, List.getD, List.getElem?_set]
  by_cases h : i = j
  · subst h
    by_cases h2 : i < l.length
    · simp [h2]
    · simp [h2]
  · simp [h]

section moves
variable {c : Cx} {l : List Ent} {a : Act} {w : World}
theorem SatL.conv {R R' : RP} (h : SatL c l a w) (i : Nat) (he : nthD .none l i = .res R) (hR : RP.le R R') : SatL c (l.set i (.res R')) a w := by
  obtain ⟨Φ, fp, h⟩ := h
  refine ⟨Φ, fp, h.defers, h.size, h.pub, h.know, h.step, fun j hj => ?_, fun j hj => h.own j (by simpa using hj), fun j k hj hk => h.apart j k (by simpa using hj) (by simpa using hk)⟩
  have hj : j < l.length := by simpa using hj
  rw [nthD_set]
  split
  · rename_i hc
    have := h.holds j hj
    rw [← hc.1, he] at this
    rw [← hc.1]
    exact hR _ _ _ this
  · exact h.holds j hj
theorem SatL.ex {α : Type} {R : α → RP} (h : SatL c l a w) (i : Nat) (he : nthD .none l i = .res (RP.ex R)) : ∃ x, SatL c (l.set i (.res (R x))) a w := by
  obtain ⟨Φ, fp, h⟩ := h
  have hi := nthD_lt he (by simp)
  have hx := h.holds i hi
  rw [he] at hx
  obtain ⟨x, hx⟩ := hx
  refine ⟨x, Φ, fp, h.defers, h.size, h.pub, h.know, h.step, fun j hj => ?_, fun j hj => h.own j (by simpa using hj), fun j k hj hk => h.apart j k (by simpa using hj) (by simpa using hk)⟩
  have hj : j < l.length := by simpa using hj
  rw [nthD_set]
  split
  · rename_i hc
    rw [← hc.1]
    exact hx
  · exact h.holds j hj
theorem SatL.isp {R : RP} {q : Prop} (h : SatL c l a w) (i : Nat) (he : nthD .none l i = .res R) (hq : ∀ Φ f w, R.p Φ f w → q) : q := by
  obtain ⟨Φ, fp, h⟩ := h
  have hi := nthD_lt he (by simp)
  have hx := h.holds i hi
  rw [he] at hx
  exact hq _ _ _ hx
theorem SatL.slotp {d : Nat} {V : VP} {q : Prop} (h : SatL c l a w) (i : Nat) (he : nthD .none l i = .slot d V) (hq : ∀ Φ v, V.p Φ v → q) : q := by
  obtain ⟨Φ, fp, h⟩ := h
  have hi := nthD_lt he (by simp)
  have hx := h.holds i hi
  rw [he] at hx
  obtain ⟨_, v, _, hv⟩ := hx
  exact hq _ _ hv
theorem SatL.slotc {d : Nat} {V V' : VP} (h : SatL c l a w) (i : Nat) (he : nthD .none l i = .slot d V) (hV : ∀ Φ v, V.p Φ v → V'.p Φ v) : SatL c (l.set i (.slot d V')) a w := by
  obtain ⟨Φ, fp, h⟩ := h
  refine ⟨Φ, fp, h.defers, h.size, h.pub, h.know, h.step, fun j hj => ?_, fun j hj => h.own j (by simpa using hj), fun j k hj hk => h.apart j k (by simpa using hj) (by simpa using hk)⟩
  have hj : j < l.length := by simpa using hj
  rw [nthD_set]
  split
  · rename_i hc
    have := h.holds j hj
    rw [← hc.1, he] at this
    obtain ⟨q1, v, q2, q3⟩ := this
    rw [← hc.1]
    exact ⟨q1, v, q2, hV _ _ q3⟩
  · exact h.holds j hj
theorem SatL.sep {R S : RP} (h : SatL c l a w) (i : Nat) (he : nthD .none l i = .res (RP.sep R S)) : SatL c (l.set i (.res R) ++ [.res S]) a w := by
  obtain ⟨Φ, fp, h⟩ := h
  have hi := nthD_lt he (by simp)
  have hx := h.holds i hi
  rw [he] at hx
  obtain ⟨f1, f2, hf, h1, h2⟩ := hx
  obtain ⟨hnd, hown⟩ := h.own i hi
  rw [hf] at hnd hown
  have hsub : ∀ j b, j < l.length + 1 → b ∈ (if j = i then f1 else if j = l.length then f2 else fp j) → (j = i ∨ j = l.length) ∧ b ∈ fp i ∨ j < l.length ∧ j ≠ i ∧ b ∈ fp j := by
    intro j b hj hb
    by_cases q1 : j = i
    · rw [if_pos q1] at hb
      exact .inl ⟨.inl q1, by rw [hf]; simp [hb]⟩
    · rw [if_neg q1] at hb
      by_cases q2 : j = l.length
      · rw [if_pos q2] at hb
        exact .inl ⟨.inr q2, by rw [hf]; simp [hb]⟩
      · rw [if_neg q2] at hb
        exact .inr ⟨by omega, q1, hb⟩
  refine ⟨Φ, fun j => if j = i then f1 else if j = l.length then f2 else fp j, h.defers, h.size, h.pub, h.know, h.step, fun j hj => ?_, fun j hj => ?_, fun j k hj hk hne b hb hb' => ?_⟩
  · have hj : j < l.length + 1 := by simpa using hj
    by_cases q1 : j = i
    · subst q1
      have e1 : nthD .none (l.set j (.res R) ++ [.res S]) j = .res R := by rw [nthD_append, if_pos (by simpa using hi), nthD_set, if_pos ⟨rfl, hi⟩]
      rw [e1]
      simp only [if_true]
      exact h1
    · by_cases q2 : j = l.length
      · subst q2
        have e1 : nthD .none (l.set i (.res R) ++ [.res S]) l.length = .res S := by rw [nthD_append, if_neg (by simp)]; simp [nthD]
        rw [e1]
        simp only [if_neg q1, if_true]
        exact h2
      · have e1 : nthD .none (l.set i (.res R) ++ [.res S]) j = nthD .none l j := by rw [nthD_append, if_pos (by simp; omega), nthD_set, if_neg (fun hc => q1 hc.1.symm)]
        rw [e1]
        simp only [if_neg q1, if_neg q2]
        exact h.holds j (by omega)
  · have hj : j < l.length + 1 := by simpa using hj
    refine ⟨?_, fun b hb => ?_⟩
    · show (if j = i then f1 else if j = l.length then f2 else fp j).Nodup
      by_cases q1 : j = i
      · rw [if_pos q1]; exact (List.nodup_append.1 hnd).1
      · rw [if_neg q1]
        by_cases q2 : j = l.length
        · rw [if_pos q2]; exact (List.nodup_append.1 hnd).2.1
        · rw [if_neg q2]; exact (h.own j (by omega)).1
    · rcases hsub j b hj hb with ⟨_, q⟩ | ⟨q1, _, q⟩
      · rw [hf] at q; exact hown b q
      · exact (h.own j q1).2 b q
  · have hj : j < l.length + 1 := by simpa using hj
    have hk : k < l.length + 1 := by simpa using hk
    have hdis : ∀ b, b ∈ f1 → b ∈ f2 → False := fun b x y => (List.nodup_append.1 hnd).2.2 b x b y rfl
    rcases hsub j b hj hb with ⟨q1, q2⟩ | ⟨q1, q2, q3⟩
    · rcases hsub k b hk hb' with ⟨r1, r2⟩ | ⟨r1, r2, r3⟩
      · have hli : ¬ l.length = i := by omega
        rcases q1 with rfl | rfl
        · rcases r1 with rfl | rfl
          · exact hne rfl
          · simp only [if_true] at hb
            simp only [if_neg hli, if_true] at hb'
            exact hdis b hb hb'
        · rcases r1 with rfl | rfl
          · simp only [if_true] at hb'
            simp only [if_neg hli, if_true] at hb
            exact hdis b hb' hb
          · exact hne rfl
      · exact h.apart i k hi r1 (fun e => r2 e.symm) b q2 r3
    · rcases hsub k b hk hb' with ⟨r1, r2⟩ | ⟨r1, r2, r3⟩
      · exact h.apart j i q1 hi q2 b q3 r2
      · exact h.apart j k q1 r1 hne b q3 r3
theorem SatL.unsep {R S : RP} (h : SatL c l a w) (i j : Nat) (hi : nthD .none l i = .res R) (hj : nthD .none l j = .res S) (hne : i ≠ j) : SatL c ((l.set i (.res (RP.sep R S))).set j .none) a w := by
  obtain ⟨Φ, fp, h⟩ := h
  have hil := nthD_lt hi (by simp)
  have hjl := nthD_lt hj (by simp)
  have h1 := h.holds i hil
  rw [hi] at h1
  have h2 := h.holds j hjl
  rw [hj] at h2
  have hsub : ∀ k b, b ∈ (if k = i then fp i ++ fp j else if k = j then [] else fp k) → (k = i ∧ (b ∈ fp i ∨ b ∈ fp j)) ∨ (k ≠ i ∧ k ≠ j ∧ b ∈ fp k) := by
    intro k b hb
    by_cases q1 : k = i
    · rw [if_pos q1] at hb
      exact .inl ⟨q1, List.mem_append.1 hb⟩
    · rw [if_neg q1] at hb
      by_cases q2 : k = j
      · rw [if_pos q2] at hb; simp at hb
      · rw [if_neg q2] at hb; exact .inr ⟨q1, q2, hb⟩
  refine ⟨Φ, fun k => if k = i then fp i ++ fp j else if k = j then [] else fp k, h.defers, h.size, h.pub, h.know, h.step, fun k hk => ?_, fun k hk => ?_, fun k m hk hm hkm b hb hb' => ?_⟩
  · have hk : k < l.length := by simpa using hk
    by_cases q2 : j = k
    · subst q2
      have e1 : nthD .none ((l.set i (.res (RP.sep R S))).set j .none) j = .none := by rw [nthD_set, if_pos ⟨rfl, by simpa using hjl⟩]
      rw [e1]
      simp only [if_neg (fun e : j = i => hne e.symm), if_true]
      rfl
    · by_cases q1 : i = k
      · subst q1
        have e1 : nthD .none ((l.set i (.res (RP.sep R S))).set j .none) i = .res (RP.sep R S) := by rw [nthD_set, if_neg (fun hc => q2 hc.1), nthD_set, if_pos ⟨rfl, hil⟩]
        rw [e1]
        simp only [if_true]
        exact ⟨fp i, fp j, rfl, h1, h2⟩
      · have e1 : nthD .none ((l.set i (.res (RP.sep R S))).set j .none) k = nthD .none l k := by rw [nthD_set, if_neg (fun hc => q2 hc.1), nthD_set, if_neg (fun hc => q1 hc.1)]
        rw [e1]
        simp only [if_neg (fun e : k = i => q1 e.symm), if_neg (fun e : k = j => q2 e.symm)]
        exact h.holds k hk
  · have hk : k < l.length := by simpa using hk
    refine ⟨?_, fun b hb => ?_⟩
    · show (if k = i then fp i ++ fp j else if k = j then [] else fp k).Nodup
      by_cases q1 : k = i
      · rw [if_pos q1]
        refine List.nodup_append.2 ⟨(h.own i hil).1, (h.own j hjl).1, fun x hx y hy e => ?_⟩
        subst e
        exact h.apart i j hil hjl hne x hx hy
      · rw [if_neg q1]
        by_cases q2 : k = j
        · rw [if_pos q2]; exact List.nodup_nil
        · rw [if_neg q2]; exact (h.own k hk).1
    · rcases hsub k b hb with ⟨_, q | q⟩ | ⟨_, _, q⟩
      · exact (h.own i hil).2 b q
      · exact (h.own j hjl).2 b q
      · exact (h.own k hk).2 b q
  · have hk : k < l.length := by simpa using hk
    have hm : m < l.length := by simpa using hm
    rcases hsub k b hb with ⟨q0, q | q⟩ | ⟨q1, q2, q⟩ <;> rcases hsub m b hb' with ⟨r0, r | r⟩ | ⟨r1, r2, r⟩
    · exact hkm (q0.trans r0.symm)
    · exact hkm (q0.trans r0.symm)
    · exact h.apart i m hil hm (fun e => r1 e.symm) b q r
    · exact hkm (q0.trans r0.symm)
    · exact hkm (q0.trans r0.symm)
    · exact h.apart j m hjl hm (fun e => r2 e.symm) b q r
    · exact h.apart k i hk hil q1 b q r
    · exact h.apart k j hk hjl q2 b q r
    · exact h.apart k m hk hm hkm b q r
/-- A resource that holds no blocks, out of nothing. -/
theorem SatL.snoc {R : RP} (h : SatL c l a w) (hR : ∀ Φ w, PubOk Φ w → R.p Φ [] w) : SatL c (l ++ [.res R]) a w := by
  obtain ⟨Φ, fp, h⟩ := h
  refine ⟨Φ, fun j => if j = l.length then [] else fp j, h.defers, h.size, h.pub, h.know, h.step, fun j hj => ?_, fun j hj => ?_, fun j k hj hk hne b hb hb' => ?_⟩
  · have hj : j < l.length + 1 := by simpa using hj
    by_cases q : j = l.length
    · subst q
      have e1 : nthD .none (l ++ [.res R]) l.length = .res R := by rw [nthD_append, if_neg (by simp)]; simp [nthD]
      rw [e1]
      simp only [if_true]
      exact hR Φ w h.pub
    · have e1 : nthD .none (l ++ [.res R]) j = nthD .none l j := by rw [nthD_append, if_pos (by omega)]
      rw [e1]
      simp only [if_neg q]
      exact h.holds j (by omega)
  · have hj : j < l.length + 1 := by simpa using hj
    by_cases q : j = l.length
    · simp only [if_pos q]; exact ⟨List.nodup_nil, by simp⟩
    · simp only [if_neg q]; exact h.own j (by omega)
  · have hj : j < l.length + 1 := by simpa using hj
    have hk : k < l.length + 1 := by simpa using hk
    by_cases q : j = l.length
    · simp [if_pos q] at hb
    · by_cases r : k = l.length
      · simp [if_pos r] at hb'
      · simp only [if_neg q] at hb
        simp only [if_neg r] at hb'
        exact h.apart j k (by omega) (by omega) hne b hb hb'
end moves

/-- The entries of an operation, weakened. -/
def EntLe : List Ent → List Ent → Prop
  | [], [] => True
  | e :: es, f :: fs => (∀ Φ t w g, e.holds Φ t w g → f.holds Φ t w g) ∧ EntLe es fs
  | _, _ => False
theorem EntLe.hold {Φ : Pub} {t : Array Value} {w : World} : ∀ {C D : List Ent} {f : List (List Nat)}, EntLe C D → HoldL Φ t w C f → HoldL Φ t w D f
  | [], [], _, _, h => h
  | _ :: _, _ :: _, [], _, h => h.elim
  | _ :: _, _ :: _, _ :: _, k, h => ⟨k.1 _ _ _ _ h.1, EntLe.hold k.2 h.2⟩
  | [], _ :: _, _, k, _ => k.elim
  | _ :: _, [], _, k, _ => k.elim
theorem ent_le {R S : RP} (h : RP.le R S) : ∀ Φ t w g, (Ent.res R).holds Φ t w g → (Ent.res S).holds Φ t w g := fun Φ _ w g q => h Φ g w q
theorem ent_id (e : Ent) : ∀ Φ t w g, e.holds Φ t w g → e.holds Φ t w g := fun _ _ _ _ q => q
theorem OpOk.conv {P : Program} {G : FP} {o : Oper} {N C C' : List Ent} {Gv : Value → List Ent} (hC : EntLe C' C) (h : OpOk P G o N C Gv) : OpOk P G o N C' Gv := by
  intro Φ a w fN fC h1 h2 h3 h4 h5 h6 h7 K Q hK
  exact h Φ a w fN fC h1 h2 h3 (hC.hold h4) h5 h6 h7 K Q hK
/-- As op_call; the value that is handed back is known by its name besides. -/
theorem op_callv {P : Program} {G : FP} {N : List Ent} {d : Nat} {ty : TypeId} {pos : String} {af : Array Edge} {gd : Option (Nat × Bool)} {f : FuncId} {xs : List Operand} {tys : Array TypeId} {args : List VP} {pre : List RP} {post : Value → List RP} {res : VP} (hcall : ∀ args w, (callFunc f args).run P w = .ok (.enter f args) w)
    (hc : CallOk P G f args pre post res) (hx : OpndsOk G N xs args) :
    OpOk P G ⟨some d, .call ⟨.value (.func f), xs.toArray, tys⟩, ty, pos, af, gd⟩ N (pre.map .res) (fun v => .slot d (eqVP v) :: (post v).map .res) := by
  intro Φ a w fN fC h1 h2 h3 h4 h5 h6 h7 K Q hK
  refine op_call hcall hc hx Φ a w fN fC h1 h2 h3 h4 h5 h6 h7 K Q fun v w' Φ' fG q1 q2 q3 q4 q5 => hK v w' Φ' fG q1 q2 ?_ q4 q5
  match fG, q3 with
  | f :: fs, q3 =>
    obtain ⟨⟨r1, u, r2, r3⟩, r4⟩ := q3
    refine ⟨⟨r1, u, r2, ?_⟩, r4⟩
    have := put_get a v d (h7 d rfl)
    rw [this] at r2
    exact (Option.some.inj r2).symm
  | [], q3 => exact q3.elim

theorem ResL.le {Φ : Pub} {w : World} : ∀ {Rs Ss : List RP} {fs : List (List Nat)}, ResL Φ w Rs fs → Rs.length = Ss.length → (∀ (i : Nat) (R S : RP), Rs[i]? = some R → Ss[i]? = some S → RP.le R S) → ResL Φ w Ss fs
  | [], [], _, h, _, _ => h
  | R :: Rs, S :: Ss, f :: fs, h, hl, hk => ⟨hk 0 R S rfl rfl _ _ _ h.1, ResL.le h.2 (by simpa using hl) fun i R S q1 q2 => hk (i + 1) R S (by simpa using q1) (by simpa using q2)⟩
  | _ :: _, _ :: _, [], h, _, _ => h.elim
  | [], _ :: _, _, _, hl, _ => by simp at hl
  | _ :: _, [], _, _, hl, _ => by simp at hl
/-- A contract that holds whatever x is. -/
theorem CallOk.ex {P : Program} {G : FP} {f : FuncId} {args : List VP} {α : Type} {R : α → RP} {R' : α → Value → RP} {pre : List RP} {post : Value → List RP} {res : VP} (h : ∀ x, CallOk P G f args (R x :: pre) (fun v => R' x v :: post v) res) :
    CallOk P G f args (RP.ex R :: pre) (fun v => RP.ex (fun x => R' x v) :: post v) res := by
  intro Φ w vs fs h1 h2 h3 h4 h5 h6
  match fs, h4 with
  | f0 :: fs, ⟨⟨x, hx⟩, h4⟩ =>
    refine (h x Φ w vs (f0 :: fs) h1 h2 h3 ⟨hx, h4⟩ h5 h6).mono fun e w' hq => ?_
    obtain ⟨v, Φ', fs', q0, q1, q2, q3, q4, q5, q6⟩ := hq
    match fs', q4 with
    | g :: gs, q4 => exact ⟨v, Φ', g :: gs, q0, q1, q2, q3, ⟨⟨x, q4.1⟩, q4.2⟩, q5, q6⟩
    | [], q4 => exact q4.elim
  | [], h4 => exact h4.elim

/-- A test on a constant. -/
theorem cond_c {P : Program} {a : Act} {w : World} {Q : Exit → Act → World → Prop} {b : Bool} {x y : Code} (h : (if b then x else y).wp P Q a w) : (Code.cond (.const (.bool b)) x y).wp P Q a w :=
  wp_cond_split (t := b) rfl (fun hb => by subst hb; exact h) (fun hb => by subst hb; exact h)
end Go.Proofs.YtklikgigjdgjaaaGreatDoorRRR
