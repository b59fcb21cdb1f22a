/- Plain law of AuditLetters: what is counted of any letters. -/
import Derived.Test.YtafeolgdggncnaaDoorP62
namespace Go.Proofs.YtafeolgdggncnaaDoor
open Go Go.RowKit Go.Proofs
set_option linter.unusedVariables false
set_option maxRecDepth 100000

theorem awake28 : law28_awake = some true := by decide +kernel
theorem nat_to (i : Nat) : ((i : Nat) : Int).toNat = i := by omega
theorem mxl_eq : mxl = 9223372036854775807 := rfl
theorem inc64 {i n : Nat} (h : i < n) (hn : n ≤ mxl) : IntKind.wrap .i64 ((i : Int) + 1) = (i : Int) + 1 := by
  rw [mxl_eq] at hn
  exact w64 (by omega)
def sameB (a b : S_api_Letter) : Bool := (decide (a.f_From = b.f_From)) && ((decide (a.f_Nonce = b.f_Nonce)) && ((decide (a.f_To = b.f_To)) && ((decide (a.f_Sender = b.f_Sender)) && ((decide (a.f_Receiver = b.f_Receiver)) && ((decide (a.f_Body = b.f_Body)) && true)))))
theorem rsame (a b : S_api_Letter) : ref09_Same a b = some (sameB a b) := by
  unfold ref09_Same sameB
  by_cases h1 : a.f_From = b.f_From
  · rw [if_pos (decide_eq_true h1), decide_eq_true h1]
    by_cases h2 : a.f_Nonce = b.f_Nonce
    · rw [if_pos (decide_eq_true h2), decide_eq_true h2]
      by_cases h3 : a.f_To = b.f_To
      · rw [if_pos (decide_eq_true h3), decide_eq_true h3]
        by_cases h4 : a.f_Sender = b.f_Sender
        · rw [if_pos (decide_eq_true h4), decide_eq_true h4]
          by_cases h5 : a.f_Receiver = b.f_Receiver
          · rw [if_pos (decide_eq_true h5), decide_eq_true h5]
            unfold ref09_Same.j1
            simp
          · rw [if_neg (by rw [decide_eq_false h5]; decide), decide_eq_false h5]; rfl
        · rw [if_neg (by rw [decide_eq_false h4]; decide), decide_eq_false h4]; rfl
      · rw [if_neg (by rw [decide_eq_false h3]; decide), decide_eq_false h3]; rfl
    · rw [if_neg (by rw [decide_eq_false h2]; decide), decide_eq_false h2]; rfl
  · rw [if_neg (by rw [decide_eq_false h1]; decide), decide_eq_false h1]; rfl
theorem fd_end (p : Nat → Bool) (n : Nat) (h : ¬ 0 ≤ fd p n) : fd p n = -1 := by have := fd_range p n; omega
theorem ixLetter (l : List S_api_Letter) (g : S_api_Letter → Option Bool) (p : S_api_Letter → Bool) (hg : ∀ y, g y = some (p y)) (hl : l.length ≤ mxl) : slices_IndexFunc_api_Letter l g = some (fd (fun i => p (l.getD i default)) l.length) := by
  unfold slices_IndexFunc_api_Letter
  refine bind_of (loop_fd (fun x => x) (p := fun i => p (l.getD i default)) (n := l.length) (fun i hi => ?_) ?_ (by omega)) ?_
  · show slices_IndexFunc_api_Letter.b1 l g (i : Int) = _
    unfold slices_IndexFunc_api_Letter.b1
    rw [if_pos (decide_eq_true (by omega)), if_pos (by omega), nat_to, inc64 hi hl]
    exact bind_of (hg _) rfl
  · show slices_IndexFunc_api_Letter.b1 l g (l.length : Int) = _
    unfold slices_IndexFunc_api_Letter.b1
    rw [if_neg (by simp)]
  · by_cases h : 0 ≤ fd (fun i => p (l.getD i default)) l.length
    · rw [if_pos h]
    · rw [if_neg h, fd_end _ _ h]
theorem ixState (l : List S_api_State) (g : S_api_State → Option Bool) (p : S_api_State → Bool) (hg : ∀ y, g y = some (p y)) (hl : l.length ≤ mxl) : slices_IndexFunc_api_State l g = some (fd (fun i => p (l.getD i default)) l.length) := by
  unfold slices_IndexFunc_api_State
  refine bind_of (loop_fd (fun x => x) (p := fun i => p (l.getD i default)) (n := l.length) (fun i hi => ?_) ?_ (by omega)) ?_
  · show slices_IndexFunc_api_State.b1 l g (i : Int) = _
    unfold slices_IndexFunc_api_State.b1
    rw [if_pos (decide_eq_true (by omega)), if_pos (by omega), nat_to, inc64 hi hl]
    exact bind_of (hg _) rfl
  · show slices_IndexFunc_api_State.b1 l g (l.length : Int) = _
    unfold slices_IndexFunc_api_State.b1
    rw [if_neg (by simp)]
  · by_cases h : 0 ≤ fd (fun i => p (l.getD i default)) l.length
    · rw [if_pos h]
    · rw [if_neg h, fd_end _ _ h]
def hasB (l : List S_api_Letter) (x : S_api_Letter) : Bool := anyB (fun i => sameB x (l.getD i default)) l.length
theorem has_eq (l : List S_api_Letter) (x : S_api_Letter) (hl : l.length ≤ mxl) : audit_has l x = some (hasB l x) := by
  unfold audit_has slices_ContainsFunc_api_Letter
  refine bind_of (bind_of (ixLetter l (fun y => audit_has_1 y x) (fun y => sameB x y) (fun y => rfl) hl) rfl) rfl
def forI (letters processed : List S_api_Letter) : Int := fd (fun i => !hasB letters (processed.getD i default)) processed.length
theorem foreign_eq (a b : List S_api_Letter) (ha : a.length ≤ mxl) (hb : b.length ≤ mxl) : audit_Foreign a b = some (forI a b) := by
  unfold audit_Foreign
  exact bind_of (ixLetter b (fun x => audit_Foreign_1 x a) (fun x => !hasB a x) (fun y => by unfold audit_Foreign_1; exact bind_of (has_eq a y ha) rfl) hb) rfl
theorem rforeign_eq (a b : List S_api_Letter) (ha : a.length ≤ mxl) (hb : b.length ≤ mxl) : ref28_Foreign a b = some (forI a b) := by
  unfold ref28_Foreign
  refine bind_of (loop_fd (fun x => x) (p := fun i => !hasB a (b.getD i default)) (n := b.length) (fun i hi => ?_) ?_ (by omega)) ?_
  · show ref28_Foreign.b1 a b (i : Int) = _
    unfold ref28_Foreign.b1
    rw [if_pos (decide_eq_true (by omega)), inc64 hi hb]
    have hin : loopN (fun s : Bool × Int => ref28_Foreign.b2 a b (i : Int) s.1 s.2) (((a.length : Int) - 0 : Int).toNat + 2) (false, 0) = some (.next (hasB a (b.getD i default), (a.length : Int))) := by
      have h := loop_it2 (R := Int) (body := fun s : Bool × Int => ref28_Foreign.b2 a b (i : Int) s.1 s.2) (fun j s => s || sameB (b.getD i default) (a.getD j default)) (n := a.length) (k := ((a.length : Int) - 0 : Int).toNat + 2) (s0 := false) (fun j s hj _ => by
        show ref28_Foreign.b2 a b (i : Int) s (j : Int) = _
        unfold ref28_Foreign.b2
        rw [if_pos (decide_eq_true (by omega))]
        cases s with
        | true =>
          rw [if_pos rfl]
          unfold ref28_Foreign.j1
          rw [inc64 hj ha]
          rfl
        | false =>
          rw [if_neg (by decide), if_pos (by omega), if_pos (by omega), nat_to, nat_to]
          refine bind_of (rsame _ _) ?_
          unfold ref28_Foreign.j1
          rw [inc64 hj ha]
          rfl) (by
        show ref28_Foreign.b2 a b (i : Int) _ (a.length : Int) = _
        unfold ref28_Foreign.b2
        rw [if_neg (by simp)]) (by omega)
      rw [foldl_or] at h
      exact h
    refine bind_next hin ?_
    rfl
  · show ref28_Foreign.b1 a b (b.length : Int) = _
    unfold ref28_Foreign.b1
    rw [if_neg (by simp)]
  · show _ = some (forI a b)
    unfold forI
    by_cases h : 0 ≤ fd (fun i => !hasB a (b.getD i default)) b.length
    · rw [if_pos h]
    · rw [if_neg h, fd_end _ _ h]
def agaI (b : List S_api_Letter) : Int := fd (fun i => anyB (fun k => sameB (b.getD i default) (b.getD k default)) i) b.length
theorem anyB_congr {p q : Nat → Bool} {n : Nat} (h : ∀ i, i < n → p i = q i) : anyB p n = anyB q n := by unfold anyB; rw [fd_congr n h]
theorem again_eq (b : List S_api_Letter) (hb : b.length ≤ mxl) : audit_Again b = some (agaI b) := by
  unfold audit_Again
  refine bind_of (loop_fd (fun x => x) (p := fun i => anyB (fun k => sameB (b.getD i default) (b.getD k default)) i) (n := b.length) (fun i hi => ?_) ?_ (by omega)) ?_
  · show audit_Again.b1 b (i : Int) = _
    unfold audit_Again.b1
    have hl : ((b.take ((i : Nat) : Int).toNat).drop (0 : Int).toNat) = b.take i := by rw [nat_to]; rfl
    have hn : (b.take i).length = i := by simp; omega
    rw [if_pos (decide_eq_true (by omega)), if_pos (by omega), if_pos (by omega), hl, nat_to, inc64 hi hb]
    refine bind_of (has_eq _ _ (by rw [hn]; omega)) ?_
    have e : hasB (b.take i) (b.getD i default) = anyB (fun k => sameB (b.getD i default) (b.getD k default)) i := by
      unfold hasB
      rw [hn]
      refine anyB_congr fun k hk => ?_
      have : (b.take i).getD k default = b.getD k default := by simp [List.getD, hk]
      rw [this]
    rw [e]
  · show audit_Again.b1 b (b.length : Int) = _
    unfold audit_Again.b1
    rw [if_neg (by simp)]
  · show _ = some (agaI b)
    unfold agaI
    by_cases h : 0 ≤ fd (fun i => anyB (fun k => sameB (b.getD i default) (b.getD k default)) i) b.length
    · rw [if_pos h]
    · rw [if_neg h, fd_end _ _ h]
theorem ragain_eq (b : List S_api_Letter) (hb : b.length ≤ mxl) : ref28_Again b = some (agaI b) := by
  unfold ref28_Again
  refine bind_of (loop_fd (fun x => x) (p := fun i => anyB (fun k => sameB (b.getD i default) (b.getD k default)) i) (n := b.length) (fun i hi => ?_) ?_ (by omega)) ?_
  · show ref28_Again.b1 b (i : Int) = _
    unfold ref28_Again.b1
    rw [if_pos (decide_eq_true (by omega)), inc64 hi hb]
    have hin := loop_fd (R := Int) (fun _ => (i : Int)) (body := fun s : Int => ref28_Again.b2 b (i : Int) s) (p := fun k => sameB (b.getD i default) (b.getD k default)) (n := i) (k := (((i : Nat) : Int) - 0 : Int).toNat + 2) (fun k hk => by
      show ref28_Again.b2 b (i : Int) (k : Int) = _
      unfold ref28_Again.b2
      rw [if_pos (decide_eq_true (by omega)), if_pos (by omega), if_pos (by omega), nat_to, nat_to, inc64 (show k < b.length by omega) hb]
      exact bind_of (rsame _ _) rfl) (by
      show ref28_Again.b2 b (i : Int) (i : Int) = _
      unfold ref28_Again.b2
      rw [if_neg (by simp)]) (by omega)
    refine bind_of hin ?_
    unfold anyB
    by_cases h : 0 ≤ fd (fun k => sameB (b.getD i default) (b.getD k default)) i
    · rw [if_pos h, decide_eq_true h]; rfl
    · rw [if_neg h, decide_eq_false h]; rfl
  · show ref28_Again.b1 b (b.length : Int) = _
    unfold ref28_Again.b1
    rw [if_neg (by simp)]
  · show _ = some (agaI b)
    unfold agaI
    by_cases h : 0 ≤ fd (fun i => anyB (fun k => sameB (b.getD i default) (b.getD k default)) i) b.length
    · rw [if_pos h]
    · rw [if_neg h, fd_end _ _ h]
def stI2 (r : S_api_Replica) (d : List UInt8) : Int := fd (fun i => decide ((r.f_States.getD i default).f_Leaf = d)) r.f_States.length
def stV (r : S_api_Replica) (d : List UInt8) : Int × List UInt8 := if stI2 r d < 0 then (0, List.replicate 32 0) else ((r.f_States.getD (stI2 r d).toNat default).f_Status, (r.f_States.getD (stI2 r d).toNat default).f_Root)
theorem status_eq (r : S_api_Replica) (d : List UInt8) (hl : r.f_States.length ≤ mxl) : replica_Status r d = some (stV r d) := by
  unfold replica_Status replica_state
  refine bind_of (bind_of (ixState r.f_States (fun x => replica_state_1 x d) (fun x => decide (x.f_Leaf = d)) (fun y => rfl) hl) rfl) ?_
  have hr := fd_range (fun i => decide ((r.f_States.getD i default).f_Leaf = d)) r.f_States.length
  unfold stV stI2
  generalize fd (fun i => decide ((r.f_States.getD i default).f_Leaf = d)) r.f_States.length = z at hr
  by_cases h : z < 0
  · rw [if_pos (decide_eq_true h), if_pos h]
  · rw [if_neg (by rw [decide_eq_false h]; decide), if_neg h, if_pos (by omega)]
theorem rstatus_eq (r : S_api_Replica) (d : List UInt8) (hl : r.f_States.length ≤ mxl) : ref17_Status r d = some (stV r d) := by
  unfold ref17_Status
  refine bind_of (loop_fd (fun x => ((r.f_States.getD x.toNat default).f_Status, (r.f_States.getD x.toNat default).f_Root)) (p := fun i => decide ((r.f_States.getD i default).f_Leaf = d)) (n := r.f_States.length) (fun i hi => ?_) ?_ (by omega)) ?_
  · show ref17_Status.b1 r d (i : Int) = _
    unfold ref17_Status.b1
    rw [if_pos (decide_eq_true (by omega)), if_pos (by omega), inc64 hi hl]
    simp only [nat_to]
  · show ref17_Status.b1 r d (r.f_States.length : Int) = _
    unfold ref17_Status.b1
    rw [if_neg (by simp)]
  · unfold stV stI2
    generalize fd (fun i => decide ((r.f_States.getD i default).f_Leaf = d)) r.f_States.length = z
    by_cases h : 0 ≤ z
    · rw [if_pos h, if_neg (show ¬ z < 0 by omega)]
    · rw [if_neg h, if_pos (show z < 0 by omega)]
/-- A letter that waits is counted. -/
def opS (a : List S_api_Letter) (l : List (List UInt8)) (r : S_api_Replica) (i : Nat) (n : Int) : Int :=
  if i < l.length ∧ (a.getD i default).f_To = r.f_Here ∧ (stV r (l.getD i default)).1 ≠ 2 then IntKind.wrap .i64 (n + 1) else n
theorem open_eq (a : List S_api_Letter) (l : List (List UInt8)) (r : S_api_Replica) (ha : a.length ≤ mxl) (hs : r.f_States.length ≤ mxl) : audit_Open a l r = some ((List.range a.length).foldl (fun s j => opS a l r j s) 0) := by
  unfold audit_Open
  refine bind_next (loop_it2 (R := Int) (body := fun s : Int × Int => audit_Open.b1 a l r s.1 s.2) (opS a l r) (n := a.length) (fun i s hi _ => ?_) ?_ (by omega)) rfl
  · show audit_Open.b1 a l r s (i : Int) = _
    unfold audit_Open.b1
    rw [if_pos (decide_eq_true (by omega)), if_pos (by omega)]
    unfold opS
    by_cases h1 : i < l.length
    · rw [if_neg (by simp; omega), nat_to]
      by_cases h2 : (a.getD i default).f_To = r.f_Here
      · unfold audit_Open.j1
        rw [if_neg (by rw [decide_eq_true h2]; decide), if_pos (by omega), nat_to]
        refine bind_of (status_eq r _ hs) ?_
        unfold audit_Open.j2
        by_cases h3 : (stV r (l.getD i default)).1 = 2
        · rw [if_neg (by rw [decide_eq_true h3]; decide), if_neg (fun h => h.2.2 h3), inc64 hi ha]
        · rw [if_pos (by rw [decide_eq_false h3]; rfl), if_pos ⟨h1, h2, h3⟩, inc64 hi ha]
      · unfold audit_Open.j1
        rw [if_pos (by rw [decide_eq_false h2]; rfl), if_neg (fun h => h2 h.2.1), inc64 hi ha]
    · rw [if_pos (by simp; omega)]
      unfold audit_Open.j1
      rw [if_pos rfl, if_neg (fun h => h1 h.1), inc64 hi ha]
  · show audit_Open.b1 a l r _ (a.length : Int) = _
    unfold audit_Open.b1
    rw [if_neg (by simp)]
theorem ropen_eq (a : List S_api_Letter) (l : List (List UInt8)) (r : S_api_Replica) (ha : a.length ≤ 60) (hs : r.f_States.length ≤ mxl) : ref28_Open a l r = some ((List.range a.length).foldl (fun s j => opS a l r j s) 0) := by
  have hm : min a.length l.length ≤ a.length := Nat.min_le_left _ _
  have e : (List.range a.length).foldl (fun s j => opS a l r j s) 0 = (List.range (min a.length l.length)).foldl (fun s j => opS a l r j s) 0 := by
    by_cases h : a.length ≤ l.length
    · rw [Nat.min_eq_left h]
    · have h2 : a.length = l.length + (a.length - l.length) := by omega
      rw [Nat.min_eq_right (by omega)]
      conv => lhs; rw [h2]
      exact foldl_stop (opS a l r) (fun i hi s => by unfold opS; rw [if_neg (by omega)]) 0 _
  have ha2 : a.length ≤ mxl := by rw [mxl_eq]; omega
  rw [e]
  unfold ref28_Open
  refine bind_next (loop_it2 (R := Int) (body := fun s : Int × Int => ref28_Open.b1 a l r s.1 s.2) (opS a l r) (n := min a.length l.length) (fun i s hi _ => ?_) ?_ (by omega)) rfl
  · show ref28_Open.b1 a l r s (i : Int) = _
    have h1 : i < a.length := by omega
    have h2 : i < l.length := by omega
    unfold ref28_Open.b1
    rw [if_pos (decide_eq_true (by omega)), decide_eq_true (show (i : Int) < (l.length : Int) by omega)]
    unfold ref28_Open.j1
    rw [if_pos rfl, if_pos (by omega), nat_to]
    refine bind_of (rstatus_eq r _ hs) ?_
    rw [if_pos (by omega)]
    unfold opS ref28_Open.j2 ref28_Open.j3
    by_cases h3 : (a.getD i default).f_To = r.f_Here
    · rw [if_pos (decide_eq_true h3)]
      by_cases h4 : (stV r (l.getD i default)).1 = 2
      · rw [if_neg (by rw [decide_eq_true h4]; decide), if_neg (fun h => h.2.2 h4), inc64 h1 ha2]
      · rw [if_pos (by rw [decide_eq_false h4]; rfl), if_pos ⟨h2, h3, h4⟩, inc64 h1 ha2]
    · rw [if_neg (by rw [decide_eq_false h3]; decide), if_neg (by decide), if_neg (fun h => h3 h.2.1), inc64 h1 ha2]
  · show ref28_Open.b1 a l r _ ((min a.length l.length : Nat) : Int) = _
    unfold ref28_Open.b1
    by_cases h : a.length ≤ l.length
    · rw [if_neg (by rw [Nat.min_eq_left h]; simp)]
      unfold ref28_Open.j1
      rw [if_neg (by decide)]
    · rw [Nat.min_eq_right (by omega), if_pos (decide_eq_true (by omega)), decide_eq_false (by omega)]
      unfold ref28_Open.j1
      rw [if_neg (by decide)]
/-- Is a letter one that isn't gone through here? -/
def badL (l : List S_api_Letter) (i : Nat) : Bool := decide ((60 : Int) < (l.length : Int)) || decide ((1000 : Int) < (if (if ((l.getD i default).f_Sender.length : Int) < ((l.getD i default).f_Receiver.length : Int) then ((l.getD i default).f_Receiver.length : Int) else ((l.getD i default).f_Sender.length : Int)) < ((l.getD i default).f_Body.length : Int) then ((l.getD i default).f_Body.length : Int) else (if ((l.getD i default).f_Sender.length : Int) < ((l.getD i default).f_Receiver.length : Int) then ((l.getD i default).f_Receiver.length : Int) else ((l.getD i default).f_Sender.length : Int))))
theorem guard1 (a b l : List S_api_Letter) (x : Int) (hx : [a, b].getD x.toNat default = l) (hl : l.length ≤ mxl) : loopN (fun s : Int => law28_AuditLetters.b2 a b x s) (((l.length : Int) - 0 : Int).toNat + 2) 0 = some (if 0 ≤ fd (badL l) l.length then .ret true else .next (l.length : Int)) :=
  loop_fd (fun _ => true) (body := fun s : Int => law28_AuditLetters.b2 a b x s) (p := badL l) (n := l.length) (fun i hi => by
    show law28_AuditLetters.b2 a b x (i : Int) = _
    unfold law28_AuditLetters.b2
    rw [hx, if_pos (decide_eq_true (by omega)), if_pos (by omega), nat_to]
    unfold law28_AuditLetters.j1 badL
    rw [inc64 hi hl]
    by_cases h : (60 : Int) < (l.length : Int)
    · rw [if_pos (decide_eq_true h), decide_eq_true h]; rfl
    · rw [if_neg (by rw [decide_eq_false h]; decide), decide_eq_false h, Bool.false_or]) (by
    show law28_AuditLetters.b2 a b x (l.length : Int) = _
    unfold law28_AuditLetters.b2
    rw [hx, if_neg (by simp)]) (by omega)
theorem guard2 {l : List S_api_Letter} (h : ¬ 0 ≤ fd (badL l) l.length) : l.length ≤ 60 := by
  rcases Nat.eq_zero_or_pos l.length with q | q
  · omega
  · have := (fd_neg (badL l) l.length).1 h 0 q
    unfold badL at this
    rw [Bool.or_eq_false_iff] at this
    have := of_decide_eq_false this.1
    omega
theorem auditLetters_true (a b : List S_api_Letter) (l : List (List UInt8)) (r : S_api_Replica) (ha : a.length ≤ mxl) (hb : b.length ≤ mxl) (hs : r.f_States.length ≤ mxl) : law28_AuditLetters a b l r = some true := by
  unfold law28_AuditLetters
  refine bind_of awake28 ?_
  rw [if_neg (by decide)]
  have g0 := guard1 a b a 0 rfl ha
  have g1 := guard1 a b b 1 rfl hb
  have hb0 : law28_AuditLetters.b1 a b 0 = if 0 ≤ fd (badL a) a.length then some (.ret true) else some (.cont 1) := by
    unfold law28_AuditLetters.b1
    rw [if_pos (by simp), if_pos (by simp)]
    refine bind_of g0 ?_
    by_cases q : 0 ≤ fd (badL a) a.length
    · rw [if_pos q, if_pos q]
    · rw [if_neg q, if_neg q]; rfl
  have hb1 : law28_AuditLetters.b1 a b 1 = if 0 ≤ fd (badL b) b.length then some (.ret true) else some (.cont 2) := by
    unfold law28_AuditLetters.b1
    rw [if_pos (by simp), if_pos (by simp)]
    refine bind_of g1 ?_
    by_cases q : 0 ≤ fd (badL b) b.length
    · rw [if_pos q, if_pos q]
    · rw [if_neg q, if_neg q]; rfl
  have hb2 : law28_AuditLetters.b1 a b 2 = some (.brk 2) := by
    unfold law28_AuditLetters.b1
    rw [if_neg (by simp)]
  have hk : ((([a, b] : List (List S_api_Letter)).length : Int) - 0 : Int).toNat + 2 = 4 := rfl
  rw [hk]
  by_cases q0 : 0 ≤ fd (badL a) a.length
  · rw [if_pos q0] at hb0
    have : loopN (fun s : Int => law28_AuditLetters.b1 a b s) 4 0 = some (.ret true) := by
      unfold loopN
      simp only [hb0]
    exact bind_of this rfl
  · rw [if_neg q0] at hb0
    by_cases q1 : 0 ≤ fd (badL b) b.length
    · rw [if_pos q1] at hb1
      have : loopN (fun s : Int => law28_AuditLetters.b1 a b s) 4 0 = some (.ret true) := by
        unfold loopN
        simp only [hb0]
        unfold loopN
        simp only [hb1]
      exact bind_of this rfl
    · rw [if_neg q1] at hb1
      have : loopN (fun s : Int => law28_AuditLetters.b1 a b s) 4 0 = some (.next 2) := by
        unfold loopN
        simp only [hb0]
        unfold loopN
        simp only [hb1]
        unfold loopN
        simp only [hb2]
      refine bind_of this ?_
      have la := guard2 q0
      have lb := guard2 q1
      have key : law28_AuditLetters.j2 a b l r false = some true := by
        unfold law28_AuditLetters.j2
        rw [if_neg (by decide)]
        refine bind_of (foreign_eq a b ha hb) (bind_of (rforeign_eq a b ha hb) ?_)
        rw [if_pos (decide_eq_true rfl)]
        refine bind_of (again_eq b hb) (bind_of (ragain_eq b hb) ?_)
        rw [if_pos (decide_eq_true rfl)]
        refine bind_of (open_eq a l r ha hs) (bind_of (ropen_eq a l r la hs) ?_)
        unfold law28_AuditLetters.j3
        exact congrArg some (decide_eq_true rfl)
      have skip : law28_AuditLetters.j2 a b l r true = some true := by
        unfold law28_AuditLetters.j2
        rw [if_pos rfl]
      show (if _ then _ else _) = _
      split
      · exact skip
      · cases decide ((200 : Int) < (r.f_States.length : Int))
        · exact key
        · exact skip
end Go.Proofs.YtafeolgdggncnaaDoor
