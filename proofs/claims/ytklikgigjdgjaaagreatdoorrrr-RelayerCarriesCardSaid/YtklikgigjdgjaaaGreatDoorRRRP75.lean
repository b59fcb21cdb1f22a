/- Plain laws: P62, P74, P75, as one text. -/
import Derived.Test.YtklikgigjdgjaaaGreatDoorRRRP7
import Derived.Test.YtklikgigjdgjaaaGreatDoorRRRP32
import Derived.Test.YtklikgigjdgjaaaGreatDoorRRRP32
import Derived.Test.YtklikgigjdgjaaaGreatDoorRRRP33t
import Derived.Test.YtklikgigjdgjaaaGreatDoorRRRP48
import Derived.Test.YtklikgigjdgjaaaGreatDoorRRRP52
namespace Go.Proofs.YtklikgigjdgjaaaGreatDoorRRR
open Go Go.RowKit Go.Proofs
section
set_option linter.unusedVariables false

/-- The first place of a kind, or -1. -/
def fd (p : Nat → Bool) : Nat → Int
  | 0 => -1
  | n + 1 => if 0 ≤ fd p n then fd p n else if p n = true then (n : Int) else -1
theorem fd_range (p : Nat → Bool) : ∀ n, -1 ≤ fd p n ∧ fd p n < n
  | 0 => by simp [fd]
  | n + 1 => by
    have := fd_range p n
    unfold fd
    split
    · omega
    · split <;> omega
theorem fd_at (p : Nat → Bool) : ∀ n, 0 ≤ fd p n → p (fd p n).toNat = true
  | 0, h => by simp [fd] at h
  | n + 1, h => by
    unfold fd at h ⊢
    by_cases a : 0 ≤ fd p n
    · rw [if_pos a]; exact fd_at p n a
    · rw [if_neg a] at h ⊢
      by_cases b : p n = true
      · rw [if_pos b]; simpa using b
      · rw [if_neg b] at h; exact absurd h (by decide)
theorem fd_neg (p : Nat → Bool) : ∀ n, ¬ 0 ≤ fd p n ↔ ∀ i, i < n → p i = false
  | 0 => by simp [fd]
  | n + 1 => by
    have ih := fd_neg p n
    unfold fd
    by_cases a : 0 ≤ fd p n
    · rw [if_pos a]
      refine ⟨fun h => absurd a h, fun h => ?_⟩
      exact absurd a (ih.2 fun i hi => h i (by omega))
    · rw [if_neg a]
      by_cases b : p n = true
      · rw [if_pos b]
        refine ⟨fun h => absurd (by omega) h, fun h => ?_⟩
        rw [h n (by omega)] at b; cases b
      · rw [if_neg b]
        refine ⟨fun _ i hi => ?_, fun _ => by decide⟩
        by_cases e : i = n
        · subst e; simpa using b
        · exact ih.1 a i (by omega)
theorem loop_it2 {R S : Type} {body : S × Int → Option (Flow R (S × Int))} (f : Nat → S → S) {n k : Nat} {s0 : S} (h : ∀ (i : Nat) (s : S), i < n → s = (List.range i).foldl (fun a j => f j a) s0 → body (s, (i : Int)) = some (.cont (f i s, (i : Int) + 1))) (he : body ((List.range n).foldl (fun a j => f j a) s0, (n : Int)) = some (.brk ((List.range n).foldl (fun a j => f j a) s0, (n : Int)))) (hk : n < k) :
    loopN body k (s0, 0) = some (.next ((List.range n).foldl (fun a j => f j a) s0, (n : Int))) := by
  obtain ⟨c, h1, h2⟩ := loop_ok (body := body) (fun s => ∃ i : Nat, i ≤ n ∧ s = ((List.range i).foldl (fun a j => f j a) s0, (i : Int))) (fun c => c = .next ((List.range n).foldl (fun a j => f j a) s0, (n : Int))) (fun s => (n - s.2).toNat)
    (fun s ⟨i, hi, hs⟩ => by
      subst hs
      by_cases q : i < n
      · refine .inl ⟨_, h i _ q rfl, ⟨i + 1, by omega, ?_⟩, by show ((n : Int) - ((i : Int) + 1)).toNat < ((n : Int) - (i : Int)).toNat; omega⟩
        rw [List.range_succ, List.foldl_append]
        rfl
      · have : i = n := by omega
        subst this
        exact .inr (.inl ⟨_, he, rfl⟩)) k (s0, 0) ⟨0, by omega, rfl⟩ (by show ((n : Int) - 0).toNat < k; omega)
  rw [h1, h2]
theorem lcW {R S : Type} {body : S → Option (Flow R S)} (k : Nat) {s s' : S} {r : Option (Ctl R S)} (h1 : body s = some (.cont s')) (h2 : loopN body k s' = r) : loopN body (k + 1) s = r := by
  unfold loopN
  rw [h1]
  exact h2
theorem lbW {R S : Type} {body : S → Option (Flow R S)} (k : Nat) {s s' : S} (h1 : body s = some (.brk s')) : loopN body (k + 1) s = some (.next s') := by
  unfold loopN
  rw [h1]
/-- Is there one of a kind? -/
def anyB (p : Nat → Bool) (n : Nat) : Bool := decide (0 ≤ fd p n)
theorem foldl_or (p : Nat → Bool) : ∀ n, (List.range n).foldl (fun (a : Bool) j => a || p j) false = anyB p n
  | 0 => rfl
  | n + 1 => by
    rw [List.range_succ, List.foldl_append, foldl_or p n]
    show (anyB p n || p n) = anyB p (n + 1)
    unfold anyB
    rw [fd]
    by_cases a : 0 ≤ fd p n
    · simp [a]
    · rw [if_neg a]
      by_cases b : p n = true
      · rw [if_pos b]; simp [b]
      · rw [if_neg b]; simp [a, b]
end

section
set_option linter.unusedVariables false

theorem nodeN {a b : List UInt8} (ha : a.length = 32) (hb : b.length = 32) : ∃ d, merkle_node none a b = some (d, none) ∧ d.length = 32 := by
  obtain ⟨L', h1, h2⟩ := dOf none 6 (ndSmall ha hb)
  rw [h2 rfl] at h1
  refine ⟨H (inp 6 [a, b]), ?_, ((ndSmall ha hb).H 6).2⟩
  unfold merkle_node
  refine bind_of (x := (H (inp 6 [a, b]), none)) ?_ rfl
  unfold digest_Log_Two
  exact bind_of (dig_eq ha) (bind_of (dig_eq hb) (bind_of h1 rfl))
def All32 (l : List (List UInt8)) : Prop := ∀ p ∈ l, p.length = 32
theorem All32.set {l : List (List UInt8)} (h : All32 l) {d : List UInt8} (hd : d.length = 32) (i : Nat) : All32 (l.set i d) := fun p hp => by
  rcases List.mem_or_eq_of_mem_set hp with q | q
  · exact h p q
  · rw [q]; exact hd
theorem All32.app {l : List (List UInt8)} (h : All32 l) {d : List UInt8} (hd : d.length = 32) : All32 (l ++ [d]) := fun p hp => by
  rcases List.mem_append.1 hp with q | q
  · exact h p q
  · rw [List.mem_singleton.1 q]; exact hd
theorem noughtsN : ∃ l, merkle_noughts none = some (l, none) ∧ l.length = 33 ∧ All32 l := by
  obtain ⟨c, h1, h2⟩ := loop_ok (body := fun s : Int × (Option O_Log) × (List (List UInt8)) => merkle_noughts.b1 s.1 s.2.1 s.2.2) (fun s => (0 ≤ s.1 ∧ s.1 ≤ 32) ∧ s.2.1 = none ∧ s.2.2.length = 33 ∧ All32 s.2.2) (fun c => match c with | .next s => s.2.1 = none ∧ s.2.2.length = 33 ∧ All32 s.2.2 | .ret _ => False) (fun s => (32 - s.1).toNat)
    (fun s ⟨hi, hn, hl, ha⟩ => by
      obtain ⟨i, L, l⟩ := s
      simp only at hi hn hl ha
      subst hn
      by_cases q : i < 32
      · have hg := get32 ha (i := i.toNat) (by omega)
        obtain ⟨d, e1, e2⟩ := nodeN hg hg
        refine .inl ⟨(i + 1, none, l.set (i + 1).toNat d), ?_, ⟨by show 0 ≤ i + 1 ∧ i + 1 ≤ 32; omega, rfl, by simpa using hl, ha.set e2 _⟩, by show (32 - (i + 1)).toNat < (32 - i).toNat; omega⟩
        show merkle_noughts.b1 i none l = _
        unfold merkle_noughts.b1
        rw [w64 (x := i + 1) (by omega), if_pos (decide_eq_true q), if_pos (by omega)]
        refine bind_of e1 ?_
        rw [if_pos (by omega)]
      · refine .inr (.inl ⟨(i, none, l), ?_, rfl, hl, ha⟩)
        show merkle_noughts.b1 i none l = _
        unfold merkle_noughts.b1
        rw [if_neg (by rw [decide_eq_false q]; decide)]) ((32 - 0 : Int).toNat + 2) (0, none, List.replicate 33 (List.replicate 32 0)) ⟨by decide, rfl, by simp, fun p hp => by rw [(List.mem_replicate.1 hp).2]; simp⟩ (by decide)
  cases c with
  | ret _ => exact h2.elim
  | next s =>
    obtain ⟨i, L, l⟩ := s
    obtain ⟨e1, e2, e3⟩ : L = none ∧ l.length = 33 ∧ All32 l := h2
    subst e1
    exact ⟨l, by unfold merkle_noughts; exact bind_next h1 rfl, e2, e3⟩
theorem upN {l : List (List UInt8)} (hl : l.length ≤ 5000) (h : All32 l) {d : List UInt8} (hd : d.length = 32) : ∃ m, merkle_up none l d = some (m, none) ∧ m.length ≤ l.length ∧ All32 m := by
  obtain ⟨c, h1, h2⟩ := loop_ok (body := fun s : Int × (Option O_Log) × (List (List UInt8)) => merkle_up.b1 l d s.1 s.2.1 s.2.2) (fun s => ∃ i : Nat, s.1 = ((2 * i : Nat) : Int) ∧ (2 * i ≤ l.length + 1) ∧ s.2.1 = none ∧ s.2.2.length = i ∧ All32 s.2.2) (fun c => match c with | .next s => s.2.1 = none ∧ s.2.2.length ≤ l.length ∧ All32 s.2.2 | .ret _ => False) (fun s => (l.length + 1 - s.1).toNat)
    (fun s ⟨i, hi, hle, hn, hm, ha⟩ => by
      obtain ⟨x, L, m⟩ := s
      simp only at hi hn hm ha
      subst hn
      subst hi
      by_cases q : 2 * i < l.length
      · have hg := get32 h (i := 2 * i) q
        have e2i : ((2 * i : Nat) : Int).toNat = 2 * i := by omega
        have key : ∀ e : List UInt8, e.length = 32 → ∃ f, merkle_up.j1 l ((2 * i : Nat) : Int) none m e = some (.cont (((2 * (i + 1) : Nat) : Int), none, m ++ [f])) ∧ f.length = 32 := fun e he => by
          obtain ⟨f, f1, f2⟩ := nodeN hg he
          refine ⟨f, ?_, f2⟩
          unfold merkle_up.j1
          rw [if_pos (by omega), e2i]
          refine bind_of f1 ?_
          rw [if_pos (by simp [mxl]; omega), w64 (by omega)]
          have : ((2 * i : Nat) : Int) + 2 = ((2 * (i + 1) : Nat) : Int) := by omega
          rw [this]
        have fin : ∀ e : List UInt8, e.length = 32 → merkle_up.b1 l d ((2 * i : Nat) : Int) none m = merkle_up.j1 l ((2 * i : Nat) : Int) none m e → ∃ s', merkle_up.b1 l d ((2 * i : Nat) : Int) none m = some (.cont s') ∧ (∃ i' : Nat, s'.1 = ((2 * i' : Nat) : Int) ∧ (2 * i' ≤ l.length + 1) ∧ s'.2.1 = none ∧ s'.2.2.length = i' ∧ All32 s'.2.2) ∧ ((l.length : Int) + 1 - s'.1).toNat < ((l.length : Int) + 1 - ((2 * i : Nat) : Int)).toNat := fun e he hb => by
          obtain ⟨f, f1, f2⟩ := key e he
          exact ⟨_, hb.trans f1, ⟨i + 1, rfl, by omega, rfl, by simp [hm], ha.app f2⟩, by show ((l.length : Int) + 1 - ((2 * (i + 1) : Nat) : Int)).toNat < _; omega⟩
        refine .inl ?_
        by_cases w : 2 * i + 1 < l.length
        · have hg2 := get32 h (i := 2 * i + 1) w
          refine fin _ hg2 ?_
          unfold merkle_up.b1
          have e3 : ((2 * i : Nat) : Int) + 1 = ((2 * i + 1 : Nat) : Int) := by omega
          have e4 : ((2 * i + 1 : Nat) : Int).toNat = 2 * i + 1 := by omega
          rw [w64 (x := ((2 * i : Nat) : Int) + 1) (by omega), e3, if_pos (decide_eq_true (by omega)), if_pos (decide_eq_true (by omega)), if_pos (by omega), e4]
        · refine fin d hd ?_
          unfold merkle_up.b1
          rw [w64 (x := ((2 * i : Nat) : Int) + 1) (by omega), if_pos (decide_eq_true (by omega)), if_neg (by rw [decide_eq_false (by omega)]; decide)]
      · refine .inr (.inl ⟨(((2 * i : Nat) : Int), none, m), ?_, rfl, by show m.length ≤ l.length; omega, ha⟩)
        show merkle_up.b1 l d ((2 * i : Nat) : Int) none m = _
        unfold merkle_up.b1
        rw [if_neg (by rw [decide_eq_false (by omega)]; decide)]) (((l.length : Int) - 0 : Int).toNat + 2) (0, none, []) ⟨0, rfl, by omega, rfl, rfl, fun p hp => by cases hp⟩ (by show ((l.length : Int) + 1 - 0).toNat < ((l.length : Int) - 0).toNat + 2; omega)
  cases c with
  | ret _ => exact h2.elim
  | next s =>
    obtain ⟨i, L, m⟩ := s
    obtain ⟨e1, e2, e3⟩ : L = none ∧ m.length ≤ l.length ∧ All32 m := h2
    subst e1
    exact ⟨m, by unfold merkle_up; exact bind_next h1 rfl, e2, e3⟩
theorem ofN {l : List (List UInt8)} (hl : l.length ≤ 4096) (h : All32 l) : ∃ d, merkle_Of none l = some (d, none) ∧ d.length = 32 := by
  obtain ⟨z, z1, z2, z3⟩ := noughtsN
  have hm : (if (4096 : Int) < (l.length : Int) then (4096 : Int) else (l.length : Int)) = (l.length : Int) := by rw [if_neg (by omega)]
  have ht : ((l.take ((l.length : Nat) : Int).toNat).drop (0 : Int).toNat) = l := by
    rw [show ((l.length : Nat) : Int).toNat = l.length by omega, List.take_length]
    rfl
  obtain ⟨c, h1, h2⟩ := loop_ok (body := fun s : (List (List UInt8)) × Int × (Option O_Log) => merkle_Of.b1 (z, none) s.1 s.2.1 s.2.2) (fun s => (0 ≤ s.2.1 ∧ s.2.1 ≤ 32) ∧ s.2.2 = none ∧ s.1.length ≤ 4096 ∧ All32 s.1) (fun c => match c with | .next s => s.2.2 = none ∧ All32 s.1 | .ret _ => False) (fun s => (32 - s.2.1).toNat)
    (fun s ⟨hi, hn, hs, ha⟩ => by
      obtain ⟨m, i, L⟩ := s
      simp only at hi hn hs ha
      subst hn
      by_cases q : i < 32
      · obtain ⟨m', e1, e2, e3⟩ := upN (l := m) (by omega) ha (get32 z3 (i := i.toNat) (by omega))
        refine .inl ⟨(m', i + 1, none), ?_, ⟨by show 0 ≤ i + 1 ∧ i + 1 ≤ 32; omega, rfl, by show m'.length ≤ 4096; omega, e3⟩, by show (32 - (i + 1)).toNat < (32 - i).toNat; omega⟩
        show merkle_Of.b1 (z, none) m i none = _
        unfold merkle_Of.b1
        rw [if_pos (decide_eq_true q), if_pos (by omega)]
        refine bind_of e1 ?_
        rw [w64 (by omega)]
      · refine .inr (.inl ⟨(m, i, none), ?_, rfl, ha⟩)
        show merkle_Of.b1 (z, none) m i none = _
        unfold merkle_Of.b1
        rw [if_neg (by rw [decide_eq_false q]; decide)]) ((32 - 0 : Int).toNat + 2) (l, 0, none) ⟨by show (0 : Int) ≤ 0 ∧ (0 : Int) ≤ 32; decide, rfl, hl, h⟩ (by show ((32 : Int) - 0).toNat < ((32 : Int) - 0).toNat + 2; decide)
  unfold merkle_Of
  rw [hm, ht, if_pos (by omega)]
  cases c with
  | ret _ => exact h2.elim
  | next s =>
    obtain ⟨m, i, L⟩ := s
    obtain ⟨e1, e2⟩ : L = none ∧ All32 m := h2
    subst e1
    by_cases q : m.length = 0
    · refine ⟨z.getD 32 default, bind_of z1 (bind_next h1 ?_), get32 z3 (by omega)⟩
      show (if _ then _ else _) = _
      rw [if_pos (decide_eq_true (by omega))]
      rfl
    · refine ⟨m.getD 0 default, bind_of z1 (bind_next h1 ?_), get32 e2 (by omega)⟩
      show (if _ then _ else _) = _
      rw [if_neg (by rw [decide_eq_false (by omega)]; decide), if_pos (by omega)]
      rfl
end

section
set_option linter.unusedVariables false
set_option maxRecDepth 100000

theorem lkpU {K V : Type} [DecidableEq K] (k k' : K) (v : V) : ∀ m : List (K × V), lkp k (upd k' v m) = if k = k' then some v else lkp k m
  | [] => by simp only [upd, lkp]
  | (a, b) :: m => by
    by_cases h : k' = a
    · subst h
      simp only [upd, lkp, if_true]
      by_cases h2 : k = k'
      · simp [h2]
      · simp [h2]
    · simp only [upd, lkp, if_neg h]
      rw [lkpU k k' v m]
      by_cases h2 : k = a
      · subst h2
        simp [Ne.symm h]
      · simp [h2]
theorem nT (i : Nat) : ((i : Nat) : Int).toNat = i := by omega
/-- The i-th update of a signer that signs these roots. -/
noncomputable def uK (seed : List UInt8) (R : Nat → List UInt8) (i : Nat) : S_api_Update := ⟨1, R i, R (i + 1), sigV seed (leaves seed) i (claim 1 (R i) (R (i + 1)))⟩
theorem sign_K {seed a b : List UInt8} (hs : seed.length = 32) (ha : a.length = 32) (hb : b.length = 32) {i : Nat} (hi : i < 16) : update_Sign none ⟨seed, (i : Int), leaves seed⟩ 1 a b = some (⟨seed, (i : Int) + 1, leaves seed⟩, ⟨1, a, b, sigV seed (leaves seed) i (claim 1 a b)⟩, 0, none) := by
  obtain ⟨L1, a1, b1⟩ := claim_eq none (home := 1) (by omega) ha hb
  rw [b1 rfl] at a1
  obtain ⟨L2, a2, b2⟩ := signer_eq none (s := ⟨seed, (i : Int), leaves seed⟩) hs (leaves_len hs).1 (leaves_len hs).2 hi rfl (claim 1 a b)
  rw [b2 rfl] at a2
  unfold update_Sign
  refine bind_of a1 (bind_of a2 ?_)
  show (if (!decide ((0 : Int) = 0)) = true then _ else _) = _
  rw [if_neg (by decide)]
theorem sig_K {seed : List UInt8} (hs : seed.length = 32) {i : Nat} (hi : i < 16) (d : List UInt8) : Sig32 (sigV seed (leaves seed) i d) := ⟨(sgP_len hs _ d).2, (sgO_len hs _ d).2, pathL_len (leaves_len hs).1 (leaves_len hs).2 hi⟩
theorem pathL_4 {l : List (List UInt8)} (i : Nat) : (pathL l i).length ≤ 1000 := by simp [pathL]
theorem short_K {seed : List UInt8} (hs : seed.length = 32) (i : Nat) (d : List UInt8) : (sigV seed (leaves seed) i d).f_Parts.length ≤ 1000 ∧ (sigV seed (leaves seed) i d).f_Others.length ≤ 1000 ∧ (sigV seed (leaves seed) i d).f_Path.length ≤ 1000 := by
  refine ⟨?_, ?_, pathL_4 i⟩
  · show (sgP seed (i : Int) d).length ≤ 1000
    rw [(sgP_len hs _ d).1]; omega
  · show (sgO seed (i : Int) d).length ≤ 1000
    rw [(sgO_len hs _ d).1]; omega
theorem upd_K {seed : List UInt8} (hs : seed.length = 32) {R : Nat → List UInt8} {i : Nat} (hi : i < 16) (h0 : (R i).length = 32) (h1 : (R (i + 1)).length = 32) : UpdW (uK seed R i) := ⟨(by show InR .u32 (1 : Int); decide), h0, h1, sig_K hs hi _⟩
/-- A replica that has accepted k of them. -/
structure AtK (seed : List UInt8) (R : Nat → List UInt8) (w : Int) (k : Nat) (c : S_api_Replica) : Prop where
  ch : c.f_Chain = 1
  up : c.f_Updater = rootL (leaves seed)
  wi : c.f_Window = w
  co : c.f_Committed = R k
  ro : c.f_Roots.map (·.f_Root) = (List.range k).map (fun j => R (j + 1))
  nf : ¬ c.f_Failed = true
  nc : ¬ c.f_Cut = true
theorem accK {seed : List UInt8} (hs : seed.length = 32) {R : Nat → List UInt8} {w : Int} {n k : Nat} {c : S_api_Replica} (hw : 0 ≤ w ∧ w < 65536) (hn : n ≤ 8) (hk : k < n) (h32 : ∀ j, j ≤ n → (R j).length = 32) (hinj : ∀ i j, i ≤ n → j ≤ n → R i = R j → i = j) (A : AtK seed R w k c) :
    ∃ c', replica_Accept none c 5 (uK seed R k) = some (c', 0, none) ∧ AtK seed R w (k + 1) c' := by
  have hlen : c.f_Roots.length = k := by have := congrArg List.length A.ro; simpa using this
  have hU := upd_K hs (R := R) (i := k) (by omega) (h32 k (by omega)) (h32 (k + 1) (by omega))
  have ha := accept_eq c 5 hU (by omega) (by rw [A.wi]; omega) (by omega)
  have ht : trV c (uK seed R k) = 0 := by
    unfold trV
    rw [if_neg A.nf, if_neg A.nc, if_neg (by rw [A.ch]; exact fun q => q rfl), if_neg (by rw [A.co]; exact fun q => q rfl), if_neg ?_]
    have : rightV c.f_Updater (uK seed R k) = true := by
      unfold rightV
      rw [A.up]
      exact verV_sig hs (by omega) _
    rw [this]; decide
  have hr : rtI c (R (k + 1)) < 0 := by
    refine Classical.byContradiction fun q => ?_
    have h0 : 0 ≤ rtI c (R (k + 1)) := by omega
    have h1 := rt_at c (R (k + 1)) h0
    have h2 := rt_lt c (R (k + 1))
    have hj : (rtI c (R (k + 1))).toNat < k := by omega
    generalize (rtI c (R (k + 1))).toNat = j at h1 hj
    have e1 : (c.f_Roots.map (·.f_Root))[j]? = some (R (k + 1)) := by
      rw [List.getElem?_map, List.getElem?_eq_getElem (show j < c.f_Roots.length by omega)]
      have : c.f_Roots.getD j default = c.f_Roots[j]'(by omega) := by simp [List.getD, show j < c.f_Roots.length by omega]
      rw [this] at h1
      simp [h1]
    rw [A.ro] at e1
    have e2 : R (j + 1) = R (k + 1) := by simpa [hj] using e1
    have := hinj (j + 1) (k + 1) (by omega) (by omega) e2
    omega
  have hv : accV c 5 (uK seed R k) = (⟨c.f_Chain, c.f_Here, c.f_Updater, c.f_Watchers, c.f_Window, R (k + 1), c.f_Roots ++ [⟨R (k + 1), 5 + w⟩], c.f_States, c.f_Failed, c.f_Cut⟩, 0) := by
    unfold accV rtsV
    rw [if_neg (by rw [ht]; decide), if_neg (fun q => by have := q.2; omega), if_neg (by rw [A.wi]; omega), if_neg (show ¬ 0 ≤ rtI c (uK seed R k).f_New from by show ¬ 0 ≤ rtI c (R (k + 1)); omega), A.wi]
    rfl
  rw [hv] at ha
  refine ⟨_, ha, ⟨A.ch, A.up, A.wi, rfl, ?_, A.nf, A.nc⟩⟩
  show (c.f_Roots ++ [(⟨R (k + 1), 5 + w⟩ : S_api_Timed)]).map (·.f_Root) = _
  rw [List.map_append, A.ro, List.range_succ, List.map_append]
  rfl
theorem ff_fd (p : Nat → Bool) : ∀ n, ff p n = fd p n
  | 0 => rfl
  | n + 1 => by rw [ff_succ, fd, ff_fd p n]
theorem fd_one {p : Nat → Bool} {n k : Nat} (hk : k < n) (hp : p k = true) (h : ∀ j, j < n → p j = true → j = k) : fd p n = (k : Int) := by
  have h0 : 0 ≤ fd p n := Classical.byContradiction fun q => by
    have := (fd_neg p n).1 q k hk
    rw [hp] at this; cases this
  have r := fd_range p n
  have a := h (fd p n).toNat (by omega) (fd_at p n h0)
  omega
def seenK (n : Nat) (f : Nat → S_api_Update) : List S_api_Update := (List.range n).map f
theorem seen_len (n : Nat) (f : Nat → S_api_Update) : (seenK n f).length = n := by simp [seenK]
theorem seen_get (n : Nat) (f : Nat → S_api_Update) {j : Nat} (h : j < n) : (seenK n f).getD j default = f j := by simp [seenK, List.getD, h]
theorem seen_all {n : Nat} {f : Nat → S_api_Update} {Q : S_api_Update → Prop} (h : ∀ j, j < n → Q (f j)) : ∀ u ∈ seenK n f, Q u := fun u hu => by
  obtain ⟨j, hj, rfl⟩ := List.mem_map.1 hu
  exact h j (List.mem_range.1 hj)
theorem fitP_K {seed : List UInt8} {R : Nat → List UInt8} {w : Int} {n k : Nat} {c : S_api_Replica} (hk : k ≤ n) (hinj : ∀ i j, i ≤ n → j ≤ n → R i = R j → i = j) (A : AtK seed R w k c) {j : Nat} (hj : j < n) : fitP c (uK seed R j) = decide (j = k) := by
  unfold fitP
  rw [A.co]
  show (decide (R j = R k) && !decide (R (j + 1) = R k)) = _
  by_cases q : j = k
  · subst q
    rw [decide_eq_true (rfl : R j = R j), decide_eq_false (fun e => by have := hinj (j + 1) j (by omega) (by omega) e; omega), decide_eq_true (rfl : j = j)]
    rfl
  · rw [decide_eq_false (fun e => q (hinj j k (by omega) hk e)), decide_eq_false q, Bool.false_and]
theorem fit_K {seed : List UInt8} {R : Nat → List UInt8} {w : Int} {n k : Nat} {c : S_api_Replica} (disk : List UInt8) (hk : k ≤ n) (hinj : ∀ i j, i ≤ n → j ≤ n → R i = R j → i = j) (A : AtK seed R w k c) : fitOf 1 disk (seenK n (uK seed R)) c = if k < n then (k : Int) else -1 := by
  unfold fitOf fitsV
  rw [seen_len, ff_fd, ff_fd]
  have h1 : ∀ N : Nat, ∀ j, j < n → (fitP c ((seenK n (uK seed R)).getD j default) && decide (N ≤ j)) = true → j = k := fun N j hj h => by
    rw [seen_get _ _ hj, fitP_K hk hinj A hj, Bool.and_eq_true] at h
    exact of_decide_eq_true h.1
  have h2 : ∀ j, j < n → fitP c ((seenK n (uK seed R)).getD j default) = true → j = k := fun j hj h => by
    rw [seen_get _ _ hj, fitP_K hk hinj A hj] at h
    exact of_decide_eq_true h
  generalize (noteV disk 2 1).f_Next.toNat = N
  by_cases q : k < n
  · rw [if_pos q]
    have h3 : fitP c ((seenK n (uK seed R)).getD k default) = true := by rw [seen_get _ _ q, fitP_K hk hinj A q]; exact decide_eq_true rfl
    have h4 := fd_one q h3 h2
    by_cases z : N ≤ k
    · have h5 := fd_one (p := fun i => fitP c ((seenK n (uK seed R)).getD i default) && decide (N ≤ i)) q (by show (_ && _) = true; rw [h3, decide_eq_true z]; rfl) (h1 N)
      rw [h5, if_pos (by omega)]
    · rw [if_neg ?_, h4]
      refine (fd_neg _ n).2 fun j hj => ?_
      cases hb : (fitP c ((seenK n (uK seed R)).getD j default) && decide (N ≤ j)) with
      | false => rfl
      | true =>
        have e := h1 N j hj hb
        subst e
        rw [Bool.and_eq_true] at hb
        exact absurd (of_decide_eq_true hb.2) z
  · rw [if_neg q]
    have h5 : ¬ 0 ≤ fd (fun i => fitP c ((seenK n (uK seed R)).getD i default) && decide (N ≤ i)) n := (fd_neg _ n).2 fun j hj => by
      cases hb : (fitP c ((seenK n (uK seed R)).getD j default) && decide (N ≤ j)) with
      | false => rfl
      | true => have := h1 N j hj hb; omega
    have h6 : ¬ 0 ≤ fd (fun i => fitP c ((seenK n (uK seed R)).getD i default)) n := (fd_neg _ n).2 fun j hj => by
      cases hb : fitP c ((seenK n (uK seed R)).getD j default) with
      | false => rfl
      | true => have := h2 j hj hb; omega
    rw [if_neg h5]
    have := fd_range (fun i => fitP c ((seenK n (uK seed R)).getD i default)) n
    omega
def shortU (u : S_api_Update) : Prop := u.f_Sig.f_Parts.length ≤ 1000 ∧ u.f_Sig.f_Others.length ≤ 1000 ∧ u.f_Sig.f_Path.length ≤ 1000
theorem same_any (a b : S_api_Update) (h : shortU a) : ∃ q, ref10_Same a b = some q := by
  unfold ref10_Same ref10_Same.j1
  split
  · split
    · split
      · exact ⟨_, bind_of (sameS _ _ ⟨by have := h.1; omega, by have := h.2.1; omega, by have := h.2.2; omega⟩) rfl⟩
      · exact ⟨_, rfl⟩
    · exact ⟨_, rfl⟩
  · exact ⟨_, rfl⟩
theorem same_refl (a : S_api_Update) (h : shortU a) : ref10_Same a a = some true := by
  unfold ref10_Same ref10_Same.j1
  rw [if_pos (decide_eq_true rfl), if_pos (decide_eq_true rfl), if_pos (decide_eq_true rfl)]
  exact bind_of ((sameS _ _ ⟨by have := h.1; omega, by have := h.2.1; omega, by have := h.2.2; omega⟩).trans (by rw [sigEq_self])) rfl
theorem there_K (l : List S_api_Update) (S : O_SnC) (u : S_api_Update) (h : shortU u) (hl : S.f_v.length ≤ 1000) {x : Nat} (hx : l.getD x default = u) (hxl : x < l.length) {k : Nat} (hk : k < S.f_v.length) (hu : S.f_v.getD k default = u) :
    loopN (fun s : Bool × Int => law23_RelayerCarries_1.b2 l S (x : Int) s.1 s.2) (((S.f_v.length : Int) - 0 : Int).toNat + 2) (false, 0) = some (.next (true, (S.f_v.length : Int))) := by
  have hsm : ∀ j, ref10_Same u (S.f_v.getD j default) = some ((ref10_Same u (S.f_v.getD j default)).getD false) := fun j => by
    obtain ⟨q, e⟩ := same_any u (S.f_v.getD j default) h
    rw [e]; rfl
  have hl2 := loop_it2 (R := Bool × O_SnC × S_api_Replica) (body := fun s : Bool × Int => law23_RelayerCarries_1.b2 l S (x : Int) s.1 s.2) (fun j s => s || (ref10_Same u (S.f_v.getD j default)).getD false) (n := S.f_v.length) (k := ((S.f_v.length : Int) - 0 : Int).toNat + 2) (s0 := false) (fun j s hj _ => by
    show law23_RelayerCarries_1.b2 l S (x : Int) s (j : Int) = _
    unfold law23_RelayerCarries_1.b2
    rw [if_pos (decide_eq_true (by omega)), if_pos (by omega)]
    cases s with
    | true =>
      rw [if_pos rfl]
      unfold law23_RelayerCarries_1.j1
      rw [w64 (by omega)]
      rfl
    | false =>
      rw [if_neg (by decide), nT, nT, hx]
      refine bind_of (hsm j) ?_
      unfold law23_RelayerCarries_1.j1
      rw [w64 (by omega)]
      rfl) (by
    show law23_RelayerCarries_1.b2 l S (x : Int) _ (S.f_v.length : Int) = _
    unfold law23_RelayerCarries_1.b2
    rw [if_neg (by simp)]) (by omega)
  rw [foldl_or] at hl2
  have ht : anyB (fun j => (ref10_Same u (S.f_v.getD j default)).getD false) S.f_v.length = true := by
    unfold anyB
    refine decide_eq_true (Classical.byContradiction fun q => ?_)
    have e := (fd_neg _ _).1 q k hk
    simp only [hu, same_refl u h] at e
    cases e
  rw [ht] at hl2
  exact hl2
theorem bring_nil (S : O_SnC) (c : S_api_Replica) : law23_RelayerCarries_1 [] S c = some (true, S, c) := by
  unfold law23_RelayerCarries_1
  have hb : law23_RelayerCarries_1.b1 [] S 0 c = some (.brk (0, c)) := by
    unfold law23_RelayerCarries_1.b1
    rw [if_neg (by decide)]
  refine bind_next (s := (0, c)) ?_ rfl
  show loopN _ 2 (0, c) = _
  exact lbW 1 hb
theorem bring_one {S : O_SnC} {c c' : S_api_Replica} {u : S_api_Update} (h : shortU u) (hl : S.f_v.length ≤ 1000) {k : Nat} (hk : k < S.f_v.length) (hu : S.f_v.getD k default = u) (ha : replica_Accept none c 5 u = some (c', 0, none)) : law23_RelayerCarries_1 [u] S c = some (true, S, c') := by
  unfold law23_RelayerCarries_1
  have ht := there_K [u] S u h hl (x := 0) rfl (by simp) hk hu
  have hb : law23_RelayerCarries_1.b1 [u] S 0 c = some (.cont (1, c')) := by
    unfold law23_RelayerCarries_1.b1
    rw [if_pos (by simp), if_pos (by simp)]
    refine bind_next ht ?_
    refine bind_of ha ?_
    rw [if_neg (by decide)]
    show law23_RelayerCarries_1.j2 S 0 (c', 0, none) (!decide ((0 : Int) = 0)) = _
    unfold law23_RelayerCarries_1.j2
    rw [if_neg (by decide)]
    rfl
  have hb2 : law23_RelayerCarries_1.b1 [u] S 1 c' = some (.brk (1, c')) := by
    unfold law23_RelayerCarries_1.b1
    rw [if_neg (by simp)]
  refine bind_next (s := (1, c')) ?_ rfl
  show loopN _ 3 (0, c) = _
  exact lcW 2 hb (lbW 1 hb2)
/-- A step, and what is brought. -/
theorem carry {seed : List UInt8} (hs : seed.length = 32) {R : Nat → List UInt8} {w : Int} {n k : Nat} {c : S_api_Replica} (hw : 0 ≤ w ∧ w < 65536) (hn : n ≤ 8) (hk : k ≤ n) (h32 : ∀ j, j ≤ n → (R j).length = 32) (hinj : ∀ i j, i ≤ n → j ≤ n → R i = R j → i = j) (A : AtK seed R w k c) (disk : List UInt8) (cut : Int) :
    ∃ disk' l c' k', relayer_Step ⟨1, disk⟩ (seenK n (uK seed R)) c cut = some (⟨1, disk'⟩, l) ∧ law23_RelayerCarries_1 l ⟨seenK n (uK seed R)⟩ c = some (true, ⟨seenK n (uK seed R)⟩, c') ∧ AtK seed R w k' c' ∧ k ≤ k' ∧ k' ≤ n ∧ (cut ≠ 0 → cut ≠ 1 → k < n → k' = k + 1) ∧ (k = n → l = []) := by
  have hf := fit_K disk hk hinj A
  have hlen : (seenK n (uK seed R)).length ≤ 1000 := by rw [seen_len]; omega
  by_cases hst : stopped c (fitOf 1 disk (seenK n (uK seed R)) c) cut
  · refine ⟨disk, [], c, k, step_stop 1 disk _ c cut hlen (by omega) hst, bring_nil _ _, A, Nat.le_refl _, hk, fun h0 h1 hlt => ?_, fun _ => rfl⟩
    exfalso
    rw [hf, if_pos hlt] at hst
    rcases hst with q | q | q | q
    · exact A.nf q
    · exact A.nc q
    · omega
    · exact h0 q
  · have hlt : k < n := Classical.byContradiction fun q => hst (.inr (.inr (.inl (by rw [hf, if_neg q]; decide))))
    have hgo := step_go 1 disk (seenK n (uK seed R)) c cut hlen (by omega) (seen_all fun j hj => ⟨h32 j (by omega), h32 (j + 1) (by omega)⟩) (seen_all fun j hj => by
      have := short_K hs j (claim 1 (R j) (R (j + 1)))
      exact ⟨Nat.le_trans this.1 (by omega), Nat.le_trans this.2.1 (by omega), Nat.le_trans this.2.2 (by omega)⟩) hst
    rw [hf, if_pos hlt] at hgo
    by_cases h1 : cut = 1
    · rw [if_pos h1] at hgo
      exact ⟨_, [], c, k, hgo, bring_nil _ _, A, Nat.le_refl _, hk, fun _ h2 => absurd h1 h2, fun _ => rfl⟩
    · rw [if_neg h1, nT, seen_get _ _ hlt] at hgo
      obtain ⟨c', a1, a2⟩ := accK hs hw hn hlt h32 hinj A
      refine ⟨_, _, c', k + 1, hgo, bring_one (k := k) ?_ (by show (seenK n (uK seed R)).length ≤ 1000; exact hlen) (by show k < (seenK n (uK seed R)).length; rw [seen_len]; exact hlt) (seen_get _ _ hlt) a1, a2, by omega, by omega, fun _ _ _ => rfl, fun q => by omega⟩
      exact short_K hs k _
theorem seen_succ (i : Nat) (f : Nat → S_api_Update) : seenK (i + 1) f = seenK i f ++ [f i] := by simp [seenK, List.range_succ]
theorem seen_congr {i : Nat} {f g : Nat → S_api_Update} (h : ∀ j, j < i → f j = g j) : seenK i f = seenK i g := by
  unfold seenK
  exact List.map_congr_left fun j hj => h j (List.mem_range.1 hj)
/-- What is made ready ahead of the carrying. -/
structure SetK (seed c0 : List UInt8) (i : Nat) (x44 : Int) (x45 : S_keys_Signer) (x46 : Option O_Log) (x47 : List UInt8) (x48 : O_SnC) (x49 : List (List UInt8)) (x51 : List ((List UInt8) × Bool)) : Prop where
  ex : ∃ R : Nat → List UInt8, (∀ j, j ≤ i → (R j).length = 32) ∧ (∀ a b, a ≤ i → b ≤ i → R a = R b → a = b) ∧ R 0 = c0 ∧ x47 = R i ∧ x48 = ⟨seenK i (uK seed R)⟩ ∧ ∀ j, j ≤ i → lkp (R j) x51 = some true
  e1 : x44 = (i : Int)
  e2 : x45 = ⟨seed, (i : Int), leaves seed⟩
  e3 : x46 = none
  e4 : x49.length = i
  e5 : All32 x49
theorem set_step {seed c0 : List UInt8} (hs : seed.length = 32) {a : Int} {n i : Nat} (ha : a.tmod 8 = (n : Int)) (hn : n ≤ 8) (hi : i < n) {x44 : Int} {x45 : S_keys_Signer} {x46 : Option O_Log} {x47 : List UInt8} {x48 : O_SnC} {x49 : List (List UInt8)} {x51 : List ((List UInt8) × Bool)} (K : SetK seed c0 i x44 x45 x46 x47 x48 x49 x51) :
    law23_RelayerCarries.b1 a x44 x45 x46 x47 x48 x49 x51 = some (.ret true) ∨ ∃ y45 y47 y48 y49 y51, law23_RelayerCarries.b1 a x44 x45 x46 x47 x48 x49 x51 = some (.cont (((i + 1 : Nat) : Int), y45, none, y47, y48, y49, y51)) ∧ SetK seed c0 (i + 1) ((i + 1 : Nat) : Int) y45 none y47 y48 y49 y51 := by
  obtain ⟨⟨R, r1, r2, r3, r4, r5, r6⟩, e1, e2, e3, e4, e5⟩ := K
  subst e1 e2 e3 r4 r5
  have hL : LtOk (S_api_Letter.mk 1 (i : Int) 2 [97] [98] []) := ⟨by show (0 : Int) ≤ 1 ∧ (1 : Int) < 4294967296; decide, by show 0 ≤ (i : Int) ∧ (i : Int) < 4294967296; omega, by show (0 : Int) ≤ 2 ∧ (2 : Int) < 4294967296; decide, by show 1 ≤ 1000; decide, by show 1 ≤ 1000; decide, by show 0 ≤ 1000; decide⟩
  have hl := rleaf_eq hL
  have hld := ltD_len hL
  obtain ⟨d, d1, d2⟩ := ofN (l := x49 ++ [ltD (S_api_Letter.mk 1 (i : Int) 2 [97] [98] [])]) (by simp; omega) (e5.app hld)
  have hsg := sign_K hs (r1 i (Nat.le_refl _)) d2 (i := i) (by omega)
  have hst : ∀ r, (if ((lkp d x51).getD false) = true then some (.ret true) else some (.cont (((i + 1 : Nat) : Int), (⟨seed, (i : Int) + 1, leaves seed⟩ : S_keys_Signer), (none : Option O_Log), d, (⟨seenK i (uK seed R) ++ [⟨1, R i, d, sigV seed (leaves seed) i (claim 1 (R i) d)⟩]⟩ : O_SnC), x49 ++ [ltD (S_api_Letter.mk 1 (i : Int) 2 [97] [98] [])], upd d true x51))) = r → law23_RelayerCarries.b1 a (i : Int) ⟨seed, (i : Int), leaves seed⟩ none (R i) ⟨seenK i (uK seed R)⟩ x49 x51 = r := fun r hr => by
    unfold law23_RelayerCarries.b1
    rw [ha, if_pos (decide_eq_true (by omega)), wu32 (by omega)]
    refine bind_of hl ?_
    rw [if_pos (by simp [mxl]; omega)]
    refine bind_of d1 ?_
    rw [← hr]
    by_cases z : ((lkp d x51).getD false) = true
    · rw [if_pos z, if_pos z]
    · rw [if_neg z, if_neg z]
      refine bind_of hsg ?_
      show (if (!decide ((0 : Int) = 0)) = true then _ else _) = _
      have hsl : (seenK i (uK seed R)).length = i := seen_len _ _
      rw [if_neg (by decide), if_pos (by simp [mxl, hsl]; omega)]
      have hw : IntKind.wrap .u8 ((i : Int) + 1) = ((i + 1 : Nat) : Int) := by rw [IntKind.wrap_u8]; omega
      rw [hw]
  by_cases z : ((lkp d x51).getD false) = true
  · rw [if_pos z] at hst
    exact .inl (hst _ rfl)
  · rw [if_neg z] at hst
    refine .inr ⟨_, _, _, _, _, hst _ rfl, ⟨fun j => if j ≤ i then R j else d, ?_, ?_, ?_, ?_, ?_, ?_⟩, rfl, ?_, rfl, by simp [e4], e5.app hld⟩
    · intro j hj
      show (if j ≤ i then R j else d).length = 32
      by_cases q : j ≤ i
      · rw [if_pos q]; exact r1 j q
      · rw [if_neg q]; exact d2
    · have hnew : ∀ b, b ≤ i → R b ≠ d := fun b hb e => z (by rw [← e, r6 b hb]; rfl)
      intro x y hx hy he
      have he : (if x ≤ i then R x else d) = (if y ≤ i then R y else d) := he
      by_cases qx : x ≤ i
      · rw [if_pos qx] at he
        by_cases qy : y ≤ i
        · rw [if_pos qy] at he; exact r2 x y qx qy he
        · rw [if_neg qy] at he; exact absurd he (hnew x qx)
      · rw [if_neg qx] at he
        by_cases qy : y ≤ i
        · rw [if_pos qy] at he; exact absurd he.symm (hnew y qy)
        · omega
    · show (if 0 ≤ i then R 0 else d) = c0
      rw [if_pos (by omega)]; exact r3
    · show d = (if i + 1 ≤ i then R (i + 1) else d)
      rw [if_neg (by omega)]
    · rw [seen_succ]
      have h1 : seenK i (uK seed fun j => if j ≤ i then R j else d) = seenK i (uK seed R) := seen_congr fun j hj => by
        unfold uK
        simp only [if_pos (show j ≤ i by omega), if_pos (show j + 1 ≤ i by omega)]
      have h2 : uK seed (fun j => if j ≤ i then R j else d) i = ⟨1, R i, d, sigV seed (leaves seed) i (claim 1 (R i) d)⟩ := by
        unfold uK
        simp only [if_pos (Nat.le_refl i), if_neg (show ¬ i + 1 ≤ i by omega)]
      rw [h1, h2]
    · intro j hj
      show lkp (if j ≤ i then R j else d) (upd d true x51) = some true
      rw [lkpU]
      by_cases q : j ≤ i
      · rw [if_pos q]
        split
        · rfl
        · exact r6 j q
      · rw [if_neg q, if_pos rfl]
    · show (⟨seed, (i : Int) + 1, leaves seed⟩ : S_keys_Signer) = ⟨seed, ((i + 1 : Nat) : Int), leaves seed⟩
      rw [show (i : Int) + 1 = ((i + 1 : Nat) : Int) by omega]
theorem relayerCarries_true (seed : List UInt8) (a : Int) (cuts : List Int) (win : Int) (hs : seed.length = 32) (ha : InR .u8 a) (hw : InR .u16 win) : law23_RelayerCarries seed a cuts win = some true := by
  have ha : 0 ≤ a ∧ a < 256 := by simp [InR, IntKind.min, IntKind.max, IntKind.bits, IntKind.signed] at ha; omega
  have hw : 0 ≤ win ∧ win < 65536 := by simp [InR, IntKind.min, IntKind.max, IntKind.bits, IntKind.signed] at hw; omega
  obtain ⟨n, hn⟩ : ∃ n : Nat, a.tmod 8 = (n : Int) := ⟨(a.tmod 8).toNat, by rw [Int.tmod_eq_emod_of_nonneg ha.1]; omega⟩
  have hn8 : n ≤ 8 := by rw [Int.tmod_eq_emod_of_nonneg ha.1] at hn; omega
  unfold law23_RelayerCarries
  refine bind_of awake23 ?_
  rw [if_neg (by decide)]
  by_cases hc : (12 : Int) < (cuts.length : Int)
  · rw [if_pos (decide_eq_true hc)]
  rw [if_neg (by rw [decide_eq_false hc]; decide)]
  obtain ⟨L1, a1, b1⟩ := new_eq none hs
  rw [b1 rfl] at a1
  obtain ⟨L2, a2, b2⟩ := root_eq none (s := ⟨seed, 0, leaves seed⟩) (leaves_len hs).1 (leaves_len hs).2
  rw [b2 rfl] at a2
  obtain ⟨c0, a3, h0⟩ := ofN (l := []) (by simp) (fun p hp => by cases hp)
  refine bind_of a1 (bind_of a2 (bind_of a3 ?_))
  have a4 : replica_New 1 2 (rootL (leaves seed)) [] (IntKind.wrap .u64 win) c0 = some ⟨1, 2, rootL (leaves seed), [], win, c0, [], [], false, false⟩ := by
    unfold replica_New
    refine bind_of (x := []) (by unfold slices_Clone_api_Digest; rw [if_pos (by simp)]) ?_
    rw [wu64 (by omega)]
  refine bind_of a4 ?_
  have hset : ∃ c, loopN (fun s : Int × S_keys_Signer × (Option O_Log) × (List UInt8) × O_SnC × (List (List UInt8)) × (List ((List UInt8) × Bool)) => law23_RelayerCarries.b1 a s.1 s.2.1 s.2.2.1 s.2.2.2.1 s.2.2.2.2.1 s.2.2.2.2.2.1 s.2.2.2.2.2.2) (((a.tmod 8) - 0 : Int).toNat + 2) (0, ⟨seed, 0, leaves seed⟩, none, c0, ⟨[]⟩, [], upd c0 true []) = some c ∧ (match c with | .ret r => r = true | .next s => SetK seed c0 n s.1 s.2.1 s.2.2.1 s.2.2.2.1 s.2.2.2.2.1 s.2.2.2.2.2.1 s.2.2.2.2.2.2) :=
    loop_ok (body := fun s : Int × S_keys_Signer × (Option O_Log) × (List UInt8) × O_SnC × (List (List UInt8)) × (List ((List UInt8) × Bool)) => law23_RelayerCarries.b1 a s.1 s.2.1 s.2.2.1 s.2.2.2.1 s.2.2.2.2.1 s.2.2.2.2.2.1 s.2.2.2.2.2.2) (fun s => ∃ i : Nat, i ≤ n ∧ SetK seed c0 i s.1 s.2.1 s.2.2.1 s.2.2.2.1 s.2.2.2.2.1 s.2.2.2.2.2.1 s.2.2.2.2.2.2) (fun c => match c with | .ret r => r = true | .next s => SetK seed c0 n s.1 s.2.1 s.2.2.1 s.2.2.2.1 s.2.2.2.2.1 s.2.2.2.2.2.1 s.2.2.2.2.2.2) (fun s => (n - s.1).toNat)
      (fun s ⟨i, hi, K⟩ => by
        obtain ⟨x44, x45, x46, x47, x48, x49, x51⟩ := s
        have K : SetK seed c0 i x44 x45 x46 x47 x48 x49 x51 := K
        have hx : x44 = (i : Int) := K.e1
        by_cases q : i < n
        · rcases set_step hs hn hn8 q K with h | ⟨y45, y47, y48, y49, y51, h, K'⟩
          · exact .inr (.inr ⟨true, h, rfl⟩)
          · exact .inl ⟨_, h, ⟨i + 1, by omega, K'⟩, by show ((n : Int) - ((i + 1 : Nat) : Int)).toNat < ((n : Int) - x44).toNat; omega⟩
        · have : i = n := by omega
          subst this
          refine .inr (.inl ⟨(x44, x45, x46, x47, x48, x49, x51), ?_, K⟩)
          show law23_RelayerCarries.b1 a x44 x45 x46 x47 x48 x49 x51 = _
          unfold law23_RelayerCarries.b1
          rw [if_neg (by rw [hn, decide_eq_false (by omega)]; decide)]) _ _ ⟨0, by omega, ⟨fun _ => c0, fun _ _ => h0, fun x y hx hy _ => by omega, rfl, rfl, rfl, fun j _ => by rw [lkpU, if_pos rfl]⟩, rfl, rfl, rfl, rfl, fun p hp => by cases hp⟩ (by show ((n : Int) - 0).toNat < ((a.tmod 8) - 0 : Int).toNat + 2; omega)
  obtain ⟨cr, hl1, hq1⟩ := hset
  cases cr with
  | ret r =>
    have hq1 : r = true := hq1
    subst hq1
    exact bind_of hl1 rfl
  | next s =>
    obtain ⟨x44, x45, x46, x47, x48, x49, x51⟩ := s
    have K : SetK seed c0 n x44 x45 x46 x47 x48 x49 x51 := hq1
    obtain ⟨⟨R, r1, r2, r3, r4, r5, r6⟩, e1, e2, e3, e4, e5⟩ := K
    subst r5
    refine bind_next hl1 ?_
    refine bind_of (x := (⟨1, []⟩ : S_relayer_Relayer)) rfl ?_
    have A0 : AtK seed R win 0 ⟨1, 2, rootL (leaves seed), [], win, c0, [], [], false, false⟩ := ⟨rfl, rfl, rfl, r3.symm, rfl, Bool.false_ne_true, Bool.false_ne_true⟩
    have hsl : (seenK n (uK seed R)).length = n := seen_len _ _
    generalize (⟨1, 2, rootL (leaves seed), [], win, c0, [], [], false, false⟩ : S_api_Replica) = at0 at A0
    -- what is cut
    have hcut : ∃ c, loopN (fun s : Int × O_SnC × S_relayer_Relayer × S_api_Replica => law23_RelayerCarries.b2 cuts s.1 s.2.1 s.2.2.1 s.2.2.2) (((cuts.length : Int) - 0 : Int).toNat + 2) (0, ⟨seenK n (uK seed R)⟩, ⟨1, []⟩, at0) = some c ∧ (match c with | .ret _ => False | .next s => s.2.1 = ⟨seenK n (uK seed R)⟩ ∧ ∃ disk k, s.2.2.1 = ⟨1, disk⟩ ∧ k ≤ n ∧ AtK seed R win k s.2.2.2) :=
      loop_ok (body := fun s : Int × O_SnC × S_relayer_Relayer × S_api_Replica => law23_RelayerCarries.b2 cuts s.1 s.2.1 s.2.2.1 s.2.2.2) (fun s => ∃ i : Nat, i ≤ cuts.length ∧ s.1 = (i : Int) ∧ s.2.1 = ⟨seenK n (uK seed R)⟩ ∧ ∃ disk k, s.2.2.1 = ⟨1, disk⟩ ∧ k ≤ n ∧ AtK seed R win k s.2.2.2) (fun c => match c with | .ret _ => False | .next s => s.2.1 = ⟨seenK n (uK seed R)⟩ ∧ ∃ disk k, s.2.2.1 = ⟨1, disk⟩ ∧ k ≤ n ∧ AtK seed R win k s.2.2.2) (fun s => (cuts.length - s.1).toNat)
        (fun s ⟨i, hi, hs1, hs2, disk, k, hs3, hk, A⟩ => by
          obtain ⟨z1, z2, z3, z4⟩ := s
          simp only at hs1 hs2 hs3
          have A : AtK seed R win k z4 := A
          subst hs1 hs2 hs3
          by_cases q : i < cuts.length
          · obtain ⟨disk', l, c', k', g1, g2, g3, g4, g5, _, _⟩ := carry hs hw hn8 hk r1 r2 A disk (if (cuts.getD i default) < (0 : Int) then (0 : Int) else (cuts.getD i default))
            refine .inl ⟨(((i + 1 : Nat) : Int), ⟨seenK n (uK seed R)⟩, ⟨1, disk'⟩, c'), ?_, ⟨i + 1, by omega, rfl, rfl, disk', k', rfl, g5, g3⟩, by show ((cuts.length : Int) - ((i + 1 : Nat) : Int)).toNat < ((cuts.length : Int) - (i : Int)).toNat; omega⟩
            show law23_RelayerCarries.b2 cuts (i : Int) ⟨seenK n (uK seed R)⟩ ⟨1, disk⟩ z4 = _
            unfold law23_RelayerCarries.b2
            rw [if_pos (decide_eq_true (by omega)), if_pos (by omega), nT]
            refine bind_of g1 (bind_of g2 ?_)
            rw [if_neg (by simp), w64 (by omega)]
            rfl
          · have : i = cuts.length := by omega
            subst this
            refine .inr (.inl ⟨((cuts.length : Int), ⟨seenK n (uK seed R)⟩, ⟨1, disk⟩, z4), ?_, rfl, disk, k, rfl, hk, A⟩)
            show law23_RelayerCarries.b2 cuts (cuts.length : Int) _ _ _ = _
            unfold law23_RelayerCarries.b2
            rw [if_neg (by simp)]) _ _ ⟨0, by omega, rfl, rfl, [], 0, rfl, by omega, A0⟩ (by show ((cuts.length : Int) - 0).toNat < ((cuts.length : Int) - 0 : Int).toNat + 2; omega)
    obtain ⟨cr, hl2, hq2⟩ := hcut
    cases cr with
    | ret r => exact hq2.elim
    | next s =>
      obtain ⟨z1, z2, z3, z4⟩ := s
      obtain ⟨p1, disk, k, p2, hk, A⟩ : z2 = ⟨seenK n (uK seed R)⟩ ∧ ∃ disk k, z3 = ⟨1, disk⟩ ∧ k ≤ n ∧ AtK seed R win k z4 := hq2
      subst p1 p2
      refine bind_next hl2 ?_
      -- what isn't
      have hrest : ∃ c, loopN (fun s : Int × S_relayer_Relayer × S_api_Replica × O_SnC => law23_RelayerCarries.b3 ⟨seenK n (uK seed R)⟩ s.1 s.2.1 s.2.2.1 s.2.2.2) ((((seenK n (uK seed R)).length : Int) - 0 : Int).toNat + 2) (0, ⟨1, disk⟩, z4, ⟨seenK n (uK seed R)⟩) = some c ∧ (match c with | .ret _ => False | .next s => s.2.2.2 = ⟨seenK n (uK seed R)⟩ ∧ (∃ disk, s.2.1 = ⟨1, disk⟩) ∧ AtK seed R win n s.2.2.1) :=
        loop_ok (body := fun s : Int × S_relayer_Relayer × S_api_Replica × O_SnC => law23_RelayerCarries.b3 ⟨seenK n (uK seed R)⟩ s.1 s.2.1 s.2.2.1 s.2.2.2) (fun s => ∃ i : Nat, i ≤ n ∧ s.1 = (i : Int) ∧ s.2.2.2 = ⟨seenK n (uK seed R)⟩ ∧ ∃ disk k, s.2.1 = ⟨1, disk⟩ ∧ i ≤ k ∧ k ≤ n ∧ AtK seed R win k s.2.2.1) (fun c => match c with | .ret _ => False | .next s => s.2.2.2 = ⟨seenK n (uK seed R)⟩ ∧ (∃ disk, s.2.1 = ⟨1, disk⟩) ∧ AtK seed R win n s.2.2.1) (fun s => (n - s.1).toNat)
          (fun s ⟨i, hi, hs1, hs2, disk, k, hs3, hik, hk, A⟩ => by
            obtain ⟨y1, y2, y3, y4⟩ := s
            simp only at hs1 hs2 hs3
            have A : AtK seed R win k y3 := A
            subst hs1 hs2 hs3
            by_cases q : i < n
            · obtain ⟨disk', l, c', k', g1, g2, g3, g4, g5, g6, _⟩ := carry hs hw hn8 hk r1 r2 A disk (-1)
              have hk' : i + 1 ≤ k' := by
                by_cases z : k < n
                · have := g6 (by decide) (by decide) z; omega
                · omega
              refine .inl ⟨(((i + 1 : Nat) : Int), ⟨1, disk'⟩, c', ⟨seenK n (uK seed R)⟩), ?_, ⟨i + 1, by omega, rfl, rfl, disk', k', rfl, hk', g5, g3⟩, by show ((n : Int) - ((i + 1 : Nat) : Int)).toNat < ((n : Int) - (i : Int)).toNat; omega⟩
              show law23_RelayerCarries.b3 ⟨seenK n (uK seed R)⟩ (i : Int) ⟨1, disk⟩ y3 ⟨seenK n (uK seed R)⟩ = _
              unfold law23_RelayerCarries.b3
              rw [if_pos (decide_eq_true (by show (i : Int) < ((seenK n (uK seed R)).length : Int); omega))]
              refine bind_of g1 (bind_of g2 ?_)
              rw [if_neg (by simp), w64 (by omega)]
              rfl
            · have : i = n := by omega
              subst this
              have : k = i := by omega
              subst this
              refine .inr (.inl ⟨((k : Int), ⟨1, disk⟩, y3, ⟨seenK k (uK seed R)⟩), ?_, rfl, ⟨disk, rfl⟩, A⟩)
              show law23_RelayerCarries.b3 ⟨seenK k (uK seed R)⟩ (k : Int) _ _ _ = _
              unfold law23_RelayerCarries.b3
              rw [if_neg (by rw [decide_eq_false (by show ¬ (k : Int) < ((seenK k (uK seed R)).length : Int); omega)]; decide)]) _ _ ⟨0, by omega, rfl, rfl, disk, k, rfl, by omega, hk, A⟩ (by show ((n : Int) - 0).toNat < (((seenK n (uK seed R)).length : Int) - 0 : Int).toNat + 2; omega)
      obtain ⟨cr, hl3, hq3⟩ := hrest
      cases cr with
      | ret r => exact hq3.elim
      | next s =>
        obtain ⟨y1, y2, y3, y4⟩ := s
        obtain ⟨p1, ⟨disk, p2⟩, A⟩ : y4 = ⟨seenK n (uK seed R)⟩ ∧ (∃ disk, y2 = ⟨1, disk⟩) ∧ AtK seed R win n y3 := hq3
        subst p1 p2
        refine bind_next hl3 ?_
        obtain ⟨disk', l, c', k', g1, _, _, _, _, _, g7⟩ := carry hs hw hn8 (Nat.le_refl n) r1 r2 A disk (-1)
        have hl0 := g7 rfl
        subst hl0
        refine bind_of g1 ?_
        rw [if_pos (decide_eq_true (by rw [r4]; exact A.co)), if_pos (by simp)]
        unfold law23_RelayerCarries.j1
        have hr : y3.f_Roots.length = n := by have := congrArg List.length A.ro; simpa using this
        exact congrArg some (decide_eq_true (by show (y3.f_Roots.length : Int) = ((seenK n (uK seed R)).length : Int); omega))
end
end Go.Proofs.YtklikgigjdgjaaaGreatDoorRRR
