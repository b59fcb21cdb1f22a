/- The numbers of keys' words, as the kernel reckons them. -/
import Derived.Test.YtamnmljgcmbliaaDoorP23a
import Derived.Test.YtamnmljgcmbliaaDoorP23a
import Derived.Test.YtamnmljgcmbliaaDoorP30
namespace Go.Proofs.YtamnmljgcmbliaaDoor
open Go Go.RowKit Go.Proofs
set_option linter.unusedVariables false
set_option maxRecDepth 100000

def encL : List (Nat × Nat) → Nat
  | [] => 0
  | (l, _) :: r => 4 + l + encL r
def encV : List (Nat × Nat) → Nat
  | [] => 0
  | (l, n) :: r => (l * 2 ^ (8 * l) + n) * 2 ^ (8 * encL r) + encV r
/-- The digest of an ask, as a number. -/
def hashV (d : Nat) (ps : List (Nat × Nat)) : Nat := fc (encL ps) fun L => fc (d * 2 ^ (8 * L) + encV ps) fun m => pk (shaW (1 + L) m) 0
def numP (ps : List (List UInt8)) : List (Nat × Nat) := ps.map fun p => (p.length, toN p)
theorem hd4_num {n : Nat} (hn : n < 4294967296) : toN (hd4 (n : Int)) = n := by
  have e : toN (hd4 (n : Int)) = ((((u8of (IntKind.wrap .u8 (shr .u64 (n : Int) 24))).toNat * 256 + (u8of (IntKind.wrap .u8 (shr .u64 (n : Int) 16))).toNat) * 256 + (u8of (IntKind.wrap .u8 (shr .u64 (n : Int) 8))).toNat) * 256 + (u8of (IntKind.wrap .u8 (shr .u64 (n : Int) 0))).toNat) := by
    simp [toN, hd4]
  rw [e, byteOf (q := 16777216) (by decide) (by decide), byteOf (q := 65536) (by decide) (by decide), byteOf (q := 256) (by decide) (by decide), byteOf (q := 1) (by decide) (by decide)]
  omega
theorem p256 (k : Nat) : (256 : Nat) ^ k = 2 ^ (8 * k) := by rw [show (256 : Nat) = 2 ^ 8 from rfl, ← Nat.pow_mul]
theorem enc_num : ∀ (ps : List (List UInt8)), (∀ p ∈ ps, p.length < 4294967296) → (enc ps).length = encL (numP ps) ∧ toN (enc ps) = encV (numP ps)
  | [], _ => ⟨rfl, rfl⟩
  | p :: ps, h => by
    obtain ⟨h1, h2⟩ := enc_num ps fun q hq => h q (by simp [hq])
    have hl : (hd4 (p.length : Int)).length = 4 := rfl
    have hp := h p (by simp)
    have e : numP (p :: ps) = (p.length, toN p) :: numP ps := rfl
    refine ⟨?_, ?_⟩
    · rw [e, encL, enc, List.length_append, List.length_append, h1, hl]
    · rw [e, encV, enc, toN_append, toN_append, hd4_num hp, h1, h2, p256, p256]
theorem hash_num {d : Nat} (hd : d < 256) {ps : List (List UInt8)} (h : Small ps) : toN (H (inp d ps)) = hashV d (numP ps) := by
  have hs : ∀ p ∈ ps, p.length < 4294967296 := fun p hp => by have := h.1 p hp; omega
  obtain ⟨h1, h2⟩ := enc_num ps hs
  have he := h.enc
  have hd2 : toN [u8of (d : Int)] = d := by
    simp only [toN, List.foldl_cons, List.foldl_nil, u8of]
    simp
    omega
  obtain ⟨q1, q2⟩ := H_fast (inp d ps) (by simp [inp]; omega)
  have e1 : (inp d ps).length = 1 + encL (numP ps) := by rw [← h1]; simp [inp]; omega
  have e2 : toN (inp d ps) = d * 2 ^ (8 * encL (numP ps)) + encV (numP ps) := by
    have : inp d ps = [u8of (d : Int)] ++ enc ps := rfl
    rw [this, toN_append, hd2, h1, h2, p256]
  rw [q1, toN_dg q2, e1, e2]
  unfold hashV
  rw [fc_eq, fc_eq]
/-- The numbers of secrets, publics, words and nodes. -/
def secV (S i j b : Nat) : Nat := hashV 1 [(32, S), (4, i), (1, j), (1, b)]
def pubV (P : Nat) : Nat := hashV 2 [(32, P)]
def ndV (A B : Nat) : Nat := hashV 4 [(32, A), (32, B)]
theorem wrd_num {i : Nat} (h : i < 4294967296) : toN (wrd (i : Int)) = i := by
  unfold wrd
  rw [wu32 (by omega)]
  exact hd4_num h
theorem by1_num {i : Nat} (h : i < 256) : toN [by1 (i : Int)] = i := by
  unfold by1
  rw [IntKind.wrap_u8]
  have : ((i : Int) % 256) = ((i : Nat) : Int) := by omega
  rw [this]
  simp only [toN, List.foldl_cons, List.foldl_nil, u8of]
  simp
  omega
theorem sec_num {seed : List UInt8} (h : seed.length = 32) {i j b : Nat} (hi : i < 4294967296) (hj : j < 256) (hb : b < 256) : toN (sec seed i j b) = secV (toN seed) i j b := by
  have e := hash_num (d := 1) (by decide) (secSmall h i j b)
  have e2 : numP (secP seed i j b) = [(32, toN seed), (4, i), (1, j), (1, b)] := by
    simp only [numP, secP, List.map_cons, List.map_nil, h, wrd_num hi, by1_num hj, by1_num hb]
    rfl
  rw [e2] at e
  exact e
theorem pub_num {s : List UInt8} (h : s.length = 32) : toN (pub s) = pubV (toN s) := by
  have e := hash_num (d := 2) (by decide) (pubSmall h)
  have e2 : numP [s] = [(32, toN s)] := by simp [numP, h]
  rw [e2] at e
  exact e
theorem nd_num {a b : List UInt8} (ha : a.length = 32) (hb : b.length = 32) : toN (nd a b) = ndV (toN a) (toN b) := by
  have e := hash_num (d := 4) (by decide) (ndSmall ha hb)
  have e2 : numP [a, b] = [(32, toN a), (32, toN b)] := by simp [numP, ha, hb]
  rw [e2] at e
  exact e
/-- All publics of a key, one behind the other: the halves told by c. -/
def flatV (S i : Nat) (c : Nat → Nat) : Nat → Nat → Nat → Nat
  | 0, _, acc => acc
  | n + 1, j, acc => fc (secV S i (j / 2) (c j)) fun s => fc (acc * 2 ^ 256 + pubV s) fun a => fc (j + 1) fun j' => flatV S i c n j' a
def wordV (S i : Nat) (c : Nat → Nat) : Nat := fc (flatV S i c 64 0 0) fun F => hashV 3 [(2048, F)]
noncomputable def pubsC (seed : List UInt8) (i : Nat) (c : Nat → Nat) : List (List UInt8) := (List.range 64).map fun j => pub (sec seed (i : Int) ((j / 2 : Nat) : Int) ((c j : Nat) : Int))
theorem pubsC_len {seed : List UInt8} (h : seed.length = 32) (i : Nat) (c : Nat → Nat) : (pubsC seed i c).length = 64 ∧ ∀ p ∈ pubsC seed i c, p.length = 32 := by
  refine ⟨by simp [pubsC], fun p hp => ?_⟩
  obtain ⟨j, _, rfl⟩ := List.mem_map.1 hp
  exact pub_len (sec_len h _ _ _)
theorem flat_num {seed : List UInt8} (h : seed.length = 32) {i : Nat} (hi : i < 4294967296) {c : Nat → Nat} (hc : ∀ j, c j < 256) :
    ∀ (n j : Nat) (pre : List (List UInt8)), j + n = 64 → flatV (toN seed) i c n j (toN pre.flatten) = toN (pre ++ (List.range' j n).map fun j => pub (sec seed (i : Int) ((j / 2 : Nat) : Int) ((c j : Nat) : Int))).flatten
  | 0, j, pre, _ => by simp [flatV]
  | n + 1, j, pre, hj => by
    have hs := sec_len h (i : Int) ((j / 2 : Nat) : Int) ((c j : Nat) : Int)
    have e1 := sec_num h hi (j := j / 2) (b := c j) (by omega) (hc j)
    have e2 := pub_num hs
    have e3 := pub_len hs
    have ih := flat_num h hi hc n (j + 1) (pre ++ [pub (sec seed (i : Int) ((j / 2 : Nat) : Int) ((c j : Nat) : Int))]) (by omega)
    rw [flatV, fc_eq, fc_eq, fc_eq]
    have e4 : toN (pre ++ [pub (sec seed (i : Int) ((j / 2 : Nat) : Int) ((c j : Nat) : Int))]).flatten = toN pre.flatten * 2 ^ 256 + pubV (secV (toN seed) i (j / 2) (c j)) := by
      rw [List.flatten_append, toN_append]
      simp only [List.flatten_cons, List.flatten_nil, List.append_nil]
      rw [e3, e2, e1]
    rw [← e4, ih, List.range'_succ, List.map_cons, List.append_assoc, List.singleton_append]
theorem word_num {seed : List UInt8} (h : seed.length = 32) {i : Nat} (hi : i < 4294967296) {c : Nat → Nat} (hc : ∀ j, c j < 256) : toN (wordOf (pubsC seed i c)) = wordV (toN seed) i c := by
  obtain ⟨h1, h2⟩ := pubsC_len h i c
  have hf := flatSmall h1 h2
  have e := hash_num (d := 3) (by decide) hf
  have hfl : (pubsC seed i c).flatten.length = 2048 := by rw [flat_len _ h2, h1]
  have e2 : numP [(pubsC seed i c).flatten] = [(2048, toN (pubsC seed i c).flatten)] := by simp [numP, hfl]
  have e3 := flat_num h hi hc 64 0 [] rfl
  have e4 : toN (pubsC seed i c).flatten = flatV (toN seed) i c 64 0 0 := by
    have e5 : flatV (toN seed) i c 64 0 0 = flatV (toN seed) i c 64 0 (toN ([] : List (List UInt8)).flatten) := rfl
    rw [e5, e3, List.nil_append, ← List.range_eq_range']
    rfl
  rw [e2, e4] at e
  unfold wordV
  rw [fc_eq]
  exact e
/-- Which half of each public a signature of d1 shows to one who takes it for d2's. -/
def cSw (j : Nat) : Nat := if 12 ≤ j ∧ j < 16 then 1 - j % 2 else j % 2
theorem w7_0 : wordV (7 * 2 ^ 248) 0 (fun j => j % 2) = 14469970552362550091502676622092781433544267726297639532425512837123327403610 := Nat.eq_of_beq_eq_true (by decide +kernel)
theorem w7_1 : wordV (7 * 2 ^ 248) 1 (fun j => j % 2) = 33966153274237174829438341115306153938527866910025781820497940187246863513810 := Nat.eq_of_beq_eq_true (by decide +kernel)
theorem w7_2 : wordV (7 * 2 ^ 248) 2 (fun j => j % 2) = 43211746311775846638269551126367511262506094374512292287944303549651393087849 := Nat.eq_of_beq_eq_true (by decide +kernel)
theorem w7_3 : wordV (7 * 2 ^ 248) 3 (fun j => j % 2) = 41799296448435810676078215174607687866994706356777926930302682990261863512769 := Nat.eq_of_beq_eq_true (by decide +kernel)
theorem w7_4 : wordV (7 * 2 ^ 248) 4 (fun j => j % 2) = 48375576727563164576944028898667146423801071808134309544617674178922448508247 := Nat.eq_of_beq_eq_true (by decide +kernel)
theorem w7_5 : wordV (7 * 2 ^ 248) 5 (fun j => j % 2) = 101504082674427056705666535305595876482045598914640196283753376363494729550594 := Nat.eq_of_beq_eq_true (by decide +kernel)
theorem w7_6 : wordV (7 * 2 ^ 248) 6 (fun j => j % 2) = 41274941846348184544737662962339454759206018472245377732934816794429827747199 := Nat.eq_of_beq_eq_true (by decide +kernel)
theorem w7_7 : wordV (7 * 2 ^ 248) 7 (fun j => j % 2) = 61319394524070795986848168821186275889858747887198592023479612835544873878468 := Nat.eq_of_beq_eq_true (by decide +kernel)
theorem w7_8 : wordV (7 * 2 ^ 248) 8 (fun j => j % 2) = 66511461156331426175324638683881934954724547819340997826503197571990040050923 := Nat.eq_of_beq_eq_true (by decide +kernel)
theorem w7_9 : wordV (7 * 2 ^ 248) 9 (fun j => j % 2) = 12153600434306491293582185612900479915524568732521086298349873100474409649725 := Nat.eq_of_beq_eq_true (by decide +kernel)
theorem w7_10 : wordV (7 * 2 ^ 248) 10 (fun j => j % 2) = 59407963900368399850451122190829492091557735394375000736590266836064335742991 := Nat.eq_of_beq_eq_true (by decide +kernel)
theorem w7_11 : wordV (7 * 2 ^ 248) 11 (fun j => j % 2) = 4814928054200744372590824982908783893366251416742435294267612066674699965792 := Nat.eq_of_beq_eq_true (by decide +kernel)
theorem w7_12 : wordV (7 * 2 ^ 248) 12 (fun j => j % 2) = 18294438507587617694908677938428618953421474923343036181638133728132974121105 := Nat.eq_of_beq_eq_true (by decide +kernel)
theorem w7_13 : wordV (7 * 2 ^ 248) 13 (fun j => j % 2) = 41199334620189788620481768462571965979483785862985112439323392119628572479367 := Nat.eq_of_beq_eq_true (by decide +kernel)
theorem w7_14 : wordV (7 * 2 ^ 248) 14 (fun j => j % 2) = 99492898846026555912523913932121176849217326058787743031612512597147019731120 := Nat.eq_of_beq_eq_true (by decide +kernel)
theorem w7_15 : wordV (7 * 2 ^ 248) 15 (fun j => j % 2) = 47393858648512538114503666204391081358775349537655451276354829116297768137983 := Nat.eq_of_beq_eq_true (by decide +kernel)
theorem wSw : wordV (7 * 2 ^ 248) 0 cSw = 34426036959854822579953766869581714860297401169963818548624008727570804440871 := Nat.eq_of_beq_eq_true (by decide +kernel)
end Go.Proofs.YtamnmljgcmbliaaDoor
