/- Plain law: SHA-256 over numbers, quick for the kernel, is the program's. -/
import Derived.Test.YtamnmljgcmbliaaDoorP7
import Derived.Test.YtamnmljgcmbliaaDoorP7
namespace Go.Proofs.YtamnmljgcmbliaaDoor
open Go Go.RowKit Go.Proofs
set_option linter.unusedVariables false

/-- Forces a number. -/
def fc {α : Type} (n : Nat) (k : Nat → α) : α := @Nat.casesOn (fun _ => α) n (k 0) (fun m => k (Nat.succ m))
theorem fc_eq {α : Type} (n : Nat) (k : Nat → α) : fc n k = k n := by cases n <;> rfl
def rotN (x k : Nat) : Nat := Nat.lor (Nat.shiftRight x k) (Nat.mod (Nat.shiftLeft x (32 - k)) 4294967296)
def bs0 (x : Nat) : Nat := Nat.xor (Nat.xor (rotN x 2) (rotN x 13)) (rotN x 22)
def bs1 (x : Nat) : Nat := Nat.xor (Nat.xor (rotN x 6) (rotN x 11)) (rotN x 25)
def ss0 (x : Nat) : Nat := Nat.xor (Nat.xor (rotN x 7) (rotN x 18)) (Nat.shiftRight x 3)
def ss1 (x : Nat) : Nat := Nat.xor (Nat.xor (rotN x 17) (rotN x 19)) (Nat.shiftRight x 10)
def chN (e f g : Nat) : Nat := Nat.xor (Nat.land e f) (Nat.land (Nat.xor 4294967295 e) g)
def mjN (a b c : Nat) : Nat := Nat.xor (Nat.xor (Nat.land a b) (Nat.land a c)) (Nat.land b c)
def ad (x y : Nat) : Nat := Nat.mod (Nat.add x y) 4294967296
/-- The words of a block, the newest first. -/
def ext : Nat → List Nat → List Nat
  | n + 1, a0 :: y :: a2 :: a3 :: a4 :: a5 :: z :: a7 :: a8 :: a9 :: a10 :: a11 :: a12 :: a13 :: u :: v :: l => fc (ad (ad (ad v (ss0 u)) z) (ss1 y)) fun t => ext n (t :: a0 :: y :: a2 :: a3 :: a4 :: a5 :: z :: a7 :: a8 :: a9 :: a10 :: a11 :: a12 :: a13 :: u :: v :: l)
  | _, l => l
def rnds : List Nat → List Nat → Nat → Nat → Nat → Nat → Nat → Nat → Nat → Nat → List Nat
  | k :: ks, w :: ws, a, b, c, d, e, f, g, h =>
    fc (ad (ad (ad (ad h (bs1 e)) (chN e f g)) k) w) fun t => fc (ad (ad t (bs0 a)) (mjN a b c)) fun a' => fc (ad d t) fun e' => rnds ks ws a' a b c e' e f g
  | _, _, a, b, c, d, e, f, g, h => [a, b, c, d, e, f, g, h]
def KN : List Nat := [1116352408, 1899447441, 3049323471, 3921009573, 961987163, 1508970993, 2453635748, 2870763221, 3624381080, 310598401, 607225278, 1426881987, 1925078388, 2162078206, 2614888103, 3248222580, 3835390401, 4022224774, 264347078, 604807628, 770255983, 1249150122, 1555081692, 1996064986, 2554220882, 2821834349, 2952996808, 3210313671, 3336571891, 3584528711, 113926993, 338241895, 666307205, 773529912, 1294757372, 1396182291, 1695183700, 1986661051, 2177026350, 2456956037, 2730485921, 2820302411, 3259730800, 3345764771, 3516065817, 3600352804, 4094571909, 275423344, 430227734, 506948616, 659060556, 883997877, 958139571, 1322822218, 1537002063, 1747873779, 1955562222, 2024104815, 2227730452, 2361852424, 2428436474, 2756734187, 3204031479, 3329325298]
def wAt (p i : Nat) : Nat := Nat.mod (Nat.shiftRight p (32 * i)) 4294967296
def wsR : Nat → Nat → List Nat → List Nat
  | _, 0, l => l
  | p, n + 1, l => fc (wAt p n) fun w => wsR p n (w :: l)
def add8 : List Nat → List Nat → List Nat
  | x :: xs, y :: ys => fc (ad x y) fun z => z :: add8 xs ys
  | _, _ => []
def blkN (h : List Nat) (p : Nat) : List Nat :=
  match h with
  | [a, b, c, d, e, f, g, i] => add8 [a, b, c, d, e, f, g, i] (rnds KN ((ext 48 (wsR p 16 [])).reverse) a b c d e f g i)
  | _ => []
def firstN : List Nat := [1779033703, 3144134277, 1013904242, 2773480762, 1359893119, 2600822924, 528734635, 1541459225]
def pk : List Nat → Nat → Nat
  | [], n => n
  | x :: xs, n => pk xs (n * 4294967296 + x)
def B512 : Nat := 2 ^ 512
def fold (p : Nat) : Nat → List Nat → List Nat
  | 0, h => h
  | n + 1, h => fold p n (blkN h (Nat.mod (Nat.shiftRight p (512 * n)) B512))
/-- The sum of n bytes that are m. -/
def shaW (n m : Nat) : List Nat := fold ((m * 256 + 128) * 2 ^ (8 * (64 * ((n + 72) / 64) - n - 1)) + 8 * n) ((n + 72) / 64) firstN

/-- Numbers of 32 bits, as the program has them. -/
def ci (l : List Nat) : List Int := l.map fun n : Nat => (n : Int)
abbrev B32 (n : Nat) : Prop := n < 4294967296
theorem ci_getD (l : List Nat) (i : Nat) : (ci l).getD i 0 = ((l.getD i 0 : Nat) : Int) := by
  simp only [ci, List.getD, List.getElem?_map]
  cases l[i]? <;> rfl
theorem ci_set (l : List Nat) (i n : Nat) : (ci l).set i (n : Int) = ci (l.set i n) := by simp [ci, List.map_set]
theorem b_or {a b : Nat} (ha : B32 a) (hb : B32 b) : bits .or .u32 (a : Int) (b : Int) = ((Nat.lor a b : Nat) : Int) := (bits_nat .u32 32 (by decide) wraps_u32 a b ha hb).2
theorem b_and {a b : Nat} (ha : B32 a) (hb : B32 b) : bits .and .u32 (a : Int) (b : Int) = ((Nat.land a b : Nat) : Int) := (bits_nat .u32 32 (by decide) wraps_u32 a b ha hb).1
theorem xor_lt {a b : Nat} (ha : B32 a) (hb : B32 b) : B32 (Nat.xor a b) := Nat.xor_lt_two_pow (n := 32) ha hb
theorem or_lt {a b : Nat} (ha : B32 a) (hb : B32 b) : B32 (Nat.lor a b) := Nat.or_lt_two_pow (n := 32) ha hb
theorem and_lt {a b : Nat} (ha : B32 a) : B32 (Nat.land a b) := Nat.lt_of_le_of_lt Nat.and_le_left ha
theorem ad_lt (a b : Nat) : B32 (ad a b) := Nat.mod_lt _ (by decide)
theorem b_xor {a b : Nat} (ha : B32 a) (hb : B32 b) : bits .xor .u32 (a : Int) (b : Int) = ((Nat.xor a b : Nat) : Int) := by
  have ha' : a % 2 ^ 32 = a := Nat.mod_eq_of_lt ha
  have hb' : b % 2 ^ 32 = b := Nat.mod_eq_of_lt hb
  have h : bits .xor .u32 (a : Int) (b : Int) = IntKind.u32.wrap ((BitVec.ofInt 32 (a : Int) ^^^ BitVec.ofInt 32 (b : Int)).toNat : Nat) := rfl
  rw [h, BitVec.ofInt_natCast, BitVec.ofInt_natCast, BitVec.toNat_xor, BitVec.toNat_ofNat, BitVec.toNat_ofNat, ha', hb']
  have := xor_lt ha hb
  exact wraps_u32 _ (Int.natCast_nonneg _) (by unfold B32 at this; exact_mod_cast this)
theorem w_add (a b : Nat) : IntKind.wrap .u32 ((a : Int) + (b : Int)) = ((ad a b : Nat) : Int) := by
  rw [IntKind.wrap_u32]
  have : ad a b = (a + b) % 4294967296 := rfl
  rw [this]
  omega
theorem shr_n {a k : Nat} (hk : k ≤ 32) : shr .u32 (a : Int) (k : Int) = ((Nat.shiftRight a k : Nat) : Int) := by
  unfold shr
  have h1 : min (k : Int).toNat IntKind.u32.bits = k := by simp [IntKind.bits]; omega
  rw [h1, Int.fdiv_eq_ediv_of_nonneg _ (by exact Int.le_of_lt (Int.pow_pos (by decide)))]
  have h2 : Nat.shiftRight a k = a / 2 ^ k := Nat.shiftRight_eq_div_pow a k
  rw [h2]
  simp
theorem shl_n {a k : Nat} (hk : k ≤ 32) : shl .u32 (a : Int) (k : Int) = ((Nat.mod (Nat.shiftLeft a k) 4294967296 : Nat) : Int) := by
  unfold shl
  have h1 : min (k : Int).toNat IntKind.u32.bits = k := by simp [IntKind.bits]; omega
  rw [h1, IntKind.wrap_u32]
  have h2 : Nat.shiftLeft a k = a * 2 ^ k := Nat.shiftLeft_eq a k
  have h3 : Nat.mod (Nat.shiftLeft a k) 4294967296 = (a * 2 ^ k) % 4294967296 := by rw [h2]; rfl
  rw [h3]
  simp
theorem sr_lt {a : Nat} (k : Nat) (ha : B32 a) : B32 (Nat.shiftRight a k) := by
  have h2 : Nat.shiftRight a k = a / 2 ^ k := Nat.shiftRight_eq_div_pow a k
  rw [h2]
  exact Nat.lt_of_le_of_lt (Nat.div_le_self _ _) ha
theorem rot_lt {a : Nat} (k : Nat) (ha : B32 a) : B32 (rotN a k) := or_lt (sr_lt k ha) (Nat.mod_lt _ (by decide))
theorem rot_n {a : Nat} (k : Nat) (hk : k ≤ 32) (ha : B32 a) (x y : Int) (hx : x = ((32 - k : Nat) : Int)) (hy : y = (k : Int)) : bits .or .u32 (shl .u32 (a : Int) x) (shr .u32 (a : Int) y) = ((rotN a k : Nat) : Int) := by
  subst hx hy
  have hml : B32 (Nat.mod (Nat.shiftLeft a (32 - k)) 4294967296) := Nat.mod_lt _ (by decide)
  rw [shl_n (by omega), shr_n hk, b_or hml (sr_lt k ha)]
  unfold rotN
  rw [show Nat.lor (Nat.mod (Nat.shiftLeft a (32 - k)) 4294967296) (Nat.shiftRight a k) = Nat.lor (Nat.shiftRight a k) (Nat.mod (Nat.shiftLeft a (32 - k)) 4294967296) from Nat.or_comm _ _]
theorem turn7 {a : Nat} (ha : B32 a) : bits_RotateLeft32 (a : Int) (-7) = some ((rotN a 7 : Nat) : Int) := congrArg some (rot_n 7 (by decide) ha _ _ (by decide) (by decide))
theorem turn18 {a : Nat} (ha : B32 a) : bits_RotateLeft32 (a : Int) (-18) = some ((rotN a 18 : Nat) : Int) := congrArg some (rot_n 18 (by decide) ha _ _ (by decide) (by decide))
theorem turn17 {a : Nat} (ha : B32 a) : bits_RotateLeft32 (a : Int) (-17) = some ((rotN a 17 : Nat) : Int) := congrArg some (rot_n 17 (by decide) ha _ _ (by decide) (by decide))
theorem turn19 {a : Nat} (ha : B32 a) : bits_RotateLeft32 (a : Int) (-19) = some ((rotN a 19 : Nat) : Int) := congrArg some (rot_n 19 (by decide) ha _ _ (by decide) (by decide))
theorem turn6 {a : Nat} (ha : B32 a) : bits_RotateLeft32 (a : Int) (-6) = some ((rotN a 6 : Nat) : Int) := congrArg some (rot_n 6 (by decide) ha _ _ (by decide) (by decide))
theorem turn11 {a : Nat} (ha : B32 a) : bits_RotateLeft32 (a : Int) (-11) = some ((rotN a 11 : Nat) : Int) := congrArg some (rot_n 11 (by decide) ha _ _ (by decide) (by decide))
theorem turn25 {a : Nat} (ha : B32 a) : bits_RotateLeft32 (a : Int) (-25) = some ((rotN a 25 : Nat) : Int) := congrArg some (rot_n 25 (by decide) ha _ _ (by decide) (by decide))
theorem turn2 {a : Nat} (ha : B32 a) : bits_RotateLeft32 (a : Int) (-2) = some ((rotN a 2 : Nat) : Int) := congrArg some (rot_n 2 (by decide) ha _ _ (by decide) (by decide))
theorem turn13 {a : Nat} (ha : B32 a) : bits_RotateLeft32 (a : Int) (-13) = some ((rotN a 13 : Nat) : Int) := congrArg some (rot_n 13 (by decide) ha _ _ (by decide) (by decide))
theorem turn22 {a : Nat} (ha : B32 a) : bits_RotateLeft32 (a : Int) (-22) = some ((rotN a 22 : Nat) : Int) := congrArg some (rot_n 22 (by decide) ha _ _ (by decide) (by decide))
theorem x_ss0 {a : Nat} (ha : B32 a) : bits .xor .u32 (bits .xor .u32 ((rotN a 7 : Nat) : Int) ((rotN a 18 : Nat) : Int)) (shr .u32 (a : Int) 3) = ((ss0 a : Nat) : Int) := by
  rw [show (3 : Int) = ((3 : Nat) : Int) from rfl, shr_n (by decide), b_xor (rot_lt 7 ha) (rot_lt 18 ha), b_xor (xor_lt (rot_lt 7 ha) (rot_lt 18 ha)) (sr_lt 3 ha)]
  rfl
theorem x_ss1 {a : Nat} (ha : B32 a) : bits .xor .u32 (bits .xor .u32 ((rotN a 17 : Nat) : Int) ((rotN a 19 : Nat) : Int)) (shr .u32 (a : Int) 10) = ((ss1 a : Nat) : Int) := by
  rw [show (10 : Int) = ((10 : Nat) : Int) from rfl, shr_n (by decide), b_xor (rot_lt 17 ha) (rot_lt 19 ha), b_xor (xor_lt (rot_lt 17 ha) (rot_lt 19 ha)) (sr_lt 10 ha)]
  rfl
theorem x_bs0 {a : Nat} (ha : B32 a) : bits .xor .u32 (bits .xor .u32 ((rotN a 2 : Nat) : Int) ((rotN a 13 : Nat) : Int)) ((rotN a 22 : Nat) : Int) = ((bs0 a : Nat) : Int) := by
  rw [b_xor (rot_lt 2 ha) (rot_lt 13 ha), b_xor (xor_lt (rot_lt 2 ha) (rot_lt 13 ha)) (rot_lt 22 ha)]
  rfl
theorem x_bs1 {a : Nat} (ha : B32 a) : bits .xor .u32 (bits .xor .u32 ((rotN a 6 : Nat) : Int) ((rotN a 11 : Nat) : Int)) ((rotN a 25 : Nat) : Int) = ((bs1 a : Nat) : Int) := by
  rw [b_xor (rot_lt 6 ha) (rot_lt 11 ha), b_xor (xor_lt (rot_lt 6 ha) (rot_lt 11 ha)) (rot_lt 25 ha)]
  rfl
theorem x_mj {a b c : Nat} (ha : B32 a) (hb : B32 b) (hc : B32 c) : bits .xor .u32 (bits .xor .u32 (bits .and .u32 (a : Int) (b : Int)) (bits .and .u32 (a : Int) (c : Int))) (bits .and .u32 (b : Int) (c : Int)) = ((mjN a b c : Nat) : Int) := by
  rw [b_and ha hb, b_and ha hc, b_and hb hc, b_xor (and_lt ha) (and_lt ha), b_xor (xor_lt (and_lt ha) (and_lt ha)) (and_lt hb)]
  rfl
theorem x_ch {e f g : Nat} (he : B32 e) (hf : B32 f) (hg : B32 g) : bits .xor .u32 (bits .and .u32 (e : Int) (f : Int)) (bits .and .u32 (inot .u32 (e : Int)) (g : Int)) = ((chN e f g : Nat) : Int) := by
  have h : inot .u32 (e : Int) = bits .xor .u32 ((4294967295 : Nat) : Int) (e : Int) := rfl
  have hm : B32 4294967295 := by unfold B32; decide
  rw [h, b_xor hm he, b_and he hf, b_and (xor_lt hm he) hg, b_xor (and_lt he) (and_lt (xor_lt hm he))]
  rfl
/-- The bytes of a text as one number. -/
def toN : List UInt8 → Nat := fun l => l.foldl (fun a b => a * 256 + b.toNat) 0
theorem foldl_toN : ∀ (l : List UInt8) (a : Nat), l.foldl (fun a b => a * 256 + b.toNat) a = a * 256 ^ l.length + toN l
  | [], a => by simp [toN]
  | b :: l, a => by
    have h1 := foldl_toN l (a * 256 + b.toNat)
    have h2 := foldl_toN l (0 * 256 + b.toNat)
    have h3 : toN (b :: l) = l.foldl (fun a b => a * 256 + b.toNat) (0 * 256 + b.toNat) := rfl
    rw [h3, h2, List.foldl_cons, h1, List.length_cons, Nat.pow_succ, Nat.add_mul, Nat.mul_assoc, Nat.mul_comm 256 (256 ^ l.length), Nat.zero_mul, Nat.zero_add]
    omega
theorem toN_append (x y : List UInt8) : toN (x ++ y) = toN x * 256 ^ y.length + toN y := by
  have h : toN (x ++ y) = y.foldl (fun a b => a * 256 + b.toNat) (toN x) := List.foldl_append
  rw [h, foldl_toN]
theorem toN_lt : ∀ (l : List UInt8), toN l < 256 ^ l.length
  | [] => by simp [toN]
  | b :: l => by
    have h1 := toN_append [b] l
    have h2 := toN_lt l
    have h3 : toN [b] = b.toNat := by simp [toN]
    have h4 := UInt8.toNat_lt b
    rw [List.singleton_append] at h1
    rw [h1, h3, List.length_cons, Nat.pow_succ]
    have : (b.toNat + 1) * 256 ^ l.length ≤ 256 * 256 ^ l.length := Nat.mul_le_mul_right _ h4
    rw [Nat.add_mul] at this
    rw [Nat.mul_comm (256 ^ l.length) 256]
    omega
def wN (b : List UInt8) (i : Nat) : Nat := (((b.getD (4 * i) 0).toNat * 256 + (b.getD (4 * i + 1) 0).toNat) * 256 + (b.getD (4 * i + 2) 0).toNat) * 256 + (b.getD (4 * i + 3) 0).toNat
theorem wN_lt (b : List UInt8) (i : Nat) : B32 (wN b i) := by
  have h0 := UInt8.toNat_lt (b.getD (4 * i) 0)
  have h1 := UInt8.toNat_lt (b.getD (4 * i + 1) 0)
  have h2 := UInt8.toNat_lt (b.getD (4 * i + 2) 0)
  have h3 := UInt8.toNat_lt (b.getD (4 * i + 3) 0)
  unfold B32 wN
  omega
theorem four {b : List UInt8} {i : Nat} (h : 4 * i + 4 ≤ b.length) : (b.drop (4 * i)).take 4 = [b.getD (4 * i) 0, b.getD (4 * i + 1) 0, b.getD (4 * i + 2) 0, b.getD (4 * i + 3) 0] := by
  have e : ∀ k, k < b.length → b.drop k = b.getD k 0 :: b.drop (k + 1) := fun k hk => by rw [List.drop_eq_getElem_cons hk]; simp [List.getD, hk]
  rw [e (4 * i) (by omega), e (4 * i + 1) (by omega), e (4 * i + 2) (by omega), e (4 * i + 3) (by omega)]
  rfl
theorem wN_wAt {b : List UInt8} (hb : b.length = 64) {i : Nat} (hi : i < 16) : wAt (toN b) (15 - i) = wN b i := by
  have h1 : b = b.take (4 * i) ++ ((b.drop (4 * i)).take 4 ++ b.drop (4 * i + 4)) := by
    have h2 : b.drop (4 * i) = (b.drop (4 * i)).take 4 ++ (b.drop (4 * i)).drop 4 := (List.take_append_drop _ _).symm
    rw [List.drop_drop] at h2
    rw [← h2, List.take_append_drop]
  have h3 : toN ((b.drop (4 * i)).take 4) = wN b i := by
    rw [four (by omega)]
    simp [toN, wN]
  have h4 := toN_lt (b.drop (4 * i + 4))
  have hl : (b.drop (4 * i + 4)).length = 4 * (15 - i) := by simp; omega
  have hp : (256 : Nat) ^ (4 * (15 - i)) = 2 ^ (32 * (15 - i)) := by
    rw [show (256 : Nat) = 2 ^ 8 from rfl, ← Nat.pow_mul]
    congr 1
    omega
  have h5 : wAt (toN b) (15 - i) = (toN b / 2 ^ (32 * (15 - i))) % 4294967296 := by
    show Nat.mod (Nat.shiftRight _ _) _ = _
    rw [show Nat.shiftRight (toN b) (32 * (15 - i)) = toN b / 2 ^ (32 * (15 - i)) from Nat.shiftRight_eq_div_pow _ _]
    rfl
  rw [h5, h1, toN_append, toN_append, List.length_append, hl, ← h1, h3]
  rw [hl] at h4
  have hlt := wN_lt b i
  have ht : ((b.drop (4 * i)).take 4).length = 4 := by rw [four (by omega)]; rfl
  rw [hp] at h4
  rw [ht, Nat.pow_add, ← Nat.mul_assoc, ← Nat.add_assoc, hp, ← Nat.add_mul, Nat.mul_comm _ (2 ^ (32 * (15 - i))), Nat.mul_add_div (Nat.two_pow_pos _), Nat.div_eq_of_lt h4]
  unfold B32 at hlt
  omega
def newN (l : List Nat) : Nat := ad (ad (ad (l.getD 15 0) (ss0 (l.getD 14 0))) (l.getD 6 0)) (ss1 (l.getD 1 0))
def G16 (b : List UInt8) : Nat → List Nat
  | 0 => []
  | n + 1 => (if n < 16 then wN b n else newN (G16 b n)) :: G16 b n
theorem G16_len (b : List UInt8) : ∀ n, (G16 b n).length = n
  | 0 => rfl
  | n + 1 => by simp [G16, G16_len b n]
theorem G16_lt (b : List UInt8) : ∀ n, ∀ x ∈ G16 b n, B32 x
  | 0, x, h => by cases h
  | n + 1, x, h => by
    rcases List.mem_cons.1 h with rfl | h
    · split
      · exact wN_lt b n
      · exact ad_lt _ _
    · exact G16_lt b n x h
theorem ext_step (n : Nat) {l : List Nat} (h : 16 ≤ l.length) : ext (n + 1) l = ext n (newN l :: l) := by
  match l, h with
  | a0 :: y :: a2 :: a3 :: a4 :: a5 :: z :: a7 :: a8 :: a9 :: a10 :: a11 :: a12 :: a13 :: u :: v :: l, _ =>
    rw [ext, fc_eq]
    rfl
theorem ext_zero (l : List Nat) : ext 0 l = l := by rw [ext]; intros; contradiction
theorem ext_G (b : List UInt8) : ∀ (m n : Nat), 16 ≤ n → ext m (G16 b n) = G16 b (n + m)
  | 0, n, _ => ext_zero _
  | m + 1, n, h => by
    rw [ext_step m (by rw [G16_len]; exact h)]
    have : newN (G16 b n) :: G16 b n = G16 b (n + 1) := by rw [G16, if_neg (by omega)]
    rw [this, ext_G b m (n + 1) (by omega), Nat.add_right_comm, Nat.add_assoc]
theorem wsR_G {b : List UInt8} (hb : b.length = 64) : wsR (toN b) 16 [] = G16 b 16 := by
  have h : ∀ i, i < 16 → wAt (toN b) (15 - i) = wN b i := fun i hi => wN_wAt hb hi
  simp only [wsR, fc_eq]
  have g0 := h 0 (by decide); have g1 := h 1 (by decide); have g2 := h 2 (by decide); have g3 := h 3 (by decide)
  have g4 := h 4 (by decide); have g5 := h 5 (by decide); have g6 := h 6 (by decide); have g7 := h 7 (by decide)
  have g8 := h 8 (by decide); have g9 := h 9 (by decide); have g10 := h 10 (by decide); have g11 := h 11 (by decide)
  have g12 := h 12 (by decide); have g13 := h 13 (by decide); have g14 := h 14 (by decide); have g15 := h 15 (by decide)
  simp only [Nat.reduceSub] at g0 g1 g2 g3 g4 g5 g6 g7 g8 g9 g10 g11 g12 g13 g14 g15
  rw [g0, g1, g2, g3, g4, g5, g6, g7, g8, g9, g10, g11, g12, g13, g14, g15]
  simp [G16]
/-- One step of the schedule. -/
theorem fsched {b : List UInt8} (hb : b.length = 64) (i : Nat) (hi : i < 64) : sha_schedule.b1 b i (ci ((G16 b i).reverse ++ List.replicate (64 - i) 0)) = some (.cont (((i + 1 : Nat) : Int), ci ((G16 b (i + 1)).reverse ++ List.replicate (64 - (i + 1)) 0))) := by
  have hset : ∀ x, ((G16 b i).reverse ++ List.replicate (64 - i) 0).set i x = (x :: G16 b i).reverse ++ List.replicate (64 - (i + 1)) 0 := by
    intro x
    rw [List.set_append_right _ _ (by simp [G16_len])]
    simp only [List.length_reverse, G16_len, Nat.sub_self]
    rw [show 64 - i = (64 - (i + 1)) + 1 by omega, List.replicate_succ]
    simp
  unfold sha_schedule.b1
  rw [if_pos (by simp; omega)]
  by_cases h16 : i < 16
  · rw [if_pos (by simp; omega)]
    simp (disch := omega) only [w64]
    have e1 : (4 * (i : Int)).toNat = 4 * i := by omega
    have e2 : (4 * (i : Int) + 4).toNat = 4 * i + 4 := by omega
    have hq : ((b.take (4 * (i : Int) + 4).toNat).drop (4 * (i : Int)).toNat) = [b.getD (4 * i) 0, b.getD (4 * i + 1) 0, b.getD (4 * i + 2) 0, b.getD (4 * i + 3) 0] := by
      rw [e1, e2, ← four (by omega), List.drop_take]
      congr 1
      omega
    rw [hq, if_pos (by omega), if_pos (by simp), if_pos (by simp), if_pos (by simp), if_pos (by simp), if_pos (by omega)]
    have t0 := UInt8.toNat_lt (b.getD (4 * i) 0)
    have t1 := UInt8.toNat_lt (b.getD (4 * i + 1) 0)
    have t2 := UInt8.toNat_lt (b.getD (4 * i + 2) 0)
    have t3 := UInt8.toNat_lt (b.getD (4 * i + 3) 0)
    have hw : bits .or .u32 (bits .or .u32 (bits .or .u32 (shl .u32 (IntKind.wrap .u32 (([b.getD (4 * i) 0, b.getD (4 * i + 1) 0, b.getD (4 * i + 2) 0, b.getD (4 * i + 3) 0].getD (0 : Int).toNat 0).toNat : Int)) 24) (shl .u32 (IntKind.wrap .u32 (([b.getD (4 * i) 0, b.getD (4 * i + 1) 0, b.getD (4 * i + 2) 0, b.getD (4 * i + 3) 0].getD (1 : Int).toNat 0).toNat : Int)) 16)) (shl .u32 (IntKind.wrap .u32 (([b.getD (4 * i) 0, b.getD (4 * i + 1) 0, b.getD (4 * i + 2) 0, b.getD (4 * i + 3) 0].getD (2 : Int).toNat 0).toNat : Int)) 8)) (IntKind.wrap .u32 (([b.getD (4 * i) 0, b.getD (4 * i + 1) 0, b.getD (4 * i + 2) 0, b.getD (4 * i + 3) 0].getD (3 : Int).toNat 0).toNat : Int)) = ((wN b i : Nat) : Int) := by
      refine (word_eq _ _ _ _ t0 t1 t2 t3).trans ?_
      simp only [IntKind.wrap_u32, wN]
      omega
    rw [hw]
    have e3 : (i : Int).toNat = i := by omega
    rw [e3, ci_set, hset]
    have e4 : G16 b (i + 1) = wN b i :: G16 b i := by rw [G16, if_pos h16]
    rw [e4]
    rfl
  · rw [if_neg (by simp; omega)]
    have hg : ∀ k, 1 ≤ k → k ≤ 16 → (ci ((G16 b i).reverse ++ List.replicate (64 - i) 0)).getD (i - k) 0 = (((G16 b i).getD (k - 1) 0 : Nat) : Int) := by
      intro k h1 h2
      have hlen := G16_len b i
      rw [ci_getD]
      congr 1
      simp only [List.getD]
      rw [List.getElem?_append_left (by rw [List.length_reverse, hlen]; omega), List.getElem?_reverse (by rw [hlen]; omega), hlen]
      congr 2
      omega
    have hm : ∀ k, B32 ((G16 b i).getD k 0) := by
      intro k
      simp only [List.getD]
      cases h : (G16 b i)[k]? with
      | none => exact (by decide : B32 0)
      | some x => exact G16_lt b i x (List.mem_of_getElem? h)
    have e15 : ((i : Int) - 15).toNat = i - 15 := by omega
    have e2 : ((i : Int) - 2).toNat = i - 2 := by omega
    have e16 : ((i : Int) - 16).toNat = i - 16 := by omega
    have e7 : ((i : Int) - 7).toNat = i - 7 := by omega
    simp (disch := omega) only [w64]
    rw [e15, e2, e16, e7, hg 15 (by decide) (by decide), hg 2 (by decide) (by decide), hg 16 (by decide) (by decide), hg 7 (by decide) (by decide)]
    rw [if_pos (by omega), if_pos (by omega)]
    refine bind_of (turn7 (hm _)) (bind_of (turn18 (hm _)) (bind_of (turn17 (hm _)) (bind_of (turn19 (hm _)) ?_)))
    rw [if_pos (by omega), if_pos (by omega), if_pos (by omega), x_ss0 (hm _), x_ss1 (hm _), w_add, w_add, w_add]
    have e3 : (i : Int).toNat = i := by omega
    have e4 : G16 b (i + 1) = newN (G16 b i) :: G16 b i := by rw [G16, if_neg h16]
    rw [e3, ci_set, hset, e4]
    rfl
theorem fsched_eq {b : List UInt8} (hb : b.length = 64) : sha_schedule b = some (ci (G16 b 64).reverse) := by
  have hl : ∀ (m i k : Nat), i + m = 64 → m < k → loopN (fun s : Int × (List Int) => sha_schedule.b1 b s.1 s.2) k ((i : Int), ci ((G16 b i).reverse ++ List.replicate (64 - i) 0)) = some (.next (64, ci (G16 b 64).reverse)) := by
    intro m
    induction m with
    | zero =>
      intro i k h hk
      obtain rfl : i = 64 := by omega
      obtain ⟨k, rfl⟩ : ∃ j, k = j + 1 := ⟨k - 1, by omega⟩
      unfold loopN
      have : sha_schedule.b1 b ((64 : Nat) : Int) (ci ((G16 b 64).reverse ++ List.replicate (64 - 64) 0)) = some (.brk (64, ci (G16 b 64).reverse)) := by
        unfold sha_schedule.b1
        rw [if_neg (by simp)]
        simp
      rw [this]
    | succ m ih =>
      intro i k h hk
      obtain ⟨k, rfl⟩ : ∃ j, k = j + 1 := ⟨k - 1, by omega⟩
      unfold loopN
      rw [fsched hb i (by omega)]
      exact ih (i + 1) k (by omega) (by omega)
  unfold sha_schedule
  exact bind_next (hl 64 0 66 rfl (by decide)) rfl
theorem KN_eq : gConst = ci KN := rfl
theorem KN_lt : KN.length = 64 := rfl
theorem fround (W : List Nat) {a b c d e f g h : Nat} (ha : B32 a) (hb : B32 b) (hc : B32 c) (hd : B32 d) (he : B32 e) (hf : B32 f) (hg : B32 g) (hh : B32 h) (i : Nat) (hi : i < 64) :
    sha_Block.b1 (ci W) i (ci [a, b, c, d, e, f, g, h]) = some (.cont (((i + 1 : Nat) : Int), ci [ad (ad (ad (ad (ad (ad h (bs1 e)) (chN e f g)) (KN.getD i 0)) (W.getD i 0)) (bs0 a)) (mjN a b c), a, b, c, ad d (ad (ad (ad (ad h (bs1 e)) (chN e f g)) (KN.getD i 0)) (W.getD i 0)), e, f, g])) := by
  unfold sha_Block.b1
  rw [if_pos (by simp; omega)]
  have e4 : (ci [a, b, c, d, e, f, g, h]).getD (4 : Int).toNat 0 = (e : Int) := rfl
  have e0 : (ci [a, b, c, d, e, f, g, h]).getD (0 : Int).toNat 0 = (a : Int) := rfl
  have e1 : (ci [a, b, c, d, e, f, g, h]).getD (1 : Int).toNat 0 = (b : Int) := rfl
  have e2 : (ci [a, b, c, d, e, f, g, h]).getD (2 : Int).toNat 0 = (c : Int) := rfl
  have e5 : (ci [a, b, c, d, e, f, g, h]).getD (5 : Int).toNat 0 = (f : Int) := rfl
  have e6 : (ci [a, b, c, d, e, f, g, h]).getD (6 : Int).toNat 0 = (g : Int) := rfl
  have e7 : (ci [a, b, c, d, e, f, g, h]).getD (7 : Int).toNat 0 = (h : Int) := rfl
  have ei : (i : Int).toNat = i := by omega
  have hsh : (ci [a, b, c, d, e, f, g, h]).take (1 : Int).toNat ++ ((ci [a, b, c, d, e, f, g, h]).drop (0 : Int).toNat).take (min ((7 : Int).toNat - (0 : Int).toNat) ((8 : Int).toNat - (1 : Int).toNat)) ++ (ci [a, b, c, d, e, f, g, h]).drop ((1 : Int).toNat + (min ((7 : Int).toNat - (0 : Int).toNat) ((8 : Int).toNat - (1 : Int).toNat))) = ci [a, a, b, c, d, e, f, g] := rfl
  have eK : gConst.getD i 0 = ((KN.getD i 0 : Nat) : Int) := by rw [KN_eq, ci_getD]
  have eW : (ci W).getD i 0 = ((W.getD i 0 : Nat) : Int) := ci_getD W i
  rw [hsh, e0, e1, e2, e4, e5, e6, e7, ei, eK, eW]
  have e4' : (ci [a, a, b, c, d, e, f, g]).getD (4 : Int).toNat 0 = (d : Int) := rfl
  rw [e4']
  refine bind_of (turn6 he) (bind_of (turn11 he) (bind_of (turn25 he) ?_))
  rw [if_pos (by omega)]
  refine bind_of (turn2 ha) (bind_of (turn13 ha) (bind_of (turn22 ha) ?_))
  rw [x_bs1 he, x_bs0 ha, x_mj ha hb hc, x_ch he hf hg, w_add, w_add, w_add, w_add, w_add, w_add, w_add, w64 (by omega)]
  rfl
theorem rnds_step {i : Nat} (hi : i < 64) {W : List Nat} (hW : W.length = 64) (a b c d e f g h : Nat) : rnds (KN.drop i) (W.drop i) a b c d e f g h = rnds (KN.drop (i + 1)) (W.drop (i + 1)) (ad (ad (ad (ad (ad (ad h (bs1 e)) (chN e f g)) (KN.getD i 0)) (W.getD i 0)) (bs0 a)) (mjN a b c)) a b c (ad d (ad (ad (ad (ad h (bs1 e)) (chN e f g)) (KN.getD i 0)) (W.getD i 0))) e f g := by
  have e : ∀ (l : List Nat), i < l.length → l.drop i = l.getD i 0 :: l.drop (i + 1) := fun l h => by rw [List.drop_eq_getElem_cons h]; simp [List.getD, h]
  have e1 := e KN (by rw [KN_lt]; exact hi)
  have e2 := e W (by omega)
  rw [e1, e2]
  generalize KN.drop (i + 1) = ks
  generalize W.drop (i + 1) = ws
  rw [rnds, fc_eq, fc_eq, fc_eq]
theorem frounds {W : List Nat} (hW : W.length = 64) : ∀ (m i k : Nat) (a b c d e f g h : Nat), B32 a → B32 b → B32 c → B32 d → B32 e → B32 f → B32 g → B32 h → i + m = 64 → m < k →
    ∃ a' b' c' d' e' f' g' h', rnds (KN.drop i) (W.drop i) a b c d e f g h = [a', b', c', d', e', f', g', h'] ∧ loopN (fun s : Int × (List Int) => sha_Block.b1 (ci W) s.1 s.2) k ((i : Int), ci [a, b, c, d, e, f, g, h]) = some (.next (64, ci [a', b', c', d', e', f', g', h'])) ∧
      B32 a' ∧ B32 b' ∧ B32 c' ∧ B32 d' ∧ B32 e' ∧ B32 f' ∧ B32 g' ∧ B32 h'
  | 0, i, k, a, b, c, d, e, f, g, h, ha, hb, hc, hd, he, hf, hg, hh, hi, hk => by
    obtain rfl : i = 64 := by omega
    obtain ⟨k, rfl⟩ : ∃ j, k = j + 1 := ⟨k - 1, by omega⟩
    refine ⟨a, b, c, d, e, f, g, h, ?_, ?_, ha, hb, hc, hd, he, hf, hg, hh⟩
    · rw [show KN.drop 64 = [] from rfl, rnds]
      simp
    · unfold loopN
      have : sha_Block.b1 (ci W) ((64 : Nat) : Int) (ci [a, b, c, d, e, f, g, h]) = some (.brk (64, ci [a, b, c, d, e, f, g, h])) := by
        unfold sha_Block.b1
        rw [if_neg (by simp)]
        rfl
      rw [this]
  | m + 1, i, k, a, b, c, d, e, f, g, h, ha, hb, hc, hd, he, hf, hg, hh, hi, hk => by
    obtain ⟨k, rfl⟩ : ∃ j, k = j + 1 := ⟨k - 1, by omega⟩
    obtain ⟨a', b', c', d', e', f', g', h', q1, q2, q3⟩ := frounds hW m (i + 1) k _ a b c _ e f g (ad_lt _ _) ha hb hc (ad_lt _ _) he hf hg (by omega) (by omega)
    refine ⟨a', b', c', d', e', f', g', h', ?_, ?_, q3⟩
    · rw [rnds_step (by omega) hW]
      exact q1
    · unfold loopN
      rw [fround W ha hb hc hd he hf hg hh i (by omega)]
      exact q2
theorem fadds (a0 a1 a2 a3 a4 a5 a6 a7 c0 c1 c2 c3 c4 c5 c6 c7 : Nat) : loopN (fun s : Int × List Int => sha_Block.b2 (ci [a0, a1, a2, a3, a4, a5, a6, a7]) s.1 s.2) 10 (0, ci [c0, c1, c2, c3, c4, c5, c6, c7]) =
    some (.next (8, ci (add8 [a0, a1, a2, a3, a4, a5, a6, a7] [c0, c1, c2, c3, c4, c5, c6, c7]))) := by
  have f3 := (loop_for (body := fun s : Int × List Int => sha_Block.b2 (ci [a0, a1, a2, a3, a4, a5, a6, a7]) s.1 s.2) (fun _ => True) (fun i w => w.set i (IntKind.wrap .u32 (((ci [a0, a1, a2, a3, a4, a5, a6, a7]).getD i 0) + (w.getD i 0)))) 8
    (fun i w hi _ => ⟨by
      show sha_Block.b2 _ i w = _
      unfold sha_Block.b2
      rw [if_pos (by simp; omega), if_pos (by omega), Int.add_comm (w.getD _ _)]
      simp (disch := omega) only [w64]
      rfl, trivial⟩) (fun w => by unfold sha_Block.b2; rw [if_neg (by simp)]) 8 0 (ci [c0, c1, c2, c3, c4, c5, c6, c7]) 10 rfl trivial (by decide)).1
  refine f3.trans ?_
  have h : iter (fun i w => w.set i (IntKind.wrap .u32 (((ci [a0, a1, a2, a3, a4, a5, a6, a7]).getD i 0) + (w.getD i 0)))) 0 8 (ci [c0, c1, c2, c3, c4, c5, c6, c7]) = [IntKind.wrap .u32 ((a0 : Int) + (c0 : Int)), IntKind.wrap .u32 ((a1 : Int) + (c1 : Int)), IntKind.wrap .u32 ((a2 : Int) + (c2 : Int)), IntKind.wrap .u32 ((a3 : Int) + (c3 : Int)), IntKind.wrap .u32 ((a4 : Int) + (c4 : Int)), IntKind.wrap .u32 ((a5 : Int) + (c5 : Int)), IntKind.wrap .u32 ((a6 : Int) + (c6 : Int)), IntKind.wrap .u32 ((a7 : Int) + (c7 : Int))] := rfl
  rw [h]
  simp only [w_add, add8, fc_eq]
  rfl
theorem list8n {x : List Nat} (h : x.length = 8) : ∃ a b c d e f g i, x = [a, b, c, d, e, f, g, i] := by
  match x, h with
  | [a, b, c, d, e, f, g, i], _ => exact ⟨a, b, c, d, e, f, g, i, rfl⟩
def W8 (h : List Nat) : Prop := h.length = 8 ∧ ∀ x ∈ h, B32 x
theorem fblock {h : List Nat} (hh : W8 h) {b : List UInt8} (hb : b.length = 64) : sha_Block (ci h) b = some (ci (blkN h (toN b))) ∧ W8 (blkN h (toN b)) := by
  obtain ⟨a0, a1, a2, a3, a4, a5, a6, a7, rfl⟩ := list8n hh.1
  have h8 := hh.2
  simp only [List.mem_cons, List.not_mem_nil, or_false, forall_eq_or_imp, forall_eq] at h8
  obtain ⟨b0, b1, b2, b3, b4, b5, b6, b7⟩ := h8
  have hW : (G16 b 64).reverse.length = 64 := by rw [List.length_reverse, G16_len]
  obtain ⟨c0, c1, c2, c3, c4, c5, c6, c7, q1, q2, _⟩ := frounds hW 64 0 66 a0 a1 a2 a3 a4 a5 a6 a7 b0 b1 b2 b3 b4 b5 b6 b7 rfl (by decide)
  have hbl : blkN [a0, a1, a2, a3, a4, a5, a6, a7] (toN b) = add8 [a0, a1, a2, a3, a4, a5, a6, a7] [c0, c1, c2, c3, c4, c5, c6, c7] := by
    rw [← q1, blkN, wsR_G hb, ext_G b 48 16 (by decide)]
    rfl
  rw [hbl]
  refine ⟨?_, ?_⟩
  · unfold sha_Block
    rw [if_neg (by simp [hb])]
    refine bind_of (fsched_eq hb) (bind_next q2 ?_)
    exact bind_next (fadds a0 a1 a2 a3 a4 a5 a6 a7 c0 c1 c2 c3 c4 c5 c6 c7) rfl
  · simp only [add8, fc_eq]
    refine ⟨rfl, ?_⟩
    simp only [List.mem_cons, List.not_mem_nil, or_false, forall_eq_or_imp, forall_eq]
    exact ⟨ad_lt _ _, ad_lt _ _, ad_lt _ _, ad_lt _ _, ad_lt _ _, ad_lt _ _, ad_lt _ _, ad_lt _ _⟩
/-- The words behind so many blocks of a text. -/
def foldW : Nat → List Nat → List UInt8 → List Nat
  | 0, h, _ => h
  | k + 1, h, x => foldW k (blkN h (toN (x.take 64))) (x.drop 64)
theorem foldW_W8 : ∀ (k : Nat) {h : List Nat} (x : List UInt8), W8 h → 64 * k ≤ x.length → W8 (foldW k h x)
  | 0, h, x, hh, _ => hh
  | k + 1, h, x, hh, hk => foldW_W8 k (x.drop 64) (fblock hh (by simp; omega)).2 (by simp; omega)
theorem foldW_append : ∀ (k m : Nat) (h : List Nat) (x y : List UInt8), 64 * k ≤ x.length → foldW (k + m) h (x ++ y) = foldW m (foldW k h x) (x.drop (64 * k) ++ y)
  | 0, m, h, x, y, _ => by simp [foldW]
  | k + 1, m, h, x, y, hk => by
    rw [show k + 1 + m = (k + m) + 1 by omega, foldW, foldW, List.take_append_of_le_length (by omega), List.drop_append_of_le_length (by omega), foldW_append k m _ _ _ (by simp; omega), List.drop_drop]
    congr 3
    omega
theorem fadd (st : S_sha_State) {h : List Nat} (hh : W8 h) (hs : st.f_Words = ci h) (l : List UInt8) (hl : st.f_Rest.length + l.length ≤ mxl) :
    sha_State_Add st l = some ⟨ci (foldW ((st.f_Rest ++ l).length / 64) h (st.f_Rest ++ l)), (st.f_Rest ++ l).drop (64 * ((st.f_Rest ++ l).length / 64)), IntKind.wrap .u64 (st.f_Count + (IntKind.wrap .u64 (l.length : Int)))⟩ := by
  have hmx : mxl < 9223372036854775808 := by decide
  generalize hc : IntKind.wrap .u64 (st.f_Count + (IntKind.wrap .u64 (l.length : Int))) = c
  have hlen : (st.f_Rest ++ l).length ≤ mxl := by simpa using hl
  generalize hx : st.f_Rest ++ l = x
  rw [hx] at hlen
  have key : ∀ (m k : Nat) (x : List UInt8) (h : List Nat), W8 h → x.length / 64 = m → m < k → x.length ≤ mxl → loopN (fun s : (List UInt8) × S_sha_State => sha_State_Add.b1 s.1 s.2) k (x, S_sha_State.mk (ci h) st.f_Rest c) = some (.next (x.drop (64 * m), S_sha_State.mk (ci (foldW m h x)) st.f_Rest c)) := by
    intro m
    induction m with
    | zero =>
      intro k x h hh hm hk hl
      obtain ⟨k, rfl⟩ : ∃ j, k = j + 1 := ⟨k - 1, by omega⟩
      unfold loopN
      have : sha_State_Add.b1 x (S_sha_State.mk (ci h) st.f_Rest c) = some (.brk (x, S_sha_State.mk (ci h) st.f_Rest c)) := by
        unfold sha_State_Add.b1
        rw [if_neg (by simp; omega)]
      rw [this]
      simp [foldW]
    | succ m ih =>
      intro k x h hh hm hk hl
      obtain ⟨k, rfl⟩ : ∃ j, k = j + 1 := ⟨k - 1, by omega⟩
      unfold loopN
      have e : (x.take 64).drop (0 : Int).toNat = x.take 64 := rfl
      obtain ⟨q1, q2⟩ := fblock hh (b := x.take 64) (by simp; omega)
      have e2 : (x.take (x.length : Int).toNat).drop 64 = x.drop 64 := by
        rw [show (x.length : Int).toNat = x.length by omega, List.take_length]
      have : sha_State_Add.b1 x (S_sha_State.mk (ci h) st.f_Rest c) = some (.cont (x.drop 64, S_sha_State.mk (ci (blkN h (toN (x.take 64)))) st.f_Rest c)) := by
        unfold sha_State_Add.b1
        rw [if_pos (by simp; omega), if_pos (by omega), e]
        refine bind_of q1 ?_
        rw [if_pos (by omega), e2]
      rw [this]
      refine (ih k (x.drop 64) _ q2 (by simp; omega) (by omega) (by simp; omega)).trans ?_
      rw [List.drop_drop, foldW]
      congr 4
      omega
  unfold sha_State_Add
  rw [if_pos hl, hc, hx, hs]
  refine bind_next (key _ _ x h hh rfl ?_ hlen) rfl
  omega
def fcnt (n : Int) (i : Nat) : UInt8 := u8of (IntKind.wrap .u8 (shr .u64 (IntKind.wrap .u64 (8 * n)) (56 - 8 * (i : Int))))
def fbits (n : Int) : List UInt8 := [fcnt n 0, fcnt n 1, fcnt n 2, fcnt n 3, fcnt n 4, fcnt n 5, fcnt n 6, fcnt n 7]
theorem fbits_sha (st : S_sha_State) : loopN (fun s : Int × (List UInt8) => sha_State_End.b1 st s.1 s.2) ((8 - 0 : Int).toNat + 2) (0, (List.replicate 8 0)) = some (.next (8, fbits st.f_Count)) := by
  have f := (loop_for (body := fun s : Int × List UInt8 => sha_State_End.b1 st s.1 s.2) (fun _ => True) (fun i w => w.set i (fcnt st.f_Count i)) 8
    (fun i w hi _ => ⟨by
      show sha_State_End.b1 st i w = _
      unfold sha_State_End.b1
      simp (disch := omega) only [w64]
      rw [if_pos (by simp; omega), if_pos (by omega), if_pos (by omega)]
      rfl, trivial⟩) (fun w => by unfold sha_State_End.b1; rw [if_neg (by simp)]) 8 0 (List.replicate 8 0) 10 rfl trivial (by decide)).1
  exact f.trans rfl
theorem fcnt_n {n : Nat} (hn : 8 * n < 18446744073709551616) (i : Nat) (hi : i < 8) : (fcnt (n : Int) i).toNat = 8 * n / 2 ^ (56 - 8 * i) % 256 := by
  have h1 : IntKind.wrap .u64 (8 * (n : Int)) = ((8 * n : Nat) : Int) := by rw [wu64 (by omega)]; omega
  have h2 : (56 - 8 * (i : Int)) = ((56 - 8 * i : Nat) : Int) := by omega
  unfold fcnt
  rw [h1, h2]
  have h3 : shr .u64 ((8 * n : Nat) : Int) ((56 - 8 * i : Nat) : Int) = ((8 * n / 2 ^ (56 - 8 * i) : Nat) : Int) := by
    unfold shr
    have h4 : min ((56 - 8 * i : Nat) : Int).toNat IntKind.u64.bits = 56 - 8 * i := by simp [IntKind.bits]; omega
    rw [h4, Int.fdiv_eq_ediv_of_nonneg _ (by exact Int.le_of_lt (Int.pow_pos (by decide)))]
    simp
  rw [h3, IntKind.wrap_u8]
  generalize 8 * n / 2 ^ (56 - 8 * i) = q
  have h5 : ((q : Int) % 256).toNat = q % 256 := by omega
  unfold u8of
  rw [h5]
  simp
theorem fbits_n {n : Nat} (hn : 8 * n < 18446744073709551616) : toN (fbits (n : Int)) = 8 * n := by
  have e : toN (fbits (n : Int)) = (((((((((fcnt n 0).toNat * 256 + (fcnt n 1).toNat) * 256 + (fcnt n 2).toNat) * 256 + (fcnt n 3).toNat) * 256 + (fcnt n 4).toNat) * 256 + (fcnt n 5).toNat) * 256 + (fcnt n 6).toNat) * 256 + (fcnt n 7).toNat)) := by
    simp [toN, fbits]
  rw [e, fcnt_n hn 0 (by decide), fcnt_n hn 1 (by decide), fcnt_n hn 2 (by decide), fcnt_n hn 3 (by decide), fcnt_n hn 4 (by decide), fcnt_n hn 5 (by decide), fcnt_n hn 6 (by decide), fcnt_n hn 7 (by decide)]
  simp only [Nat.reduceMul, Nat.reduceSub, Nat.reducePow]
  omega
/-- The bytes of a word. -/
def bytW (w : Nat) : List UInt8 := [UInt8.ofNat (w / 16777216), UInt8.ofNat (w / 65536), UInt8.ofNat (w / 256), UInt8.ofNat w]
def dgW (l : List Nat) : List UInt8 := (l.map bytW).flatten
def fbyt (h : List Int) (i j : Nat) : UInt8 := u8of (IntKind.wrap .u8 (shr .u32 (h.getD i 0) (24 - 8 * (j : Int))))
theorem fout4 (st : S_sha_State) (i : Nat) (hi : i < 8) (w : List UInt8) : loopN (fun s : Int × (List UInt8) => sha_State_End.b3 st (i : Int) s.1 s.2) ((4 - 0 : Int).toNat + 2) (0, w) = some (.next (4, iter (fun j w => w.set (4 * i + j) (fbyt st.f_Words i j)) 0 4 w)) := by
  have f := (loop_for (body := fun s : Int × List UInt8 => sha_State_End.b3 st (i : Int) s.1 s.2) (fun _ => True) (fun j w => w.set (4 * i + j) (fbyt st.f_Words i j)) 4
    (fun j w hj _ => ⟨by
      show sha_State_End.b3 st i j w = _
      unfold sha_State_End.b3
      simp (disch := omega) only [w64]
      rw [if_pos (by simp; omega), if_pos (by omega), if_pos (by omega)]
      have e : (4 * (i : Int) + (j : Int)).toNat = 4 * i + j := by omega
      rw [e]
      rfl, trivial⟩) (fun w => by unfold sha_State_End.b3; rw [if_neg (by simp)]) 4 0 w 6 rfl trivial (by decide)).1
  exact f
theorem fout (st : S_sha_State) : loopN (fun s : Int × (List UInt8) => sha_State_End.b2 st s.1 s.2) ((8 - 0 : Int).toNat + 2) (0, (List.replicate 32 0)) = some (.next (8, iter (fun i w => iter (fun j w => w.set (4 * i + j) (fbyt st.f_Words i j)) 0 4 w) 0 8 (List.replicate 32 0))) := by
  have f := (loop_for (body := fun s : Int × List UInt8 => sha_State_End.b2 st s.1 s.2) (fun _ => True) (fun i w => iter (fun j w => w.set (4 * i + j) (fbyt st.f_Words i j)) 0 4 w) 8
    (fun i w hi _ => ⟨by
      show sha_State_End.b2 st i w = _
      unfold sha_State_End.b2
      rw [if_pos (by simp; omega), if_pos (by omega)]
      simp (disch := omega) only [w64]
      exact bind_next (fout4 st i hi w) rfl, trivial⟩) (fun w => by unfold sha_State_End.b2; rw [if_neg (by simp)]) 8 0 (List.replicate 32 0) 10 rfl trivial (by decide)).1
  exact f
theorem fbyt_n (l : List Nat) (i j : Nat) (hj : j < 4) : fbyt (ci l) i j = UInt8.ofNat (l.getD i 0 / 2 ^ (24 - 8 * j)) := by
  unfold fbyt
  rw [ci_getD, show (24 - 8 * (j : Int)) = ((24 - 8 * j : Nat) : Int) by omega, shr_n (by omega), IntKind.wrap_u8]
  rw [show Nat.shiftRight (l.getD i 0) (24 - 8 * j) = l.getD i 0 / 2 ^ (24 - 8 * j) from Nat.shiftRight_eq_div_pow _ _]
  generalize l.getD i 0 / 2 ^ (24 - 8 * j) = q
  have h5 : ((q : Int) % 256).toNat = q % 256 := by omega
  unfold u8of
  rw [h5]
  exact UInt8.toNat_inj.1 (by simp)
theorem fout_dg {h : List Nat} (hh : h.length = 8) : iter (fun i w => iter (fun j w => w.set (4 * i + j) (fbyt (ci h) i j)) 0 4 w) 0 8 (List.replicate 32 0) = dgW h := by
  obtain ⟨a, b, c, d, e, f, g, i, rfl⟩ := list8n hh
  have hg : ∀ k j, j < 4 → fbyt (ci [a, b, c, d, e, f, g, i]) k j = UInt8.ofNat ([a, b, c, d, e, f, g, i].getD k 0 / 2 ^ (24 - 8 * j)) := fun k j hj => fbyt_n _ k j hj
  simp only [iter, Nat.reduceAdd, Nat.reduceMul]
  simp (disch := decide) only [hg]
  simp [dgW, bytW, List.replicate]
theorem toN_byt {w : Nat} (h : B32 w) : toN (bytW w) = w := by
  unfold B32 at h
  simp [toN, bytW]
  omega
theorem toN_flat : ∀ (l : List Nat) (n : Nat), (∀ x ∈ l, B32 x) → (dgW l).foldl (fun a b => a * 256 + b.toNat) n = pk l n
  | [], n, _ => rfl
  | w :: l, n, h => by
    have e : dgW (w :: l) = bytW w ++ dgW l := by simp [dgW]
    rw [e, List.foldl_append, foldl_toN (bytW w) n, toN_byt (h w (by simp)), toN_flat l _ (fun x hx => h x (by simp [hx]))]
    have hl : (256 : Nat) ^ (bytW w).length = 4294967296 := by
      show (256 : Nat) ^ 4 = _
      decide
    rw [hl, pk]
theorem toN_dg {l : List Nat} (h : W8 l) : toN (dgW l) = pk l 0 := toN_flat l 0 h.2
/-- The blocks of a number are the blocks of its text. -/
theorem fold_eq : ∀ (k : Nat) (h : List Nat) (y : List UInt8) (p : Nat), y.length = 64 * k → p % 2 ^ (512 * k) = toN y → fold p k h = foldW k h y
  | 0, h, y, p, _, _ => rfl
  | k + 1, h, y, p, hy, hp => by
    have h1 : toN y = toN (y.take 64) * 2 ^ (512 * k) + toN (y.drop 64) := by
      have h2 := toN_append (y.take 64) (y.drop 64)
      rw [List.take_append_drop] at h2
      rw [h2]
      have : (y.drop 64).length = 64 * k := by simp; omega
      rw [this, show (256 : Nat) = 2 ^ 8 from rfl, ← Nat.pow_mul]
      congr 3
      omega
    have hlt : toN (y.drop 64) < 2 ^ (512 * k) := by
      have := toN_lt (y.drop 64)
      rw [show (y.drop 64).length = 64 * k by simp; omega, show (256 : Nat) = 2 ^ 8 from rfl, ← Nat.pow_mul, show 8 * (64 * k) = 512 * k by omega] at this
      exact this
    have hsp : 2 ^ (512 * (k + 1)) = 2 ^ (512 * k) * B512 := by rw [Nat.mul_succ, Nat.pow_add, B512]
    have hlow : p % 2 ^ (512 * k) = toN (y.drop 64) := by
      have := Nat.mod_mod_of_dvd p (show 2 ^ (512 * k) ∣ 2 ^ (512 * (k + 1)) from ⟨B512, hsp⟩)
      rw [hp, h1, Nat.mul_comm, Nat.mul_add_mod, Nat.mod_eq_of_lt hlt] at this
      exact this.symm
    have hhi : Nat.mod (Nat.shiftRight p (512 * k)) B512 = toN (y.take 64) := by
      have e : Nat.shiftRight p (512 * k) = p / 2 ^ (512 * k) := Nat.shiftRight_eq_div_pow _ _
      show Nat.shiftRight p (512 * k) % B512 = _
      rw [e, ← Nat.mod_mul_right_div_self, ← hsp, hp, h1, Nat.mul_comm, Nat.mul_add_div (Nat.two_pow_pos _), Nat.div_eq_of_lt hlt, Nat.add_zero]
    rw [fold, foldW, hhi]
    exact fold_eq k _ (y.drop 64) p (by simp; omega) hlow
theorem W8_first : W8 firstN := by
  refine ⟨rfl, ?_⟩
  simp only [firstN, List.mem_cons, List.not_mem_nil, or_false, forall_eq_or_imp, forall_eq]
  decide
theorem toN_zeros : ∀ z, toN (Lib.repeatL [0] z) = 0
  | 0 => rfl
  | z + 1 => by
    have e : Lib.repeatL [(0 : UInt8)] (z + 1) = [0] ++ Lib.repeatL [0] z := rfl
    rw [e, toN_append, toN_zeros z]
    simp [toN]
theorem fsum (x : List UInt8) (hx : x.length < 1000000000) : sha_Sum [x] = some (dgW (shaW x.length (toN x))) ∧ W8 (shaW x.length (toN x)) := by
  have hmx : 2000000000 ≤ mxl := by decide
  have hrep : ∀ n : Nat, (Lib.repeatL [(0 : UInt8)] n).length = n := fun n => by rw [Lib.repeatL_length]; simp
  have a1 := fadd (S_sha_State.mk gFirst [] 0) (h := firstN) W8_first rfl x (by simp; omega)
  simp only [List.nil_append] at a1
  have hc : IntKind.wrap .u64 (0 + (IntKind.wrap .u64 (x.length : Int))) = (x.length : Int) := by rw [wu64 (x := (x.length : Int)) (by omega), Int.zero_add, wu64 (by omega)]
  rw [hc] at a1
  have w1 : W8 (foldW (x.length / 64) firstN x) := foldW_W8 _ x W8_first (by omega)
  generalize hr : x.drop (64 * (x.length / 64)) = r at a1
  have hrl : r.length = x.length % 64 := by rw [← hr]; simp; omega
  generalize hst : S_sha_State.mk (ci (foldW (x.length / 64) firstN x)) r (x.length : Int) = st at a1
  -- the end
  have hr2 : st.f_Rest = r := by rw [← hst]
  have ht : (st.f_Rest.length : Int).tmod 64 = st.f_Rest.length := by rw [Int.tmod_eq_emod_of_nonneg (by omega)]; rw [hr2]; omega
  have hwr : IntKind.wrap .i64 (119 - ((st.f_Rest.length : Int).tmod 64)) = 119 - st.f_Rest.length := by rw [ht]; exact w64 (by rw [hr2]; omega)
  have ht2 : (119 - (st.f_Rest.length : Int)).tmod 64 = (119 - (st.f_Rest.length : Int)) % 64 := Int.tmod_eq_emod_of_nonneg (by rw [hr2]; omega)
  generalize hz : ((119 - (st.f_Rest.length : Int)) % 64).toNat = z
  have hz2 : z < 64 := by omega
  have hz3 : (r.length + 1 + z) % 64 = 56 := by rw [hr2] at hz; omega
  have a2 := fadd st (h := foldW (x.length / 64) firstN x) w1 (by rw [← hst]) (([128] ++ Lib.repeatL [0] z) ++ fbits st.f_Count) (by rw [hr2]; simp only [List.length_append, hrep]; simp [fbits]; omega)
  rw [hr2] at a2
  have hlen : (r ++ (([128] ++ Lib.repeatL [0] z) ++ fbits st.f_Count)).length = r.length + 1 + z + 8 := by simp only [List.length_append, hrep]; simp [fbits]; omega
  have hfold := foldW_append (x.length / 64) ((r ++ (([128] ++ Lib.repeatL [0] z) ++ fbits st.f_Count)).length / 64) firstN x (([128] ++ Lib.repeatL [0] z) ++ fbits st.f_Count) (by omega)
  rw [hr] at hfold
  have hK : x.length / 64 + (r ++ (([128] ++ Lib.repeatL [0] z) ++ fbits st.f_Count)).length / 64 = (x.length + 72) / 64 := by rw [hlen]; omega
  rw [hK] at hfold
  rw [← hfold] at a2
  have hall : (x ++ (([128] ++ Lib.repeatL [0] z) ++ fbits st.f_Count)).length = 64 * ((x.length + 72) / 64) := by
    simp only [List.length_append, hrep]; simp [fbits]; omega
  have hcnt : st.f_Count = (x.length : Int) := by rw [← hst]
  have hnum : toN (x ++ (([128] ++ Lib.repeatL [0] z) ++ fbits st.f_Count)) = (toN x * 256 + 128) * 2 ^ (8 * (64 * ((x.length + 72) / 64) - x.length - 1)) + 8 * x.length := by
    rw [← List.append_assoc, toN_append, toN_append, toN_append, hcnt, fbits_n (by omega), toN_zeros]
    have e1 : (fbits (x.length : Int)).length = 8 := rfl
    have e2 : ([128] ++ Lib.repeatL [(0 : UInt8)] z).length = z + 1 := by simp only [List.length_append, hrep]; simp; omega
    have e3 : toN [(128 : UInt8)] = 128 := by decide
    have e4 : (256 : Nat) ^ (z + 8) = 2 ^ (8 * (64 * ((x.length + 72) / 64) - x.length - 1)) := by
      rw [show (256 : Nat) = 2 ^ 8 from rfl, ← Nat.pow_mul]
      congr 1
      omega
    rw [e1, e2, e3, hrep, Nat.add_zero, Nat.pow_succ, ← e4, Nat.pow_add, ← Nat.mul_assoc, ← Nat.mul_assoc, Nat.add_mul (toN x * 256) 128, Nat.mul_right_comm (toN x)]
    simp only [Nat.add_zero]
  have hlt := toN_lt (x ++ (([128] ++ Lib.repeatL [0] z) ++ fbits st.f_Count))
  rw [hall, show (256 : Nat) = 2 ^ 8 from rfl, ← Nat.pow_mul, show 8 * (64 * ((x.length + 72) / 64)) = 512 * ((x.length + 72) / 64) by omega] at hlt
  have hF : foldW ((x.length + 72) / 64) firstN (x ++ (([128] ++ Lib.repeatL [0] z) ++ fbits st.f_Count)) = shaW x.length (toN x) := by
    unfold shaW
    rw [← hnum]
    exact (fold_eq _ firstN _ _ hall (Nat.mod_eq_of_lt hlt)).symm
  have hW : W8 (shaW x.length (toN x)) := by
    rw [← hF]
    exact foldW_W8 _ _ W8_first (by omega)
  refine ⟨?_, hW⟩
  rw [hF] at a2
  have hend : sha_State_End st = some (dgW (shaW x.length (toN x))) := by
    unfold sha_State_End
    refine bind_next (fbits_sha st) ?_
    show (if _ then _ else _) = _
    rw [hwr, ht2, hz, if_pos (by simp; omega), if_pos (by rw [hrep]; simp [mxl]; omega), if_pos (by rw [List.length_append, hrep]; simp [mxl]; omega)]
    have e8 : (fbits st.f_Count).take ((8 : Int).toNat - (0 : Int).toNat) = fbits st.f_Count := rfl
    rw [e8]
    refine bind_of a2 (bind_next (fout _) ?_)
    exact congrArg some (fout_dg hW.1)
  unfold sha_Sum sha_Begin
  refine bind_of rfl ?_
  have hloop : loopN (fun s : Int × S_sha_State => sha_Sum.b1 [x] s.1 s.2) (((([x] : List (List UInt8)).length : Int) - 0 : Int).toNat + 2) (0, S_sha_State.mk gFirst [] 0) = some (.next (1, st)) := by
    show loopN _ 3 _ = _
    unfold loopN
    have hb0 : sha_Sum.b1 [x] 0 (S_sha_State.mk gFirst [] 0) = some (.cont (1, st)) := by
      unfold sha_Sum.b1
      rw [if_pos (by simp), if_pos (by simp)]
      have : ([x] : List (List UInt8)).getD (0 : Int).toNat default = x := rfl
      rw [this]
      exact bind_of a1 rfl
    have hb1 : sha_Sum.b1 [x] 1 st = some (.brk (1, st)) := by
      unfold sha_Sum.b1
      rw [if_neg (by simp)]
    simp only [hb0]
    unfold loopN
    simp only [hb1]
  exact bind_next hloop (bind_of hend rfl)
/-- The digest of any text, as the kernel reckons it. -/
theorem H_fast (x : List UInt8) (hx : x.length ≤ 1000000) : H x = dgW (shaW x.length (toN x)) ∧ W8 (shaW x.length (toN x)) := by
  obtain ⟨h1, h2⟩ := fsum x (by omega)
  have h3 := (H_eq hx).1
  rw [h1] at h3
  exact ⟨(Option.some.inj h3).symm, h2⟩
end Go.Proofs.YtamnmljgcmbliaaDoor
