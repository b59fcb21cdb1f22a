/- Strings, lengths, conversions, comparisons; calls and returns. -/
import Derived.Test.YtklikgigjdgjaaaGreatDoorRRRA5
import Derived.Laws.Strings
import Derived.Laws.StructEq
namespace Go.Proofs.YtklikgigjdgjaaaGreatDoorRRR
open Go Go.RowKit

theorem str_toList (l : List UInt8) : (⟨l.toArray⟩ : ByteArray).toList = l := by rw [ByteArray.toList_eq]
theorem str_size (l : List UInt8) : (⟨l.toArray⟩ : ByteArray).size = l.length := by simp [ByteArray.size]
theorem str_append (l m : List UInt8) : (⟨l.toArray⟩ ++ ⟨m.toArray⟩ : ByteArray) = ⟨(l ++ m).toArray⟩ := by ext1; simp
theorem str_extract (l : List UInt8) (a b : Nat) : (⟨l.toArray⟩ : ByteArray).extract a b = ⟨((l.take b).drop a).toArray⟩ := by
  ext1
  simp [List.drop_take]
theorem str_get (l : List UInt8) (i : Nat) (h : i < l.length) : (⟨l.toArray⟩ : ByteArray)[i]? = some (l.getD i 0) := by
  rw [ByteArray.getElem?_lt' _ _ (by rw [str_size]; exact h)]
  simp [List.getD, h]
  rfl

section ops
variable {P : Program} {G : FP} {N : List Ent} {d : Nat} {ty : TypeId} {pos : String} {af : Array Edge} {gd : Option (Nat × Bool)}

/-- A unary operation. -/
def Un (op : UnOp) (X Z : VP) : Prop := ∀ (P : Program) (Φ : Pub) (u : Value) (w : World), X.p Φ u → ∃ r, (Op.unary op u).run P w = .ok r w ∧ Z.p Φ r
theorem op_un {op : UnOp} {t : TypeId} {x : Operand} {X Z : VP} (hb : Un op X Z) (hx : OpndOk G N x X) : OpOk P G ⟨some d, .unOp op t x, ty, pos, af, gd⟩ N [] (fun _ => [.slot d Z]) :=
  OpOk.val fun Φ a w f _ hG hN => by
    obtain ⟨r, hr, hz⟩ := hb P Φ _ w (hx Φ a w f hG hN)
    exact ⟨r, by simp [execOp, hr], hz⟩
theorem un_not (b : Bool) : Un .not (boolVP b) (boolVP (!b)) := by
  intro P Φ u w h
  have h : u = .bool b := h
  subst h
  exact ⟨.bool !b, rfl, rfl⟩
def inot (k : IntKind) (n : Int) : Int := bits .xor k (if k.signed then -1 else k.max) n
theorem un_xor (k : IntKind) (n : Int) : Un .xor (intVP k n) (intVP k (inot k n)) := by
  rintro P Φ u w ⟨rfl, _⟩
  exact ⟨.int k (inot k n), rfl, rfl, wrap_in _ _⟩
theorem un_neg (k : IntKind) (n : Int) : Un .neg (intVP k n) (intVP k (k.wrap (0 - n))) := by
  rintro P Φ u w ⟨rfl, _⟩
  exact ⟨_, rfl, rfl, wrap_in _ _⟩

theorem op_convert_int {s t : TypeId} {x : Operand} {k k' : IntKind} {n : Int} {ds : TypeDesc} (hs : P.underlying s = some ds) (ht : P.underlying t = some (.int k')) (hx : OpndOk G N x (intVP k n)) :
    OpOk P G ⟨some d, .convert s t x, ty, pos, af, gd⟩ N [] (fun _ => [.slot d (intVP k' (k'.wrap n))]) :=
  OpOk.val fun Φ a w f _ hG hN => by
    obtain ⟨hv, _⟩ := hx Φ a w f hG hN
    exact ⟨.int k' (k'.wrap n), by simp [execOp, hv, convert, run_underlying hs, run_underlying ht, Conv.intToInt], rfl, wrap_in _ _⟩
theorem op_convert_str {s t : TypeId} {x : Operand} {l : List UInt8} (hs : P.underlying s = some .string) (ht : P.underlying t = some .string) (hx : OpndOk G N x (strVP l)) :
    OpOk P G ⟨some d, .convert s t x, ty, pos, af, gd⟩ N [] (fun _ => [.slot d (strVP l)]) :=
  OpOk.val fun Φ a w f _ hG hN => by
    obtain ⟨hv, hl⟩ := hx Φ a w f hG hN
    exact ⟨.string ⟨l.toArray⟩, by simp [execOp, hv, convert, run_underlying hs, run_underlying ht], rfl, hl⟩

theorem op_len_str {t : TypeId} {x : Operand} {l : List UInt8} (ht : P.underlying t = some .string) (hx : OpndOk G N x (strVP l)) :
    OpOk P G ⟨some d, .call ⟨.builtin .len, #[x], #[t]⟩, ty, pos, af, gd⟩ N [] (fun _ => [.slot d (intVP .i64 l.length)]) :=
  OpOk.val fun Φ a w f _ hG hN => by
    obtain ⟨hv, hl⟩ := hx Φ a w f hG hN
    exact ⟨goInt l.length, by simp [execOp, hv, resolve, invoke, builtin, Builtin.len_, run_underlying ht, str_size], rfl, len_in hl⟩
theorem op_len_sl {α : Type} {c : α → List Ck} {xs : List α} {t e : TypeId} {x : Operand} (ht : P.underlying t = some (.slice e)) (hx : OpndOk G N x (slVP c xs)) :
    OpOk P G ⟨some d, .call ⟨.builtin .len, #[x], #[t]⟩, ty, pos, af, gd⟩ N [] (fun _ => [.slot d (intVP .i64 xs.length)]) :=
  OpOk.val fun Φ a w f _ hG hN => by
    obtain ⟨hl, h⟩ := hx Φ a w f hG hN
    rcases h with ⟨hv, rfl⟩ | ⟨b, o, cap, cs, hv, _⟩ | ⟨rfl, b, cap, hv⟩
    · exact ⟨goInt 0, by simp [execOp, hv, resolve, invoke, builtin, Builtin.len_, run_underlying ht], rfl, len_in hl⟩
    · exact ⟨goInt xs.length, by simp [execOp, hv, resolve, invoke, builtin, Builtin.len_, run_underlying ht], rfl, len_in hl⟩
    · exact ⟨goInt 0, by simp [execOp, hv, resolve, invoke, builtin, Builtin.len_, run_underlying ht], rfl, len_in hl⟩

section strs
variable {t : TypeId} {l m : List UInt8}
theorem bin_sadd (h : l.length + m.length ≤ mxl) : Bin P .add t (strVP l) (strVP m) (strVP (l ++ m)) := by
  rintro Φ u v w x y ⟨rfl, _⟩ ⟨rfl, _⟩
  have hb : ¬ (((l.length + m.length : Nat) : Int) > IntKind.i64.max) := by
    have := (len_in h).2
    omega
  refine ⟨.string ⟨(l ++ m).toArray⟩, ?_, rfl, by simpa using h⟩
  simp only [eqGuard_add, binOp, Op.stringOp, str_size, if_neg hb, str_append]
  rfl
theorem bin_seql : Bin P .eql t (strVP l) (strVP m) (boolVP (decide (l = m))) := by
  rintro Φ u v w x y ⟨rfl, _⟩ ⟨rfl, _⟩
  refine ⟨.bool (decide (l = m)), ?_, rfl⟩
  simp only [eqGuard_at_string, binOp, Op.stringOp, str_toList]
  rw [show (l == m) = decide (l = m) from by rw [Bool.eq_iff_iff]; simp]
  rfl
theorem bin_sneq : Bin P .neq t (strVP l) (strVP m) (boolVP (!decide (l = m))) := by
  rintro Φ u v w x y ⟨rfl, _⟩ ⟨rfl, _⟩
  refine ⟨.bool (!decide (l = m)), ?_, rfl⟩
  simp only [eqGuard_at_string, binOp, Op.stringOp, str_toList]
  rw [show (l == m) = decide (l = m) from by rw [Bool.eq_iff_iff]; simp]
  rfl
end strs
theorem run_eq_bool {t : TypeId} {a b : Bool} (n : Nat) (w : World) (ht : P.underlying t = some .bool) : (Op.equalIn (n + 1) t (.bool a) (.bool b)).run P w = .ok (a == b) w := by
  simp [Op.equalIn, run_underlying ht]
theorem bin_beql {t : TypeId} {a b : Bool} (ht : P.underlying t = some .bool) : Bin P .eql t (boolVP a) (boolVP b) (boolVP (a == b)) := by
  intro Φ u v w x y h1 h2
  have h1 : u = .bool a := h1
  have h2 : v = .bool b := h2
  subst h1; subst h2
  refine ⟨.bool (a == b), ?_, rfl⟩
  rw [eqGuard_at_bool]
  show (do pure (.bool (← Op.equalIn (9999 + 1) t (.bool a) (.bool b))) : Sem Value).run P w = _
  rw [Sem.run_bind, run_eq_bool 9999 w ht]
  rfl
theorem bin_bneq {t : TypeId} {a b : Bool} (ht : P.underlying t = some .bool) : Bin P .neq t (boolVP a) (boolVP b) (boolVP (!(a == b))) := by
  intro Φ u v w x y h1 h2
  have h1 : u = .bool a := h1
  have h2 : v = .bool b := h2
  subst h1; subst h2
  refine ⟨.bool (!(a == b)), ?_, rfl⟩
  rw [eqGuard_at_bool]
  show (do pure (.bool (!(← Op.equalIn (9999 + 1) t (.bool a) (.bool b)))) : Sem Value).run P w = _
  rw [Sem.run_bind, run_eq_bool 9999 w ht]
  rfl

/-- Shifts. -/
def shl (k : IntKind) (m n : Int) : Int := k.wrap (m * 2 ^ (min n.toNat k.bits))
def shr (k : IntKind) (m n : Int) : Int := m.fdiv (2 ^ (min n.toNat k.bits))
theorem shr_in {k : IntKind} {m n : Int} (h : InR k m) : InR k (shr k m n) := by
  have hp : (1 : Int) ≤ 2 ^ (min n.toNat k.bits) := by
    have : (1 : Int) ≤ ((2 ^ (min n.toNat k.bits) : Nat) : Int) := by
      have := Nat.one_le_two_pow (n := min n.toNat k.bits); omega
    simpa using this
  have h0 : k.min ≤ 0 ∧ 0 ≤ k.max := by cases k <;> decide
  unfold shr InR at *
  rw [Int.fdiv_eq_ediv_of_nonneg _ (by omega)]
  constructor
  · rcases Int.lt_or_le m 0 with hm | hm
    · have := Int.ediv_nonneg_iff_of_pos (a := m) (b := 2 ^ (min n.toNat k.bits)) (by omega)
      have h2 : m ≤ m / 2 ^ (min n.toNat k.bits) := by
        rw [Int.le_ediv_iff_mul_le (by omega)]
        have := Int.mul_le_mul_of_nonpos_left (a := m) (b := 2 ^ (min n.toNat k.bits)) (c := 1) (by omega) hp
        omega
      omega
    · have := Int.ediv_nonneg hm (by omega : (0 : Int) ≤ 2 ^ (min n.toNat k.bits)); omega
  · rcases Int.lt_or_le m 0 with hm | hm
    · have := Int.ediv_neg_of_neg_of_pos hm (by omega : (0 : Int) < 2 ^ (min n.toNat k.bits)); omega
    · have := Int.ediv_le_self (2 ^ (min n.toNat k.bits)) hm; omega
theorem bin_shl {t : TypeId} {k k' : IntKind} {m n : Int} (hn : 0 ≤ n) : Bin P .shl t (intVP k m) (intVP k' n) (intVP k (shl k m n)) := by
  rintro Φ u v w x y ⟨rfl, _⟩ ⟨rfl, _⟩
  exact ⟨.int k (shl k m n), by simp [eqGuard_shl, binOp_shl, Op.shift, show ¬ n < 0 by omega, shl], rfl, wrap_in _ _⟩
theorem bin_shr {t : TypeId} {k k' : IntKind} {m n : Int} (hn : 0 ≤ n) : Bin P .shr t (intVP k m) (intVP k' n) (intVP k (shr k m n)) := by
  rintro Φ u v w x y ⟨rfl, hm⟩ ⟨rfl, _⟩
  exact ⟨.int k (shr k m n), by simp [eqGuard_shr, binOp_shr, Op.shift, show ¬ n < 0 by omega, shr], rfl, shr_in hm⟩
theorem uns {k : IntKind} {n : Int} (hk : k.signed = false) (h : InR k n) : 0 ≤ n := by
  have := h.1
  simp [IntKind.min, hk] at this
  exact this
/-- A shift by an unsigned count needs no word on its sign. -/
theorem bin_shlu {t : TypeId} {k k' : IntKind} {m n : Int} (hk : k'.signed = false) : Bin P .shl t (intVP k m) (intVP k' n) (intVP k (shl k m n)) := by
  rintro Φ u v w x y h1 ⟨h2, h3⟩
  exact bin_shl (uns hk h3) Φ u v w x y h1 ⟨h2, h3⟩
theorem bin_shru {t : TypeId} {k k' : IntKind} {m n : Int} (hk : k'.signed = false) : Bin P .shr t (intVP k m) (intVP k' n) (intVP k (shr k m n)) := by
  rintro Φ u v w x y h1 ⟨h2, h3⟩
  exact bin_shr (uns hk h3) Φ u v w x y h1 ⟨h2, h3⟩
theorem bin_rem {t : TypeId} {k : IntKind} {m n : Int} (hn : n ≠ 0) : Bin P .rem t (intVP k m) (intVP k n) (intVP k (m.tmod n)) := by
  rintro Φ u v w x y ⟨rfl, hm⟩ ⟨rfl, _⟩
  refine ⟨.int k (m.tmod n), by simp [eqGuard_rem, binOp_rem, Op.intDiv, hn], rfl, ?_⟩
  have h0 : k.min ≤ 0 ∧ 0 ≤ k.max := by cases k <;> decide
  have h1 := Int.natAbs_tmod m n
  have h2 := Nat.mod_le m.natAbs n.natAbs
  unfold InR at *
  rcases Int.lt_or_le m 0 with h | h
  · have h3 := Int.tmod_nonneg n (by omega : 0 ≤ -m)
    rw [Int.neg_tmod] at h3
    omega
  · have h3 := Int.tmod_nonneg n h
    omega
end ops
end Go.Proofs.YtklikgigjdgjaaaGreatDoorRRR
