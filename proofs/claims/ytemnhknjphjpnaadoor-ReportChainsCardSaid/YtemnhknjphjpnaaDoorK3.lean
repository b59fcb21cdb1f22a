/- The ten's numeral written into a block of the caller's own. -/
import Derived.Test.YtemnhknjphjpnaaDoorK2
import Derived.Lib.ItoaMem
namespace Go.Proofs.YtemnhknjphjpnaaDoor
open Go Go.Proofs Go.RowKit Go.Sort
set_option linter.unusedVariables false
theorem JZ (x y : List UInt8) (a b : Nat) (dk : Array UInt8) (h1 : a ≤ b) (h2 : b ≤ x.length) (h3 : dk.size = b - a) (h4 : y.length = b - a) (h5 : ∀ j (hj : j < y.length), y[j] = dk[j]!) :
    putCells (fun (b : UInt8) => Value.int .u8 (b.toNat : Int)) a dk (x.map DE).toArray = ((x.take a ++ y ++ x.drop b).map DE).toArray := by
  apply Array.ext_getElem?
  intro k
  unfold putCells
  rw [Array.getElem?_mapIdx]
  simp only [List.getElem?_toArray, List.getElem?_map]
  have hta : (x.take a).length = a := by rw [List.length_take]; omega
  rcases Nat.lt_or_ge k a with q | q
  · rw [List.append_assoc, List.getElem?_append_left (by omega), List.getElem?_take_of_lt q]
    cases hx : x[k]? with
    | none => rfl
    | some v =>
      simp only [Option.map_some]
      rw [if_neg (by omega)]
  · rcases Nat.lt_or_ge k b with w | w
    · rw [List.append_assoc, List.getElem?_append_right (by omega), hta, List.getElem?_append_left (by omega)]
      have hk : k < x.length := by omega
      rw [List.getElem?_eq_getElem hk, List.getElem?_eq_getElem (show k - a < y.length by omega)]
      simp only [Option.map_some]
      rw [if_pos ⟨q, by omega⟩, h5 (k - a) (by omega)]
      rfl
    · rw [List.getElem?_append_right (by rw [List.length_append, hta, h4]; omega), List.length_append, hta, h4, List.getElem?_drop, show b + (k - (a + (b - a))) = k by omega]
      cases hx : x[k]? with
      | none => rfl
      | some v =>
        simp only [Option.map_some]
        rw [if_neg (by omega)]
theorem Ms {G : FP} {p : Value} {T : TypeId} {x : List UInt8} {n a b u cap : Nat} (h : a ≤ b ∧ b ≤ x.length ∧ Lib.nDigits u = b - a ∧ u < 18446744073709551616 ∧ x.length < 1000) :
    AX Tryd.prog G 65 [JF p a (b - a) cap, Ab .u64 (u : Int)] [lb p T [Af n x]] (fun _ => [lb p T [Af n (x.take a ++ Lib.decDigits u ++ x.drop b)]]) (DJ []) := by
  obtain ⟨g1, g2, g3, g4, g5⟩ := h
  intro Φ w vs fs h1 h2 h3 h4 h5 h6
  match vs, h3, fs, h4 with
  | [v, y], ⟨⟨blk, hp, hv⟩, ⟨hy, _⟩, _⟩, [f], ⟨⟨blk', cs, hp', hf, hb, hL, hn⟩, _⟩ =>
    have he : blk' = blk := by rw [hp] at hp'; simpa using hp'.symm
    subst he; subst hf; subst hv; subst hy
    obtain ⟨c1, c2, hcs, ⟨hxl, hc1⟩, hc2⟩ := hL
    have hc2 : c2 = [] := hc2
    subst hc2; subst hc1
    rw [List.append_nil] at hcs
    subst hcs
    have hds : (((x.drop a).take (b - a)).toArray).size = b - a := by simp; omega
    have hH : Holds (fun (b : UInt8) => Value.int .u8 (b.toNat : Int)) w blk' a ((x.drop a).take (b - a)).toArray := fun j hj => by
      rw [hds] at hj
      have hk : a + j < x.length := by omega
      refine ⟨?_, by simp [World.frozen?, hb]⟩
      have e1 : (((x.drop a).take (b - a)).toArray)[j]! = x[a + j] := by
        rw [getElem!_pos _ j (by rw [hds]; exact hj)]
        simp
      rw [e1]
      simp [World.cell?, hb, hk, DE]
    have hc := Tryd.internal_strconv_formatBase10 blk' a cap u ((x.drop a).take (b - a)).toArray w hH (by rw [hds, ← g3]; exact Lib.lt_pow_nDigits u) g4 (by rw [hds]; omega)
    rw [hds] at hc
    refine hc.mono fun e w' hq => ?_
    obtain ⟨he, n', v', dk, hw, hF⟩ := hq
    have hdk : dk.size = b - a := hF.size
    have hF' : Lib.FmtInv (Lib.nDigits u) u 0 v' dk := by rw [g3]; exact hF
    have hyl : (Lib.decDigits u).length = b - a := by rw [Lib.decDigits_length, g3]
    have hput := JZ x (Lib.decDigits u) a b dk g1 g2 hdk hyl (fun j hj => Lib.row_is_numeral hF' j hj)
    have hheap : w'.heap = w.heap.modify blk' (onCells (putCells (fun (b : UInt8) => Value.int .u8 (b.toNat : Int)) a dk)) := by rw [hw]; rfl
    have hblk : w'.heap[blk']? = some (.cells ((x.take a ++ Lib.decDigits u ++ x.drop b).map DE).toArray T (0, 0)) := by
      rw [hheap, Array.getElem?_modify, if_pos rfl, hb]
      simp only [Option.map_some, onCells, hput]
    have hoth : ∀ c, c ≠ blk' → w'.heap[c]? = w.heap[c]? := fun c hc => by
      rw [hheap, Array.getElem?_modify, if_neg (fun q => hc q.symm)]
    have hsz : w'.heap.size = w.heap.size := by rw [hheap, Array.size_modify]
    refine ⟨.tuple #[], Φ, [[blk']], he, ⟨by rw [hw]; rfl, by rw [hw]; rfl, by rw [hw]; rfl, Nat.le_of_eq hsz.symm, fun c _ hne => hoth c (fun q => hne (by simp [q])), BW.le_refl _, fun _ _ _ => rfl⟩,
      ⟨fun c o v e => by rw [hsz]; exact h1.lt c o v e, fun c o v e => ?_⟩, ⟨[], rfl, trivial⟩, ⟨⟨blk', _, hp, rfl, hblk, ⟨_, [], by simp, ⟨?_, rfl⟩, rfl⟩, hn⟩, trivial⟩, by simp, fun c hc' => ?_⟩
    · have hne : c ≠ blk' := fun q => by rw [q, hn o] at e; cases e
      exact (World.cell?_of_block (w := w) (hoth c hne)).trans (h1.cell c o v e)
    · rw [← hxl]
      simp [hyl]
      omega
    · have hc' : c = blk' := by simpa using hc'
      subst hc'
      exact ⟨by rw [hsz]; exact h6 c (by simp), .inl (by simp)⟩
/-- A block's bytes from a to b made the numeral of z. -/
def HG (x : List UInt8) (a b : Nat) (z : Int) : List UInt8 := x.take a ++ Lib.decDigits z.toNat ++ x.drop b
theorem JL {G : FP} {p : Value} {T : TypeId} {x : List UInt8} {n a b k len cap : Nat} {z : Int} (h : 0 ≤ z ∧ a ≤ b ∧ b ≤ x.length ∧ Lib.nDigits z.toNat = b - a ∧ z < 18446744073709551616 ∧ x.length < 1000) (hk : k = a) (hl : len = b - a) :
    AX Tryd.prog G 65 [JF p k len cap, Ab .u64 z] [lb p T [Af n x]] (fun _ => [lb p T [Af n (HG x a b z)]]) (DJ []) := by
  subst hk; subst hl
  obtain ⟨h0, h1, h2, h3, h4, h5⟩ := h
  have := Ms (G := G) (p := p) (T := T) (x := x) (n := n) (a := k) (b := b) (u := z.toNat) (cap := cap) ⟨h1, h2, h3, by omega, h5⟩
  rwa [Int.toNat_of_nonneg h0] at this
/-- The two tables of unicode/utf8, published. -/
def U8 (Φ : BW) : Prop := (∀ c, c < 256 → Φ 3 c = some (.int .u8 (Lib.firstT c))) ∧ (∀ i, i < 16 → Φ 4 (2 * i) = some (.int .u8 (Lib.accLo i)) ∧ Φ 4 (2 * i + 1) = some (.int .u8 (Lib.accHi i)))
theorem U8.mono {Φ Φ' : BW} (hle : BW.le Φ Φ') (h : U8 Φ) : U8 Φ' := ⟨fun c hc => hle _ _ _ (h.1 c hc), fun i hi => ⟨hle _ _ _ (h.2 i hi).1, hle _ _ _ (h.2 i hi).2⟩⟩
def N5 (l : List UInt8) : Int := ((Lib.decodeGo ⟨l.toArray⟩).1 : Int)
def MI (l : List UInt8) : Int := ((Lib.decodeGo ⟨l.toArray⟩).2 : Int)
theorem Iq (s : ByteArray) (i : Nat) : (Utf8.decode s i).1 < 2000000000 ∧ (Utf8.decode s i).2 ≤ 4 := by
  have hb : ∀ k, (s.get! k).toNat < 256 := fun k => (s.get! k).toNat_lt
  have h0 := hb (i + 0)
  have h1 := hb (i + 1)
  have h2 := hb (i + 2)
  have h3 := hb (i + 3)
  unfold Utf8.decode
  simp only
  (repeat' split) <;> simp only [Utf8.runeError] <;> omega
theorem My {G : FP} (hG : ∀ Φ, G.p Φ → U8 Φ) {l : List UInt8} : AX Tryd.prog G 58 [AF l] [] (fun _ => []) (DJ [Ab .i32 (N5 l), Ab .i64 (MI l)]) := by
  refine AX.HC fun Φ vs w hP hg ha => ?_
  match vs, ha with
  | [u], ⟨⟨hu, hl⟩, _⟩ =>
    subst hu
    have h8 := hG Φ hg
    have hc := Tryd.utf8_DecodeRuneInString ⟨l.toArray⟩ w ⟨fun c hc => hP.cell _ _ _ (h8.1 c hc), fun i hi => ⟨hP.cell _ _ _ (h8.2 i hi).1, hP.cell _ _ _ (h8.2 i hi).2⟩⟩
    have hr : (Lib.decodeGo ⟨l.toArray⟩).1 < 2000000000 ∧ (Lib.decodeGo ⟨l.toArray⟩).2 ≤ 4 := by
      unfold Lib.decodeGo
      split
      · exact ⟨by decide, by decide⟩
      · exact Iq _ _
    refine ⟨.tuple #[.int .i32 (N5 l), .int .i64 (MI l)], fun _ => ⟨[_, _], rfl, ⟨rfl, ?_⟩, ⟨rfl, ?_⟩, trivial⟩, hc⟩
    · unfold N5; constructor <;> simp [IntKind.min, IntKind.max, IntKind.bits, IntKind.signed] <;> omega
    · unfold MI; constructor <;> simp [IntKind.min, IntKind.max, IntKind.bits, IntKind.signed] <;> omega
end Go.Proofs.YtemnhknjphjpnaaDoor
