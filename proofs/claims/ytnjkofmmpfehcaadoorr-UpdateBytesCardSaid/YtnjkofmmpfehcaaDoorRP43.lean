/- Plain law of UpdateBytes: the bytes of any update and stop, and what any bytes are. -/
import Derived.Test.YtnjkofmmpfehcaaDoorRP21
import Derived.Test.YtnjkofmmpfehcaaDoorRP33t
import Derived.Test.YtnjkofmmpfehcaaDoorRP41
import Derived.Test.YtnjkofmmpfehcaaDoorRP42
namespace Go.Proofs.YtnjkofmmpfehcaaDoorR
open Go Go.RowKit Go.Proofs
set_option linter.unusedVariables false

def zSig : S_api_Sig := S_api_Sig.mk (0 : Int) [] [] []
def zUp : S_api_Update := S_api_Update.mk (0 : Int) (List.replicate 32 0) (List.replicate 32 0) zSig
def zSt : S_api_Stop := S_api_Stop.mk (0 : Int) (List.replicate 32 0) (0 : Int) zSig
/-- The update that bytes are: behind each part what is left, and what was wrong. -/
def rdU (s : List UInt8) : S_api_Update × Int :=
  let a := (tk 4 s 0).2
  let b := (tk 32 a.1 a.2).2
  let c := (tk 32 b.1 b.2).2
  let d := sgQ c.1 c.2
  let e := en d.2.1 d.2.2
  if e = 0 then (⟨(num4 (tk 4 s 0).1 : Nat), dg (tk 32 a.1 a.2).1, dg (tk 32 b.1 b.2).1, d.1⟩, 0) else (zUp, e)
theorem rdUW (s : List UInt8) : update_Read s = some (rdU s) := by
  unfold update_Read
  refine bind_of (x := (⟨s, 0⟩ : O_Rdr)) rfl (bind_of (wordRd s 0) (bind_of (digW _ _) (bind_of (digW _ _) (bind_of (sgW _ _) (bind_of (enW _ _) ?_)))))
  unfold rdU
  simp only
  generalize en _ _ = e
  by_cases h : e = 0
  · rw [if_neg (by simp [h]), if_pos h]
  · rw [if_pos (by simp [h]), if_neg h]; rfl
theorem rdUR (s : List UInt8) (hs : s.length < 1000000) : ref10_Read s = some (rdU s) := by
  have r1 := tk_rest 4 s 0
  have r2 := tk_rest 32 (tk 4 s 0).2.1 (tk 4 s 0).2.2
  have r3 := tk_rest 32 (tk 32 (tk 4 s 0).2.1 (tk 4 s 0).2.2).2.1 (tk 32 (tk 4 s 0).2.1 (tk 4 s 0).2.2).2.2
  have hn := num4_lt (tk 4 s 0).1
  unfold ref10_Read
  refine bind_of (numR s 0) (bind_of (digR _ _) (bind_of (digR _ _) (bind_of (sgR _ _ (by omega)) (bind_of (enR _ _) ?_))))
  unfold rdU
  simp only
  rw [wu32 (by omega)]
  generalize en _ _ = e
  by_cases h : e = 0
  · rw [if_neg (by simp [h]), if_pos h]
  · rw [if_pos (by simp [h]), if_neg h]; rfl
theorem rdU_len (s : List UInt8) : (rdU s).1.f_Sig.f_Parts.length < 1000000 ∧ (rdU s).1.f_Sig.f_Others.length < 1000000 ∧ (rdU s).1.f_Sig.f_Path.length < 1000000 := by
  unfold rdU
  simp only
  split
  · obtain ⟨a, b, c⟩ := sgQ_len (tk 32 (tk 32 (tk 4 s 0).2.1 (tk 4 s 0).2.2).2.1 (tk 32 (tk 4 s 0).2.1 (tk 4 s 0).2.2).2.2).2.1 (tk 32 (tk 32 (tk 4 s 0).2.1 (tk 4 s 0).2.2).2.1 (tk 32 (tk 4 s 0).2.1 (tk 4 s 0).2.2).2.2).2.2
    exact ⟨Nat.lt_of_le_of_lt a (by decide), Nat.lt_of_le_of_lt b (by decide), Nat.lt_of_le_of_lt c (by decide)⟩
  · exact ⟨by simp [zUp, zSig], by simp [zUp, zSig], by simp [zUp, zSig]⟩
def rdS (s : List UInt8) : S_api_Stop × Int :=
  let a := (tk 4 s 0).2
  let b := (tk 32 a.1 a.2).2
  let c := (tk 4 b.1 b.2).2
  let d := sgQ c.1 c.2
  let e := en d.2.1 d.2.2
  if e = 0 then (if 2147483647 < num4 (tk 4 b.1 b.2).1 then (zSt, 8) else (⟨(num4 (tk 4 s 0).1 : Nat), dg (tk 32 a.1 a.2).1, (num4 (tk 4 b.1 b.2).1 : Nat), d.1⟩, 0)) else (zSt, e)
theorem rdSW (s : List UInt8) : update_ReadStop s = some (rdS s) := by
  have hn := num4_lt (tk 4 (tk 32 (tk 4 s 0).2.1 (tk 4 s 0).2.2).2.1 (tk 32 (tk 4 s 0).2.1 (tk 4 s 0).2.2).2.2).1
  unfold update_ReadStop
  refine bind_of (x := (⟨s, 0⟩ : O_Rdr)) rfl (bind_of (wordRd s 0) (bind_of (digW _ _) (bind_of (wordRd _ _) (bind_of (sgW _ _) (bind_of (enW _ _) ?_)))))
  unfold rdS
  simp only
  rw [w64 (by omega)]
  generalize en _ _ = e
  by_cases h : e = 0
  · rw [if_neg (by simp [h]), if_pos h]
    by_cases h2 : 2147483647 < num4 (tk 4 (tk 32 (tk 4 s 0).2.1 (tk 4 s 0).2.2).2.1 (tk 32 (tk 4 s 0).2.1 (tk 4 s 0).2.2).2.2).1
    · rw [if_pos (by simp; omega), if_pos h2]; rfl
    · rw [if_neg (by simp; omega), if_neg h2]
  · rw [if_pos (by simp [h]), if_neg h]; rfl
theorem rdSR (s : List UInt8) (hs : s.length < 1000000) : ref10_ReadStop s = some (rdS s) := by
  have r1 := tk_rest 4 s 0
  have r2 := tk_rest 32 (tk 4 s 0).2.1 (tk 4 s 0).2.2
  have r3 := tk_rest 4 (tk 32 (tk 4 s 0).2.1 (tk 4 s 0).2.2).2.1 (tk 32 (tk 4 s 0).2.1 (tk 4 s 0).2.2).2.2
  have h0 := num4_lt (tk 4 s 0).1
  have hn := num4_lt (tk 4 (tk 32 (tk 4 s 0).2.1 (tk 4 s 0).2.2).2.1 (tk 32 (tk 4 s 0).2.1 (tk 4 s 0).2.2).2.2).1
  unfold ref10_ReadStop
  refine bind_of (numR s 0) (bind_of (digR _ _) (bind_of (numR _ _) (bind_of (sgR _ _ (by omega)) (bind_of (enR _ _) ?_))))
  unfold rdS
  simp only
  rw [w64 (by omega), wu32 (by omega)]
  generalize en _ _ = e
  by_cases h : e = 0
  · rw [if_neg (by simp [h]), if_pos h]
    by_cases h2 : 2147483647 < num4 (tk 4 (tk 32 (tk 4 s 0).2.1 (tk 4 s 0).2.2).2.1 (tk 32 (tk 4 s 0).2.1 (tk 4 s 0).2.2).2.2).1
    · rw [if_pos (by simp; omega), if_pos h2]; rfl
    · rw [if_neg (by simp; omega), if_neg h2]
  · rw [if_pos (by simp [h]), if_neg h]; rfl
theorem rdS_len (s : List UInt8) : (rdS s).1.f_Sig.f_Parts.length < 1000000 ∧ (rdS s).1.f_Sig.f_Others.length < 1000000 ∧ (rdS s).1.f_Sig.f_Path.length < 1000000 := by
  unfold rdS
  simp only
  split
  · split
    · exact ⟨by simp [zSt, zSig], by simp [zSt, zSig], by simp [zSt, zSig]⟩
    · obtain ⟨a, b, c⟩ := sgQ_len (tk 4 (tk 32 (tk 4 s 0).2.1 (tk 4 s 0).2.2).2.1 (tk 32 (tk 4 s 0).2.1 (tk 4 s 0).2.2).2.2).2.1 (tk 4 (tk 32 (tk 4 s 0).2.1 (tk 4 s 0).2.2).2.1 (tk 32 (tk 4 s 0).2.1 (tk 4 s 0).2.2).2.2).2.2
      exact ⟨Nat.lt_of_le_of_lt a (by decide), Nat.lt_of_le_of_lt b (by decide), Nat.lt_of_le_of_lt c (by decide)⟩
  · exact ⟨by simp [zSt, zSig], by simp [zSt, zSig], by simp [zSt, zSig]⟩
theorem sameU (a : S_api_Update) (h : a.f_Sig.f_Parts.length < 1000000 ∧ a.f_Sig.f_Others.length < 1000000 ∧ a.f_Sig.f_Path.length < 1000000) : ref10_Same a a = some true := by
  unfold ref10_Same ref10_Same.j1
  rw [if_pos (by simp), if_pos (by simp), if_pos (by simp)]
  exact bind_of ((sameS _ _ h).trans (by rw [sigEq_self])) rfl
theorem sameSt (a : S_api_Stop) (h : a.f_Sig.f_Parts.length < 1000000 ∧ a.f_Sig.f_Others.length < 1000000 ∧ a.f_Sig.f_Path.length < 1000000) : ref10_SameStop a a = some true := by
  unfold ref10_SameStop ref10_SameStop.j1
  rw [if_pos (by simp), if_pos (by simp), if_pos (by simp)]
  exact bind_of ((sameS _ _ h).trans (by rw [sigEq_self])) rfl
theorem short_eq (s : S_api_Sig) : law10_short s = some (decide (s.f_Parts.length ≤ 60 ∧ s.f_Others.length ≤ 60 ∧ s.f_Path.length ≤ 60)) := by
  unfold law10_short law10_short.j1
  by_cases a : s.f_Parts.length ≤ 60
  · rw [if_pos (by simp; omega)]
    by_cases b : s.f_Others.length ≤ 60
    · rw [if_pos (by simp; omega)]
      by_cases c : s.f_Path.length ≤ 60
      · simp [a, b, c]; omega
      · simp [a, b, c]; omega
    · rw [if_neg (by simp; omega)]; simp [b]
  · rw [if_neg (by simp; omega)]; simp [a]
theorem updateBytes_true (u : S_api_Update) (x : S_api_Stop) (s : List UInt8) (hu : (0 ≤ u.f_Home ∧ u.f_Home < 4294967296) ∧ u.f_Old.length = 32 ∧ u.f_New.length = 32 ∧ (∀ p ∈ u.f_Sig.f_Parts, p.length = 32) ∧ (∀ p ∈ u.f_Sig.f_Others, p.length = 32) ∧ ∀ p ∈ u.f_Sig.f_Path, p.length = 32)
    (hx : (0 ≤ x.f_Home ∧ x.f_Home < 4294967296) ∧ x.f_Key.length = 32 ∧ (∀ p ∈ x.f_Sig.f_Parts, p.length = 32) ∧ (∀ p ∈ x.f_Sig.f_Others, p.length = 32) ∧ ∀ p ∈ x.f_Sig.f_Path, p.length = 32) : law10_UpdateBytes u x s = some true := by
  obtain ⟨u1, u2, u3, u4, u5, u6⟩ := hu
  obtain ⟨x1, x2, x4, x5, x6⟩ := hx
  have hj : law10_UpdateBytes.j1 u x s true = some true := by
    unfold law10_UpdateBytes.j1
    rw [if_pos rfl]
    exact bind_of awake10 rfl
  unfold law10_UpdateBytes
  refine bind_of awake10 ?_
  rw [if_neg (by simp)]
  refine bind_of (short_eq _) ?_
  by_cases a : u.f_Sig.f_Parts.length ≤ 60 ∧ u.f_Sig.f_Others.length ≤ 60 ∧ u.f_Sig.f_Path.length ≤ 60
  · rw [if_neg (by simp [a])]
    refine bind_of (short_eq _) ?_
    by_cases b : x.f_Sig.f_Parts.length ≤ 60 ∧ x.f_Sig.f_Others.length ≤ 60 ∧ x.f_Sig.f_Path.length ≤ 60
    · rw [if_neg (by simp [b])]
      by_cases c : 10000 < s.length
      · have : decide ((10000 : Int) < (s.length : Int)) = true := by simp; omega
        rw [this]; exact hj
      · have : decide ((10000 : Int) < (s.length : Int)) = false := by simp; omega
        rw [this]
        have hU : Upd60 u := ⟨u1, u2, u3, a.1, a.2.1, a.2.2, u4, u5, u6⟩
        have hX : Stp60 x := ⟨x1, x2, b.1, b.2.1, b.2.2, x4, x5, x6⟩
        unfold law10_UpdateBytes.j1 law10_UpdateBytes.j2
        rw [if_neg (by simp)]
        refine bind_of (rdUW s) (bind_of (rdUR s (by omega)) (bind_of (rdSW s) (bind_of (rdSR s (by omega)) (bind_of awake10 ?_))))
        rw [if_pos rfl]
        refine bind_of (upBW hU) (bind_of (upBR hU) ?_)
        rw [if_pos (by simp)]
        refine bind_of (stBW hX) (bind_of (stBR hX) ?_)
        rw [if_pos (by simp)]
        refine bind_of (sameU _ (rdU_len s)) ?_
        rw [if_pos rfl, if_pos (by simp)]
        refine bind_of (sameSt _ (rdS_len s)) ?_
        rw [if_pos rfl]
        simp
    · rw [if_pos (by simp only [Bool.not_eq_true', decide_eq_false_iff_not]; exact b)]
      exact hj
  · rw [if_pos (by simp only [Bool.not_eq_true', decide_eq_false_iff_not]; exact a)]
    exact hj
end Go.Proofs.YtnjkofmmpfehcaaDoorR
