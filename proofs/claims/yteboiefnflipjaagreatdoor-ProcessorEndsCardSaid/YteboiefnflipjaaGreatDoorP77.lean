/- Plain laws: P62, P74, P76, P77, as one text. -/
import Derived.Test.YteboiefnflipjaaGreatDoorP7
import Derived.Test.YteboiefnflipjaaGreatDoorP32
import Derived.Test.YteboiefnflipjaaGreatDoorP55
namespace Go.Proofs.YteboiefnflipjaaGreatDoor
open Go Go.RowKit Go.Proofs
section
set_option linter.unusedVariables false

end

section
set_option linter.unusedVariables false

def LG (l : List (List UInt8)) : Prop := ∀ p ∈ l, p.length = 32
theorem LG.set {l : List (List UInt8)} (h : LG l) {d : List UInt8} (hd : d.length = 32) (i : Nat) : LG (l.set i d) := fun p hp => by
  rcases List.mem_or_eq_of_mem_set hp with q | q
  · exact h p q
  · rw [q]; exact hd
end

section
set_option linter.unusedVariables false
set_option linter.unusedSimpArgs false

/- The first place of a key in a list of keys. -/
theorem Js {α : Type} (l : List α) (d : α) (i : Nat) (h : i < l.length) : l.getD i d ∈ l := by
  have : l.getD i d = l[i] := by simp [List.getD, h]
  rw [this]; exact List.getElem_mem _
theorem Iy (l : List Ag) (d : List UInt8) : -1 ≤ DK l d ∧ DK l d < l.length := Jz _ _
theorem Mc (l : List Ag) (d : List UInt8) (h : 0 ≤ DK l d) : (l.getD (DK l d).toNat default).BP = d :=
  of_decide_eq_true (Po (fun i => JY d (l.getD i default)) l.length h)
noncomputable def Is (r : Ae) (d : List UInt8) (now : Int) : Int := if Ny r d < 0 then 31 else if now < (r.BY.getD (Ny r d).toNat default).N3 then 36 else 0
/- A letter's states with another one. -/
noncomputable def GA (l : List Ag) (s : Ag) : List Ag := if 0 ≤ DK l s.BP then l.set (DK l s.BP).toNat s else l ++ [s]
theorem Mg (l : List Ag) (s : Ag) : (GA l s).length ≤ l.length + 1 := by
  unfold GA
  split <;> simp
noncomputable def NJ (r : Ae) (now : Int) (leaf : List UInt8) (i : Nat) (br : List (List UInt8)) : Ae × Int :=
  if r.BU = true then (r, 30) else if r.Ds = true then (r, 34) else if br.length ≠ 32 then (r, 35) else
  if Is r (Ho br i leaf) now ≠ 0 then (r, Is r (Ho br i leaf) now) else
  if 0 ≤ DK r.AH leaf ∧ (r.AH.getD (DK r.AH leaf).toNat default).BX = 2 then (r, 37) else
  if DK r.AH leaf < 0 ∧ 4096 ≤ r.AH.length then (r, 6) else
  (⟨r.BZ, r.CA, r.Ch, r.B3, r.CE, r.BI, r.BY, GA r.AH ⟨leaf, 1, Ho br i leaf⟩, r.BU, r.Ds⟩, 0)
noncomputable def QL (r : Ae) (now : Int) (x : Ai) : Ae × Int :=
  if r.BU = true then (r, 30) else if r.Ds = true then (r, 34) else if ¬ (x.Fk = r.CA ∧ x.CK = r.BZ) then (r, 38) else
  if DK r.AH (FW x) < 0 ∨ (r.AH.getD (DK r.AH (FW x)).toNat default).BX ≠ 1 then (r, 37) else
  if Is r (r.AH.getD (DK r.AH (FW x)).toNat default).Cw now ≠ 0 then (r, Is r (r.AH.getD (DK r.AH (FW x)).toNat default).Cw now) else
  (⟨r.BZ, r.CA, r.Ch, r.B3, r.CE, r.BI, r.BY, GA r.AH ⟨FW x, 2, (r.AH.getD (DK r.AH (FW x)).toNat default).Cw⟩, r.BU, r.Ds⟩, 0)
end

section
set_option linter.unusedVariables false
set_option linter.unusedSimpArgs false

theorem Gq (r : Ae) (d : List UInt8) (now : Int) (hl : r.BY.length < 1000000) : CX r d now = some (Is r d now) := by
  have h := QO r d
  unfold CX Is
  refine Ax (NA r d hl) ?_
  by_cases q : Ny r d < 0
  · rw [if_pos (decide_eq_true q), if_pos q]
  · rw [if_neg (by rw [decide_eq_false q]; decide), if_pos ⟨by omega, h.2⟩, if_neg q]
    by_cases z : now < (r.BY.getD (Ny r d).toNat default).N3
    · rw [if_pos (decide_eq_true z), if_pos z]
    · rw [if_neg (by rw [decide_eq_false z]; decide), if_neg z]
/- A loop that looks for the first place of a kind. -/
theorem Nx {a b : List UInt8} (ha : a.length = 32) (hb : b.length = 32) : Ek none 6 a b = some (n6 a b, none) := by
  unfold Ek
  exact Ax (Me ha) (Ax (Me hb) (Ax (Pl 6 (Kz ha hb)) rfl))
theorem Ky {a b : List UInt8} (ha : a.length = 32) (hb : b.length = 32) : Ed none a b = some (n6 a b, none) := by
  obtain ⟨L', h1, h2⟩ := RA none 6 (Kz ha hb)
  rw [h2 rfl] at h1
  unfold Ed
  refine Ax (x := (n6 a b, none)) ?_ rfl
  unfold Fb
  exact Ax (Ir ha) (Ax (Ir hb) (Ax h1 rfl))
theorem Qn {d : List UInt8} (hd : d.length = 32) {i : Nat} (hi : i < 4294967296) {br : List (List UInt8)} (hb : ∀ p ∈ br, p.length = 32) (hl : br.length = 32) : By none d (i : Int) br = some (Ho br i d, none) := by
  have hm : (if (32 : Int) < (br.length : Int) then (32 : Int) else (br.length : Int)) = 32 := by rw [hl]; rfl
  have hw : (br.take (if (32 : Int) < (br.length : Int) then (32 : Int) else (br.length : Int)).toNat).drop (0 : Int).toNat = br := by
    rw [hm]
    show (br.take 32).drop 0 = br
    rw [List.take_of_length_le (by omega)]; rfl
  unfold By
  rw [if_pos (by rw [hm, hl]; decide)]
  obtain ⟨c, h1, h2⟩ := CC (body := fun s : Int × (Option AP) × (List UInt8) => By.b1 (i : Int) br s.1 s.2.1 s.2.2) (fun s => ∃ k : Nat, k ≤ br.length ∧ s = ((k : Int), none, Ho (br.take k) i d)) (fun c => match c with | .next s => s.2 = (none, Ho br i d) | .ret _ => False) (fun s => (br.length - s.1).toNat)
      (fun s ⟨k, hk, hs⟩ => by
        subst hs
        have h32 : (Ho (br.take k) i d).length = 32 := Mv (fun p hp => hb p (List.mem_of_mem_take hp)) hd
        have e1 : ((k : Nat) : Int).toNat = k := by omega
        by_cases q : k < br.length
        · have hgt := Ms hb q
          have hlen : (br.take k).length = k := by simp; omega
          have ht := Mw (br.take k) (br.getD k default) i d
          rw [← QM br k q, hlen] at ht
          refine .inl ⟨(((k + 1 : Nat) : Int), none, Ho (br.take (k + 1)) i d), ?_, ⟨k + 1, by omega, rfl⟩, by simp; omega⟩
          show By.b1 (i : Int) br (k : Int) none _ = _
          unfold By.b1
          rw [hw, if_pos (by simp; omega), if_pos (by omega), if_pos (by omega)]
          by_cases w : i / 2 ^ k % 2 = 1
          · rw [if_pos (decide_eq_true ((Ps i k hi (by omega)).2 w)), e1]
            refine Ax (Ky hgt h32) ?_
            unfold By.j1
            rw [Fc (by omega), ht, if_pos w]
            rfl
          · rw [if_neg (by rw [decide_eq_false (fun z => w ((Ps i k hi (by omega)).1 z))]; decide), e1]
            refine Ax (Ky h32 hgt) ?_
            unfold By.j1
            rw [Fc (by omega), ht, if_neg w]
            rfl
        · have : k = br.length := by omega
          subst this
          refine .inr (.inl ⟨((br.length : Int), none, Ho br i d), ?_, rfl⟩)
          show By.b1 (i : Int) br (br.length : Int) none _ = _
          unfold By.b1
          rw [hw, if_neg (by simp), List.take_length]) (((((br.take (if (32 : Int) < (br.length : Int) then (32 : Int) else (br.length : Int)).toNat).drop (0 : Int).toNat).length : Int) - 0 : Int).toNat + 2) (0, none, d) ⟨0, by omega, rfl⟩ (by rw [hw]; simp)
  cases c with
  | ret _ => exact h2.elim
  | next s =>
    obtain ⟨s1, s2⟩ := s
    obtain rfl : s2 = (none, Ho br i d) := h2
    exact BB h1 rfl
/- The program's answers. -/
theorem Pn {x : Ai} (h : JV x) : EV none x = some (FW x, none) := by
  obtain ⟨L, a1, a2⟩ := RA none 5 (KD h)
  rw [a2 rfl] at a1
  obtain ⟨f, n, t, a, b, c⟩ := h
  unfold EV
  refine Ax (x := QA x) ?_ (Ax a1 rfl)
  unfold FJ
  refine Ax (Nq f) (Ax (Nq n) ?_)
  rw [if_pos (by simp only [Nr, CG]; omega)]
  refine Ax (Nq t) ?_
  rw [if_pos (by simp only [List.length_append, Nr, CG]; omega)]
  refine Ax (IX _ (by omega)) ?_
  rw [if_pos (by simp only [List.length_append, Nr, Qe, CG]; omega)]
  refine Ax (IX _ (by omega)) ?_
  rw [if_pos (by simp only [List.length_append, Nr, Qe, CG]; omega)]
  refine Ax (IX _ (by omega)) ?_
  rw [if_pos (by simp only [List.length_append, Nr, Qe, CG]; omega)]
  rfl
theorem MH (r : Ae) (now : Int) {x : Ai} (h : JV x) (hr : r.BY.length < 1000000) (hl : r.AH.length < 100000) : Bv none r now x = some ((QL r now x).1, (QL r now x).2, none) := by
  have hL := Pn h
  have hlt := Iy r.AH (FW x)
  have hat := Mc r.AH (FW x)
  unfold Bv QL
  by_cases h1 : r.BU = true
  · exact Ax (x := 30) (by unfold CF; rw [if_pos h1]) (by rw [if_pos (by decide), if_pos h1])
  by_cases h2 : r.Ds = true
  · exact Ax (x := 34) (by unfold CF; rw [if_neg h1, if_pos h2]) (by rw [if_pos (by decide), if_neg h1, if_pos h2])
  have ho : CF r = some 0 := by unfold CF; rw [if_neg h1, if_neg h2]
  rw [if_neg h1, if_neg h2]
  have j1t : Bv.j1 none r now x true = some (r, 38, none) := by
    unfold Bv.j1
    rw [if_pos rfl]
  by_cases a : x.Fk = r.CA
  · by_cases b : x.CK = r.BZ
    · rw [if_neg (show ¬ ¬ (x.Fk = r.CA ∧ x.CK = r.BZ) from fun q => q ⟨a, b⟩)]
      refine Ax ho ?_
      rw [if_neg (by decide), if_neg (show ¬ (!decide (x.Fk = r.CA)) = true by rw [decide_eq_true a]; decide), decide_eq_true b]
      unfold Bv.j1
      rw [if_neg (by decide)]
      refine Ax hL (Ax (G8 r _ (by omega)) ?_)
      by_cases c : DK r.AH (FW x) < 0
      · rw [if_pos (decide_eq_true c), if_pos (.inl c)]
        unfold Bv.j2
        rw [if_pos rfl]
      · have hi : 0 ≤ DK r.AH (FW x) ∧ DK r.AH (FW x) < r.AH.length := ⟨by omega, hlt.2⟩
        rw [if_neg (by rw [decide_eq_false c]; decide), if_pos hi]
        by_cases e : (r.AH.getD (DK r.AH (FW x)).toNat default).BX = 1
        · rw [decide_eq_true e, if_neg (show ¬ (DK r.AH (FW x) < 0 ∨ (r.AH.getD (DK r.AH (FW x)).toNat default).BX ≠ 1) from fun q => q.elim c (fun z => z e))]
          unfold Bv.j2
          rw [if_neg (by decide), if_pos hi]
          refine Ax (Gq r _ now hr) ?_
          by_cases f : Is r (r.AH.getD (DK r.AH (FW x)).toNat default).Cw now = 0
          · rw [if_neg (by rw [decide_eq_true f]; decide), if_neg (fun q => q f)]
            refine Ax (x := r.AH) (by unfold BW; rw [if_pos (by omega)]) ?_
            rw [if_pos hi]
            unfold GA
            rw [if_pos (show 0 ≤ DK r.AH (Ag.mk (FW x) 2 (r.AH.getD (DK r.AH (FW x)).toNat default).Cw).BP from hi.1), hat hi.1]
          · rw [if_pos (by rw [decide_eq_false f]; decide), if_pos f]
        · rw [decide_eq_false e, if_pos (show DK r.AH (FW x) < 0 ∨ (r.AH.getD (DK r.AH (FW x)).toNat default).BX ≠ 1 from .inr e)]
          unfold Bv.j2
          rw [if_pos (by decide)]
    · rw [if_pos (show ¬ (x.Fk = r.CA ∧ x.CK = r.BZ) from fun q => b q.2)]
      refine Ax ho ?_
      rw [if_neg (by decide), if_neg (show ¬ (!decide (x.Fk = r.CA)) = true by rw [decide_eq_true a]; decide), decide_eq_false b]
      exact j1t
  · rw [if_pos (show ¬ (x.Fk = r.CA ∧ x.CK = r.BZ) from fun q => a q.1)]
    refine Ax ho ?_
    rw [if_neg (by decide), if_pos (show (!decide (x.Fk = r.CA)) = true by rw [decide_eq_false a]; rfl)]
    exact j1t
theorem LV (r : Ae) (now : Int) {d : List UInt8} (hd : d.length = 32) {i : Nat} (hi : i < 4294967296) {br : List (List UInt8)} (hb : ∀ p ∈ br, p.length = 32) (hr : r.BY.length < 1000000) (hl : r.AH.length < 100000) :
    Bb none r now d (i : Int) br = some ((NJ r now d i br).1, (NJ r now d i br).2, none) := by
  have hlt := Iy r.AH d
  unfold Bb NJ
  by_cases h1 : r.BU = true
  · exact Ax (x := 30) (by unfold CF; rw [if_pos h1]) (by rw [if_pos (by decide), if_pos h1])
  by_cases h2 : r.Ds = true
  · exact Ax (x := 34) (by unfold CF; rw [if_neg h1, if_pos h2]) (by rw [if_pos (by decide), if_neg h1, if_pos h2])
  have ho : CF r = some 0 := by unfold CF; rw [if_neg h1, if_neg h2]
  rw [if_neg h1, if_neg h2]
  refine Ax ho ?_
  rw [if_neg (by decide)]
  by_cases a : br.length = 32
  · rw [if_neg (by rw [decide_eq_true (show (br.length : Int) = 32 by omega)]; decide), if_neg (show ¬ br.length ≠ 32 from fun q => q a)]
    refine Ax (Qn hd hi hb a) (Ax (Gq r _ now hr) ?_)
    by_cases c : Is r (Ho br i d) now = 0
    · rw [if_neg (by simp [c]), if_neg (show ¬ Is r (Ho br i d) now ≠ 0 from fun q => q c)]
      refine Ax (G8 r d (by omega)) ?_
      have j2 : ∀ b : Bool, (b = true ↔ DK r.AH d < 0 ∧ 4096 ≤ r.AH.length) → Bb.j2 r d (Ho br i d, none) (DK r.AH d) b = some ((if DK r.AH d < 0 ∧ 4096 ≤ r.AH.length then (r, 6) else
          ((⟨r.BZ, r.CA, r.Ch, r.B3, r.CE, r.BI, r.BY, GA r.AH ⟨d, 1, Ho br i d⟩, r.BU, r.Ds⟩ : Ae), (0 : Int))).1, (if DK r.AH d < 0 ∧ 4096 ≤ r.AH.length then (r, 6) else
          ((⟨r.BZ, r.CA, r.Ch, r.B3, r.CE, r.BI, r.BY, GA r.AH ⟨d, 1, Ho br i d⟩, r.BU, r.Ds⟩ : Ae), (0 : Int))).2, none) := by
        intro b hb
        unfold Bb.j2
        by_cases q : DK r.AH d < 0 ∧ 4096 ≤ r.AH.length
        · rw [if_pos (hb.2 q), if_pos q]
        · rw [if_neg (fun w => q (hb.1 w)), if_neg q]
          refine Ax (x := r.AH) (by unfold BW; rw [if_pos (by omega)]) ?_
          unfold Bb.j3 GA
          by_cases y : 0 ≤ DK r.AH d
          · rw [if_pos (decide_eq_true y), if_pos ⟨y, hlt.2⟩, if_pos y]
          · rw [if_neg (by rw [decide_eq_false y]; decide), if_pos (by simp [CG]; omega), if_neg y]
      have j1f : ¬ (0 ≤ DK r.AH d ∧ (r.AH.getD (DK r.AH d).toNat default).BX = 2) → Bb.j1 r d (Ho br i d, none) (DK r.AH d) false = some ((if DK r.AH d < 0 ∧ 4096 ≤ r.AH.length then (r, 6) else
          ((⟨r.BZ, r.CA, r.Ch, r.B3, r.CE, r.BI, r.BY, GA r.AH ⟨d, 1, Ho br i d⟩, r.BU, r.Ds⟩ : Ae), (0 : Int))).1, (if DK r.AH d < 0 ∧ 4096 ≤ r.AH.length then (r, 6) else
          ((⟨r.BZ, r.CA, r.Ch, r.B3, r.CE, r.BI, r.BY, GA r.AH ⟨d, 1, Ho br i d⟩, r.BU, r.Ds⟩ : Ae), (0 : Int))).2, none) := by
        intro _
        unfold Bb.j1
        rw [if_neg (by decide)]
        by_cases y : DK r.AH d < 0
        · rw [if_pos (decide_eq_true y)]
          exact j2 _ (by simp only [y, true_and]; simp; omega)
        · rw [if_neg (by rw [decide_eq_false y]; decide)]
          exact j2 _ (by simp [y])
      by_cases y : 0 ≤ DK r.AH d
      · rw [if_pos (decide_eq_true y), if_pos ⟨y, hlt.2⟩]
        by_cases z : (r.AH.getD (DK r.AH d).toNat default).BX = 2
        · rw [decide_eq_true z, if_pos ⟨y, z⟩]
          unfold Bb.j1
          rw [if_pos rfl]
        · have hz : ¬ (0 ≤ DK r.AH d ∧ (r.AH.getD (DK r.AH d).toNat default).BX = 2) := fun q => z q.2
          rw [decide_eq_false z, if_neg hz]
          exact j1f hz
      · have hz : ¬ (0 ≤ DK r.AH d ∧ (r.AH.getD (DK r.AH d).toNat default).BX = 2) := fun q => y q.1
        rw [if_neg (by rw [decide_eq_false y]; decide), if_neg hz]
        exact j1f hz
    · rw [if_pos (by simp [c]), if_pos (show Is r (Ho br i d) now ≠ 0 from c)]
  · rw [if_pos (by rw [decide_eq_false (show ¬ (br.length : Int) = 32 by omega)]; decide), if_pos (show br.length ≠ 32 from a)]
/- The document's answers. -/
end
end Go.Proofs.YteboiefnflipjaaGreatDoor
