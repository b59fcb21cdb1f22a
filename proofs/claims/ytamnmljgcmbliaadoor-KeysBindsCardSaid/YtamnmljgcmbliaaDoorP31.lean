/- Plain law of keys' example: a signature is verified, and another digest's isn't. -/
import Derived.Test.YtamnmljgcmbliaaDoorP31a
namespace Go.Proofs.YtamnmljgcmbliaaDoor
open Go Go.RowKit Go.Proofs
set_option linter.unusedVariables false
set_option maxRecDepth 100000

def s7 : List UInt8 := [u8of 7] ++ List.replicate (32 - 1) 0
def d1 : List UInt8 := [u8of 1] ++ List.replicate (32 - 1) 0
def d2 : List UInt8 := [u8of 2] ++ List.replicate (32 - 1) 0
theorem s7_num : toN s7 = 7 * 2 ^ 248 := by decide +kernel
theorem pubs_C (seed : List UInt8) (i : Nat) : pubs seed (i : Int) = pubsC seed i (fun j => j % 2) := rfl
theorem leaf_num {seed : List UInt8} (h : seed.length = 32) {i : Nat} (hi : i < 16) : toN ((leaves seed).getD i default) = wordV (toN seed) i (fun j => j % 2) := by
  have e : (leaves seed).getD i default = wordOf (pubs seed (i : Int)) := by simp [leaves, List.getD, hi]
  rw [e, pubs_C]
  exact word_num h (by omega) fun j => by omega
theorem leaf7 {i : Nat} (hi : i < 16) {n : Nat} (h : wordV (7 * 2 ^ 248) i (fun j => j % 2) = n) : toN ((leaves s7).getD i default) = n := by
  rw [leaf_num rfl hi, s7_num, h]
theorem up_num {l : List (List UInt8)} (h : ∀ p ∈ l, p.length = 32) {j : Nat} (hj : j < l.length / 2) {a b n : Nat} (ha : toN (l.getD (2 * j) default) = a) (hb : toN (l.getD (2 * j + 1) default) = b) (hn : Nat.beq (ndV a b) n = true) : toN ((upL l).getD j default) = n := by
  rw [upL_at l j hj, nd_num (get32 h (by omega)) (get32 h (by omega)), ha, hb]
  exact Nat.eq_of_beq_eq_true hn
theorem opn_sw : opn d2 (sgP s7 0 d1) (sgO s7 0 d1) = pubsC s7 0 cSw := by
  have hb1 : ∀ i : Nat, i < 32 → bitv d1 (i : Int) = if i = 7 then 1 else 0 := by decide +kernel
  have hb2 : ∀ i : Nat, i < 32 → bitv d2 (i : Int) = if i = 6 then 1 else 0 := by decide +kernel
  unfold opn pubsC
  refine List.map_congr_left fun j hj => ?_
  have hj : j < 64 := List.mem_range.1 hj
  have g1 : (sgP s7 0 d1).getD (j / 2) default = sec s7 0 ((j / 2 : Nat) : Int) (bitv d1 ((j / 2 : Nat) : Int)) := by simp [sgP, List.getD, show j / 2 < 32 by omega]
  have g2 : (sgO s7 0 d1).getD (j / 2) default = pub (sec s7 0 ((j / 2 : Nat) : Int) (1 - bitv d1 ((j / 2 : Nat) : Int))) := by simp [sgO, List.getD, show j / 2 < 32 by omega]
  have b1 := hb1 (j / 2) (by omega)
  have b2 := hb2 (j / 2) (by omega)
  unfold opnA
  rw [g1, g2]
  have key : ∀ x : Int, (if ((j % 2 : Nat) : Int) = bitv d2 ((j / 2 : Nat) : Int) then bitv d1 ((j / 2 : Nat) : Int) else 1 - bitv d1 ((j / 2 : Nat) : Int)) = ((cSw j : Nat) : Int) := by
    intro _
    rw [b1, b2]
    unfold cSw
    repeat' split
    all_goals omega
  have key := key 0
  show _ = pub (sec s7 0 ((j / 2 : Nat) : Int) ((cSw j : Nat) : Int))
  rw [← key]
  split <;> rfl
theorem lv0_0 : toN ((leaves s7).getD 0 default) = 14469970552362550091502676622092781433544267726297639532425512837123327403610 := leaf7 (by decide) w7_0
theorem lv0_1 : toN ((leaves s7).getD 1 default) = 33966153274237174829438341115306153938527866910025781820497940187246863513810 := leaf7 (by decide) w7_1
theorem lv0_2 : toN ((leaves s7).getD 2 default) = 43211746311775846638269551126367511262506094374512292287944303549651393087849 := leaf7 (by decide) w7_2
theorem lv0_3 : toN ((leaves s7).getD 3 default) = 41799296448435810676078215174607687866994706356777926930302682990261863512769 := leaf7 (by decide) w7_3
theorem lv0_4 : toN ((leaves s7).getD 4 default) = 48375576727563164576944028898667146423801071808134309544617674178922448508247 := leaf7 (by decide) w7_4
theorem lv0_5 : toN ((leaves s7).getD 5 default) = 101504082674427056705666535305595876482045598914640196283753376363494729550594 := leaf7 (by decide) w7_5
theorem lv0_6 : toN ((leaves s7).getD 6 default) = 41274941846348184544737662962339454759206018472245377732934816794429827747199 := leaf7 (by decide) w7_6
theorem lv0_7 : toN ((leaves s7).getD 7 default) = 61319394524070795986848168821186275889858747887198592023479612835544873878468 := leaf7 (by decide) w7_7
theorem lv0_8 : toN ((leaves s7).getD 8 default) = 66511461156331426175324638683881934954724547819340997826503197571990040050923 := leaf7 (by decide) w7_8
theorem lv0_9 : toN ((leaves s7).getD 9 default) = 12153600434306491293582185612900479915524568732521086298349873100474409649725 := leaf7 (by decide) w7_9
theorem lv0_10 : toN ((leaves s7).getD 10 default) = 59407963900368399850451122190829492091557735394375000736590266836064335742991 := leaf7 (by decide) w7_10
theorem lv0_11 : toN ((leaves s7).getD 11 default) = 4814928054200744372590824982908783893366251416742435294267612066674699965792 := leaf7 (by decide) w7_11
theorem lv0_12 : toN ((leaves s7).getD 12 default) = 18294438507587617694908677938428618953421474923343036181638133728132974121105 := leaf7 (by decide) w7_12
theorem lv0_13 : toN ((leaves s7).getD 13 default) = 41199334620189788620481768462571965979483785862985112439323392119628572479367 := leaf7 (by decide) w7_13
theorem lv0_14 : toN ((leaves s7).getD 14 default) = 99492898846026555912523913932121176849217326058787743031612512597147019731120 := leaf7 (by decide) w7_14
theorem lv0_15 : toN ((leaves s7).getD 15 default) = 47393858648512538114503666204391081358775349537655451276354829116297768137983 := leaf7 (by decide) w7_15
theorem l32_0 : ∀ p ∈ leaves s7, p.length = 32 := (leaves_len (seed := s7) rfl).2
theorem len_0 : (leaves s7).length = 16 := (leaves_len (seed := s7) rfl).1
theorem lv1_0 : toN ((upL (leaves s7)).getD 0 default) = 38464749366040534878492284672664100212569669961018244613508982170678688345751 := up_num l32_0 (by rw [len_0]; decide) lv0_0 lv0_1 (by decide +kernel)
theorem lv1_1 : toN ((upL (leaves s7)).getD 1 default) = 8377266718830169518082658997282223223520948307983355170428245227847266067916 := up_num l32_0 (by rw [len_0]; decide) lv0_2 lv0_3 (by decide +kernel)
theorem lv1_2 : toN ((upL (leaves s7)).getD 2 default) = 17904700859630793751890703403025838130613895919105867068834504876127349666025 := up_num l32_0 (by rw [len_0]; decide) lv0_4 lv0_5 (by decide +kernel)
theorem lv1_3 : toN ((upL (leaves s7)).getD 3 default) = 77050484502501821635283103773658959898632620177262642229029397146863472122423 := up_num l32_0 (by rw [len_0]; decide) lv0_6 lv0_7 (by decide +kernel)
theorem lv1_4 : toN ((upL (leaves s7)).getD 4 default) = 95180222046936288615320615012360167512527674380534001731506763302291942853671 := up_num l32_0 (by rw [len_0]; decide) lv0_8 lv0_9 (by decide +kernel)
theorem lv1_5 : toN ((upL (leaves s7)).getD 5 default) = 103423239149445505288753765109968524595141006136670637617470464770370057833646 := up_num l32_0 (by rw [len_0]; decide) lv0_10 lv0_11 (by decide +kernel)
theorem lv1_6 : toN ((upL (leaves s7)).getD 6 default) = 46125563280118531441830272935983669677187138049027866648784781616178818968639 := up_num l32_0 (by rw [len_0]; decide) lv0_12 lv0_13 (by decide +kernel)
theorem lv1_7 : toN ((upL (leaves s7)).getD 7 default) = 64076783658941243752213188740886517198897841776474952818170607785270084734461 := up_num l32_0 (by rw [len_0]; decide) lv0_14 lv0_15 (by decide +kernel)
theorem l32_1 : ∀ p ∈ upL (leaves s7), p.length = 32 := (upL_len l32_0).2
theorem len_1 : (upL (leaves s7)).length = 8 := by rw [(upL_len l32_0).1, len_0]
theorem lv2_0 : toN ((upL (upL (leaves s7))).getD 0 default) = 114987773895258862501127027916354809750369280700048215306223541550111367027866 := up_num l32_1 (by rw [len_1]; decide) lv1_0 lv1_1 (by decide +kernel)
theorem lv2_1 : toN ((upL (upL (leaves s7))).getD 1 default) = 20941833128305692096230183435770314106636184699265345678298394974827385093064 := up_num l32_1 (by rw [len_1]; decide) lv1_2 lv1_3 (by decide +kernel)
theorem lv2_2 : toN ((upL (upL (leaves s7))).getD 2 default) = 108260667844296110452956857069656134526305733537476032266778778563873285774853 := up_num l32_1 (by rw [len_1]; decide) lv1_4 lv1_5 (by decide +kernel)
theorem lv2_3 : toN ((upL (upL (leaves s7))).getD 3 default) = 2506227464973768001805230440066591679199813924759151941563969021533290419316 := up_num l32_1 (by rw [len_1]; decide) lv1_6 lv1_7 (by decide +kernel)
theorem l32_2 : ∀ p ∈ upL (upL (leaves s7)), p.length = 32 := (upL_len l32_1).2
theorem len_2 : (upL (upL (leaves s7))).length = 4 := by rw [(upL_len l32_1).1, len_1]
theorem lv3_0 : toN ((upL (upL (upL (leaves s7)))).getD 0 default) = 59948713741728478278762766056645150061765554231417859319464150859928414548682 := up_num l32_2 (by rw [len_2]; decide) lv2_0 lv2_1 (by decide +kernel)
theorem lv3_1 : toN ((upL (upL (upL (leaves s7)))).getD 1 default) = 1277191818794899444255663306542116078251135389728640645127845846309737274916 := up_num l32_2 (by rw [len_2]; decide) lv2_2 lv2_3 (by decide +kernel)
theorem l32_3 : ∀ p ∈ upL (upL (upL (leaves s7))), p.length = 32 := (upL_len l32_2).2
theorem len_3 : (upL (upL (upL (leaves s7)))).length = 2 := by rw [(upL_len l32_2).1, len_2]
theorem lv4_0 : toN ((upL (upL (upL (upL (leaves s7))))).getD 0 default) = 94996860370668954965819903521645675881973183231211170164757870911103130140270 := up_num l32_3 (by rw [len_3]; decide) lv3_0 lv3_1 (by decide +kernel)
theorem verify_no : verV (rootL (leaves s7)) d2 ⟨0, sgP s7 0 d1, sgO s7 0 d1, path0 (leaves s7)⟩ = false := by
  obtain ⟨hl, h32⟩ := leaves_len (seed := s7) rfl
  obtain ⟨n1, h1, n2, h2, n3, h3, n4, h4⟩ := levels hl h32
  have hc : ∀ j, cSw j < 256 := fun j => by unfold cSw; split <;> omega
  have hw : toN (wordOf (pubsC s7 0 cSw)) = wordV (7 * 2 ^ 248) 0 cSw := by rw [word_num rfl (by decide) hc, s7_num]
  have w32 := word_len (pubsC_len (seed := s7) rfl 0 cSw).1 (pubsC_len (seed := s7) rfl 0 cSw).2
  have k0 := get32 h32 (i := 1) (by omega)
  have k1 := get32 h1 (i := 1) (by omega)
  have k2 := get32 h2 (i := 1) (by omega)
  have k3 := get32 h3 (i := 1) (by omega)
  have hne : climbV (path0 (leaves s7)) 0 (wordOf (opn d2 (sgP s7 0 d1) (sgO s7 0 d1))) ≠ rootL (leaves s7) := by
    intro he
    rw [opn_sw] at he
    have he : nd (nd (nd (nd (wordOf (pubsC s7 0 cSw)) ((leaves s7).getD 1 default)) ((upL (leaves s7)).getD 1 default)) ((upL (upL (leaves s7))).getD 1 default)) ((upL (upL (upL (leaves s7)))).getD 1 default) = rootL (leaves s7) := he
    have hn := congrArg toN he
    have hroot : toN (rootL (leaves s7)) = 94996860370668954965819903521645675881973183231211170164757870911103130140270 := lv4_0
    rw [hroot, nd_num (nd_len (nd_len (nd_len w32 k0) k1) k2) k3, nd_num (nd_len (nd_len w32 k0) k1) k2, nd_num (nd_len w32 k0) k1, nd_num w32 k0, hw, lv0_1, lv1_1, lv2_1, lv3_1, wSw] at hn
    exact absurd hn (by decide +kernel)
  unfold verV
  simp only [Bool.and_eq_false_iff, decide_eq_false_iff_not]
  exact .inr hne
theorem awake6 : law06_awake = some true := by
  have l1 : d1.length = 32 := rfl
  have l7 : s7.length = 32 := rfl
  obtain ⟨L1, a1, _⟩ := new_eq none l7
  obtain ⟨L2, a2, _⟩ := sign0 L1 (d := d1) l7
  obtain ⟨L3, a3, _⟩ := root_eq L2 (s := ⟨s7, 0, leaves s7⟩) (leaves_len l7).1 (leaves_len l7).2
  obtain ⟨L4, a4, _⟩ := verify0 L3 (d := d1) l7
  obtain ⟨L5, a5, _⟩ := root_eq L4 (s := ⟨s7, 0, leaves s7⟩) (leaves_len l7).1 (leaves_len l7).2
  obtain ⟨L6, a6, _⟩ := verify_eq L5 (rootL (leaves s7)) d2 (s := ⟨0, sgP s7 0 d1, sgO s7 0 d1, path0 (leaves s7)⟩) ⟨(sgP_len l7 0 d1).2, (sgO_len l7 0 d1).2, path0_len (leaves_len l7).1 (leaves_len l7).2⟩
  rw [verify_no] at a6
  unfold law06_awake
  refine bind_of a1 (bind_of a2 ?_)
  rw [if_pos (by simp), if_pos (by simp), if_pos (by simp)]
  refine bind_of a3 (bind_of a4 ?_)
  rw [if_pos rfl]
  refine bind_of a5 (bind_of a6 ?_)
  unfold law06_awake.j1
  rfl
end Go.Proofs.YtamnmljgcmbliaaDoor
