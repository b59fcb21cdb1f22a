/- The functions' Lean twins and contracts, printed by this session's own program: part 2. -/
import Derived.Test.YteboiefnflipjaaGreatDoorG1
namespace Go.Proofs.YteboiefnflipjaaGreatDoor
open _root_.Go.Proofs.Tryz
open Go Go.RowKit Go.Proofs
set_option maxRecDepth 100000
set_option maxHeartbeats 4000000
set_option linter.unusedVariables false
set_option linter.unusedSimpArgs false
def CK.b1 (x4 : Int) (x5 : Int) (x6 : List UInt8) : Option (Cn (List UInt8) (Int × Int × (List UInt8))) := (if (decide ((0 : Int) ≤ x5)) = true then (if (0 : Int) ≤ x5 ∧ x5 < 8 then some (.cont (IntKind.wrap .u64 (x4.tdiv 256), IntKind.wrap .i64 (x5 - 1), x6.set x5.toNat (B5 (IntKind.wrap .u8 (x4.tmod 256))))) else none) else some (.brk (x4, x5, x6)))
def CK (a_0 : Int) (a_1 : Int) : Option (List UInt8) := ((Bu (fun s : Int × Int × (List UInt8) => CK.b1 s.1 s.2.1 s.2.2) (((IntKind.wrap .i64 (a_1 - 1)) - 0 : Int).toNat + 2) (a_0, IntKind.wrap .i64 (a_1 - 1), (List.replicate 8 0))).bind fun cr => match cr with | .ret r => some r | .next (y18, y19, y20) => (if (0 : Int) ≤ 0 ∧ (0 : Int) ≤ a_1 ∧ a_1 ≤ 8 ∧ (0 : Int) < 8 then (if (a_1 : Int).toNat - (0 : Int).toNat ≤ 8 then some (y20.take ((a_1 : Int).toNat - (0 : Int).toNat)) else none) else none))
theorem Em {a_0 : Int} {a_1 : Int} {r : (List UInt8)} (hF : CK a_0 a_1 = some r) : AH prog KG 73 [(Ag .u64 a_0), (Ag .i64 a_1)] [] (fun _ => []) (Br r) := by
 refine AH.intro 23 func73 rfl ntmps73 (Nat.le_of_ble_eq_true rfl) ?_
 intro c a w hG hn h
 unfold CK at hF
 change AA c [.slot 0 (Ag .u64 a_0), .slot 1 (Ag .i64 a_1)] a w at h
 refine As mixed hn hG h [0, 1] (ov [] (Ae (D2 (sc _ (by decide)))) .nil) fun _ a w h => ?_
 refine As mixed hn hG h [0, 1, 501, 500] (ob [] (AR zeroValue216 QZ) .nil) fun b1 a w h => ?_
 refine wp_seq ?_
 refine As mixed hn hG h [0, 1, 2, 500, 3] (ov [1] (Ab q0) <| ov [500] (Ak CX q0 qi) <| ov [500] (Ae q0) .nil) fun _ a w h => ?_
 refine wp_block ?_
 obtain ⟨cr14, hl15, hF⟩ := bind_some hF
 refine wp_mono (Bx (R := (List UInt8)) (S := Int × Int × (List UInt8)) (fun s a w => AA c [.slot 0 (Ag .u64 s.1), .slot 1 (Ag .i64 a_1), .slot 5 (Av (b1 0) 0), .slot 6 (Ag .i64 s.2.1), .res (lb (b1 0) 216 [Af 8 s.2.2])] a w) (fun res e a w => match res with | .next s => e = .exit 0 ∧ AA c [.slot 1 (Ag .i64 a_1), .slot 5 (Av (b1 0) 0), .res (lb (b1 0) 216 [Af 8 s.2.2])] a w | .ret r => e = .ret ∧ Cu prog f73 c (Br r) (fun _ => []) a w) ?_ _ (a_0, IntKind.wrap .i64 (a_1 - 1), (List.replicate 8 0)) _ _ _ (h.sub [0, 1, 2, 3, 4] (by rfl)) hl15) ?_
 ·clear hl15 hF h
  intro s a w o h hF
  obtain ⟨x4, x5, x6⟩ := s
  change CK.b1 x4 x5 x6 = some o at hF
  unfold CK.b1 at hF
  change AA c [.slot 0 (Ag .u64 x4), .slot 1 (Ag .i64 a_1), .slot 5 (Av (b1 0) 0), .slot 6 (Ag .i64 x5), .res (lb (b1 0) 216 [Af 8 x6])] a w at h
  refine wp_seq ?_
  refine As mixed hn hG h [0, 1, 2, 3, 500, 4] (ov [3] (Ab q0) <| ov [500] (Ak Ef q0 qi) .nil) fun _ a w h => ?_
  refine CC h hF 4 [0, 1, 2, 3, 5] [0, 1, 2, 3, 5] (fun hb12 hF h => ?_) (fun hb12 hF h => ?_)
  ·refine wp_skip ?_
   show Code.wp prog _ _ a w
   refine wp_seq ?_
   refine wp_block ?_
   obtain ⟨hv13, hF⟩ := AF hF
   refine As mixed hn hG h [0, 1, 2, 3, 500] (ov [3] (Ab q0) <| ov [0] (Ab q0) <| ov [500] (Ak (DH (by decide)) q0 qi) <| ov [500] (A3 underlying24 underlying5 q0) <| ov [2, 503] (AM underlying216 sizeOf5 q0 q1 hv13) <| ou [500, 501] 4 (Fe (i := x5) [] [] sizeOf5 q0 q1 rfl hv13) .nil) fun _ a w h => ?_
   refine Cd mixed hn hG h [500, 1, 2, 3, 4] (ov [0] (Ab q0) <| ov [500] (Ak (FH (by decide)) q0 qi) <| od [500] 0 (Ae q0) .nil) fun _ a w h => ?_
   show Code.wp prog _ _ a w
   refine Cd mixed hn hG h [0, 1, 2, 500, 4] (ov [3] (Ab q0) <| ov [500] (Ak CX q0 qi) <| od [500] 3 (Ae q0) .nil) fun _ a w h => ?_
   obtain rfl := Option.some.inj hF
   exact ⟨rfl, h.sub [0, 1, 2, 3, 4] (by rfl)⟩
  ·refine wp_exit ?_
   obtain rfl := Option.some.inj hF
   exact ⟨BK _, rfl, h.sub [1, 2, 4] (by rfl)⟩
 ·clear hl15
  intro e a w hq
  cases cr14 with
  | ret r16 =>
   obtain ⟨rfl, hq⟩ := hq
   obtain rfl := Option.some.inj hF
   exact ⟨.inl rfl, hq⟩
  | next s17 =>
   obtain ⟨y18, y19, y20⟩ := s17
   obtain ⟨rfl, h⟩ := hq
   change AA c [.slot 1 (Ag .i64 a_1), .slot 5 (Av (b1 0) 0), .res (lb (b1 0) 216 [Af 8 y20])] a w at h
   refine Bd ?_
   show Code.wp prog _ _ a w
   obtain ⟨hv21, hF⟩ := AF hF
   obtain ⟨hv22, hF⟩ := AF hF
   refine As mixed hn hG h [500] (ov [0] (Ab q0) <| ov [1, 500] (EC (a := 0) (b := a_1) underlying216 sizeOf5 q0 rfl ⟨_, q1⟩ hv21) <| ov [500, 2] (Gr [] [] 1 underlying207 underlying5 underlying9 q0 rfl rfl hv22 (by decide)) <| ov [500] (Ae q0) .nil) fun _ a w h => ?_
   refine wp_ret ?_
   obtain rfl := Option.some.inj hF
   exact ⟨.inl rfl, BW h results73 (Ba 0 rfl) [] [] rfl rfl rfl⟩

def EB (a_0 : List UInt8) : Option (List UInt8) := ((CK (IntKind.wrap .u64 (a_0.length : Int)) 4).bind fun r1 => (if r1.length + a_0.length ≤ CW then some (r1 ++ a_0) else none))
theorem FF {a_0 : List UInt8} {r : (List UInt8)} (hF : EB a_0 = some r) : AH prog KG 74 [(Br a_0)] [] (fun _ => []) (Br r) := by
 refine AH.intro 9 func74 rfl ntmps74 (Nat.le_of_ble_eq_true rfl) ?_
 intro c a w hG hn h
 unfold EB at hF
 change AA c [.slot 0 (Br a_0)] a w at h
 refine As mixed hn hG h [0] (ov [] (Ae (D2 (sc _ (by decide)))) .nil) fun _ a w h => ?_
 obtain ⟨r1, hr1, hF⟩ := bind_some hF
 obtain ⟨hv2, hF⟩ := AF hF
 refine As mixed hn hG h [500] (ov [0] (Ab q0) <| ov [500] (ED underlying9 q0) <| ov [500] (A3 underlying3 underlying24 q0) <| oc [500] [] call73 (Em hr1) ⟨q0, qi, trivial⟩ <| ov [0] (Ab q0) <| ov [501, 500] (Ak (DN hv2) q0 q1) <| ov [500] (Ae q0) .nil) fun _ a w h => ?_
 refine wp_ret ?_
 obtain rfl := Option.some.inj hF
 exact ⟨.inl rfl, BW h results74 (Ba 0 rfl) [] [] rfl rfl rfl⟩

def Dd.b1 (a_1 : List (List UInt8)) (x5 : List UInt8) (x6 : Int) : Option (Cn (List UInt8) ((List UInt8) × Int)) := (if (decide (x6 < (a_1.length : Int))) = true then (if (0 : Int) ≤ x6 ∧ x6 < a_1.length then ((EB (a_1.getD x6.toNat default)).bind fun r15 => (if x5.length + r15.length ≤ CW then some (.cont (x5 ++ r15, IntKind.wrap .i64 (x6 + 1))) else none)) else none) else some (.brk (x5, x6)))
def Dd (a_0 : Int) (a_1 : List (List UInt8)) : Option (List UInt8) := ((Bu (fun s : (List UInt8) × Int => Dd.b1 a_1 s.1 s.2) (((a_1.length : Int) - 0 : Int).toNat + 2) ([B5 a_0], 0)).bind fun cr => match cr with | .ret r => some r | .next (y21, y22) => some y21)
theorem J8 {a_0 : Int} {a_1 : List (List UInt8)} {r : (List UInt8)} (hF : Dd a_0 a_1 = some r) : AH prog KG 70 [(Ag .u8 a_0), (AJ Ed a_1)] [] (fun _ => []) (Br r) := by
 refine AH.intro 23 func70 rfl ntmps70 (Nat.le_of_ble_eq_true rfl) ?_
 intro c a w hG hn h
 unfold Dd at hF
 change AA c [.slot 0 (Ag .u8 a_0), .slot 1 (AJ Ed a_1)] a w at h
 refine As mixed hn hG h [0, 1] (ov [] (Ae (D2 (sc _ (by decide)))) .nil) fun _ a w h => ?_
 refine As mixed hn hG h [1, 500] (ov [0] (Ab q0) <| ov [500] (CP (xs := [.tmp 8]) (ys := [B5 a_0]) _ rfl underlying207 sizeOf5 zeroValue5 rfl rfl (by decide) (by decide) ⟨⟨_, q0, (Fo _)⟩, trivial⟩ D0) <| ov [500] (Hw underlying207 underlying5 underlying9 q0) <| ov [500] (Ae q0) .nil) fun _ a w h => ?_
 refine wp_seq ?_
 refine As mixed hn hG h [1, 502, 501, 500] (ov [0] (Ab q0) <| ov [500] (A6 underlying22 q0) <| ov [] (Ab qi) .nil) fun _ a w h => ?_
 refine wp_block ?_
 obtain ⟨cr17, hl18, hF⟩ := bind_some hF
 refine wp_mono (Bx (R := (List UInt8)) (S := (List UInt8) × Int) (fun s a w => AA c [.slot 5 (Br s.1), .slot 11 (AJ Ed a_1), .slot 12 (Ag .i64 (a_1.length : Int)), .slot 13 (Ag .i64 s.2)] a w) (fun res e a w => match res with | .next s => e = .exit 0 ∧ AA c [.slot 5 (Br s.1)] a w | .ret r => e = .ret ∧ Cu prog f70 c (Br r) (fun _ => []) a w) ?_ _ ([B5 a_0], 0) _ _ _ (h.sub [0, 1, 2, 3] (by rfl)) hl18) ?_
 ·clear hl18 hF h
  intro s a w o h hF
  obtain ⟨x5, x6⟩ := s
  change Dd.b1 a_1 x5 x6 = some o at hF
  unfold Dd.b1 at hF
  change AA c [.slot 5 (Br x5), .slot 11 (AJ Ed a_1), .slot 12 (Ag .i64 (a_1.length : Int)), .slot 13 (Ag .i64 x6)] a w at h
  refine As mixed hn hG h [0, 1, 2, 3, 500] (ov [3, 2] (Ak Bl q0 q1) .nil) fun _ a w h => ?_
  refine wp_seq ?_
  refine CC h hF 4 [0, 1, 2, 3] [0, 1, 2, 3] (fun hb13 hF h => ?_) (fun hb13 hF h => ?_)
  ·refine wp_skip ?_
   show Code.wp prog _ _ a w
   refine wp_seq ?_
   refine wp_block ?_
   obtain ⟨hv14, hF⟩ := AF hF
   refine As mixed hn hG h [0, 500, 1, 2, 3] (ov [1, 3] (AS underlying22 sizeOf9 CF q0 q1 hv14) <| ov [500] (Ds [] isAgg9 q0) <| ov [500] (Ae q0) .nil) fun _ a w h => ?_
   obtain ⟨r15, hr15, hF⟩ := bind_some hF
   obtain ⟨hv16, hF⟩ := AF hF
   refine Cd mixed hn hG h [500, 2, 3, 4] (ov [0] (Ab q0) <| ov [1] (Ab q0) <| oc [500] [] call74 (FF hr15) ⟨q0, trivial⟩ <| ov [502, 500] (Ak (DN hv16) q0 q1) <| od [500] 0 (Ae q0) .nil) fun _ a w h => ?_
   show Code.wp prog _ _ a w
   refine Cd mixed hn hG h [0, 1, 2, 500] (ov [3] (Ak A9 q0 qi) <| od [500] 3 (Ab q0) .nil) fun _ a w h => ?_
   obtain rfl := Option.some.inj hF
   exact ⟨rfl, h.sub [0, 1, 2, 3] (by rfl)⟩
  ·refine wp_exit ?_
   obtain rfl := Option.some.inj hF
   exact ⟨BK _, rfl, h.sub [0] (by rfl)⟩
 ·clear hl18
  intro e a w hq
  cases cr17 with
  | ret r19 =>
   obtain ⟨rfl, hq⟩ := hq
   obtain rfl := Option.some.inj hF
   exact ⟨.inl rfl, hq⟩
  | next s20 =>
   obtain ⟨y21, y22⟩ := s20
   obtain ⟨rfl, h⟩ := hq
   change AA c [.slot 5 (Br y21)] a w at h
   refine Bd ?_
   show Code.wp prog _ _ a w
   refine As mixed hn hG h [500] (ov [0] (Ab q0) <| ov [500] (Ae q0) .nil) fun _ a w h => ?_
   refine wp_ret ?_
   obtain rfl := Option.some.inj hF
   exact ⟨.inl rfl, BW h results70 (Ba 0 rfl) [] [] rfl rfl rfl⟩

def EU : Option (List Int) := some ([1116352408, 1899447441, 3049323471, 3921009573, 961987163, 1508970993, 2453635748, 2870763221, 3624381080, 310598401, 607225278, 1426881987, 1925078388, 2162078206, 2614888103, 3248222580, 3835390401, 4022224774, 264347078, 604807628, 770255983, 1249150122, 1555081692, 1996064986, 2554220882, 2821834349, 2952996808, 3210313671, 3336571891, 3584528711, 113926993, 338241895, 666307205, 773529912, 1294757372, 1396182291, 1695183700, 1986661051, 2177026350, 2456956037, 2730485921, 2820302411, 3259730800, 3345764771, 3516065817, 3600352804, 4094571909, 275423344, 430227734, 506948616, 659060556, 883997877, 958139571, 1322822218, 1537002063, 1747873779, 1955562222, 2024104815, 2227730452, 2361852424, 2428436474, 2756734187, 3204031479, 3329325298] ++ List.replicate (64 - 64) 0)
theorem H6 {r : (List Int)} (hF : EU = some r) : AH prog KG 138 [] [] (fun _ => []) (Au [AY .u32 64 r]) := by
 refine AH.intro 2 func138 rfl ntmps138 (Nat.le_of_ble_eq_true rfl) ?_
 intro c a w hG hn h
 unfold EU at hF
 change AA c [] a w at h
 refine As mixed hn hG h [501, 500] (ob [] (AR zeroValue262 NX) .nil) fun b1 a w h => ?_
 refine As mixed hn hG h [0, 500] (ov [] (I6 (xs := [.const (.int .u32 1116352408), .const (.int .u32 1899447441), .const (.int .u32 3049323471), .const (.int .u32 3921009573), .const (.int .u32 961987163), .const (.int .u32 1508970993), .const (.int .u32 2453635748), .const (.int .u32 2870763221), .const (.int .u32 3624381080), .const (.int .u32 310598401), .const (.int .u32 607225278), .const (.int .u32 1426881987), .const (.int .u32 1925078388), .const (.int .u32 2162078206), .const (.int .u32 2614888103), .const (.int .u32 3248222580), .const (.int .u32 3835390401), .const (.int .u32 4022224774), .const (.int .u32 264347078), .const (.int .u32 604807628), .const (.int .u32 770255983), .const (.int .u32 1249150122), .const (.int .u32 1555081692), .const (.int .u32 1996064986), .const (.int .u32 2554220882), .const (.int .u32 2821834349), .const (.int .u32 2952996808), .const (.int .u32 3210313671), .const (.int .u32 3336571891), .const (.int .u32 3584528711), .const (.int .u32 113926993), .const (.int .u32 338241895), .const (.int .u32 666307205), .const (.int .u32 773529912), .const (.int .u32 1294757372), .const (.int .u32 1396182291), .const (.int .u32 1695183700), .const (.int .u32 1986661051), .const (.int .u32 2177026350), .const (.int .u32 2456956037), .const (.int .u32 2730485921), .const (.int .u32 2820302411), .const (.int .u32 3259730800), .const (.int .u32 3345764771), .const (.int .u32 3516065817), .const (.int .u32 3600352804), .const (.int .u32 4094571909), .const (.int .u32 275423344), .const (.int .u32 430227734), .const (.int .u32 506948616), .const (.int .u32 659060556), .const (.int .u32 883997877), .const (.int .u32 958139571), .const (.int .u32 1322822218), .const (.int .u32 1537002063), .const (.int .u32 1747873779), .const (.int .u32 1955562222), .const (.int .u32 2024104815), .const (.int .u32 2227730452), .const (.int .u32 2361852424), .const (.int .u32 2428436474), .const (.int .u32 2756734187), .const (.int .u32 3204031479), .const (.int .u32 3329325298)]) (ys := [1116352408, 1899447441, 3049323471, 3921009573, 961987163, 1508970993, 2453635748, 2870763221, 3624381080, 310598401, 607225278, 1426881987, 1925078388, 2162078206, 2614888103, 3248222580, 3835390401, 4022224774, 264347078, 604807628, 770255983, 1249150122, 1555081692, 1996064986, 2554220882, 2821834349, 2952996808, 3210313671, 3336571891, 3584528711, 113926993, 338241895, 666307205, 773529912, 1294757372, 1396182291, 1695183700, 1986661051, 2177026350, 2456956037, 2730485921, 2820302411, 3259730800, 3345764771, 3516065817, 3600352804, 4094571909, 275423344, 430227734, 506948616, 659060556, 883997877, 958139571, 1322822218, 1537002063, 1747873779, 1955562222, 2024104815, 2227730452, 2361852424, 2428436474, 2756734187, 3204031479, 3329325298]) rfl R9 ⟨⟨_, qi, (AG (A8 _ _))⟩, ⟨_, qi, (AG (A8 _ _))⟩, ⟨_, qi, (AG (A8 _ _))⟩, ⟨_, qi, (AG (A8 _ _))⟩, ⟨_, qi, (AG (A8 _ _))⟩, ⟨_, qi, (AG (A8 _ _))⟩, ⟨_, qi, (AG (A8 _ _))⟩, ⟨_, qi, (AG (A8 _ _))⟩, ⟨_, qi, (AG (A8 _ _))⟩, ⟨_, qi, (AG (A8 _ _))⟩, ⟨_, qi, (AG (A8 _ _))⟩, ⟨_, qi, (AG (A8 _ _))⟩, ⟨_, qi, (AG (A8 _ _))⟩, ⟨_, qi, (AG (A8 _ _))⟩, ⟨_, qi, (AG (A8 _ _))⟩, ⟨_, qi, (AG (A8 _ _))⟩, ⟨_, qi, (AG (A8 _ _))⟩, ⟨_, qi, (AG (A8 _ _))⟩, ⟨_, qi, (AG (A8 _ _))⟩, ⟨_, qi, (AG (A8 _ _))⟩, ⟨_, qi, (AG (A8 _ _))⟩, ⟨_, qi, (AG (A8 _ _))⟩, ⟨_, qi, (AG (A8 _ _))⟩, ⟨_, qi, (AG (A8 _ _))⟩, ⟨_, qi, (AG (A8 _ _))⟩, ⟨_, qi, (AG (A8 _ _))⟩, ⟨_, qi, (AG (A8 _ _))⟩, ⟨_, qi, (AG (A8 _ _))⟩, ⟨_, qi, (AG (A8 _ _))⟩, ⟨_, qi, (AG (A8 _ _))⟩, ⟨_, qi, (AG (A8 _ _))⟩, ⟨_, qi, (AG (A8 _ _))⟩, ⟨_, qi, (AG (A8 _ _))⟩, ⟨_, qi, (AG (A8 _ _))⟩, ⟨_, qi, (AG (A8 _ _))⟩, ⟨_, qi, (AG (A8 _ _))⟩, ⟨_, qi, (AG (A8 _ _))⟩, ⟨_, qi, (AG (A8 _ _))⟩, ⟨_, qi, (AG (A8 _ _))⟩, ⟨_, qi, (AG (A8 _ _))⟩, ⟨_, qi, (AG (A8 _ _))⟩, ⟨_, qi, (AG (A8 _ _))⟩, ⟨_, qi, (AG (A8 _ _))⟩, ⟨_, qi, (AG (A8 _ _))⟩, ⟨_, qi, (AG (A8 _ _))⟩, ⟨_, qi, (AG (A8 _ _))⟩, ⟨_, qi, (AG (A8 _ _))⟩, ⟨_, qi, (AG (A8 _ _))⟩, ⟨_, qi, (AG (A8 _ _))⟩, ⟨_, qi, (AG (A8 _ _))⟩, ⟨_, qi, (AG (A8 _ _))⟩, ⟨_, qi, (AG (A8 _ _))⟩, ⟨_, qi, (AG (A8 _ _))⟩, ⟨_, qi, (AG (A8 _ _))⟩, ⟨_, qi, (AG (A8 _ _))⟩, ⟨_, qi, (AG (A8 _ _))⟩, ⟨_, qi, (AG (A8 _ _))⟩, ⟨_, qi, (AG (A8 _ _))⟩, ⟨_, qi, (AG (A8 _ _))⟩, ⟨_, qi, (AG (A8 _ _))⟩, ⟨_, qi, (AG (A8 _ _))⟩, ⟨_, qi, (AG (A8 _ _))⟩, ⟨_, qi, (AG (A8 _ _))⟩, ⟨_, qi, (AG (A8 _ _))⟩, trivial⟩ (by decide) rfl) <| ou [0, 500] 1 (Aq sizeOf262 q0 q1 (Ai _)) .nil) fun _ a w h => ?_
 refine wp_ret ?_
 obtain rfl := Option.some.inj hF
 exact ⟨.inl rfl, BW h results138 (Be 0 1 rfl rfl isAgg262 sizeOf262 rfl) [] [] rfl rfl rfl⟩

def BH (a_0 : Int) (a_1 : Int) : Option Int := some (bits .or .u32 (shr .u32 a_0 a_1) (shl .u32 a_0 (IntKind.wrap .u64 (32 - a_1))))
theorem Dh {a_0 : Int} {a_1 : Int} {r : Int} (hF : BH a_0 a_1 = some r) : AH prog KG 139 [(Ag .u32 a_0), (Ag .u64 a_1)] [] (fun _ => []) (Ag .u32 r) := by
 refine AH.intro 13 func139 rfl ntmps139 (Nat.le_of_ble_eq_true rfl) ?_
 intro c a w hG hn h
 unfold BH at hF
 change AA c [.slot 0 (Ag .u32 a_0), .slot 1 (Ag .u64 a_1)] a w at h
 refine As mixed hn hG h [0, 1] (ov [] (Ae qi) .nil) fun _ a w h => ?_
 refine As mixed hn hG h [500] (ov [0] (Ab q0) <| ov [1] (Ab q0) <| ov [501, 500] (Ak (Fp rfl) q0 q1) <| ov [0] (Ab q0) <| ov [1] (Ab q0) <| ov [500] (Ak CX qi q0) <| ov [502, 500] (Ak (HG rfl) q0 q1) <| ov [504, 500] (Ak KC q0 q1) <| ov [500] (Ae q0) .nil) fun _ a w h => ?_
 refine wp_ret ?_
 obtain rfl := Option.some.inj hF
 exact ⟨.inl rfl, BW h results139 (Ba 0 rfl) [] [] rfl rfl rfl⟩

def By.b1 (a_1 : List (UInt8)) (x12 : Int) (x13 : List Int) : Option (Cn (List Int) (Int × (List Int))) := (if (decide (x12 < (16 : Int))) = true then (if (0 : Int) ≤ IntKind.wrap .i64 (4 * x12) ∧ IntKind.wrap .i64 (4 * x12) < a_1.length then (if (0 : Int) ≤ IntKind.wrap .i64 ((IntKind.wrap .i64 (4 * x12)) + 1) ∧ IntKind.wrap .i64 ((IntKind.wrap .i64 (4 * x12)) + 1) < a_1.length then (if (0 : Int) ≤ IntKind.wrap .i64 ((IntKind.wrap .i64 (4 * x12)) + 2) ∧ IntKind.wrap .i64 ((IntKind.wrap .i64 (4 * x12)) + 2) < a_1.length then (if (0 : Int) ≤ IntKind.wrap .i64 ((IntKind.wrap .i64 (4 * x12)) + 3) ∧ IntKind.wrap .i64 ((IntKind.wrap .i64 (4 * x12)) + 3) < a_1.length then (if (0 : Int) ≤ x12 ∧ x12 < 64 then some (.cont (IntKind.wrap .i64 (x12 + 1), x13.set x12.toNat (IntKind.wrap .u32 ((IntKind.wrap .u32 ((IntKind.wrap .u32 ((IntKind.wrap .u32 ((IntKind.wrap .u32 ((a_1.getD (IntKind.wrap .i64 (4 * x12)).toNat default).toNat)) * 16777216)) + (IntKind.wrap .u32 ((IntKind.wrap .u32 ((a_1.getD (IntKind.wrap .i64 ((IntKind.wrap .i64 (4 * x12)) + 1)).toNat default).toNat)) * 65536)))) + (IntKind.wrap .u32 ((IntKind.wrap .u32 ((a_1.getD (IntKind.wrap .i64 ((IntKind.wrap .i64 (4 * x12)) + 2)).toNat default).toNat)) * 256)))) + (IntKind.wrap .u32 ((a_1.getD (IntKind.wrap .i64 ((IntKind.wrap .i64 (4 * x12)) + 3)).toNat default).toNat)))))) else none) else none) else none) else none) else none) else some (.brk (x12, x13)))
def By.b2 (x43 : Int) (x44 : List Int) : Option (Cn (List Int) (Int × (List Int))) := (if (decide (x43 < (64 : Int))) = true then (if (0 : Int) ≤ IntKind.wrap .i64 (x43 - 15) ∧ IntKind.wrap .i64 (x43 - 15) < 64 then ((BH (x44.getD (IntKind.wrap .i64 (x43 - 15)).toNat 0) 7).bind fun r59 => ((BH (x44.getD (IntKind.wrap .i64 (x43 - 15)).toNat 0) 18).bind fun r60 => (if (0 : Int) ≤ IntKind.wrap .i64 (x43 - 2) ∧ IntKind.wrap .i64 (x43 - 2) < 64 then ((BH (x44.getD (IntKind.wrap .i64 (x43 - 2)).toNat 0) 17).bind fun r62 => ((BH (x44.getD (IntKind.wrap .i64 (x43 - 2)).toNat 0) 19).bind fun r63 => (if (0 : Int) ≤ IntKind.wrap .i64 (x43 - 16) ∧ IntKind.wrap .i64 (x43 - 16) < 64 then (if (0 : Int) ≤ IntKind.wrap .i64 (x43 - 7) ∧ IntKind.wrap .i64 (x43 - 7) < 64 then (if (0 : Int) ≤ x43 ∧ x43 < 64 then some (.cont (IntKind.wrap .i64 (x43 + 1), x44.set x43.toNat (IntKind.wrap .u32 ((IntKind.wrap .u32 ((IntKind.wrap .u32 ((x44.getD (IntKind.wrap .i64 (x43 - 16)).toNat 0) + (bits .xor .u32 (bits .xor .u32 r59 r60) (shr .u32 (x44.getD (IntKind.wrap .i64 (x43 - 15)).toNat 0) 3)))) + (x44.getD (IntKind.wrap .i64 (x43 - 7)).toNat 0))) + (bits .xor .u32 (bits .xor .u32 r62 r63) (shr .u32 (x44.getD (IntKind.wrap .i64 (x43 - 2)).toNat 0) 10)))))) else none) else none) else none))) else none))) else none) else some (.brk (x43, x44)))
def By.b3 (r4 : (List Int)) (y72 : List Int) (x80 : Int) (x81 : Int) (x82 : Int) (x83 : Int) (x84 : Int) (x85 : Int) (x86 : Int) (x87 : Int) (x88 : Int) : Option (Cn (List Int) (Int × Int × Int × Int × Int × Int × Int × Int × Int)) := (if (decide (x88 < (64 : Int))) = true then ((BH x84 6).bind fun r107 => ((BH x84 11).bind fun r108 => ((BH x84 25).bind fun r109 => (if (0 : Int) ≤ x88 ∧ x88 < 64 then ((BH x80 2).bind fun r111 => ((BH x80 13).bind fun r112 => ((BH x80 22).bind fun r113 => some (.cont (IntKind.wrap .u32 ((IntKind.wrap .u32 ((IntKind.wrap .u32 ((IntKind.wrap .u32 ((IntKind.wrap .u32 (x87 + (bits .xor .u32 (bits .xor .u32 r107 r108) r109))) + (bits .xor .u32 (bits .and .u32 x84 x85) (bits .and .u32 (bits .xor .u32 4294967295 x84) x86)))) + (r4.getD x88.toNat 0))) + (y72.getD x88.toNat 0))) + (IntKind.wrap .u32 ((bits .xor .u32 (bits .xor .u32 r111 r112) r113) + (bits .xor .u32 (bits .xor .u32 (bits .and .u32 x80 x81) (bits .and .u32 x80 x82)) (bits .and .u32 x81 x82))))), x80, x81, x82, IntKind.wrap .u32 (x83 + (IntKind.wrap .u32 ((IntKind.wrap .u32 ((IntKind.wrap .u32 ((IntKind.wrap .u32 (x87 + (bits .xor .u32 (bits .xor .u32 r107 r108) r109))) + (bits .xor .u32 (bits .and .u32 x84 x85) (bits .and .u32 (bits .xor .u32 4294967295 x84) x86)))) + (r4.getD x88.toNat 0))) + (y72.getD x88.toNat 0)))), x84, x85, x86, IntKind.wrap .i64 (x88 + 1)))))) else none)))) else some (.brk (x80, x81, x82, x83, x84, x85, x86, x87, x88)))
def By (a_0 : List Int) (a_1 : List (UInt8)) : Option (List Int) := (if (!decide ((a_1.length : Int) = (64 : Int))) = true then some a_0 else ((EU).bind fun r4 => ((Bu (fun s : Int × (List Int) => By.b1 a_1 s.1 s.2) ((16 - 0 : Int).toNat + 2) (0, (List.replicate 64 0))).bind fun cr => match cr with | .ret r => some r | .next (y32, y33) => ((Bu (fun s : Int × (List Int) => By.b2 s.1 s.2) ((64 - 16 : Int).toNat + 2) (16, y33)).bind fun cr => match cr with | .ret r => some r | .next (y71, y72) => ((Bu (fun s : Int × Int × Int × Int × Int × Int × Int × Int × Int => By.b3 r4 y72 s.1 s.2.1 s.2.2.1 s.2.2.2.1 s.2.2.2.2.1 s.2.2.2.2.2.1 s.2.2.2.2.2.2.1 s.2.2.2.2.2.2.2.1 s.2.2.2.2.2.2.2.2) ((64 - 0 : Int).toNat + 2) (a_0.getD (0 : Int).toNat 0, a_0.getD (1 : Int).toNat 0, a_0.getD (2 : Int).toNat 0, a_0.getD (3 : Int).toNat 0, a_0.getD (4 : Int).toNat 0, a_0.getD (5 : Int).toNat 0, a_0.getD (6 : Int).toNat 0, a_0.getD (7 : Int).toNat 0, 0)).bind fun cr => match cr with | .ret r => some r | .next (y118, y119, y120, y121, y122, y123, y124, y125, y126) => some ([IntKind.wrap .u32 ((a_0.getD (0 : Int).toNat 0) + y118), IntKind.wrap .u32 ((a_0.getD (1 : Int).toNat 0) + y119), IntKind.wrap .u32 ((a_0.getD (2 : Int).toNat 0) + y120), IntKind.wrap .u32 ((a_0.getD (3 : Int).toNat 0) + y121), IntKind.wrap .u32 ((a_0.getD (4 : Int).toNat 0) + y122), IntKind.wrap .u32 ((a_0.getD (5 : Int).toNat 0) + y123), IntKind.wrap .u32 ((a_0.getD (6 : Int).toNat 0) + y124), IntKind.wrap .u32 ((a_0.getD (7 : Int).toNat 0) + y125)] ++ List.replicate (8 - 8) 0))))))
theorem Ka {a_0 : List Int} {a_1 : List (UInt8)} {r : (List Int)} (hF : By a_0 a_1 = some r) : AH prog KG 126 [(Au [AY .u32 8 a_0]), (AJ bC a_1)] [] (fun _ => []) (Au [AY .u32 8 r]) := by
 refine AH.intro 231 func126 rfl ntmps126 (Nat.le_of_ble_eq_true rfl) ?_
 intro c a w hG hn h
 unfold By at hF
 change AA c [.slot 0 (Au [AY .u32 8 a_0]), .slot 1 (AJ bC a_1)] a w at h
 refine As mixed hn hG h [1, 503, 501, 502, 500] (ob [0] (Bc q0 (Ai _)) <| ob [] (AR zeroValue208 z208) .nil) fun b1 a w h => ?_
 refine wp_seq ?_
 refine As mixed hn hG h [0, 1, 2, 500, 3, 4] (ov [0] (Ab q0) <| ov [500] (A6 underlying207 q0) <| ov [500] (Ak Bg q0 qi) .nil) fun _ a w h => ?_
 refine CC h hF 3 [1, 2, 4, 5] [0, 1, 2, 4, 5] (fun hb3 hF h => ?_) (fun hb3 hF h => ?_)
 ·refine As mixed hn hG h [1, 500] (ov [0, 2] (An 1 isAgg208 sizeOf208 q0) <| ou [1, 500] 3 (Aq sizeOf208 q0 q1 (Ai _)) .nil) fun _ a w h => ?_
  refine wp_ret ?_
  obtain rfl := Option.some.inj hF
  exact ⟨.inl rfl, BW h results126 (Be 0 1 rfl rfl isAgg208 sizeOf208 rfl) [] [] rfl rfl rfl⟩
 ·refine wp_skip ?_
  show Code.wp prog _ _ a w
  obtain ⟨r4, hr4, hF⟩ := bind_some hF
  refine As mixed hn hG h [0, 1, 2, 502, 3, 4, 500] (oc [] [] call138 (H6 hr4) trivial <| ob [] (AR zeroValue262 NX) <| og [501, 502] [500] [.res 1 100000 (fun v1_ _ => (lb (v1_) 262 [AY .u32 64 r4]))] (AB.plain (Aq sizeOf262 q0 q1 (Ai _)) rfl) .nil) fun b5 a w h => ?_
  refine As mixed hn hG h [0, 1, 2, 3, 501, 4, 5, 6, 500] (ob [] (AR zeroValue262 NX) .nil) fun b6 a w h => ?_
  refine wp_seq ?_
  refine As mixed hn hG h [0, 1, 2, 3, 4, 500, 5, 6, 7, 8] (ov [] (Ae qi) .nil) fun _ a w h => ?_
  refine wp_block ?_
  obtain ⟨cr28, hl29, hF⟩ := bind_some hF
  refine wp_mono (Bx (R := (List Int)) (S := Int × (List Int)) (fun s a w => AA c [.slot 1 (AJ bC a_1), .slot 2 (Av (b1 0) 0), .slot 4 (Av (b1 1) 0), .slot 5 (Av (b5 1) 0), .slot 6 (Av (b6 0) 0), .slot 7 (Ag .i64 s.1), .res (lb (b1 0) 208 [AY .u32 8 a_0]), .res (lb (b1 1) 208 [AY .u32 8 (List.replicate 8 0)]), .res (lb (b5 1) 262 [AY .u32 64 r4]), .res (lb (b6 0) 262 [AY .u32 64 s.2])] a w) (fun res e a w => match res with | .next s => e = .exit 0 ∧ AA c [.slot 2 (Av (b1 0) 0), .slot 4 (Av (b1 1) 0), .slot 5 (Av (b5 1) 0), .slot 6 (Av (b6 0) 0), .res (lb (b1 0) 208 [AY .u32 8 a_0]), .res (lb (b1 1) 208 [AY .u32 8 (List.replicate 8 0)]), .res (lb (b5 1) 262 [AY .u32 64 r4]), .res (lb (b6 0) 262 [AY .u32 64 s.2])] a w | .ret r => e = .ret ∧ Cu prog f126 c (Au [AY .u32 8 r]) (fun _ => []) a w) ?_ _ (0, (List.replicate 64 0)) _ _ _ (h.sub [0, 1, 2, 3, 4, 5, 6, 7, 8, 9] (by rfl)) hl29) ?_
  ·clear hl29 hF h
   intro s a w o h hF
   obtain ⟨x12, x13⟩ := s
   change By.b1 a_1 x12 x13 = some o at hF
   unfold By.b1 at hF
   change AA c [.slot 1 (AJ bC a_1), .slot 2 (Av (b1 0) 0), .slot 4 (Av (b1 1) 0), .slot 5 (Av (b5 1) 0), .slot 6 (Av (b6 0) 0), .slot 7 (Ag .i64 x12), .res (lb (b1 0) 208 [AY .u32 8 a_0]), .res (lb (b1 1) 208 [AY .u32 8 (List.replicate 8 0)]), .res (lb (b5 1) 262 [AY .u32 64 r4]), .res (lb (b6 0) 262 [AY .u32 64 x13])] a w at h
   refine wp_seq ?_
   refine As mixed hn hG h [0, 1, 2, 3, 4, 5, 500, 6, 7, 8, 9] (ov [5] (Ab q0) <| ov [500] (Ak Bl q0 qi) .nil) fun _ a w h => ?_
   refine CC h hF 6 [0, 1, 2, 3, 4, 5, 7, 8, 9, 10] [0, 1, 2, 3, 4, 5, 7, 8, 9, 10] (fun hb22 hF h => ?_) (fun hb22 hF h => ?_)
   ·refine wp_skip ?_
    show Code.wp prog _ _ a w
    refine wp_seq ?_
    refine wp_block ?_
    obtain ⟨hv23, hF⟩ := AF hF
    obtain ⟨hv24, hF⟩ := AF hF
    obtain ⟨hv25, hF⟩ := AF hF
    obtain ⟨hv26, hF⟩ := AF hF
    obtain ⟨hv27, hF⟩ := AF hF
    refine Cd mixed hn hG h [0, 1, 2, 3, 4, 5, 6, 7, 8, 500] (ov [5] (Ab q0) <| ov [0] (Ab q0) <| ov [5] (Ab q0) <| ov [500] (Ak DQ qi q0) <| ov [502, 500] (AS underlying207 sizeOf5 D0 q0 q1 hv23) <| ov [500] (Ds [] isAgg5 q0) <| ov [500] (A3 underlying5 underlying29 q0) <| ov [500] (Ak DQ q0 qi) <| ov [0] (Ab q0) <| ov [5] (Ab q0) <| ov [500] (Ak DQ qi q0) <| ov [500] (Ak A9 q0 qi) <| ov [503, 500] (AS underlying207 sizeOf5 D0 q0 q1 hv24) <| ov [500] (Ds [] isAgg5 q0) <| ov [500] (A3 underlying5 underlying29 q0) <| ov [500] (Ak DQ q0 qi) <| ov [508, 500] (Ak A9 q0 q1) <| ov [0] (Ab q0) <| ov [5] (Ab q0) <| ov [500] (Ak DQ qi q0) <| ov [500] (Ak A9 q0 qi) <| ov [503, 500] (AS underlying207 sizeOf5 D0 q0 q1 hv25) <| ov [500] (Ds [] isAgg5 q0) <| ov [500] (A3 underlying5 underlying29 q0) <| ov [500] (Ak DQ q0 qi) <| ov [508, 500] (Ak A9 q0 q1) <| ov [0] (Ab q0) <| ov [5] (Ab q0) <| ov [500] (Ak DQ qi q0) <| ov [500] (Ak A9 q0 qi) <| ov [503, 500] (AS underlying207 sizeOf5 D0 q0 q1 hv26) <| ov [500] (Ds [] isAgg5 q0) <| ov [500] (A3 underlying5 underlying29 q0) <| ov [507, 500] (Ak A9 q0 q1) <| ov [4, 533] (AM underlying262 sizeOf29 q0 q1 hv27) <| ou [500, 501] 9 (En (i := x12) [] [] sizeOf29 q0 q1 rfl hv27) .nil) fun _ a w h => ?_
    show Code.wp prog _ _ a w
    refine Cd mixed hn hG h [0, 1, 2, 3, 4, 500, 6, 7, 8, 9] (ov [5] (Ab q0) <| ov [500] (Ak A9 q0 qi) <| od [500] 5 (Ae q0) .nil) fun _ a w h => ?_
    obtain rfl := Option.some.inj hF
    exact ⟨rfl, h.sub [0, 1, 2, 3, 4, 5, 6, 7, 8, 9] (by rfl)⟩
   ·refine wp_exit ?_
    obtain rfl := Option.some.inj hF
    exact ⟨BK _, rfl, h.sub [1, 2, 3, 4, 6, 7, 8, 9] (by rfl)⟩
  ·clear hl29
   intro e a w hq
   cases cr28 with
   | ret r30 =>
    obtain ⟨rfl, hq⟩ := hq
    obtain rfl := Option.some.inj hF
    exact ⟨.inl rfl, hq⟩
   | next s31 =>
    obtain ⟨y32, y33⟩ := s31
    obtain ⟨rfl, h⟩ := hq
    change AA c [.slot 2 (Av (b1 0) 0), .slot 4 (Av (b1 1) 0), .slot 5 (Av (b5 1) 0), .slot 6 (Av (b6 0) 0), .res (lb (b1 0) 208 [AY .u32 8 a_0]), .res (lb (b1 1) 208 [AY .u32 8 (List.replicate 8 0)]), .res (lb (b5 1) 262 [AY .u32 64 r4]), .res (lb (b6 0) 262 [AY .u32 64 y33])] a w at h
    refine Bd ?_
    show Code.wp prog _ _ a w
    refine wp_seq ?_
    refine As mixed hn hG h [0, 1, 2, 3, 500, 4, 5, 6, 7] (ov [] (Ae qi) .nil) fun _ a w h => ?_
    refine wp_block ?_
    obtain ⟨cr67, hl68, hF⟩ := bind_some hF
    refine wp_mono (Bx (R := (List Int)) (S := Int × (List Int)) (fun s a w => AA c [.slot 2 (Av (b1 0) 0), .slot 4 (Av (b1 1) 0), .slot 5 (Av (b5 1) 0), .slot 6 (Av (b6 0) 0), .slot 8 (Ag .i64 s.1), .res (lb (b1 0) 208 [AY .u32 8 a_0]), .res (lb (b1 1) 208 [AY .u32 8 (List.replicate 8 0)]), .res (lb (b5 1) 262 [AY .u32 64 r4]), .res (lb (b6 0) 262 [AY .u32 64 s.2])] a w) (fun res e a w => match res with | .next s => e = .exit 2 ∧ AA c [.slot 2 (Av (b1 0) 0), .slot 4 (Av (b1 1) 0), .slot 5 (Av (b5 1) 0), .slot 6 (Av (b6 0) 0), .res (lb (b1 0) 208 [AY .u32 8 a_0]), .res (lb (b1 1) 208 [AY .u32 8 (List.replicate 8 0)]), .res (lb (b5 1) 262 [AY .u32 64 r4]), .res (lb (b6 0) 262 [AY .u32 64 s.2])] a w | .ret r => e = .ret ∧ Cu prog f126 c (Au [AY .u32 8 r]) (fun _ => []) a w) ?_ _ (16, y33) _ _ _ (h.sub [0, 1, 2, 3, 4, 5, 6, 7, 8] (by rfl)) hl68) ?_
    ·clear hl68 hF h
     intro s a w o h hF
     obtain ⟨x43, x44⟩ := s
     change By.b2 x43 x44 = some o at hF
     unfold By.b2 at hF
     change AA c [.slot 2 (Av (b1 0) 0), .slot 4 (Av (b1 1) 0), .slot 5 (Av (b5 1) 0), .slot 6 (Av (b6 0) 0), .slot 8 (Ag .i64 x43), .res (lb (b1 0) 208 [AY .u32 8 a_0]), .res (lb (b1 1) 208 [AY .u32 8 (List.replicate 8 0)]), .res (lb (b5 1) 262 [AY .u32 64 r4]), .res (lb (b6 0) 262 [AY .u32 64 x44])] a w at h
     refine wp_seq ?_
     refine As mixed hn hG h [0, 1, 2, 3, 4, 500, 5, 6, 7, 8] (ov [4] (Ab q0) <| ov [500] (Ak Bl q0 qi) .nil) fun _ a w h => ?_
     refine CC h hF 5 [0, 1, 2, 3, 4, 6, 7, 8, 9] [0, 1, 2, 3, 4, 6, 7, 8, 9] (fun hb57 hF h => ?_) (fun hb57 hF h => ?_)
     ·refine wp_skip ?_
      show Code.wp prog _ _ a w
      refine wp_seq ?_
      refine wp_block ?_
      obtain ⟨hv58, hF⟩ := AF hF
      obtain ⟨r59, hr59, hF⟩ := bind_some hF
      obtain ⟨r60, hr60, hF⟩ := bind_some hF
      refine As mixed hn hG h [0, 1, 2, 3, 4, 500, 5, 6, 7, 8] (ov [4] (Ab q0) <| ov [500] (Ak CX q0 qi) <| ov [3, 500] (AM underlying262 sizeOf29 q0 q1 hv58) <| ov [500, 8] (Bm (i := IntKind.wrap .i64 (x43 - 15)) [] [] 1 isAgg29 q0 rfl rfl hv58) <| oc [500] [] call139 (Dh hr59) ⟨q0, qi, trivial⟩ <| ov [4] (Ab q0) <| ov [500] (Ak CX q0 qi) <| ov [3, 500] (AM underlying262 sizeOf29 q0 q1 hv58) <| ov [500, 8] (Bm (i := IntKind.wrap .i64 (x43 - 15)) [] [] 1 isAgg29 q0 rfl rfl hv58) <| oc [500] [] call139 (Dh hr60) ⟨q0, qi, trivial⟩ <| ov [505, 500] (Ak Da q0 q1) <| ov [4] (Ab q0) <| ov [500] (Ak CX q0 qi) <| ov [3, 500] (AM underlying262 sizeOf29 q0 q1 hv58) <| ov [500, 8] (Bm (i := IntKind.wrap .i64 (x43 - 15)) [] [] 1 isAgg29 q0 rfl rfl hv58) <| ov [500] (Ak (Fp rfl) q0 qi) <| ov [505, 500] (Ak Da q0 q1) <| ov [500] (Ae q0) .nil) fun _ a w h => ?_
      obtain ⟨hv61, hF⟩ := AF hF
      obtain ⟨r62, hr62, hF⟩ := bind_some hF
      obtain ⟨r63, hr63, hF⟩ := bind_some hF
      refine As mixed hn hG h [0, 1, 2, 3, 4, 5, 500, 6, 7, 8, 9] (ov [4] (Ab q0) <| ov [500] (Ak CX q0 qi) <| ov [3, 500] (AM underlying262 sizeOf29 q0 q1 hv61) <| ov [500, 9] (Bm (i := IntKind.wrap .i64 (x43 - 2)) [] [] 1 isAgg29 q0 rfl rfl hv61) <| oc [500] [] call139 (Dh hr62) ⟨q0, qi, trivial⟩ <| ov [4] (Ab q0) <| ov [500] (Ak CX q0 qi) <| ov [3, 500] (AM underlying262 sizeOf29 q0 q1 hv61) <| ov [500, 9] (Bm (i := IntKind.wrap .i64 (x43 - 2)) [] [] 1 isAgg29 q0 rfl rfl hv61) <| oc [500] [] call139 (Dh hr63) ⟨q0, qi, trivial⟩ <| ov [505, 500] (Ak Da q0 q1) <| ov [4] (Ab q0) <| ov [500] (Ak CX q0 qi) <| ov [3, 500] (AM underlying262 sizeOf29 q0 q1 hv61) <| ov [500, 9] (Bm (i := IntKind.wrap .i64 (x43 - 2)) [] [] 1 isAgg29 q0 rfl rfl hv61) <| ov [500] (Ak (Fp rfl) q0 qi) <| ov [505, 500] (Ak Da q0 q1) <| ov [500] (Ae q0) .nil) fun _ a w h => ?_
      obtain ⟨hv64, hF⟩ := AF hF
      obtain ⟨hv65, hF⟩ := AF hF
      obtain ⟨hv66, hF⟩ := AF hF
      refine Cd mixed hn hG h [0, 1, 2, 3, 4, 7, 8, 9, 500] (ov [4] (Ab q0) <| ov [4] (Ab q0) <| ov [500] (Ak CX q0 qi) <| ov [3, 500] (AM underlying262 sizeOf29 q0 q1 hv64) <| ov [500, 10] (Bm (i := IntKind.wrap .i64 (x43 - 16)) [] [] 1 isAgg29 q0 rfl rfl hv64) <| ov [5] (Ab q0) <| ov [501, 500] (Ak A9 q0 q1) <| ov [4] (Ab q0) <| ov [500] (Ak CX q0 qi) <| ov [3, 500] (AM underlying262 sizeOf29 q0 q1 hv65) <| ov [500, 10] (Bm (i := IntKind.wrap .i64 (x43 - 7)) [] [] 1 isAgg29 q0 rfl rfl hv65) <| ov [504, 500] (Ak A9 q0 q1) <| ov [6] (Ab q0) <| ov [501, 500] (Ak A9 q0 q1) <| ov [3, 513] (AM underlying262 sizeOf29 q0 q1 hv66) <| ou [500, 501] 10 (En (i := x43) [] [] sizeOf29 q0 q1 rfl hv66) .nil) fun _ a w h => ?_
      show Code.wp prog _ _ a w
      refine Cd mixed hn hG h [0, 1, 2, 3, 500, 5, 6, 7, 8] (ov [4] (Ab q0) <| ov [500] (Ak A9 q0 qi) <| od [500] 4 (Ae q0) .nil) fun _ a w h => ?_
      obtain rfl := Option.some.inj hF
      exact ⟨rfl, h.sub [0, 1, 2, 3, 4, 5, 6, 7, 8] (by rfl)⟩
     ·refine wp_exit ?_
      obtain rfl := Option.some.inj hF
      exact ⟨BK _, rfl, h.sub [0, 1, 2, 3, 5, 6, 7, 8] (by rfl)⟩
    ·clear hl68
     intro e a w hq
     cases cr67 with
     | ret r69 =>
      obtain ⟨rfl, hq⟩ := hq
      obtain rfl := Option.some.inj hF
      exact ⟨.inl rfl, hq⟩
     | next s70 =>
      obtain ⟨y71, y72⟩ := s70
      obtain ⟨rfl, h⟩ := hq
      change AA c [.slot 2 (Av (b1 0) 0), .slot 4 (Av (b1 1) 0), .slot 5 (Av (b5 1) 0), .slot 6 (Av (b6 0) 0), .res (lb (b1 0) 208 [AY .u32 8 a_0]), .res (lb (b1 1) 208 [AY .u32 8 (List.replicate 8 0)]), .res (lb (b5 1) 262 [AY .u32 64 r4]), .res (lb (b6 0) 262 [AY .u32 64 y72])] a w at h
      refine Bd ?_
      show Code.wp prog _ _ a w
      refine As mixed hn hG h [0, 1, 2, 3, 507, 506, 505, 504, 503, 502, 501, 500, 4, 5, 6, 7] (ov [0] (AM underlying208 sizeOf29 q0 qi (by decide)) <| ov [500, 4] (Bm (i := 0) [] [] 1 isAgg29 q0 rfl rfl (by decide)) <| ov [0] (AM underlying208 sizeOf29 q0 qi (by decide)) <| ov [500, 4] (Bm (i := 1) [] [] 1 isAgg29 q0 rfl rfl (by decide)) <| ov [0] (AM underlying208 sizeOf29 q0 qi (by decide)) <| ov [500, 4] (Bm (i := 2) [] [] 1 isAgg29 q0 rfl rfl (by decide)) <| ov [0] (AM underlying208 sizeOf29 q0 qi (by decide)) <| ov [500, 4] (Bm (i := 3) [] [] 1 isAgg29 q0 rfl rfl (by decide)) <| ov [0] (AM underlying208 sizeOf29 q0 qi (by decide)) <| ov [500, 4] (Bm (i := 4) [] [] 1 isAgg29 q0 rfl rfl (by decide)) <| ov [0] (AM underlying208 sizeOf29 q0 qi (by decide)) <| ov [500, 4] (Bm (i := 5) [] [] 1 isAgg29 q0 rfl rfl (by decide)) <| ov [0] (AM underlying208 sizeOf29 q0 qi (by decide)) <| ov [500, 4] (Bm (i := 6) [] [] 1 isAgg29 q0 rfl rfl (by decide)) <| ov [0] (AM underlying208 sizeOf29 q0 qi (by decide)) <| ov [500, 4] (Bm (i := 7) [] [] 1 isAgg29 q0 rfl rfl (by decide)) <| ov [514] (Ae q0) <| ov [513] (Ae q0) <| ov [512] (Ae q0) <| ov [511] (Ae q0) <| ov [510] (Ae q0) <| ov [509] (Ae q0) <| ov [508] (Ae q0) <| ov [507] (Ae q0) .nil) fun _ a w h => ?_
      refine wp_seq ?_
      refine As mixed hn hG h [0, 1, 2, 3, 4, 5, 6, 7, 8, 9, 10, 11, 500, 12, 13, 14, 15] (ov [] (Ae qi) .nil) fun _ a w h => ?_
      refine wp_block ?_
      obtain ⟨cr114, hl115, hF⟩ := bind_some hF
      refine wp_mono (Bx (R := (List Int)) (S := Int × Int × Int × Int × Int × Int × Int × Int × Int) (fun s a w => AA c [.slot 2 (Av (b1 0) 0), .slot 4 (Av (b1 1) 0), .slot 5 (Av (b5 1) 0), .slot 6 (Av (b6 0) 0), .slot 11 (Ag .u32 s.1), .slot 12 (Ag .u32 s.2.1), .slot 13 (Ag .u32 s.2.2.1), .slot 14 (Ag .u32 s.2.2.2.1), .slot 15 (Ag .u32 s.2.2.2.2.1), .slot 16 (Ag .u32 s.2.2.2.2.2.1), .slot 17 (Ag .u32 s.2.2.2.2.2.2.1), .slot 18 (Ag .u32 s.2.2.2.2.2.2.2.1), .slot 19 (Ag .i64 s.2.2.2.2.2.2.2.2), .res (lb (b1 0) 208 [AY .u32 8 a_0]), .res (lb (b1 1) 208 [AY .u32 8 (List.replicate 8 0)]), .res (lb (b5 1) 262 [AY .u32 64 r4]), .res (lb (b6 0) 262 [AY .u32 64 y72])] a w) (fun res e a w => match res with | .next s => e = .exit 4 ∧ AA c [.slot 2 (Av (b1 0) 0), .slot 4 (Av (b1 1) 0), .slot 11 (Ag .u32 s.1), .slot 12 (Ag .u32 s.2.1), .slot 13 (Ag .u32 s.2.2.1), .slot 14 (Ag .u32 s.2.2.2.1), .slot 15 (Ag .u32 s.2.2.2.2.1), .slot 16 (Ag .u32 s.2.2.2.2.2.1), .slot 17 (Ag .u32 s.2.2.2.2.2.2.1), .slot 18 (Ag .u32 s.2.2.2.2.2.2.2.1), .res (lb (b1 0) 208 [AY .u32 8 a_0]), .res (lb (b1 1) 208 [AY .u32 8 (List.replicate 8 0)])] a w | .ret r => e = .ret ∧ Cu prog f126 c (Au [AY .u32 8 r]) (fun _ => []) a w) ?_ _ (a_0.getD (0 : Int).toNat 0, a_0.getD (1 : Int).toNat 0, a_0.getD (2 : Int).toNat 0, a_0.getD (3 : Int).toNat 0, a_0.getD (4 : Int).toNat 0, a_0.getD (5 : Int).toNat 0, a_0.getD (6 : Int).toNat 0, a_0.getD (7 : Int).toNat 0, 0) _ _ _ (h.sub [0, 1, 2, 3, 4, 5, 6, 7, 8, 9, 10, 11, 12, 13, 14, 15, 16] (by rfl)) hl115) ?_
      ·clear hl115 hF h
       intro s a w o h hF
       obtain ⟨x80, x81, x82, x83, x84, x85, x86, x87, x88⟩ := s
       change By.b3 r4 y72 x80 x81 x82 x83 x84 x85 x86 x87 x88 = some o at hF
       unfold By.b3 at hF
       change AA c [.slot 2 (Av (b1 0) 0), .slot 4 (Av (b1 1) 0), .slot 5 (Av (b5 1) 0), .slot 6 (Av (b6 0) 0), .slot 11 (Ag .u32 x80), .slot 12 (Ag .u32 x81), .slot 13 (Ag .u32 x82), .slot 14 (Ag .u32 x83), .slot 15 (Ag .u32 x84), .slot 16 (Ag .u32 x85), .slot 17 (Ag .u32 x86), .slot 18 (Ag .u32 x87), .slot 19 (Ag .i64 x88), .res (lb (b1 0) 208 [AY .u32 8 a_0]), .res (lb (b1 1) 208 [AY .u32 8 (List.replicate 8 0)]), .res (lb (b5 1) 262 [AY .u32 64 r4]), .res (lb (b6 0) 262 [AY .u32 64 y72])] a w at h
       refine wp_seq ?_
       refine As mixed hn hG h [0, 1, 2, 3, 4, 5, 6, 7, 8, 9, 10, 11, 12, 500, 13, 14, 15, 16] (ov [12] (Ab q0) <| ov [500] (Ak Bl q0 qi) .nil) fun _ a w h => ?_
       refine CC h hF 13 [0, 1, 2, 3, 4, 5, 6, 7, 8, 9, 10, 11, 12, 14, 15, 16, 17] [0, 1, 2, 3, 4, 5, 6, 7, 8, 9, 10, 11, 12, 14, 15, 16, 17] (fun hb106 hF h => ?_) (fun hb106 hF h => ?_)
       ·refine wp_skip ?_
        show Code.wp prog _ _ a w
        refine wp_seq ?_
        refine wp_block ?_
        obtain ⟨r107, hr107, hF⟩ := bind_some hF
        obtain ⟨r108, hr108, hF⟩ := bind_some hF
        obtain ⟨r109, hr109, hF⟩ := bind_some hF
        obtain ⟨hv110, hF⟩ := AF hF
        refine As mixed hn hG h [0, 1, 2, 3, 4, 5, 6, 7, 8, 9, 10, 12, 500, 13, 14, 15, 16] (ov [11] (Ab q0) <| ov [8] (Ab q0) <| oc [500] [] call139 (Dh hr107) ⟨q0, qi, trivial⟩ <| ov [8] (Ab q0) <| oc [500] [] call139 (Dh hr108) ⟨q0, qi, trivial⟩ <| ov [502, 500] (Ak Da q0 q1) <| ov [8] (Ab q0) <| oc [500] [] call139 (Dh hr109) ⟨q0, qi, trivial⟩ <| ov [502, 500] (Ak Da q0 q1) <| ov [508, 500] (Ak A9 q0 q1) <| ov [8] (Ab q0) <| ov [9] (Ab q0) <| ov [501, 500] (Ak Ew q0 q1) <| ov [8] (Ab q0) <| ov [500] (Ak Da qi q0) <| ov [10] (Ab q0) <| ov [501, 500] (Ak Ew q0 q1) <| ov [504, 500] (Ak Da q0 q1) <| ov [508, 500] (Ak A9 q0 q1) <| ov [12] (Ab q0) <| ov [2, 500] (AM underlying262 sizeOf29 q0 q1 hv110) <| ov [500, 15] (Bm (i := x88) [] [] 1 isAgg29 q0 rfl rfl hv110) <| ov [503, 500] (Ak A9 q0 q1) <| ov [12] (Ab q0) <| ov [3, 500] (AM underlying262 sizeOf29 q0 q1 hv110) <| ov [500, 16] (Bm (i := x88) [] [] 1 isAgg29 q0 rfl rfl hv110) <| ov [503, 500] (Ak A9 q0 q1) <| ov [500] (Ae q0) .nil) fun _ a w h => ?_
        obtain ⟨r111, hr111, hF⟩ := bind_some hF
        obtain ⟨r112, hr112, hF⟩ := bind_some hF
        obtain ⟨r113, hr113, hF⟩ := bind_some hF
        refine As mixed hn hG h [0, 1, 2, 3, 4, 5, 6, 7, 8, 9, 10, 11, 12, 500, 13, 14, 15, 16] (ov [4] (Ab q0) <| oc [500] [] call139 (Dh hr111) ⟨q0, qi, trivial⟩ <| ov [4] (Ab q0) <| oc [500] [] call139 (Dh hr112) ⟨q0, qi, trivial⟩ <| ov [502, 500] (Ak Da q0 q1) <| ov [4] (Ab q0) <| oc [500] [] call139 (Dh hr113) ⟨q0, qi, trivial⟩ <| ov [502, 500] (Ak Da q0 q1) <| ov [4] (Ab q0) <| ov [5] (Ab q0) <| ov [501, 500] (Ak Ew q0 q1) <| ov [4] (Ab q0) <| ov [6] (Ab q0) <| ov [501, 500] (Ak Ew q0 q1) <| ov [503, 500] (Ak Da q0 q1) <| ov [5] (Ab q0) <| ov [6] (Ab q0) <| ov [501, 500] (Ak Ew q0 q1) <| ov [503, 500] (Ak Da q0 q1) <| ov [511, 500] (Ak A9 q0 q1) <| ov [500] (Ae q0) .nil) fun _ a w h => ?_
        refine As mixed hn hG h [0, 1, 2, 3, 4, 5, 6, 7, 8, 9, 500, 11, 12, 13, 14, 15, 16, 17] (ov [10] (Ab q0) <| ov [500] (Ae q0) .nil) fun _ a w h => ?_
        refine As mixed hn hG h [0, 1, 2, 3, 4, 5, 6, 7, 8, 500, 10, 11, 12, 13, 14, 15, 16, 17] (ov [9] (Ab q0) <| ov [500] (Ae q0) .nil) fun _ a w h => ?_
        refine As mixed hn hG h [0, 1, 2, 3, 4, 5, 6, 7, 500, 9, 10, 11, 12, 13, 14, 15, 16, 17] (ov [8] (Ab q0) <| ov [500] (Ae q0) .nil) fun _ a w h => ?_
        refine As mixed hn hG h [0, 1, 2, 3, 4, 5, 6, 500, 8, 9, 10, 11, 12, 13, 14, 15, 16, 17] (ov [7] (Ab q0) <| ov [12] (Ab q0) <| ov [501, 500] (Ak A9 q0 q1) <| ov [500] (Ae q0) .nil) fun _ a w h => ?_
        refine As mixed hn hG h [0, 1, 2, 3, 4, 5, 500, 7, 8, 9, 10, 11, 12, 13, 14, 15, 16, 17] (ov [6] (Ab q0) <| ov [500] (Ae q0) .nil) fun _ a w h => ?_
        refine As mixed hn hG h [0, 1, 2, 3, 4, 500, 6, 7, 8, 9, 10, 11, 12, 13, 14, 15, 16, 17] (ov [5] (Ab q0) <| ov [500] (Ae q0) .nil) fun _ a w h => ?_
        refine As mixed hn hG h [0, 1, 2, 3, 500, 5, 6, 7, 8, 9, 10, 11, 12, 13, 14, 15, 16, 17] (ov [4] (Ab q0) <| ov [500] (Ae q0) .nil) fun _ a w h => ?_
        refine Cd mixed hn hG h [0, 1, 2, 3, 500, 4, 5, 6, 7, 8, 9, 10, 11, 14, 15, 16, 17] (ov [12] (Ab q0) <| ov [13] (Ab q0) <| ov [501, 500] (Ak A9 q0 q1) <| ov [500] (Ae q0) .nil) fun _ a w h => ?_
        show Code.wp prog _ _ a w
        refine Cd mixed hn hG h [0, 1, 2, 3, 4, 5, 6, 7, 8, 9, 10, 11, 500, 13, 14, 15, 16] (ov [12] (Ab q0) <| ov [500] (Ak A9 q0 qi) <| od [500] 12 (Ae q0) .nil) fun _ a w h => ?_
        obtain rfl := Option.some.inj hF
        exact ⟨rfl, h.sub [0, 1, 2, 3, 4, 5, 6, 7, 8, 9, 10, 11, 12, 13, 14, 15, 16] (by rfl)⟩
       ·refine wp_exit ?_
        obtain rfl := Option.some.inj hF
        exact ⟨BK _, rfl, h.sub [0, 1, 4, 5, 6, 7, 8, 9, 10, 11, 13, 14] (by rfl)⟩
      ·clear hl115
       intro e a w hq
       cases cr114 with
       | ret r116 =>
        obtain ⟨rfl, hq⟩ := hq
        obtain rfl := Option.some.inj hF
        exact ⟨.inl rfl, hq⟩
       | next s117 =>
        obtain ⟨y118, y119, y120, y121, y122, y123, y124, y125, y126⟩ := s117
        obtain ⟨rfl, h⟩ := hq
        change AA c [.slot 2 (Av (b1 0) 0), .slot 4 (Av (b1 1) 0), .slot 11 (Ag .u32 y118), .slot 12 (Ag .u32 y119), .slot 13 (Ag .u32 y120), .slot 14 (Ag .u32 y121), .slot 15 (Ag .u32 y122), .slot 16 (Ag .u32 y123), .slot 17 (Ag .u32 y124), .slot 18 (Ag .u32 y125), .res (lb (b1 0) 208 [AY .u32 8 a_0]), .res (lb (b1 1) 208 [AY .u32 8 (List.replicate 8 0)])] a w at h
        refine Bd ?_
        show Code.wp prog _ _ a w
        refine As mixed hn hG h [1, 500] (ov [0] (AM underlying208 sizeOf29 q0 qi (by decide)) <| ov [500, 10] (Bm (i := 0) [] [] 1 isAgg29 q0 rfl rfl (by decide)) <| ov [2] (Ab q0) <| ov [501, 500] (Ak A9 q0 q1) <| ov [0] (AM underlying208 sizeOf29 q0 qi (by decide)) <| ov [500, 10] (Bm (i := 1) [] [] 1 isAgg29 q0 rfl rfl (by decide)) <| ov [3] (Ab q0) <| ov [501, 500] (Ak A9 q0 q1) <| ov [0] (AM underlying208 sizeOf29 q0 qi (by decide)) <| ov [500, 10] (Bm (i := 2) [] [] 1 isAgg29 q0 rfl rfl (by decide)) <| ov [4] (Ab q0) <| ov [501, 500] (Ak A9 q0 q1) <| ov [0] (AM underlying208 sizeOf29 q0 qi (by decide)) <| ov [500, 10] (Bm (i := 3) [] [] 1 isAgg29 q0 rfl rfl (by decide)) <| ov [5] (Ab q0) <| ov [501, 500] (Ak A9 q0 q1) <| ov [0] (AM underlying208 sizeOf29 q0 qi (by decide)) <| ov [500, 10] (Bm (i := 4) [] [] 1 isAgg29 q0 rfl rfl (by decide)) <| ov [6] (Ab q0) <| ov [501, 500] (Ak A9 q0 q1) <| ov [0] (AM underlying208 sizeOf29 q0 qi (by decide)) <| ov [500, 10] (Bm (i := 5) [] [] 1 isAgg29 q0 rfl rfl (by decide)) <| ov [7] (Ab q0) <| ov [501, 500] (Ak A9 q0 q1) <| ov [0] (AM underlying208 sizeOf29 q0 qi (by decide)) <| ov [500, 10] (Bm (i := 6) [] [] 1 isAgg29 q0 rfl rfl (by decide)) <| ov [8] (Ab q0) <| ov [501, 500] (Ak A9 q0 q1) <| ov [0] (AM underlying208 sizeOf29 q0 qi (by decide)) <| ov [500, 10] (Bm (i := 7) [] [] 1 isAgg29 q0 rfl rfl (by decide)) <| ov [9] (Ab q0) <| ov [501, 500] (Ak A9 q0 q1) <| ov [528, 524, 520, 516, 512, 508, 504, 500] (I6 (xs := [.tmp 201, .tmp 205, .tmp 209, .tmp 213, .tmp 217, .tmp 221, .tmp 225, .tmp 229]) (ys := [IntKind.wrap .u32 ((a_0.getD (0 : Int).toNat 0) + y118), IntKind.wrap .u32 ((a_0.getD (1 : Int).toNat 0) + y119), IntKind.wrap .u32 ((a_0.getD (2 : Int).toNat 0) + y120), IntKind.wrap .u32 ((a_0.getD (3 : Int).toNat 0) + y121), IntKind.wrap .u32 ((a_0.getD (4 : Int).toNat 0) + y122), IntKind.wrap .u32 ((a_0.getD (5 : Int).toNat 0) + y123), IntKind.wrap .u32 ((a_0.getD (6 : Int).toNat 0) + y124), IntKind.wrap .u32 ((a_0.getD (7 : Int).toNat 0) + y125)]) rfl QM ⟨⟨_, q0, (AG (A8 _ _))⟩, ⟨_, q1, (AG (A8 _ _))⟩, ⟨_, q2, (AG (A8 _ _))⟩, ⟨_, q3, (AG (A8 _ _))⟩, ⟨_, (opt 4 rfl), (AG (A8 _ _))⟩, ⟨_, (opt 5 rfl), (AG (A8 _ _))⟩, ⟨_, (opt 6 rfl), (AG (A8 _ _))⟩, ⟨_, (opt 7 rfl), (AG (A8 _ _))⟩, trivial⟩ (by decide) rfl) <| ou [1, 500] 11 (Aq sizeOf208 q0 q1 (Ai _)) .nil) fun _ a w h => ?_
        refine wp_ret ?_
        obtain rfl := Option.some.inj hF
        exact ⟨.inl rfl, BW h results126 (Be 0 1 rfl rfl isAgg208 sizeOf208 rfl) [] [] rfl rfl rfl⟩

def CN.b1 (x7 : List (UInt8)) (x8 : List Int) : Option (Cn ((List Int) × (List (UInt8))) ((List (UInt8)) × (List Int))) := (if (decide ((64 : Int) ≤ (x7.length : Int))) = true then (if (0 : Int) ≤ 0 ∧ (0 : Int) ≤ 64 ∧ (64 : Int) ≤ x7.length then ((By x8 ((x7.take 64).drop (0 : Int).toNat)).bind fun r17 => (if (0 : Int) ≤ 64 ∧ (64 : Int) ≤ (x7.length : Int) ∧ (x7.length : Int) ≤ x7.length then some (.cont ((x7.take (x7.length : Int).toNat).drop 64, r17)) else none)) else none) else some (.brk (x7, x8)))
def CN (a_0 : List Int) (a_1 : List (UInt8)) : Option ((List Int) × (List (UInt8))) := ((Bu (fun s : (List (UInt8)) × (List Int) => CN.b1 s.1 s.2) (((a_1.length : Int) - 64 : Int).toNat + 2) (a_1, a_0)).bind fun cr => match cr with | .ret r => some r | .next (y23, y24) => some (y24, y23))
theorem Hu {a_0 : List Int} {a_1 : List (UInt8)} {r : (List Int) × (List (UInt8))} (hF : CN a_0 a_1 = some r) : AH prog KG 101 [(Au [AY .u32 8 a_0]), (AJ bC a_1)] [] (fun _ => []) (Db [(Au [AY .u32 8 r.1]), (AJ bC r.2)]) := by
 refine AH.intro 17 func101 rfl ntmps101 (Nat.le_of_ble_eq_true rfl) ?_
 intro c a w hG hn h
 unfold CN at hF
 change AA c [.slot 0 (Au [AY .u32 8 a_0]), .slot 1 (AJ bC a_1)] a w at h
 refine As mixed hn hG h [1, 504, 502, 503, 501] (ob [0] (Bc q0 (Ai _)) <| ob [] (AR zeroValue208 z208) <| ov [] (Ae (D2 (ec _))) .nil) fun b1 a w h => ?_
 refine wp_seq ?_
 refine wp_block ?_
 obtain ⟨cr19, hl20, hF⟩ := bind_some hF
 refine wp_mono (Bx (R := (List Int) × (List (UInt8))) (S := (List (UInt8)) × (List Int)) (fun s a w => AA c [.slot 1 (AJ bC s.1), .slot 2 (Av (b1 0) 0), .slot 4 (Av (b1 1) 0), .res (lb (b1 0) 208 [AY .u32 8 s.2]), .res (lb (b1 1) 208 [AY .u32 8 (List.replicate 8 0)])] a w) (fun res e a w => match res with | .next s => e = .exit 0 ∧ AA c [.slot 1 (AJ bC s.1), .slot 2 (Av (b1 0) 0), .slot 4 (Av (b1 1) 0), .res (lb (b1 0) 208 [AY .u32 8 s.2]), .res (lb (b1 1) 208 [AY .u32 8 (List.replicate 8 0)])] a w | .ret r => e = .ret ∧ Cu prog f101 c (Db [(Au [AY .u32 8 r.1]), (AJ bC r.2)]) (fun _ => []) a w) ?_ _ (a_1, a_0) _ _ _ (h.sub [0, 1, 2, 3, 4] (by rfl)) hl20) ?_
 ·clear hl20 hF h
  intro s a w o h hF
  obtain ⟨x7, x8⟩ := s
  change CN.b1 x7 x8 = some o at hF
  unfold CN.b1 at hF
  change AA c [.slot 1 (AJ bC x7), .slot 2 (Av (b1 0) 0), .slot 4 (Av (b1 1) 0), .res (lb (b1 0) 208 [AY .u32 8 x8]), .res (lb (b1 1) 208 [AY .u32 8 (List.replicate 8 0)])] a w at h
  refine wp_seq ?_
  refine As mixed hn hG h [0, 1, 2, 500, 3, 4] (ov [0] (Ab q0) <| ov [500] (A6 underlying207 q0) <| ov [500] (Ak Ef q0 qi) .nil) fun _ a w h => ?_
  refine CC h hF 3 [0, 1, 2, 4, 5] [0, 1, 2, 4, 5] (fun hb15 hF h => ?_) (fun hb15 hF h => ?_)
  ·refine wp_skip ?_
   show Code.wp prog _ _ a w
   refine wp_block ?_
   obtain ⟨hv16, hF⟩ := AF hF
   obtain ⟨r17, hr17, hF⟩ := bind_some hF
   refine As mixed hn hG h [0, 1, 2, 500, 4] (ov [1, 3] (An 1 isAgg208 sizeOf208 q0) <| ov [0] (Ab q0) <| ov [500] (E3 (a := 0) (b := 64) underlying207 sizeOf5 D0 q0 rfl ⟨_, qi⟩ hv16) <| oc [502, 500] [] call126 (Ka hr17) ⟨q0, q1, trivial⟩ <| ou [1, 500] 3 (Aq sizeOf208 q0 q1 (Ai _)) .nil) fun _ a w h => ?_
   obtain ⟨hv18, hF⟩ := AF hF
   refine Cd mixed hn hG h [500, 1, 2, 3, 4] (ov [0] (Ab q0) <| ov [500] (E3 (a := 64) (b := (x7.length : Int)) underlying207 sizeOf5 D0 q0 ⟨_, qi⟩ rfl hv18) <| od [500] 0 (Ae q0) .nil) fun _ a w h => ?_
   obtain rfl := Option.some.inj hF
   exact ⟨rfl, h.sub [0, 1, 2, 3, 4] (by rfl)⟩
  ·refine wp_exit ?_
   obtain rfl := Option.some.inj hF
   exact ⟨BK _, rfl, h.sub [0, 1, 2, 3, 4] (by rfl)⟩
 ·clear hl20
  intro e a w hq
  cases cr19 with
  | ret r21 =>
   obtain ⟨rfl, hq⟩ := hq
   obtain rfl := Option.some.inj hF
   exact ⟨.inl rfl, hq⟩
  | next s22 =>
   obtain ⟨y23, y24⟩ := s22
   obtain ⟨rfl, h⟩ := hq
   change AA c [.slot 1 (AJ bC y23), .slot 2 (Av (b1 0) 0), .slot 4 (Av (b1 1) 0), .res (lb (b1 0) 208 [AY .u32 8 y24]), .res (lb (b1 1) 208 [AY .u32 8 (List.replicate 8 0)])] a w at h
   refine Bd ?_
   show Code.wp prog _ _ a w
   refine As mixed hn hG h [2, 500, 501] (ov [1, 3] (An 1 isAgg208 sizeOf208 q0) <| ov [0] (Ab q0) <| ou [2, 501] 4 (Aq sizeOf208 q0 q1 (Ai _)) <| ov [501] (Ae q0) .nil) fun _ a w h => ?_
   refine wp_ret ?_
   obtain rfl := Option.some.inj hF
   exact ⟨.inl rfl, CJ h (rs := [.cell 4 208, .tmp 5]) (Vs := [(Au [AY .u32 8 y24]), (AJ bC y23)]) results101 (by decide) ⟨(Be 0 2 rfl rfl isAgg208 sizeOf208 rfl), (Ba 1 rfl), trivial⟩ [] [] rfl rfl rfl⟩

def GC : Option (List Int) := some ([1779033703, 3144134277, 1013904242, 2773480762, 1359893119, 2600822924, 528734635, 1541459225] ++ List.replicate (8 - 8) 0)
theorem J9 {r : (List Int)} (hF : GC = some r) : AH prog KG 102 [] [] (fun _ => []) (Au [AY .u32 8 r]) := by
 refine AH.intro 2 func102 rfl ntmps102 (Nat.le_of_ble_eq_true rfl) ?_
 intro c a w hG hn h
 unfold GC at hF
 change AA c [] a w at h
 refine As mixed hn hG h [501, 500] (ob [] (AR zeroValue208 z208) .nil) fun b1 a w h => ?_
 refine As mixed hn hG h [0, 500] (ov [] (I6 (xs := [.const (.int .u32 1779033703), .const (.int .u32 3144134277), .const (.int .u32 1013904242), .const (.int .u32 2773480762), .const (.int .u32 1359893119), .const (.int .u32 2600822924), .const (.int .u32 528734635), .const (.int .u32 1541459225)]) (ys := [1779033703, 3144134277, 1013904242, 2773480762, 1359893119, 2600822924, 528734635, 1541459225]) rfl QM ⟨⟨_, qi, (AG (A8 _ _))⟩, ⟨_, qi, (AG (A8 _ _))⟩, ⟨_, qi, (AG (A8 _ _))⟩, ⟨_, qi, (AG (A8 _ _))⟩, ⟨_, qi, (AG (A8 _ _))⟩, ⟨_, qi, (AG (A8 _ _))⟩, ⟨_, qi, (AG (A8 _ _))⟩, ⟨_, qi, (AG (A8 _ _))⟩, trivial⟩ (by decide) rfl) <| ou [0, 500] 1 (Aq sizeOf208 q0 q1 (Ai _)) .nil) fun _ a w h => ?_
 refine wp_ret ?_
 obtain rfl := Option.some.inj hF
 exact ⟨.inl rfl, BW h results102 (Be 0 1 rfl rfl isAgg208 sizeOf208 rfl) [] [] rfl rfl rfl⟩

def B2.b1 (x11 : List (UInt8)) : Option (Cn (List UInt8) (List (UInt8))) := (if (!decide (((x11.length : Int).tmod 64) = (56 : Int))) = true then (if x11.length + [B5 0].length ≤ CW ∧ (x11.length + [B5 0].length) * 1 ≤ 140737488355328 then some (.cont (x11 ++ [B5 0])) else none) else some (.brk x11))
def B2.b2 (a_2 : Int) (x29 : Int) (x30 : List (UInt8)) : Option (Cn (List UInt8) (Int × (List (UInt8)))) := (if (decide (x29 < (8 : Int))) = true then (if x30.length + [B5 (IntKind.wrap .u8 (shr .u64 (IntKind.wrap .u64 (8 * a_2)) (IntKind.wrap .u64 (IntKind.wrap .i64 (56 - (IntKind.wrap .i64 (8 * x29)))))))].length ≤ CW ∧ (x30.length + [B5 (IntKind.wrap .u8 (shr .u64 (IntKind.wrap .u64 (8 * a_2)) (IntKind.wrap .u64 (IntKind.wrap .i64 (56 - (IntKind.wrap .i64 (8 * x29)))))))].length) * 1 ≤ 140737488355328 then some (.cont (IntKind.wrap .i64 (x29 + 1), x30 ++ [B5 (IntKind.wrap .u8 (shr .u64 (IntKind.wrap .u64 (8 * a_2)) (IntKind.wrap .u64 (IntKind.wrap .i64 (56 - (IntKind.wrap .i64 (8 * x29)))))))])) else none) else some (.brk (x29, x30)))
def B2.b3 (r47 : (List Int) × (List (UInt8))) (x51 : Int) (x52 : List UInt8) : Option (Cn (List UInt8) (Int × (List UInt8))) := (if (decide (x51 < (32 : Int))) = true then (if (0 : Int) ≤ IntKind.wrap .i64 (x51.tdiv 4) ∧ IntKind.wrap .i64 (x51.tdiv 4) < 8 then (if (0 : Int) ≤ x51 ∧ x51 < 32 then some (.cont (IntKind.wrap .i64 (x51 + 1), x52.set x51.toNat (B5 (IntKind.wrap .u8 (shr .u32 (r47.1.getD (IntKind.wrap .i64 (x51.tdiv 4)).toNat 0) (IntKind.wrap .u64 (IntKind.wrap .i64 (24 - (IntKind.wrap .i64 (8 * (x51.tmod 4))))))))))) else none) else none) else some (.brk (x51, x52)))
def B2 (a_0 : List Int) (a_1 : List (UInt8)) (a_2 : Int) : Option (List UInt8) := (if ([] : List UInt8).length + a_1.length ≤ CW ∧ (([] : List UInt8).length + a_1.length) * 1 ≤ 140737488355328 then (if (([] : List UInt8) ++ a_1).length + [B5 128].length ≤ CW ∧ ((([] : List UInt8) ++ a_1).length + [B5 128].length) * 1 ≤ 140737488355328 then ((Bu (fun s : (List (UInt8)) => B2.b1 s) 100000 ((([] : List UInt8) ++ a_1) ++ [B5 128])).bind fun cr => match cr with | .ret r => some r | .next y25 => ((Bu (fun s : Int × (List (UInt8)) => B2.b2 a_2 s.1 s.2) ((8 - 0 : Int).toNat + 2) (0, y25)).bind fun cr => match cr with | .ret r => some r | .next (y45, y46) => ((CN a_0 y46).bind fun r47 => ((Bu (fun s : Int × (List UInt8) => B2.b3 r47 s.1 s.2) ((32 - 0 : Int).toNat + 2) (0, (List.replicate 32 0))).bind fun cr => match cr with | .ret r => some r | .next (y65, y66) => some y66)))) else none) else none)
theorem Lw {a_0 : List Int} {a_1 : List (UInt8)} {a_2 : Int} {r : (List UInt8)} (hF : B2 a_0 a_1 a_2 = some r) : AH prog KG 103 [(Au [AY .u32 8 a_0]), (AJ bC a_1), (Ag .u64 a_2)] [] (fun _ => []) (Au [Af 32 r]) := by
 refine AH.intro 65 func103 rfl ntmps103 (Nat.le_of_ble_eq_true rfl) ?_
 intro c a w hG hn h
 unfold B2 at hF
 change AA c [.slot 0 (Au [AY .u32 8 a_0]), .slot 1 (AJ bC a_1), .slot 2 (Ag .u64 a_2)] a w at h
 refine As mixed hn hG h [1, 2, 503, 501, 502, 500] (ob [0] (Bc q0 (Ai _)) <| ob [] (AR zeroValue33 FT) .nil) fun b1 a w h => ?_
 refine As mixed hn hG h [0, 1, 2, 3, 500, 4, 5] (ov [] (Ae (D2 (ec _))) .nil) fun _ a w h => ?_
 obtain ⟨q3, h⟩ : ∃ q3 : Value, AA c [.slot 1 (AJ bC a_1), .slot 2 (Ag .u64 a_2), .slot 3 (Av (b1 0) 0), .slot 6 (Av (b1 1) 0), .slot 7 (Az q3), .res (lb (b1 0) 208 [AY .u32 8 a_0]), .res (lb (b1 1) 33 [Af 32 (List.replicate 32 0)]), .res (acc q3 5 1 bC ([] : List UInt8))] a w := ⟨.slice none 0 0, (h.Fh 5 1 bC).sub [0, 1, 2, 3, 4, 5, 6, 7] (by rfl)⟩
 obtain ⟨hv4, hF⟩ := AF hF
 refine As mixed hn hG h [1, 2, 3, 500, 5, 6, 501] (ov [4] (Ab q0) <| ov [0] (Ab q0) <| og [501, 500] [7] [.slot 14 2 100000 (fun v1_ _ => (Az v1_)), .res 2 100000 (fun v1_ _ => (acc (v1_) 5 1 bC (([] : List UInt8) ++ a_1)))] (AB.plain (CL (i := t5) underlying207 type5 rfl D0 (by decide) rfl q0 q1 hv4) rfl) <| og [501] [4] [.slot 7 2 100000 (fun v1_ _ => (Az v1_))] (fun {β} => (AB.drop _ (AB.plain (Ae (V := (Az (β 2))) q0) rfl))) .nil) fun b5 a w h => ?_
 obtain ⟨hv6, hF⟩ := AF hF
 refine As mixed hn hG h [0, 1, 2, 500, 4, 5, 501] (ov [3] (Ab q0) <| ov [] (CP (xs := [.const (.int .u8 128)]) (ys := [B5 128]) _ rfl underlying207 sizeOf5 zeroValue5 rfl rfl (by decide) (by decide) ⟨⟨_, qi, (Fo _)⟩, trivial⟩ D0) <| og [501, 500] [6] [.slot 17 2 100000 (fun v1_ _ => (Az v1_)), .res 2 100000 (fun v1_ _ => (acc (v1_) 5 1 bC ((([] : List UInt8) ++ a_1) ++ [B5 128])))] (AB.plain (CL (i := t5) underlying207 type5 rfl D0 (by decide) rfl q0 q1 hv6) rfl) <| og [501] [3] [.slot 7 2 100000 (fun v1_ _ => (Az v1_))] (fun {β} => (AB.drop _ (AB.plain (Ae (V := (Az (β 2))) q0) rfl))) .nil) fun b7 a w h => ?_
 refine wp_seq ?_
 refine wp_block ?_
 obtain ⟨cr21, hl22, hF⟩ := bind_some hF
 refine wp_mono (Bx (R := (List UInt8)) (S := (List (UInt8))) (fun s a w => ∃ q12 : Value, AA c [.slot 2 (Ag .u64 a_2), .slot 3 (Av (b1 0) 0), .slot 6 (Av (b1 1) 0), .slot 7 (Az q12), .res (lb (b1 0) 208 [AY .u32 8 a_0]), .res (lb (b1 1) 33 [Af 32 (List.replicate 32 0)]), .res (acc q12 5 1 bC s)] a w) (fun res e a w => match res with | .next s => e = .exit 0 ∧ ∃ q12 : Value, AA c [.slot 2 (Ag .u64 a_2), .slot 3 (Av (b1 0) 0), .slot 6 (Av (b1 1) 0), .slot 7 (Az q12), .res (lb (b1 0) 208 [AY .u32 8 a_0]), .res (lb (b1 1) 33 [Af 32 (List.replicate 32 0)]), .res (acc q12 5 1 bC s)] a w | .ret r => e = .ret ∧ Cu prog f103 c (Au [Af 32 r]) (fun _ => []) a w) ?_ _ ((([] : List UInt8) ++ a_1) ++ [B5 128]) _ _ _ ⟨(b7 2), (h.sub [0, 1, 2, 3, 4, 5, 6] (by rfl))⟩ hl22) ?_
 ·clear hl22 hF h
  intro x11 a w o h hF
  obtain ⟨q12, h⟩ := h
  change B2.b1 x11 = some o at hF
  unfold B2.b1 at hF
  change AA c [.slot 2 (Ag .u64 a_2), .slot 3 (Av (b1 0) 0), .slot 6 (Av (b1 1) 0), .slot 7 (Az q12), .res (lb (b1 0) 208 [AY .u32 8 a_0]), .res (lb (b1 1) 33 [Af 32 (List.replicate 32 0)]), .res (acc q12 5 1 bC x11)] a w at h
  refine wp_seq ?_
  refine As mixed hn hG h [0, 1, 2, 3, 500, 4, 5, 6] (ov [3] (Ab q0) <| ov [500, 6] (A6 underlying207 (HV 0 1 rfl rfl)) <| ov [500] (Ak (DH (by decide)) q0 qi) <| ov [500] (Ak Bg q0 qi) .nil) fun _ a w h => ?_
  refine CC h hF 4 [0, 1, 2, 3, 5, 6, 7] [0, 1, 2, 3, 5, 6, 7] (fun hb18 hF h => ?_) (fun hb18 hF h => ?_)
  ·refine wp_skip ?_
   show Code.wp prog _ _ a w
   refine wp_block ?_
   obtain ⟨hv19, hF⟩ := AF hF
   refine Cd mixed hn hG h [0, 1, 2, 500, 4, 5, 501] (ov [3] (Ab q0) <| ov [] (CP (xs := [.const (.int .u8 0)]) (ys := [B5 0]) _ rfl underlying207 sizeOf5 zeroValue5 rfl rfl (by decide) (by decide) ⟨⟨_, qi, (Fo _)⟩, trivial⟩ D0) <| og [501, 500] [6] [.slot 24 2 100000 (fun v1_ _ => (Az v1_)), .res 2 100000 (fun v1_ _ => (acc (v1_) 5 1 bC (x11 ++ [B5 0])))] (AB.plain (CL (i := t5) underlying207 type5 rfl D0 (by decide) rfl q0 q1 hv19) rfl) <| og [501] [3] [.slot 7 2 100000 (fun v1_ _ => (Az v1_))] (fun {β} => (AB.drop _ (AB.plain (Ae (V := (Az (β 2))) q0) rfl))) .nil) fun b20 a w h => ?_
   obtain rfl := Option.some.inj hF
   exact ⟨rfl, (b20 2), h.sub [0, 1, 2, 3, 4, 5, 6] (by rfl)⟩
  ·refine wp_exit ?_
   obtain rfl := Option.some.inj hF
   exact ⟨BK _, rfl, q12, h.sub [0, 1, 2, 3, 4, 5, 6] (by rfl)⟩
 ·clear hl22
  intro e a w hq
  cases cr21 with
  | ret r23 =>
   obtain ⟨rfl, hq⟩ := hq
   obtain rfl := Option.some.inj hF
   exact ⟨.inl rfl, hq⟩
  | next y25 =>
   obtain ⟨rfl, q12, h⟩ := hq
   change AA c [.slot 2 (Ag .u64 a_2), .slot 3 (Av (b1 0) 0), .slot 6 (Av (b1 1) 0), .slot 7 (Az q12), .res (lb (b1 0) 208 [AY .u32 8 a_0]), .res (lb (b1 1) 33 [Af 32 (List.replicate 32 0)]), .res (acc q12 5 1 bC y25)] a w at h
   refine Bd ?_
   show Code.wp prog _ _ a w
   refine As mixed hn hG h [1, 2, 3, 500, 4, 5, 6] (ov [0] (Ab q0) <| ov [500] (Ak DQ qi q0) <| ov [500] (Ae q0) .nil) fun _ a w h => ?_
   refine wp_seq ?_
   refine As mixed hn hG h [0, 1, 2, 3, 500, 4, 5, 6] (ov [] (Ae qi) .nil) fun _ a w h => ?_
   refine wp_block ?_
   obtain ⟨cr41, hl42, hF⟩ := bind_some hF
   refine wp_mono (Bx (R := (List UInt8)) (S := Int × (List (UInt8))) (fun s a w => ∃ q31 : Value, AA c [.slot 3 (Av (b1 0) 0), .slot 6 (Av (b1 1) 0), .slot 7 (Az q31), .slot 8 (Ag .u64 (IntKind.wrap .u64 (8 * a_2))), .slot 9 (Ag .i64 s.1), .res (lb (b1 0) 208 [AY .u32 8 a_0]), .res (lb (b1 1) 33 [Af 32 (List.replicate 32 0)]), .res (acc q31 5 1 bC s.2)] a w) (fun res e a w => match res with | .next s => e = .exit 2 ∧ ∃ q31 : Value, AA c [.slot 3 (Av (b1 0) 0), .slot 6 (Av (b1 1) 0), .slot 7 (Az q31), .res (lb (b1 0) 208 [AY .u32 8 a_0]), .res (lb (b1 1) 33 [Af 32 (List.replicate 32 0)]), .res (acc q31 5 1 bC s.2)] a w | .ret r => e = .ret ∧ Cu prog f103 c (Au [Af 32 r]) (fun _ => []) a w) ?_ _ (0, y25) _ _ _ ⟨q12, (h.sub [0, 1, 2, 3, 4, 5, 6, 7] (by rfl))⟩ hl42) ?_
   ·clear hl42 hF h
    intro s a w o h hF
    obtain ⟨x29, x30⟩ := s
    obtain ⟨q31, h⟩ := h
    change B2.b2 a_2 x29 x30 = some o at hF
    unfold B2.b2 at hF
    change AA c [.slot 3 (Av (b1 0) 0), .slot 6 (Av (b1 1) 0), .slot 7 (Az q31), .slot 8 (Ag .u64 (IntKind.wrap .u64 (8 * a_2))), .slot 9 (Ag .i64 x29), .res (lb (b1 0) 208 [AY .u32 8 a_0]), .res (lb (b1 1) 33 [Af 32 (List.replicate 32 0)]), .res (acc q31 5 1 bC x30)] a w at h
    refine wp_seq ?_
    refine As mixed hn hG h [0, 1, 2, 3, 4, 500, 5, 6, 7] (ov [4] (Ab q0) <| ov [500] (Ak Bl q0 qi) .nil) fun _ a w h => ?_
    refine CC h hF 5 [0, 1, 2, 3, 4, 6, 7, 8] [0, 1, 2, 3, 4, 6, 7, 8] (fun hb38 hF h => ?_) (fun hb38 hF h => ?_)
    ·refine wp_skip ?_
     show Code.wp prog _ _ a w
     refine wp_seq ?_
     refine wp_block ?_
     obtain ⟨hv39, hF⟩ := AF hF
     refine Cd mixed hn hG h [0, 1, 500, 3, 4, 5, 6, 501] (ov [2] (Ab q0) <| ov [3] (Ab q0) <| ov [4] (Ab q0) <| ov [500] (Ak DQ qi q0) <| ov [500] (Ak CX qi q0) <| ov [500] (A3 underlying3 underlying67 q0) <| ov [504, 500] (Ak (Fp rfl) q0 q1) <| ov [500] (A3 underlying24 underlying5 q0) <| ov [500] (CP (xs := [.tmp 38]) (ys := [B5 (IntKind.wrap .u8 (shr .u64 (IntKind.wrap .u64 (8 * a_2)) (IntKind.wrap .u64 (IntKind.wrap .i64 (56 - (IntKind.wrap .i64 (8 * x29)))))))]) _ rfl underlying207 sizeOf5 zeroValue5 rfl rfl (by decide) (by decide) ⟨⟨_, q0, (Fo _)⟩, trivial⟩ D0) <| og [508, 500] [7] [.slot 40 9 100000 (fun v1_ _ => (Az v1_)), .res 9 100000 (fun v1_ _ => (acc (v1_) 5 1 bC (x30 ++ [B5 (IntKind.wrap .u8 (shr .u64 (IntKind.wrap .u64 (8 * a_2)) (IntKind.wrap .u64 (IntKind.wrap .i64 (56 - (IntKind.wrap .i64 (8 * x29)))))))])))] (AB.plain (CL (i := t5) underlying207 type5 rfl D0 (by decide) rfl q0 q1 hv39) rfl) <| og [501] [2] [.slot 7 9 100000 (fun v1_ _ => (Az v1_))] (fun {β} => (AB.drop _ (AB.plain (Ae (V := (Az (β 9))) q0) rfl))) .nil) fun b40 a w h => ?_
     show Code.wp prog _ _ a w
     refine Cd mixed hn hG h [0, 1, 2, 3, 500, 5, 6, 7] (ov [4] (Ab q0) <| ov [500] (Ak A9 q0 qi) <| od [500] 4 (Ae q0) .nil) fun _ a w h => ?_
     obtain rfl := Option.some.inj hF
     exact ⟨rfl, (b40 9), h.sub [0, 1, 2, 3, 4, 5, 6, 7] (by rfl)⟩
    ·refine wp_exit ?_
     obtain rfl := Option.some.inj hF
     exact ⟨BK _, rfl, q31, h.sub [0, 1, 2, 5, 6, 7] (by rfl)⟩
   ·clear hl42
    intro e a w hq
    cases cr41 with
    | ret r43 =>
     obtain ⟨rfl, hq⟩ := hq
     obtain rfl := Option.some.inj hF
     exact ⟨.inl rfl, hq⟩
    | next s44 =>
     obtain ⟨y45, y46⟩ := s44
     obtain ⟨rfl, q31, h⟩ := hq
     change AA c [.slot 3 (Av (b1 0) 0), .slot 6 (Av (b1 1) 0), .slot 7 (Az q31), .res (lb (b1 0) 208 [AY .u32 8 a_0]), .res (lb (b1 1) 33 [Af 32 (List.replicate 32 0)]), .res (acc q31 5 1 bC y46)] a w at h
     refine Bd ?_
     show Code.wp prog _ _ a w
     obtain ⟨r47, hr47, hF⟩ := bind_some hF
     refine As mixed hn hG h [0, 1, 500, 4] (ov [0, 3] (An 1 isAgg208 sizeOf208 q0) <| ov [2] (Ab q0) <| oc [501, 500, 5] [] call101 (Hu hr47) ⟨q0, (HV 1 2 rfl rfl), trivial⟩ <| ov [500] (Ab q0) <| ov [500] (A5 q0 rfl) <| ov [501] (A5 q0 rfl) <| ou [0, 501] 3 (Aq sizeOf208 q0 q1 (Ai _)) .nil) fun _ a w h => ?_
     refine As mixed hn hG h [0, 1, 501, 2, 3, 500] (ob [] (AR zeroValue33 FT) .nil) fun b48 a w h => ?_
     refine wp_seq ?_
     refine As mixed hn hG h [0, 1, 2, 500, 3, 4, 5] (ov [] (Ae qi) .nil) fun _ a w h => ?_
     refine wp_block ?_
     obtain ⟨cr61, hl62, hF⟩ := bind_some hF
     refine wp_mono (Bx (R := (List UInt8)) (S := Int × (List UInt8)) (fun s a w => AA c [.slot 3 (Av (b1 0) 0), .slot 6 (Av (b1 1) 0), .slot 10 (Av (b48 0) 0), .slot 11 (Ag .i64 s.1), .res (lb (b1 0) 208 [AY .u32 8 r47.1]), .res (lb (b1 1) 33 [Af 32 (List.replicate 32 0)]), .res (lb (b48 0) 33 [Af 32 s.2])] a w) (fun res e a w => match res with | .next s => e = .exit 4 ∧ AA c [.slot 6 (Av (b1 1) 0), .slot 10 (Av (b48 0) 0), .res (lb (b1 1) 33 [Af 32 (List.replicate 32 0)]), .res (lb (b48 0) 33 [Af 32 s.2])] a w | .ret r => e = .ret ∧ Cu prog f103 c (Au [Af 32 r]) (fun _ => []) a w) ?_ _ (0, (List.replicate 32 0)) _ _ _ (h.sub [0, 1, 2, 3, 4, 5, 6] (by rfl)) hl62) ?_
     ·clear hl62 hF h
      intro s a w o h hF
      obtain ⟨x51, x52⟩ := s
      change B2.b3 r47 x51 x52 = some o at hF
      unfold B2.b3 at hF
      change AA c [.slot 3 (Av (b1 0) 0), .slot 6 (Av (b1 1) 0), .slot 10 (Av (b48 0) 0), .slot 11 (Ag .i64 x51), .res (lb (b1 0) 208 [AY .u32 8 r47.1]), .res (lb (b1 1) 33 [Af 32 (List.replicate 32 0)]), .res (lb (b48 0) 33 [Af 32 x52])] a w at h
      refine wp_seq ?_
      refine As mixed hn hG h [0, 1, 2, 3, 500, 4, 5, 6] (ov [3] (Ab q0) <| ov [500] (Ak Bl q0 qi) .nil) fun _ a w h => ?_
      refine CC h hF 4 [0, 1, 2, 3, 5, 6, 7] [0, 1, 2, 3, 5, 6, 7] (fun hb58 hF h => ?_) (fun hb58 hF h => ?_)
      ·refine wp_skip ?_
       show Code.wp prog _ _ a w
       refine wp_seq ?_
       refine wp_block ?_
       obtain ⟨hv59, hF⟩ := AF hF
       obtain ⟨hv60, hF⟩ := AF hF
       refine Cd mixed hn hG h [0, 1, 2, 3, 4, 5, 500] (ov [3] (Ab q0) <| ov [3] (Ab q0) <| ov [500] (Ak (FH (by decide)) q0 qi) <| ov [0, 500] (AM underlying208 sizeOf29 q0 q1 hv59) <| ov [500, 4] (Bm (i := IntKind.wrap .i64 (x51.tdiv 4)) [] [] 1 isAgg29 q0 rfl rfl hv59) <| ov [3] (Ab q0) <| ov [500] (Ak (DH (by decide)) q0 qi) <| ov [500] (Ak DQ qi q0) <| ov [500] (Ak CX qi q0) <| ov [500] (A3 underlying3 underlying67 q0) <| ov [505, 500] (Ak (Fp rfl) q0 q1) <| ov [500] (A3 underlying29 underlying5 q0) <| ov [2, 511] (AM underlying33 sizeOf5 q0 q1 hv60) <| ou [500, 501] 6 (Fe (i := x51) [] [] sizeOf5 q0 q1 rfl hv60) .nil) fun _ a w h => ?_
       show Code.wp prog _ _ a w
       refine Cd mixed hn hG h [0, 1, 2, 500, 4, 5, 6] (ov [3] (Ab q0) <| ov [500] (Ak A9 q0 qi) <| od [500] 3 (Ae q0) .nil) fun _ a w h => ?_
       obtain rfl := Option.some.inj hF
       exact ⟨rfl, h.sub [0, 1, 2, 3, 4, 5, 6] (by rfl)⟩
      ·refine wp_exit ?_
       obtain rfl := Option.some.inj hF
       exact ⟨BK _, rfl, h.sub [1, 2, 5, 6] (by rfl)⟩
     ·clear hl62
      intro e a w hq
      cases cr61 with
      | ret r63 =>
       obtain ⟨rfl, hq⟩ := hq
       obtain rfl := Option.some.inj hF
       exact ⟨.inl rfl, hq⟩
      | next s64 =>
       obtain ⟨y65, y66⟩ := s64
       obtain ⟨rfl, h⟩ := hq
       change AA c [.slot 6 (Av (b1 1) 0), .slot 10 (Av (b48 0) 0), .res (lb (b1 1) 33 [Af 32 (List.replicate 32 0)]), .res (lb (b48 0) 33 [Af 32 y66])] a w at h
       refine Bd ?_
       show Code.wp prog _ _ a w
       refine As mixed hn hG h [0, 500] (ov [1, 3] (An 1 isAgg33 sizeOf33 q0) <| ou [0, 500] 2 (Aq sizeOf33 q0 q1 (Ai _)) .nil) fun _ a w h => ?_
       refine wp_ret ?_
       obtain rfl := Option.some.inj hF
       exact ⟨.inl rfl, BW h results103 (Be 0 1 rfl rfl isAgg33 sizeOf33 rfl) [] [] rfl rfl rfl⟩

def Gh (a_0 : List UInt8) : Option (List UInt8) := ((GC).bind fun r2 => ((CN r2 a_0).bind fun r3 => ((B2 r3.1 r3.2 (IntKind.wrap .u64 (a_0.length : Int))).bind fun r5 => some r5)))
theorem Lv {a_0 : List UInt8} {r : (List UInt8)} (hF : Gh a_0 = some r) : AH prog KG 71 [(Br a_0)] [] (fun _ => []) (Au [Af 32 r]) := by
 refine AH.intro 18 func71 rfl ntmps71 (Nat.le_of_ble_eq_true rfl) ?_
 intro c a w hG hn h
 unfold Gh at hF
 change AA c [.slot 0 (Br a_0)] a w at h
 refine As mixed hn hG h [0, 501, 500] (ob [] (AR zeroValue33 FT) .nil) fun b1 a w h => ?_
 obtain ⟨r2, hr2, hF⟩ := bind_some hF
 obtain ⟨r3, hr3, hF⟩ := bind_some hF
 refine As mixed hn hG h [0, 1, 503, 500, 2, 501] (oc [] [] call102 (J9 hr2) trivial <| ov [0] (Ab q0) <| ov [500] (Ki underlying9 underlying207 underlying5 q0) <| oc [502, 500] [] call101 (Hu hr3) ⟨q0, q1, trivial⟩ <| ov [500] (Ab q0) <| ov [500] (A5 q0 rfl) <| ov [501] (A5 q0 rfl) <| ob [] (AR zeroValue208 z208) <| og [501, 503] [500] [.res 7 100000 (fun v1_ _ => (lb (v1_) 208 [AY .u32 8 r3.1]))] (AB.plain (Aq sizeOf208 q0 q1 (Ai _)) rfl) <| ov [503] (Ae q0) .nil) fun b4 a w h => ?_
 obtain ⟨r5, hr5, hF⟩ := bind_some hF
 refine As mixed hn hG h [1, 500] (ov [2, 5] (An 1 isAgg208 sizeOf208 q0) <| ov [3] (Ab q0) <| ov [0] (Ab q0) <| ov [500] (ED underlying9 q0) <| ov [500] (A3 underlying3 underlying24 q0) <| oc [504, 503, 500] [] call103 (Lw hr5) ⟨q0, q1, q2, trivial⟩ <| ou [1, 500] 4 (Aq sizeOf33 q0 q1 (Ai _)) .nil) fun _ a w h => ?_
 refine wp_ret ?_
 obtain rfl := Option.some.inj hF
 exact ⟨.inl rfl, BW h results71 (Be 0 1 rfl rfl isAgg33 sizeOf33 rfl) [] [] rfl rfl rfl⟩

def Ch.n (a_1 : List UInt8) (a_2 : List UInt8) : Option (Option A2) := some none
def Ch.b1 (s_0 : A2) (a_1 : List UInt8) (a_2 : List UInt8) (x8 : Int) : Option (Cn (Option A2) Int) := (if (decide (x8 < (((Gd a_1 s_0.BV).getD []).length : Int))) = true then (if (0 : Int) ≤ x8 ∧ x8 < ((Gd a_1 s_0.BV).getD []).length then (if (decide ((((Gd a_1 s_0.BV).getD []).getD x8.toNat default) = a_2)) = true then some (.ret (some s_0)) else some (.cont (IntKind.wrap .i64 (x8 + 1)))) else none) else some (.brk x8))
def Ch.s (s_0 : A2) (a_1 : List UInt8) (a_2 : List UInt8) : Option (Option A2) := ((Bu (fun s : Int => Ch.b1 s_0 a_1 a_2 s) (((((Gd a_1 s_0.BV).getD []).length : Int) - 0 : Int).toNat + 2) 0).bind fun cr => match cr with | .ret r => some r | .next y20 => (if ((Gd a_1 s_0.BV).getD ([] : List (List UInt8))).length + [a_2].length ≤ CW ∧ (((Gd a_1 s_0.BV).getD ([] : List (List UInt8))).length + [a_2].length) * 16 ≤ 140737488355328 then (if s_0.DM.length + [a_2].length ≤ CW ∧ (s_0.DM.length + [a_2].length) * 16 ≤ 140737488355328 then some (some ⟨s_0.DM ++ [a_2], GW a_1 (((Gd a_1 s_0.BV).getD ([] : List (List UInt8))) ++ [a_2]) (NL a_1 ([] : List (List UInt8)) s_0.BV)⟩) else none) else none))
def Ch (L_0 : Option A2) (a_1 : List UInt8) (a_2 : List UInt8) : Option (Option A2) := match L_0 with | none => Ch.n a_1 a_2 | some s_0 => Ch.s s_0 a_1 a_2
theorem Iw {p_0 : Value} {L_0 : Option A2} {a_1 : List UInt8} {a_2 : List UInt8} {r : (Option A2)} (hF : Ch L_0 a_1 a_2 = some r) : AH prog KG 72 [(Az p_0), (Au [Af 32 a_1]), (Br a_2)] [(AZ p_0 L_0)] (fun _ => [AZ p_0 r]) (Db []) := by
 refine AH.intro 46 func72 rfl ntmps72 (Nat.le_of_ble_eq_true rfl) ?_
 intro c a w hG hn h
 unfold Ch at hF
 change AA c [.slot 0 (Az p_0), .slot 1 (Au [Af 32 a_1]), .slot 2 (Br a_2), .res (AZ p_0 L_0)] a w at h
 obtain ⟨h_0_0, h⟩ := h.ex 3 rfl
 obtain ⟨h_0_1, h⟩ := h.ex 3 rfl
 change AA c [.slot 0 (Az p_0), .slot 1 (Au [Af 32 a_1]), .slot 2 (Br a_2), .res (LO p_0 h_0_0 h_0_1 L_0)] a w at h
 cases L_0 with
 | none =>
  change Ch.n a_1 a_2 = some r at hF
  unfold Ch.n at hF
  obtain rfl := h.PK 3 rfl (fun _ _ _ q => q.2)
  replace h := h.Gy 0 rfl (V' := K6 (.pointer none) false) (fun _ _ h => ⟨h, rfl⟩)
  change AA c [.slot 0 (K6 (.pointer none) false), .slot 1 (Au [Af 32 a_1]), .slot 2 (Br a_2), .res (LO (.pointer none) h_0_0 h_0_1 none)] a w at h
  refine As mixed hn hG h [0, 2, 501, 3, 500] (ob [1] (Bc q0 (Ai _)) .nil) fun b1 a w h => ?_
  refine wp_seq ?_
  refine As mixed hn hG h [0, 1, 2, 500, 3, 4] (ov [0] (Ab q0) <| ov [500] (Ak (IL underlying95) q0 (D2 (ec _))) .nil) fun _ a w h => ?_
  refine Gx h 3 rfl (fun hb2 => ?_) (fun hb2 => ?_)
  ·skip
   replace h := h.Sg [4]
   refine wp_ret ?_
   replace h := h.conv 0 rfl Ie
   change AA c [.res (AZ (.pointer none) none)] a w at h
   obtain rfl := Option.some.inj hF
   exact ⟨.inl rfl, CJ h (rs := []) (Vs := []) results72 (by decide) trivial [0] [(AZ (.pointer none) none)] rfl rfl rfl⟩
  ·cases hb2
 | some s_0 =>
  change Ch.s s_0 a_1 a_2 = some r at hF
  unfold Ch.s at hF
  have hp := h.PK 3 rfl (fun Φ f w q => QB Φ f w q)
  replace h := h.Gy 0 rfl (V' := Av p_0 0) (fun _ _ h => Jr h hp)
  replace h := h.sep (R := lb p_0 215 [one (Az h_0_0), one (Az h_0_1)]) (S := (RP.sep (acc h_0_0 9 1 Ed s_0.DM) (D7 h_0_1 FR (fun l => l.length = 32) (fun u y => acc u 9 1 Ed y) s_0.BV))) 3 rfl
  replace h := h.sep (R := acc h_0_0 9 1 Ed s_0.DM) (S := (D7 h_0_1 FR (fun l => l.length = 32) (fun u y => acc u 9 1 Ed y) s_0.BV)) 4 rfl
  replace h := h.sub [0, 1, 2, 3, 4, 5] (by rfl)
  change AA c [.slot 0 (Av p_0 0), .slot 1 (Au [Af 32 a_1]), .slot 2 (Br a_2), .res (lb p_0 215 [one (Az h_0_0), one (Az h_0_1)]), .res (acc h_0_0 9 1 Ed s_0.DM), .res (D7 h_0_1 FR (fun l => l.length = 32) (fun u y => acc u 9 1 Ed y) s_0.BV)] a w at h
  refine As mixed hn hG h [0, 2, 501, 3, 4, 5, 500] (ob [1] (Bc q0 (Ai _)) .nil) fun b3 a w h => ?_
  refine wp_seq ?_
  refine As mixed hn hG h [0, 1, 2, 500, 3, 4, 5, 6] (ov [0] (Ab q0) <| ov [500] (Ak (IL underlying95) (Pa q0) (D2 (ec _))) .nil) fun _ a w h => ?_
  refine Gx h 3 rfl (fun hb4 => ?_) (fun hb4 => ?_)
  ·cases hb4
  ·skip
   replace h := h.Sg [0, 1, 2, 4, 5, 6, 7]
   refine wp_skip ?_
   show Code.wp prog _ _ a w
   refine wp_seq ?_
   refine As mixed hn hG h [0, 1, 2, 502, 501, 500, 3, 4, 5, 6] (ov [0] (Ab q0) <| ov [500] (CY q0 (EX _ _)) <| ov [500] (Ad (p := p_0) (n := 1) 0 1 underlying215 rfl sizeOf213 (by decide) q0 rfl) <| ov [500, 3] (Aj [one (Az h_0_0)] [] 1 isAgg213 q0 rfl rfl) <| ov [2, 6] (An 1 isAgg33 sizeOf33 q0) <| ov [501, 500, 5] (Gi (AJ Ed) [] 2 underlying213 (LF underlying33 underlying5 type5 sizeOf5 isAgg5) zeroValue22 q0 q1 LG rfl IY (fun _ _ _ _ _ h => KD h) (fun _ => ⟨by decide, .inl ⟨rfl, rfl⟩⟩)) <| ov [500] (A6 underlying22 q0) <| ov [] (Ab qi) .nil) fun _ a w h => ?_
   refine wp_block ?_
   obtain ⟨cr16, hl17, hF⟩ := bind_some hF
   refine wp_mono (Bx (R := (Option A2)) (S := Int) (fun s a w => AA c [.slot 0 (Av p_0 0), .slot 2 (Br a_2), .slot 4 (Av (b3 0) 0), .slot 15 (AJ Ed ((Gd a_1 s_0.BV).getD [])), .slot 16 (Ag .i64 (((Gd a_1 s_0.BV).getD []).length : Int)), .slot 17 (Ag .i64 s), .res (lb p_0 215 [one (Az h_0_0), one (Az h_0_1)]), .res (acc h_0_0 9 1 Ed s_0.DM), .res (D7 h_0_1 FR (fun l => l.length = 32) (fun u y => acc u 9 1 Ed y) s_0.BV), .res (lb (b3 0) 33 [Af 32 a_1])] a w) (fun res e a w => match res with | .next s => e = .exit 0 ∧ AA c [.slot 0 (Av p_0 0), .slot 2 (Br a_2), .slot 4 (Av (b3 0) 0), .res (lb p_0 215 [one (Az h_0_0), one (Az h_0_1)]), .res (acc h_0_0 9 1 Ed s_0.DM), .res (D7 h_0_1 FR (fun l => l.length = 32) (fun u y => acc u 9 1 Ed y) s_0.BV), .res (lb (b3 0) 33 [Af 32 a_1])] a w | .ret r => e = .ret ∧ Cu prog f72 c (Db []) (fun _ => [AZ p_0 r]) a w) ?_ _ 0 _ _ _ (h.sub [0, 1, 2, 3, 4, 5, 6, 7, 8, 9] (by rfl)) hl17) ?_
   ·clear hl17 hF h
    intro x8 a w o h hF
    change Ch.b1 s_0 a_1 a_2 x8 = some o at hF
    unfold Ch.b1 at hF
    change AA c [.slot 0 (Av p_0 0), .slot 2 (Br a_2), .slot 4 (Av (b3 0) 0), .slot 15 (AJ Ed ((Gd a_1 s_0.BV).getD [])), .slot 16 (Ag .i64 (((Gd a_1 s_0.BV).getD []).length : Int)), .slot 17 (Ag .i64 x8), .res (lb p_0 215 [one (Az h_0_0), one (Az h_0_1)]), .res (acc h_0_0 9 1 Ed s_0.DM), .res (D7 h_0_1 FR (fun l => l.length = 32) (fun u y => acc u 9 1 Ed y) s_0.BV), .res (lb (b3 0) 33 [Af 32 a_1])] a w at h
    refine As mixed hn hG h [0, 1, 2, 3, 4, 5, 500, 6, 7, 8, 9] (ov [5, 4] (Ak Bl q0 q1) .nil) fun _ a w h => ?_
    refine wp_seq ?_
    refine CC h hF 6 [0, 1, 2, 3, 4, 5, 7, 8, 9, 10] [0, 1, 2, 3, 4, 5, 7, 8, 9, 10] (fun hb13 hF h => ?_) (fun hb13 hF h => ?_)
    ·refine wp_skip ?_
     show Code.wp prog _ _ a w
     refine wp_seq ?_
     refine wp_block ?_
     obtain ⟨hv14, hF⟩ := AF hF
     refine As mixed hn hG h [0, 1, 2, 500, 3, 4, 5, 6, 7, 8, 9] (ov [3, 5] (AS underlying22 sizeOf9 CF q0 q1 hv14) <| ov [500] (Ds [] isAgg9 q0) <| ov [500] (Ae q0) .nil) fun _ a w h => ?_
     refine As mixed hn hG h [0, 1, 2, 4, 5, 6, 500, 7, 8, 9, 10] (ov [3] (Ab q0) <| ov [1] (Ab q0) <| ov [501, 500] (Ak Py q0 q1) .nil) fun _ a w h => ?_
     refine CC h hF 6 [7, 8, 9] [0, 1, 2, 3, 4, 5, 7, 8, 9, 10] (fun hb15 hF h => ?_) (fun hb15 hF h => ?_)
     ·refine wp_ret ?_
      replace h := h.F4 1 2 rfl rfl (by decide)
      replace h := h.F4 0 1 rfl rfl (by decide)
      replace h := h.conv 0 rfl (R' := AZ p_0 (some s_0)) (Ie (v0 := h_0_0) (v1 := h_0_1) (o := (some s_0)))
      replace h := h.sub [0] (by rfl)
      change AA c [.res (AZ p_0 (some s_0))] a w at h
      obtain rfl := Option.some.inj hF
      exact ⟨EA, rfl, CJ h (rs := []) (Vs := []) results72 (by decide) trivial [0] [(AZ p_0 (some s_0))] rfl rfl rfl⟩
     ·refine wp_skip ?_
      show Code.wp prog _ _ a w
      refine Cd mixed hn hG h [0, 1, 2, 3, 4, 500, 6, 7, 8, 9] (ov [5] (Ak A9 q0 qi) <| od [500] 5 (Ab q0) .nil) fun _ a w h => ?_
      obtain rfl := Option.some.inj hF
      exact ⟨rfl, h.sub [0, 1, 2, 3, 4, 5, 6, 7, 8, 9] (by rfl)⟩
    ·refine wp_exit ?_
     obtain rfl := Option.some.inj hF
     exact ⟨BK _, rfl, h.sub [0, 1, 2, 6, 7, 8, 9] (by rfl)⟩
   ·clear hl17
    intro e a w hq
    cases cr16 with
    | ret r18 =>
     obtain ⟨rfl, hq⟩ := hq
     obtain rfl := Option.some.inj hF
     exact ⟨.inl rfl, hq⟩
    | next y20 =>
     obtain ⟨rfl, h⟩ := hq
     change AA c [.slot 0 (Av p_0 0), .slot 2 (Br a_2), .slot 4 (Av (b3 0) 0), .res (lb p_0 215 [one (Az h_0_0), one (Az h_0_1)]), .res (acc h_0_0 9 1 Ed s_0.DM), .res (D7 h_0_1 FR (fun l => l.length = 32) (fun u y => acc u 9 1 Ed y) s_0.BV), .res (lb (b3 0) 33 [Af 32 a_1])] a w at h
     refine Bd ?_
     show Code.wp prog _ _ a w
     obtain ⟨hv21, hF⟩ := AF hF
     refine As mixed hn hG h [0, 1, 3, 4, 500] (ov [0] (Ab q0) <| ov [500] (CY q0 (EX _ _)) <| ov [500] (Ad (p := p_0) (n := 1) 0 1 underlying215 rfl sizeOf213 (by decide) q0 rfl) <| ov [500, 3] (Aj [one (Az h_0_0)] [] 1 isAgg213 q0 rfl rfl) <| ov [2, 6] (An 1 isAgg33 sizeOf33 q0) <| ov [1] (Ab q0) <| ov [500] (CP (xs := [.tmp 31]) (ys := [a_2]) _ rfl underlying22 sizeOf9 zeroValue9 rfl rfl (by decide) (by decide) ⟨⟨_, q0, (AG (CD _))⟩, trivial⟩ CF) <| og [503, 502] [5] [.slot 33 7 100000 (fun v1_ _ => (Db [(Az (N1 v1_)), (Az (N0 v1_))])), .res 7 100000 (fun v1_ _ => (acc (N1 v1_) 9 1 Ed ((Gd a_1 s_0.BV).getD ([] : List (List UInt8))))), .res 7 100000 (fun v1_ _ => (Rm h_0_1 (N0 v1_) FR (fun l => l.length = 32) (fun u y => acc u 9 1 Ed y) a_1 (NL a_1 ([] : List (List UInt8)) s_0.BV)))] (AB.plain (Mn ([] : List (List UInt8)) underlying213 (LF underlying33 underlying5 type5 sizeOf5 isAgg5) zeroValue22 q0 q1 LG (fun _ _ => ⟨by decide, .inl ⟨rfl, rfl, rfl⟩⟩)) rfl) <| og [502] [] [.slot 30 7 100000 (fun v1_ _ => (Az (N1 v1_)))] (fun {β} => (AB.plain (A5 (V := (Az (N1 (β 7)))) q0 rfl) rfl)) <| og [500, 504] [502] [.slot 34 9 100000 (fun v1_ _ => (Az v1_)), .res 9 100000 (fun v1_ _ => (acc (v1_) 9 1 Ed (((Gd a_1 s_0.BV).getD ([] : List (List UInt8))) ++ [a_2])))] (AB.plain (CL (i := t9) underlying22 type9 rfl CF (by decide) rfl q0 q1 hv21) rfl) <| og [505] [] [.slot 35 7 100000 (fun v1_ _ => (Az (N0 v1_)))] (fun {β} => (AB.plain (A5 (V := (Az (N0 (β 7)))) q0 rfl) rfl)) <| og [510, 500, 502] [501, 504] [.base (.res (D7 h_0_1 FR (fun l => l.length = 32) (fun u y => acc u 9 1 Ed y) (GW a_1 (((Gd a_1 s_0.BV).getD ([] : List (List UInt8))) ++ [a_2]) (NL a_1 ([] : List (List UInt8)) s_0.BV))))] (fun {β} => (AB.plain (KR (eR := (fun u y => acc u 9 1 Ed y)) (u := (β 9)) (n := (((Gd a_1 s_0.BV).getD ([] : List (List UInt8))) ++ [a_2])) q0 q1 q2) rfl)) .nil) fun _ a w h => ?_
     obtain ⟨hv22, hF⟩ := AF hF
     refine Cd mixed hn hG h [500, 4, 503] (ov [0] (Ab q0) <| ov [0] (Ab q0) <| ov [500] (CY q0 (EX _ _)) <| ov [500] (Ad (p := p_0) (n := 1) 0 0 underlying215 rfl sizeOf22 (by decide) q0 rfl) <| ov [500, 2] (Aj [] [one (Az h_0_1)] 1 isAgg22 q0 rfl rfl) <| ov [1] (Ab q0) <| ov [500] (CP (xs := [.tmp 41]) (ys := [a_2]) _ rfl underlying22 sizeOf9 zeroValue9 rfl rfl (by decide) (by decide) ⟨⟨_, q0, (AG (CD _))⟩, trivial⟩ CF) <| og [502, 500] [3] [.slot 43 7 100000 (fun v1_ _ => (Az v1_)), .res 7 100000 (fun v1_ _ => (acc (v1_) 9 1 Ed (s_0.DM ++ [a_2])))] (AB.plain (CL (i := t9) underlying22 type9 rfl CF (by decide) rfl q0 q1 hv22) rfl) <| ov [508] (CY q0 (EX _ _)) <| ov [500] (Ad (p := p_0) (n := 1) 0 0 underlying215 rfl sizeOf22 (by decide) q0 rfl) <| og [500, 503, 502] [2] [.res 7 100000 (fun v1_ _ => (lb p_0 215 [one (Az (v1_)), one (Az h_0_1)]))] (fun {β} => (AB.plain (B8 [] [one (Az h_0_0)] [one (Az h_0_1)] [one (Az ((β 7)))] sizeOf22 q0 (HU 1 2 rfl rfl IM) (FG _) rfl rfl rfl) rfl)) .nil) fun b23 a w h => ?_
     replace h := h.F4 2 1 rfl rfl (by decide)
     replace h := h.F4 0 2 rfl rfl (by decide)
     replace h := h.conv 0 rfl (R' := AZ p_0 (some ⟨s_0.DM ++ [a_2], GW a_1 (((Gd a_1 s_0.BV).getD ([] : List (List UInt8))) ++ [a_2]) (NL a_1 ([] : List (List UInt8)) s_0.BV)⟩)) (Ie (v0 := (b23 7)) (v1 := h_0_1) (o := (some ⟨s_0.DM ++ [a_2], GW a_1 (((Gd a_1 s_0.BV).getD ([] : List (List UInt8))) ++ [a_2]) (NL a_1 ([] : List (List UInt8)) s_0.BV)⟩)))
     replace h := h.sub [0] (by rfl)
     change AA c [.res (AZ p_0 (some ⟨s_0.DM ++ [a_2], GW a_1 (((Gd a_1 s_0.BV).getD ([] : List (List UInt8))) ++ [a_2]) (NL a_1 ([] : List (List UInt8)) s_0.BV)⟩))] a w at h
     obtain rfl := Option.some.inj hF
     exact ⟨.inr rfl, CJ h (rs := []) (Vs := []) results72 (by decide) trivial [0] [(AZ p_0 (some ⟨s_0.DM ++ [a_2], GW a_1 (((Gd a_1 s_0.BV).getD ([] : List (List UInt8))) ++ [a_2]) (NL a_1 ([] : List (List UInt8)) s_0.BV)⟩))] rfl rfl rfl⟩

def DB (L_0 : Option A2) (a_1 : Int) (a_2 : List (List UInt8)) : Option ((List UInt8) × (Option A2)) := ((Dd a_1 a_2).bind fun r2 => ((Gh r2).bind fun r3 => ((Ch L_0 r3 r2).bind fun r5 => some (r3, r5))))
theorem D5 {p_0 : Value} {L_0 : Option A2} {a_1 : Int} {a_2 : List (List UInt8)} {r : (List UInt8) × (Option A2)} (hF : DB L_0 a_1 a_2 = some r) : AH prog KG 33 [(Az p_0), (Ag .u8 a_1), (AJ Ed a_2)] [(AZ p_0 L_0)] (fun _ => [AZ p_0 r.2]) (Au [Af 32 r.1]) := by
 refine AH.intro 19 func33 rfl ntmps33 (Nat.le_of_ble_eq_true rfl) ?_
 intro c a w hG hn h
 unfold DB at hF
 change AA c [.slot 0 (Az p_0), .slot 1 (Ag .u8 a_1), .slot 2 (AJ Ed a_2), .res (AZ p_0 L_0)] a w at h
 refine As mixed hn hG h [0, 1, 2, 501, 3, 500] (ob [] (AR zeroValue33 FT) .nil) fun b1 a w h => ?_
 obtain ⟨r2, hr2, hF⟩ := bind_some hF
 refine As mixed hn hG h [0, 3, 500, 4, 5] (ov [1] (Ab q0) <| ov [2] (Ab q0) <| oc [501, 500] [] call70 (J8 hr2) ⟨q0, q1, trivial⟩ <| ov [500] (Ae q0) .nil) fun _ a w h => ?_
 obtain ⟨r3, hr3, hF⟩ := bind_some hF
 refine As mixed hn hG h [0, 1, 2, 502, 3, 4, 500] (ov [2] (Ab q0) <| oc [500] [] call71 (Lv hr3) ⟨q0, trivial⟩ <| ob [] (AR zeroValue33 FT) <| og [501, 502] [500] [.res 2 100000 (fun v1_ _ => (lb (v1_) 33 [Af 32 r3]))] (AB.plain (Aq sizeOf33 q0 q1 (Ai _)) rfl) .nil) fun b4 a w h => ?_
 obtain ⟨r5, hr5, hF⟩ := bind_some hF
 refine As mixed hn hG h [1, 3, 5, 6, 500] (ov [0] (Ab q0) <| ov [3, 6] (An 1 isAgg33 sizeOf33 q0) <| ov [2] (Ab q0) <| oc [502, 501, 500] [4] call72 (Iw hr5) ⟨q0, q1, q2, trivial⟩ .nil) fun _ a w h => ?_
 refine As mixed hn hG h [0, 500, 4] (ov [1, 3] (An 1 isAgg33 sizeOf33 q0) <| ou [0, 500] 2 (Aq sizeOf33 q0 q1 (Ai _)) .nil) fun _ a w h => ?_
 refine wp_ret ?_
 obtain rfl := Option.some.inj hF
 exact ⟨.inl rfl, BW h results33 (Be 0 1 rfl rfl isAgg33 sizeOf33 rfl) [2] [(AZ p_0 r5)] rfl rfl rfl⟩

def GB (a_0 : Ar) : Option (List UInt8) := ((CK (IntKind.wrap .u64 a_0.D3) 4).bind fun r2 => ((CK (IntKind.wrap .u64 a_0.G3) 4).bind fun r3 => (if r2.length + r3.length ≤ CW then ((CK (IntKind.wrap .u64 a_0.FQ) 4).bind fun r5 => (if (r2 ++ r3).length + r5.length ≤ CW then ((EB a_0.Gw).bind fun r7 => (if ((r2 ++ r3) ++ r5).length + r7.length ≤ CW then ((EB a_0.EZ).bind fun r9 => (if (((r2 ++ r3) ++ r5) ++ r7).length + r9.length ≤ CW then ((EB a_0.G4).bind fun r11 => (if ((((r2 ++ r3) ++ r5) ++ r7) ++ r9).length + r11.length ≤ CW then some (((((r2 ++ r3) ++ r5) ++ r7) ++ r9) ++ r11) else none)) else none)) else none)) else none)) else none)))
theorem J5 {a_0 : Ar} {r : (List UInt8)} (hF : GB a_0 = some r) : AH prog KG 34 [(Au (Ar.ck a_0))] [] (fun _ => []) (Br r) := by
 refine AH.intro 33 func34 rfl ntmps34 (Nat.le_of_ble_eq_true rfl) ?_
 intro c a w hG hn h
 unfold GB at hF
 change AA c [.slot 0 (Au (Ar.ck a_0))] a w at h
 refine As mixed hn hG h [502, 501] (ob [0] (Bc q0 (Ai _)) <| ov [] (Ae (D2 (sc _ (by decide)))) .nil) fun b1 a w h => ?_
 obtain ⟨r2, hr2, hF⟩ := bind_some hF
 refine As mixed hn hG h [0, 500, 1] (ov [0] (Ad (p := (b1 0)) (n := 1) 0 0 underlying31 rfl sizeOf29 (by decide) q0 rfl) <| ov [500, 1] (Aj [] ((Ar.ck a_0).drop 1) 1 isAgg29 q0 rfl rfl) <| ov [500] (A3 underlying29 underlying24 q0) <| oc [500] [] call73 (Em hr2) ⟨q0, qi, trivial⟩ <| ov [500] (Ae q0) .nil) fun _ a w h => ?_
 obtain ⟨r3, hr3, hF⟩ := bind_some hF
 obtain ⟨hv4, hF⟩ := AF hF
 refine As mixed hn hG h [0, 500, 2] (ov [1] (Ab q0) <| ov [0] (Ad (p := (b1 0)) (n := 1) 0 1 underlying31 rfl sizeOf29 (by decide) q0 rfl) <| ov [500, 2] (Aj [one (Ag .u32 a_0.D3)] ((Ar.ck a_0).drop 2) 1 isAgg29 q0 rfl rfl) <| ov [500] (A3 underlying29 underlying24 q0) <| oc [500] [] call73 (Em hr3) ⟨q0, qi, trivial⟩ <| ov [504, 500] (Ak (DN hv4) q0 q1) <| od [500] 1 (Ae q0) .nil) fun _ a w h => ?_
 obtain ⟨r5, hr5, hF⟩ := bind_some hF
 obtain ⟨hv6, hF⟩ := AF hF
 refine As mixed hn hG h [0, 500, 2] (ov [1] (Ab q0) <| ov [0] (Ad (p := (b1 0)) (n := 1) 0 2 underlying31 rfl sizeOf29 (by decide) q0 rfl) <| ov [500, 2] (Aj ((Ar.ck a_0).take 2) ((Ar.ck a_0).drop 3) 1 isAgg29 q0 rfl rfl) <| ov [500] (A3 underlying29 underlying24 q0) <| oc [500] [] call73 (Em hr5) ⟨q0, qi, trivial⟩ <| ov [504, 500] (Ak (DN hv6) q0 q1) <| od [500] 1 (Ae q0) .nil) fun _ a w h => ?_
 obtain ⟨r7, hr7, hF⟩ := bind_some hF
 obtain ⟨hv8, hF⟩ := AF hF
 obtain ⟨r9, hr9, hF⟩ := bind_some hF
 obtain ⟨hv10, hF⟩ := AF hF
 obtain ⟨r11, hr11, hF⟩ := bind_some hF
 obtain ⟨hv12, hF⟩ := AF hF
 refine As mixed hn hG h [500] (ov [1] (Ab q0) <| ov [0] (Ad (p := (b1 0)) (n := 1) 0 3 underlying31 rfl sizeOf9 (by decide) q0 rfl) <| ov [500, 2] (Aj ((Ar.ck a_0).take 3) ((Ar.ck a_0).drop 4) 1 isAgg9 q0 rfl rfl) <| oc [500] [] call74 (FF hr7) ⟨q0, trivial⟩ <| ov [503, 500] (Ak (DN hv8) q0 q1) <| ov [0] (Ad (p := (b1 0)) (n := 1) 0 4 underlying31 rfl sizeOf9 (by decide) q0 rfl) <| ov [500, 2] (Aj ((Ar.ck a_0).take 4) [one (Br a_0.G4)] 1 isAgg9 q0 rfl rfl) <| oc [500] [] call74 (FF hr9) ⟨q0, trivial⟩ <| ov [503, 500] (Ak (DN hv10) q0 q1) <| ov [0] (Ad (p := (b1 0)) (n := 1) 0 5 underlying31 rfl sizeOf9 (by decide) q0 rfl) <| ov [500, 2] (Aj ((Ar.ck a_0).take 5) [] 1 isAgg9 q0 rfl rfl) <| oc [500] [] call74 (FF hr11) ⟨q0, trivial⟩ <| ov [503, 500] (Ak (DN hv12) q0 q1) <| ov [500] (Ae q0) .nil) fun _ a w h => ?_
 refine wp_ret ?_
 obtain rfl := Option.some.inj hF
 exact ⟨.inl rfl, BW h results34 (Ba 0 rfl) [] [] rfl rfl rfl⟩

def Fx (L_0 : Option A2) (a_1 : Ar) : Option ((List UInt8) × (Option A2)) := ((GB a_1).bind fun r3 => ((DB L_0 5 [r3]).bind fun r4 => some (r4.1, r4.2)))
theorem HT {p_0 : Value} {L_0 : Option A2} {a_1 : Ar} {r : (List UInt8) × (Option A2)} (hF : Fx L_0 a_1 = some r) : AH prog KG 6 [(Az p_0), (Au (Ar.ck a_1))] [(AZ p_0 L_0)] (fun _ => [AZ p_0 r.2]) (Au [Af 32 r.1]) := by
 refine AH.intro 10 func6 rfl ntmps6 (Nat.le_of_ble_eq_true rfl) ?_
 intro c a w hG hn h
 unfold Fx at hF
 change AA c [.slot 0 (Az p_0), .slot 1 (Au (Ar.ck a_1)), .res (AZ p_0 L_0)] a w at h
 refine As mixed hn hG h [0, 503, 501, 2, 502, 500] (ob [1] (Bc q0 (Ai _)) <| ob [] (AR zeroValue33 FT) .nil) fun b1 a w h => ?_
 obtain ⟨r3, hr3, hF⟩ := bind_some hF
 obtain ⟨r4, hr4, hF⟩ := bind_some hF
 refine As mixed hn hG h [2, 500, 501] (ov [0] (Ab q0) <| ov [1, 4] (An 1 isAgg31 sizeOf31 q0) <| oc [500] [] call34 (J5 hr3) ⟨q0, trivial⟩ <| ov [500] (CP (xs := [.tmp 7]) (ys := [r3]) _ rfl underlying22 sizeOf9 zeroValue9 rfl rfl (by decide) (by decide) ⟨⟨_, q0, (AG (CD _))⟩, trivial⟩ CF) <| oc [503, 500] [3] call33 (D5 hr4) ⟨q0, qi, q1, trivial⟩ <| ou [2, 501] 5 (Aq sizeOf33 q0 q1 (Ai _)) .nil) fun _ a w h => ?_
 refine wp_ret ?_
 obtain rfl := Option.some.inj hF
 exact ⟨.inl rfl, BW h results6 (Be 0 1 rfl rfl isAgg33 sizeOf33 rfl) [2] [(AZ p_0 r4.2)] rfl rfl rfl⟩

def BO (a_0 : List (List UInt8)) : Option (List (List UInt8)) := (if a_0.length * 32 ≤ 140737488355328 then some a_0 else none)
theorem DV {a_0 r : List (List UInt8)} (hF : BO a_0 = some r) : AH prog KG 43 [(AJ (dC 32) a_0)] [] (fun _ => []) (AJ (dC 32) r) := by
 unfold BO at hF
 obtain ⟨hv1, hF⟩ := AF hF
 obtain rfl := Option.some.inj hF
 refine AH.intro 8 func43 rfl ntmps43 (Nat.le_of_ble_eq_true rfl) ?_
 intro c a w hG hn h
 change AA c [.slot 0 (AJ (dC 32) a_0)] a w at h
 refine wp_seq ?_
 refine Co (n := 8) [.slot 2 100000 100000 (fun _ _ => (Az (.slice none 0 0)))] [0] [⟨[], [], [1], [], some 2⟩] [0] mixed hn hG h (by kernel_rfl) ?_ ?_
 ·exact ⟨⟨rfl, fun β => (AB.plain (Ae (D2 (ec _))) rfl)⟩, trivial⟩
 clear h
 intro β a w h
 change AA c [.slot 0 (AJ (dC 32) a_0)] a w at h
 clear β
 show Code.wp prog _ _ a w
 refine wp_seq ?_
 refine wp_seq ?_
 refine Co (n := 8) [.slot 3 100000 100000 (fun _ _ => (AJ (dC 32) a_0)), .slot 4 100000 100000 (fun _ _ => (Fg a_0))] [0, 1] [⟨[0], [], [1], [], some 3⟩, ⟨[1], [], [2], [0], some 4⟩] [0, 2] mixed hn hG h (by kernel_rfl) ?_ ?_
 ·exact ⟨⟨rfl, fun β => (AB.plain (Ab (opt 0 rfl)) rfl)⟩, ⟨rfl, fun β => (AB.plain (Ak (Gj underlying27) (opt 0 rfl) (D2 (ec _))) rfl)⟩, trivial⟩
 clear h
 intro β a w h
 change AA c [.slot 0 (AJ (dC 32) a_0), .slot 4 (Fg a_0)] a w at h
 clear β
 show Code.wp prog _ _ a w
 obtain ⟨b0, hb0, h⟩ := h.Oi 1 rfl
 change AA c [.slot 0 (AJ (dC 32) a_0), .slot 4 (AL b0)] a w at h
 refine Gx h 1 rfl (fun hb => ?_) (fun hb => ?_)
 ·obtain rfl := hb0 hb
  replace h := h.sub [] (by rfl)
  change AA c [] a w at h
  refine wp_seq ?_
  refine Co (n := 8) [.slot 2 100000 100000 (fun _ _ => (Az (.slice none 0 0)))] [0] [⟨[], [], [0], [], some 2⟩] [0] mixed hn hG h (by kernel_rfl) ?_ ?_
  ·exact ⟨⟨rfl, fun β => (AB.plain (Ae (D2 (ec _))) rfl)⟩, trivial⟩
  clear h
  intro β a w h
  change AA c [.slot 2 (Az (.slice none 0 0))] a w at h
  clear β
  show Code.wp prog _ _ a w
  refine wp_ret ?_
  exact ⟨.inl rfl, BW h results43 (Mf 0 rfl) [] [] rfl rfl rfl⟩
 ·replace h := h.sub [0] (by rfl)
  change AA c [.slot 0 (AJ (dC 32) a_0)] a w at h
  refine wp_skip ?_
  show Code.wp prog _ _ a w
  refine wp_seq ?_
  refine Co (n := 8) [.slot 5 100000 100000 (fun _ _ => MA), .slot 6 100000 100000 (fun _ _ => (AJ (dC 32) a_0)), .slot 7 100000 100000 (fun _ _ => (AJ (dC 32) a_0)), .slot 2 100000 100000 (fun _ _ => (AJ (dC 32) a_0))] [0, 1, 2, 3] [⟨[], [], [1], [], some 5⟩, ⟨[0], [], [2], [0], some 6⟩, ⟨[1, 2], [], [3], [0, 1], some 7⟩, ⟨[3], [], [4], [0, 1, 2], some 2⟩] [4] mixed hn hG h (by kernel_rfl) ?_ ?_
  ·exact ⟨⟨rfl, fun β => (AB.plain (LA underlying27 sizeOf33 zeroValue33) rfl)⟩, ⟨rfl, fun β => (AB.plain (Ab (opt 0 rfl)) rfl)⟩, ⟨rfl, fun β => (AB.plain (GJ (i := t33) underlying27 type33 rfl (Bk 32) (by decide) rfl (opt 0 rfl) (opt 1 rfl) hv1) rfl)⟩, ⟨rfl, fun β => (AB.plain (Ae (opt 0 rfl)) rfl)⟩, trivial⟩
  clear h
  intro β a w h
  change AA c [.slot 2 (AJ (dC 32) a_0)] a w at h
  clear β
  show Code.wp prog _ _ a w
  refine wp_ret ?_
  exact ⟨.inl rfl, BW h results43 (Ba 0 rfl) [] [] rfl rfl rfl⟩
theorem JJ {a_0 r : List (List UInt8)} (hF : BO a_0 = some r) : AH prog KG 43 [(AJ (dC 32) a_0)] [] (fun v => [own v 33 32 (dC 32) r]) NR := by
 unfold BO at hF
 obtain ⟨hv1, hF⟩ := AF hF
 obtain rfl := Option.some.inj hF
 refine AH.intro 8 func43 rfl ntmps43 (Nat.le_of_ble_eq_true rfl) ?_
 intro c a w hG hn h
 change AA c [.slot 0 (AJ (dC 32) a_0)] a w at h
 have hm : a_0.length ≤ CW := h.OJ 0 rfl (fun _ _ q => q.1)
 refine wp_seq ?_
 refine Co (n := 8) [.slot 2 100000 100000 (fun _ _ => (Az (.slice none 0 0)))] [0] [⟨[], [], [1], [], some 2⟩] [0] mixed hn hG h (by kernel_rfl) ?_ ?_
 ·exact ⟨⟨rfl, fun β => (AB.plain (Ae (D2 (ec _))) rfl)⟩, trivial⟩
 clear h
 intro β a w h
 change AA c [.slot 0 (AJ (dC 32) a_0)] a w at h
 clear β
 show Code.wp prog _ _ a w
 refine wp_seq ?_
 refine wp_seq ?_
 refine Co (n := 8) [.slot 3 100000 100000 (fun _ _ => (AJ (dC 32) a_0)), .slot 4 100000 100000 (fun _ _ => (Fg a_0))] [0, 1] [⟨[0], [], [1], [], some 3⟩, ⟨[1], [], [2], [0], some 4⟩] [0, 2] mixed hn hG h (by kernel_rfl) ?_ ?_
 ·exact ⟨⟨rfl, fun β => (AB.plain (Ab (opt 0 rfl)) rfl)⟩, ⟨rfl, fun β => (AB.plain (Ak (Gj underlying27) (opt 0 rfl) (D2 (ec _))) rfl)⟩, trivial⟩
 clear h
 intro β a w h
 change AA c [.slot 0 (AJ (dC 32) a_0), .slot 4 (Fg a_0)] a w at h
 clear β
 show Code.wp prog _ _ a w
 obtain ⟨b0, hb0, h⟩ := h.Oi 1 rfl
 change AA c [.slot 0 (AJ (dC 32) a_0), .slot 4 (AL b0)] a w at h
 refine Gx h 1 rfl (fun hb => ?_) (fun hb => ?_)
 ·obtain rfl := hb0 hb
  replace h := h.sub [] (by rfl)
  change AA c [] a w at h
  refine wp_seq ?_
  refine Co (n := 8) [.slot 2 100000 100000 (fun _ _ => (Az (.slice none 0 0)))] [0] [⟨[], [], [0], [], some 2⟩] [0] mixed hn hG h (by kernel_rfl) ?_ ?_
  ·exact ⟨⟨rfl, fun β => (AB.plain (Ae (D2 (ec _))) rfl)⟩, trivial⟩
  clear h
  intro β a w h
  change AA c [.slot 2 (Az (.slice none 0 0))] a w at h
  clear β
  replace h := h.Nc 33 32 (dC 32)
  show Code.wp prog _ _ a w
  refine wp_ret ?_
  exact ⟨.inl rfl, K4 (p := .slice none 0 0) h results43 (Ba 0 rfl) [1] _ rfl rfl rfl⟩
 ·replace h := h.sub [0] (by rfl)
  change AA c [.slot 0 (AJ (dC 32) a_0)] a w at h
  refine wp_skip ?_
  show Code.wp prog _ _ a w
  refine wp_seq ?_
  refine Co (n := 8) [.slot 5 0 100000 (fun v _ => (Az v)), .res 0 100000 (fun v _ => (own v 33 32 (dC 32) ([] : List (List UInt8)))), .slot 6 100000 100000 (fun _ _ => (AJ (dC 32) a_0)), .slot 7 2 100000 (fun v _ => (Az v)), .res 2 100000 (fun v _ => (own v 33 32 (dC 32) (([] : List (List UInt8)) ++ a_0))), .slot 2 2 100000 (fun v _ => (Az v))] [0, 0, 1, 2, 2, 3] [⟨[], [], [1, 2], [], some 5⟩, ⟨[0], [], [3], [0], some 6⟩, ⟨[1, 3], [2], [4, 5], [0, 1], some 7⟩, ⟨[4], [], [6], [0, 1, 2], some 2⟩] [6, 5] mixed hn hG h (by kernel_rfl) ?_ ?_
  ·exact ⟨⟨rfl, fun β => (AB.plain (Kh underlying27 sizeOf33 zeroValue33) rfl)⟩, ⟨rfl, fun β => (AB.plain (Ab (opt 0 rfl)) rfl)⟩, ⟨rfl, fun β => (AB.plain (Ff (i := t33) underlying27 type33 rfl (Bk 32) (by decide) rfl (opt 0 rfl) (opt 1 rfl) ⟨by simpa using hm, by rw [List.length_nil, Nat.zero_add]; exact hv1⟩) rfl)⟩, ⟨rfl, fun β => (AB.plain (Ae (V := Az (β 2)) (opt 0 rfl)) rfl)⟩, trivial⟩
  clear h
  intro β a w h
  change AA c [.slot 2 (Az (β 2)), .res (own (β 2) 33 32 (dC 32) a_0)] a w at h
  generalize β 2 = p at h
  clear β
  show Code.wp prog _ _ a w
  refine wp_ret ?_
  exact ⟨.inl rfl, K4 (p := p) h results43 (Ba 0 rfl) [1] _ rfl rfl rfl⟩

def E2 (a_0 : Int) (a_1 : Int) (a_2 : List UInt8) (a_3 : List (List UInt8)) (a_4 : Int) (a_5 : List UInt8) : Option Aa := ((BO a_3).bind fun r4 => some (Aa.mk a_0 a_1 a_2 r4 a_4 a_5 [] [] false false))
theorem Hs {a_0 : Int} {a_1 : Int} {a_2 : List UInt8} {a_3 : List (List UInt8)} {a_4 : Int} {a_5 : List UInt8} {r : Aa} (hF : E2 a_0 a_1 a_2 a_3 a_4 a_5 = some r) : AH prog KG 16 [(Ag .u32 a_0), (Ag .u32 a_1), (Au [Af 32 a_2]), (AJ (dC 32) a_3), (Ag .u64 a_4), (Au [Af 32 a_5])] [] (fun _ => []) (Au (Aa.ck r)) := by
 refine AH.intro 21 func16 rfl ntmps16 (Nat.le_of_ble_eq_true rfl) ?_
 intro c a w hG hn h
 unfold E2 at hF
 change AA c [.slot 0 (Ag .u32 a_0), .slot 1 (Ag .u32 a_1), .slot 2 (Au [Af 32 a_2]), .slot 3 (AJ (dC 32) a_3), .slot 4 (Ag .u64 a_4), .slot 5 (Au [Af 32 a_5])] a w at h
 refine As mixed hn hG h [0, 1, 3, 4, 505, 503, 501, 504, 502, 500] (ob [2] (Bc q0 (Ai _)) <| ob [5] (Bc q0 (Ai _)) <| ob [] (AR zeroValue41 MN) .nil) fun b1 a w h => ?_
 obtain ⟨r4, hr4, hF⟩ := bind_some hF
 refine As mixed hn hG h [6, 500] (ov [0] (Ab q0) <| ov [1] (Ab q0) <| ov [4, 7] (An 1 isAgg33 sizeOf33 q0) <| ov [2] (Ab q0) <| oc [500] [] call43 (DV hr4) ⟨q0, trivial⟩ <| ov [3] (Ab q0) <| ov [5, 8] (An 1 isAgg33 sizeOf33 q0) <| ov [506, 505, 504, 502, 501, 500] (Dw [(0, .tmp 13), (1, .tmp 14), (2, .tmp 15), (3, .tmp 17), (4, .tmp 18), (5, .tmp 19)] rfl SB MN ⟨[], [one (Ag .u32 (0 : Int))], [one (Ag .u32 (0 : Int)), Af 32 (List.replicate 32 0), one (AJ (dC 32) []), one (Ag .u64 (0 : Int)), Af 32 (List.replicate 32 0), one (AJ Ao.ck []), one (AJ Al.ck []), one (AL false), one (AL false)], [one (Ag .u32 a_0)], _, rfl, rfl, rfl, q0, (AG (A8 _ _)), ⟨[one (Ag .u32 a_0)], [one (Ag .u32 (0 : Int))], [Af 32 (List.replicate 32 0), one (AJ (dC 32) []), one (Ag .u64 (0 : Int)), Af 32 (List.replicate 32 0), one (AJ Ao.ck []), one (AJ Al.ck []), one (AL false), one (AL false)], [one (Ag .u32 a_1)], _, rfl, rfl, rfl, q1, (AG (A8 _ _)), ⟨[one (Ag .u32 a_0), one (Ag .u32 a_1)], [Af 32 (List.replicate 32 0)], [one (AJ (dC 32) []), one (Ag .u64 (0 : Int)), Af 32 (List.replicate 32 0), one (AJ Ao.ck []), one (AJ Al.ck []), one (AL false), one (AL false)], [Af 32 a_2], _, rfl, rfl, rfl, q2, (Ai _), ⟨[one (Ag .u32 a_0), one (Ag .u32 a_1), Af 32 a_2], [one (AJ (dC 32) [])], [one (Ag .u64 (0 : Int)), Af 32 (List.replicate 32 0), one (AJ Ao.ck []), one (AJ Al.ck []), one (AL false), one (AL false)], [one (AJ (dC 32) r4)], _, rfl, rfl, rfl, q3, (AG (H9 _ _)), ⟨[one (Ag .u32 a_0), one (Ag .u32 a_1), Af 32 a_2, one (AJ (dC 32) r4)], [one (Ag .u64 (0 : Int))], [Af 32 (List.replicate 32 0), one (AJ Ao.ck []), one (AJ Al.ck []), one (AL false), one (AL false)], [one (Ag .u64 a_4)], _, rfl, rfl, rfl, (opt 4 rfl), (AG (A8 _ _)), ⟨[one (Ag .u32 a_0), one (Ag .u32 a_1), Af 32 a_2, one (AJ (dC 32) r4), one (Ag .u64 a_4)], [Af 32 (List.replicate 32 0)], [one (AJ Ao.ck []), one (AJ Al.ck []), one (AL false), one (AL false)], [Af 32 a_5], _, rfl, rfl, rfl, (opt 5 rfl), (Ai _), rfl⟩⟩⟩⟩⟩⟩) <| ou [6, 500] 9 (Aq sizeOf41 q0 q1 (Ai _)) .nil) fun _ a w h => ?_
 refine wp_ret ?_
 obtain rfl := Option.some.inj hF
 exact ⟨.inl rfl, BW h results16 (Be 0 1 rfl rfl isAgg41 sizeOf41 rfl) [] [] rfl rfl rfl⟩

def Bp.b1 (a_0 : List (Al)) (a_1 : ((Al)) → Option (Bool)) (x5 : Int) : Option (Cn Int Int) := (if (decide (x5 < (a_0.length : Int))) = true then (if (0 : Int) ≤ x5 ∧ x5 < a_0.length then ((a_1 (a_0.getD x5.toNat default)).bind fun r13 => (if r13 = true then some (.ret x5) else some (.cont (IntKind.wrap .i64 (x5 + 1))))) else none) else some (.brk x5))
def Bp (a_0 : List (Al)) (a_1 : ((Al)) → Option (Bool)) : Option Int := ((Bu (fun s : Int => Bp.b1 a_0 a_1 s) (((a_0.length : Int) - 0 : Int).toNat + 2) 0).bind fun cr => match cr with | .ret r => some r | .next y19 => some (-1 : Int))
theorem FK {a_0 : List (Al)} {a_1 : ((Al)) → Option (Bool)} {r : Int} (hF : Bp a_0 a_1 = some r) : AH prog KG 81 [(AJ Al.ck a_0), (Kt prog KG (fun x : Al => [(Au (Al.ck x))]) (fun r : Bool => (AL r)) a_1)] [] (fun _ => []) (Ag .i64 r) := by
 refine AH.intro 19 func81 rfl ntmps81 (Nat.le_of_ble_eq_true rfl) ?_
 intro c a w hG hn h
 unfold Bp at hF
 change AA c [.slot 0 (AJ Al.ck a_0), .slot 1 (Kt prog KG (fun x : Al => [(Au (Al.ck x))]) (fun r : Bool => (AL r)) a_1)] a w at h
 refine As mixed hn hG h [0, 1] (ov [] (Ae qi) .nil) fun _ a w h => ?_
 refine wp_seq ?_
 refine As mixed hn hG h [0, 1, 501, 500] (ov [0] (Ab q0) <| ov [500] (A6 underlying39 q0) <| ov [] (Ab qi) .nil) fun _ a w h => ?_
 refine wp_block ?_
 obtain ⟨cr15, hl16, hF⟩ := bind_some hF
 refine wp_mono (Bx (R := Int) (S := Int) (fun s a w => AA c [.slot 0 (AJ Al.ck a_0), .slot 1 (Kt prog KG (fun x : Al => [(Au (Al.ck x))]) (fun r : Bool => (AL r)) a_1), .slot 7 (Ag .i64 (a_0.length : Int)), .slot 8 (Ag .i64 s)] a w) (fun res e a w => match res with | .next s => e = .exit 0 ∧ AA c [] a w | .ret r => e = .ret ∧ Cu prog f81 c (Ag .i64 r) (fun _ => []) a w) ?_ _ 0 _ _ _ (h.sub [0, 1, 2, 3] (by rfl)) hl16) ?_
 ·clear hl16 hF h
  intro x5 a w o h hF
  change Bp.b1 a_0 a_1 x5 = some o at hF
  unfold Bp.b1 at hF
  change AA c [.slot 0 (AJ Al.ck a_0), .slot 1 (Kt prog KG (fun x : Al => [(Au (Al.ck x))]) (fun r : Bool => (AL r)) a_1), .slot 7 (Ag .i64 (a_0.length : Int)), .slot 8 (Ag .i64 x5)] a w at h
  refine As mixed hn hG h [0, 1, 2, 3, 500] (ov [3, 2] (Ak Bl q0 q1) .nil) fun _ a w h => ?_
  refine wp_seq ?_
  refine CC h hF 4 [0, 1, 2, 3] [0, 1, 2, 3] (fun hb11 hF h => ?_) (fun hb11 hF h => ?_)
  ·refine wp_skip ?_
   show Code.wp prog _ _ a w
   refine wp_seq ?_
   refine wp_block ?_
   refine As mixed hn hG h [0, 1, 500, 2, 3] (ov [3] (Ab q0) <| ov [500] (Ae q0) .nil) fun _ a w h => ?_
   obtain ⟨hv12, hF⟩ := AF hF
   obtain ⟨r13, hr13, hF⟩ := bind_some hF
   refine As mixed hn hG h [0, 1, 2, 3, 4, 500] (ov [1] (Ab q0) <| ov [0] (Ab q0) <| ov [2] (Ab q0) <| ov [501, 500] (AS underlying39 sizeOf110 Al.lens q0 q1 hv12) <| ov [500] (Bq (Al.ck (a_0.getD x5.toNat default)) [] isAgg110 sizeOf110 q0 rfl) <| ov [504, 500] (K7 (A := (fun x : Al => [(Au (Al.ck x))])) (B := (fun r : Bool => (AL r))) (g := a_1) (x := (a_0.getD x5.toNat default)) q0 ⟨q1, trivial⟩ hr13) .nil) fun _ a w h => ?_
   refine CC h hF 5 [2] [0, 1, 3, 4] (fun hb14 hF h => ?_) (fun hb14 hF h => ?_)
   ·refine As mixed hn hG h [500] (ov [0] (Ab q0) <| ov [500] (Ae q0) .nil) fun _ a w h => ?_
    refine wp_ret ?_
    obtain rfl := Option.some.inj hF
    exact ⟨EA, rfl, BW h results81 (Ba 0 rfl) [] [] rfl rfl rfl⟩
   ·refine wp_skip ?_
    show Code.wp prog _ _ a w
    refine Cd mixed hn hG h [0, 1, 2, 500] (ov [3] (Ak A9 q0 qi) <| od [500] 3 (Ab q0) .nil) fun _ a w h => ?_
    obtain rfl := Option.some.inj hF
    exact ⟨rfl, h.sub [0, 1, 2, 3] (by rfl)⟩
  ·refine wp_exit ?_
   obtain rfl := Option.some.inj hF
   exact ⟨BK _, rfl, h.sub [] (by rfl)⟩
 ·clear hl16
  intro e a w hq
  cases cr15 with
  | ret r17 =>
   obtain ⟨rfl, hq⟩ := hq
   obtain rfl := Option.some.inj hF
   exact ⟨.inl rfl, hq⟩
  | next y19 =>
   obtain ⟨rfl, h⟩ := hq
   change AA c [] a w at h
   refine Bd ?_
   show Code.wp prog _ _ a w
   refine As mixed hn hG h [500] (ov [] (Ae qi) .nil) fun _ a w h => ?_
   refine wp_ret ?_
   obtain rfl := Option.some.inj hF
   exact ⟨.inl rfl, BW h results81 (Ba 0 rfl) [] [] rfl rfl rfl⟩

def D4 (a_0 : Al) (c_1 : List UInt8) : Option Bool := some (decide (a_0.BJ = c_1))
theorem H5 {a_0 : Al} {c_1 : List UInt8} {r : Bool} (hF : D4 a_0 c_1 = some r) : AH prog KG 82 [(Au (Al.ck a_0)), (Fy [Af 32 c_1])] [] (fun _ => []) (AL r) := by
 refine AH.intro 8 func82 rfl ntmps82 (Nat.le_of_ble_eq_true rfl) ?_
 intro c a w hG hn h
 unfold D4 at hF
 change AA c [.slot 0 (Au (Al.ck a_0)), .slot 1 (Fy [Af 32 c_1])] a w at h
 refine As mixed hn hG h [1, 502, 501] (ob [0] (Bc q0 (Ai _)) <| ov [] (Ae qb) .nil) fun b1 a w h => ?_
 refine As mixed hn hG h [500] (ov [1] (Ad (p := (b1 0)) (n := 32) 0 0 underlying110 rfl sizeOf33 (by decide) q0 rfl) <| ov [500, 2] (AT [] [Af 32 a_0.BJ] ((Al.ck a_0).drop 1) 1 isAgg33 sizeOf33 q0 rfl rfl rfl) <| ov [0] (Bq [Af 32 c_1] [] isAgg33 sizeOf33 q0 rfl) <| ov [501, 500] (Ak (EF underlying33 underlying5 type5 sizeOf5 isAgg5 eqGuardType33) q0 q1) <| ov [500] (Ae q0) .nil) fun _ a w h => ?_
 refine wp_ret ?_
 obtain rfl := Option.some.inj hF
 exact ⟨.inl rfl, BW h results82 (Ba 0 rfl) [] [] rfl rfl rfl⟩

def Ee (a_0 : Aa) (a_1 : List UInt8) : Option Int := ((Bp a_0.Ah (fun x : Al => D4 x a_1)).bind fun r3 => some r3)
theorem DT {a_0 : Aa} {a_1 : List UInt8} {r : Int} (hF : Ee a_0 a_1 = some r) : AH prog KG 41 [(Au (Aa.ck a_0)), (Au [Af 32 a_1])] [] (fun _ => []) (Ag .i64 r) := by
 refine AH.intro 9 func41 rfl ntmps41 (Nat.le_of_ble_eq_true rfl) ?_
 intro c a w hG hn h
 unfold Ee at hF
 change AA c [.slot 0 (Au (Aa.ck a_0)), .slot 1 (Au [Af 32 a_1])] a w at h
 refine As mixed hn hG h [504, 502, 503, 501] (ob [0] (Bc q0 (Ai _)) <| ob [1] (Bc q0 (Ai _)) <| ov [] (Ae qi) .nil) fun b1 a w h => ?_
 replace h := h.Lx 3 rfl
 replace h := h.Kx 1 3 rfl rfl
 replace h := h.sub [0, 1, 2] (by rfl)
 change AA c [.slot 2 (Av (b1 0) 0), .slot 3 (Fy [Af 32 a_1]), .res (lb (b1 0) 41 (Aa.ck a_0))] a w at h
 obtain ⟨r3, hr3, hF⟩ := bind_some hF
 refine As mixed hn hG h [500] (ov [0] (Ad (p := (b1 0)) (n := 1) 0 69 underlying41 rfl sizeOf39 (by decide) q0 rfl) <| ov [500, 2] (Aj ((Aa.ck a_0).take 7) ((Aa.ck a_0).drop 8) 1 isAgg39 q0 rfl rfl) <| ov [1] (Hv (A := (fun x : Al => [(Au (Al.ck x))])) (B := (fun r : Bool => (AL r))) (g := (fun x : Al => D4 x a_1)) (Cs := [(Fy [Af 32 a_1])]) call82 (fun x r h => H5 h) ⟨q0, trivial⟩) <| oc [501, 500] [] call81 (FK hr3) ⟨q0, q1, trivial⟩ <| ov [500] (Ae q0) .nil) fun _ a w h => ?_
 refine wp_ret ?_
 obtain rfl := Option.some.inj hF
 exact ⟨.inl rfl, BW h results41 (Ba 0 rfl) [] [] rfl rfl rfl⟩

def Cy (a_0 : Aa) : Option Int := (if a_0.Bj = true then some 30 else (if a_0.BR = true then some 34 else some 0))
theorem FV {a_0 : Aa} {r : Int} (hF : Cy a_0 = some r) : AH prog KG 56 [(Au (Aa.ck a_0))] [] (fun _ => []) (Ag .i64 r) := by
 refine AH.intro 9 func56 rfl ntmps56 (Nat.le_of_ble_eq_true rfl) ?_
 intro c a w hG hn h
 unfold Cy at hF
 change AA c [.slot 0 (Au (Aa.ck a_0))] a w at h
 refine As mixed hn hG h [502, 501] (ob [0] (Bc q0 (Ai _)) <| ov [] (Ae qi) .nil) fun b1 a w h => ?_
 refine wp_seq ?_
 refine wp_block ?_
 refine As mixed hn hG h [0, 500, 1] (ov [0] (Ad (p := (b1 0)) (n := 1) 0 70 underlying41 rfl sizeOf4 (by decide) q0 rfl) <| ov [500, 1] (Aj ((Aa.ck a_0).take 8) [one (AL a_0.BR)] 1 isAgg4 q0 rfl rfl) <| ov [500] (Ae q0) .nil) fun _ a w h => ?_
 refine CC h hF 1 [] [0, 2] (fun hb2 hF h => ?_) (fun hb2 hF h => ?_)
 ·refine As mixed hn hG h [500] (ov [] (Ae qi) .nil) fun _ a w h => ?_
  refine wp_ret ?_
  obtain rfl := Option.some.inj hF
  exact ⟨.inl rfl, BW h results56 (Ba 0 rfl) [] [] rfl rfl rfl⟩
 ·refine As mixed hn hG h [500] (ov [0] (Ad (p := (b1 0)) (n := 1) 0 71 underlying41 rfl sizeOf4 (by decide) q0 rfl) <| ov [500, 1] (Aj ((Aa.ck a_0).take 9) [] 1 isAgg4 q0 rfl rfl) <| ov [500] (Ae q0) .nil) fun _ a w h => ?_
  refine CC h hF 0 [] [] (fun hb3 hF h => ?_) (fun hb3 hF h => ?_)
  ·refine As mixed hn hG h [500] (ov [] (Ae qi) .nil) fun _ a w h => ?_
   refine wp_ret ?_
   obtain rfl := Option.some.inj hF
   exact ⟨.inl rfl, BW h results56 (Ba 0 rfl) [] [] rfl rfl rfl⟩
  ·refine wp_skip ?_
   show Code.wp prog _ _ a w
   refine As mixed hn hG h [500] (ov [] (Ae qi) .nil) fun _ a w h => ?_
   refine wp_ret ?_
   obtain rfl := Option.some.inj hF
   exact ⟨.inl rfl, BW h results56 (Ba 0 rfl) [] [] rfl rfl rfl⟩

def Bo.b1 (a_0 : List (Ao)) (a_1 : ((Ao)) → Option (Bool)) (x5 : Int) : Option (Cn Int Int) := (if (decide (x5 < (a_0.length : Int))) = true then (if (0 : Int) ≤ x5 ∧ x5 < a_0.length then ((a_1 (a_0.getD x5.toNat default)).bind fun r13 => (if r13 = true then some (.ret x5) else some (.cont (IntKind.wrap .i64 (x5 + 1))))) else none) else some (.brk x5))
def Bo (a_0 : List (Ao)) (a_1 : ((Ao)) → Option (Bool)) : Option Int := ((Bu (fun s : Int => Bo.b1 a_0 a_1 s) (((a_0.length : Int) - 0 : Int).toNat + 2) 0).bind fun cr => match cr with | .ret r => some r | .next y19 => some (-1 : Int))
theorem FJ {a_0 : List (Ao)} {a_1 : ((Ao)) → Option (Bool)} {r : Int} (hF : Bo a_0 a_1 = some r) : AH prog KG 91 [(AJ Ao.ck a_0), (Kt prog KG (fun x : Ao => [(Au (Ao.ck x))]) (fun r : Bool => (AL r)) a_1)] [] (fun _ => []) (Ag .i64 r) := by
 refine AH.intro 19 func91 rfl ntmps91 (Nat.le_of_ble_eq_true rfl) ?_
 intro c a w hG hn h
 unfold Bo at hF
 change AA c [.slot 0 (AJ Ao.ck a_0), .slot 1 (Kt prog KG (fun x : Ao => [(Au (Ao.ck x))]) (fun r : Bool => (AL r)) a_1)] a w at h
 refine As mixed hn hG h [0, 1] (ov [] (Ae qi) .nil) fun _ a w h => ?_
 refine wp_seq ?_
 refine As mixed hn hG h [0, 1, 501, 500] (ov [0] (Ab q0) <| ov [500] (A6 underlying38 q0) <| ov [] (Ab qi) .nil) fun _ a w h => ?_
 refine wp_block ?_
 obtain ⟨cr15, hl16, hF⟩ := bind_some hF
 refine wp_mono (Bx (R := Int) (S := Int) (fun s a w => AA c [.slot 0 (AJ Ao.ck a_0), .slot 1 (Kt prog KG (fun x : Ao => [(Au (Ao.ck x))]) (fun r : Bool => (AL r)) a_1), .slot 7 (Ag .i64 (a_0.length : Int)), .slot 8 (Ag .i64 s)] a w) (fun res e a w => match res with | .next s => e = .exit 0 ∧ AA c [] a w | .ret r => e = .ret ∧ Cu prog f91 c (Ag .i64 r) (fun _ => []) a w) ?_ _ 0 _ _ _ (h.sub [0, 1, 2, 3] (by rfl)) hl16) ?_
 ·clear hl16 hF h
  intro x5 a w o h hF
  change Bo.b1 a_0 a_1 x5 = some o at hF
  unfold Bo.b1 at hF
  change AA c [.slot 0 (AJ Ao.ck a_0), .slot 1 (Kt prog KG (fun x : Ao => [(Au (Ao.ck x))]) (fun r : Bool => (AL r)) a_1), .slot 7 (Ag .i64 (a_0.length : Int)), .slot 8 (Ag .i64 x5)] a w at h
  refine As mixed hn hG h [0, 1, 2, 3, 500] (ov [3, 2] (Ak Bl q0 q1) .nil) fun _ a w h => ?_
  refine wp_seq ?_
  refine CC h hF 4 [0, 1, 2, 3] [0, 1, 2, 3] (fun hb11 hF h => ?_) (fun hb11 hF h => ?_)
  ·refine wp_skip ?_
   show Code.wp prog _ _ a w
   refine wp_seq ?_
   refine wp_block ?_
   refine As mixed hn hG h [0, 1, 500, 2, 3] (ov [3] (Ab q0) <| ov [500] (Ae q0) .nil) fun _ a w h => ?_
   obtain ⟨hv12, hF⟩ := AF hF
   obtain ⟨r13, hr13, hF⟩ := bind_some hF
   refine As mixed hn hG h [0, 1, 2, 3, 4, 500] (ov [1] (Ab q0) <| ov [0] (Ab q0) <| ov [2] (Ab q0) <| ov [501, 500] (AS underlying38 sizeOf37 Ao.lens q0 q1 hv12) <| ov [500] (Bq (Ao.ck (a_0.getD x5.toNat default)) [] isAgg37 sizeOf37 q0 rfl) <| ov [504, 500] (K7 (A := (fun x : Ao => [(Au (Ao.ck x))])) (B := (fun r : Bool => (AL r))) (g := a_1) (x := (a_0.getD x5.toNat default)) q0 ⟨q1, trivial⟩ hr13) .nil) fun _ a w h => ?_
   refine CC h hF 5 [2] [0, 1, 3, 4] (fun hb14 hF h => ?_) (fun hb14 hF h => ?_)
   ·refine As mixed hn hG h [500] (ov [0] (Ab q0) <| ov [500] (Ae q0) .nil) fun _ a w h => ?_
    refine wp_ret ?_
    obtain rfl := Option.some.inj hF
    exact ⟨EA, rfl, BW h results91 (Ba 0 rfl) [] [] rfl rfl rfl⟩
   ·refine wp_skip ?_
    show Code.wp prog _ _ a w
    refine Cd mixed hn hG h [0, 1, 2, 500] (ov [3] (Ak A9 q0 qi) <| od [500] 3 (Ab q0) .nil) fun _ a w h => ?_
    obtain rfl := Option.some.inj hF
    exact ⟨rfl, h.sub [0, 1, 2, 3] (by rfl)⟩
  ·refine wp_exit ?_
   obtain rfl := Option.some.inj hF
   exact ⟨BK _, rfl, h.sub [] (by rfl)⟩
 ·clear hl16
  intro e a w hq
  cases cr15 with
  | ret r17 =>
   obtain ⟨rfl, hq⟩ := hq
   obtain rfl := Option.some.inj hF
   exact ⟨.inl rfl, hq⟩
  | next y19 =>
   obtain ⟨rfl, h⟩ := hq
   change AA c [] a w at h
   refine Bd ?_
   show Code.wp prog _ _ a w
   refine As mixed hn hG h [500] (ov [] (Ae qi) .nil) fun _ a w h => ?_
   refine wp_ret ?_
   obtain rfl := Option.some.inj hF
   exact ⟨.inl rfl, BW h results91 (Ba 0 rfl) [] [] rfl rfl rfl⟩

def Eg (a_0 : Ao) (c_1 : List UInt8) : Option Bool := some (decide (a_0.Bt = c_1))
theorem Ir {a_0 : Ao} {c_1 : List UInt8} {r : Bool} (hF : Eg a_0 c_1 = some r) : AH prog KG 92 [(Au (Ao.ck a_0)), (Fy [Af 32 c_1])] [] (fun _ => []) (AL r) := by
 refine AH.intro 8 func92 rfl ntmps92 (Nat.le_of_ble_eq_true rfl) ?_
 intro c a w hG hn h
 unfold Eg at hF
 change AA c [.slot 0 (Au (Ao.ck a_0)), .slot 1 (Fy [Af 32 c_1])] a w at h
 refine As mixed hn hG h [1, 502, 501] (ob [0] (Bc q0 (Ai _)) <| ov [] (Ae qb) .nil) fun b1 a w h => ?_
 refine As mixed hn hG h [500] (ov [1] (Ad (p := (b1 0)) (n := 32) 0 0 underlying37 rfl sizeOf33 (by decide) q0 rfl) <| ov [500, 2] (AT [] [Af 32 a_0.Bt] [one (Ag .u64 a_0.GU)] 1 isAgg33 sizeOf33 q0 rfl rfl rfl) <| ov [0] (Bq [Af 32 c_1] [] isAgg33 sizeOf33 q0 rfl) <| ov [501, 500] (Ak (EF underlying33 underlying5 type5 sizeOf5 isAgg5 eqGuardType33) q0 q1) <| ov [500] (Ae q0) .nil) fun _ a w h => ?_
 refine wp_ret ?_
 obtain rfl := Option.some.inj hF
 exact ⟨.inl rfl, BW h results92 (Ba 0 rfl) [] [] rfl rfl rfl⟩

def DO (a_0 : Aa) (a_1 : List UInt8) : Option Int := ((Bo a_0.Ay (fun x : Ao => Eg x a_1)).bind fun r3 => some r3)
theorem Ep {a_0 : Aa} {a_1 : List UInt8} {r : Int} (hF : DO a_0 a_1 = some r) : AH prog KG 50 [(Au (Aa.ck a_0)), (Au [Af 32 a_1])] [] (fun _ => []) (Ag .i64 r) := by
 refine AH.intro 9 func50 rfl ntmps50 (Nat.le_of_ble_eq_true rfl) ?_
 intro c a w hG hn h
 unfold DO at hF
 change AA c [.slot 0 (Au (Aa.ck a_0)), .slot 1 (Au [Af 32 a_1])] a w at h
 refine As mixed hn hG h [504, 502, 503, 501] (ob [0] (Bc q0 (Ai _)) <| ob [1] (Bc q0 (Ai _)) <| ov [] (Ae qi) .nil) fun b1 a w h => ?_
 replace h := h.Lx 3 rfl
 replace h := h.Kx 1 3 rfl rfl
 replace h := h.sub [0, 1, 2] (by rfl)
 change AA c [.slot 2 (Av (b1 0) 0), .slot 3 (Fy [Af 32 a_1]), .res (lb (b1 0) 41 (Aa.ck a_0))] a w at h
 obtain ⟨r3, hr3, hF⟩ := bind_some hF
 refine As mixed hn hG h [500] (ov [0] (Ad (p := (b1 0)) (n := 1) 0 68 underlying41 rfl sizeOf38 (by decide) q0 rfl) <| ov [500, 2] (Aj ((Aa.ck a_0).take 6) ((Aa.ck a_0).drop 7) 1 isAgg38 q0 rfl rfl) <| ov [1] (Hv (A := (fun x : Ao => [(Au (Ao.ck x))])) (B := (fun r : Bool => (AL r))) (g := (fun x : Ao => Eg x a_1)) (Cs := [(Fy [Af 32 a_1])]) call92 (fun x r h => Ir h) ⟨q0, trivial⟩) <| oc [501, 500] [] call91 (FJ hr3) ⟨q0, q1, trivial⟩ <| ov [500] (Ae q0) .nil) fun _ a w h => ?_
 refine wp_ret ?_
 obtain rfl := Option.some.inj hF
 exact ⟨.inl rfl, BW h results50 (Ba 0 rfl) [] [] rfl rfl rfl⟩

def Eh (a_0 : Aa) (a_1 : List UInt8) (a_2 : Int) : Option Int := ((DO a_0 a_1).bind fun r3 => (if (decide (r3 < (0 : Int))) = true then some 31 else (if (0 : Int) ≤ r3 ∧ r3 < a_0.Ay.length then (if (decide (a_2 < ((a_0.Ay.getD r3.toNat default).GU))) = true then some 36 else some 0) else none)))
theorem Gz {a_0 : Aa} {a_1 : List UInt8} {a_2 : Int} {r : Int} (hF : Eh a_0 a_1 a_2 = some r) : AH prog KG 58 [(Au (Aa.ck a_0)), (Au [Af 32 a_1]), (Ag .u64 a_2)] [] (fun _ => []) (Ag .i64 r) := by
 refine AH.intro 23 func58 rfl ntmps58 (Nat.le_of_ble_eq_true rfl) ?_
 intro c a w hG hn h
 unfold Eh at hF
 change AA c [.slot 0 (Au (Aa.ck a_0)), .slot 1 (Au [Af 32 a_1]), .slot 2 (Ag .u64 a_2)] a w at h
 refine As mixed hn hG h [2, 504, 502, 503, 501] (ob [0] (Bc q0 (Ai _)) <| ob [1] (Bc q0 (Ai _)) <| ov [] (Ae qi) .nil) fun b1 a w h => ?_
 obtain ⟨r3, hr3, hF⟩ := bind_some hF
 refine As mixed hn hG h [0, 1, 500, 3] (ov [1, 3] (An 1 isAgg41 sizeOf41 q0) <| ov [2, 4] (An 1 isAgg33 sizeOf33 q0) <| oc [501, 500] [] call50 (Ep hr3) ⟨q0, q1, trivial⟩ <| ov [500] (Ae q0) .nil) fun _ a w h => ?_
 refine wp_seq ?_
 refine wp_block ?_
 refine As mixed hn hG h [0, 1, 2, 500, 3] (ov [2] (Ab q0) <| ov [500] (Ak Bl q0 qi) <| ov [500] (Ae q0) .nil) fun _ a w h => ?_
 refine CC h hF 3 [] [0, 1, 2, 4] (fun hb4 hF h => ?_) (fun hb4 hF h => ?_)
 ·refine As mixed hn hG h [500] (ov [] (Ae qi) .nil) fun _ a w h => ?_
  refine wp_ret ?_
  obtain rfl := Option.some.inj hF
  exact ⟨.inl rfl, BW h results58 (Ba 0 rfl) [] [] rfl rfl rfl⟩
 ·obtain ⟨hv5, hF⟩ := AF hF
  refine As mixed hn hG h [500] (ov [1] (Ad (p := (b1 0)) (n := 1) 0 68 underlying41 rfl sizeOf38 (by decide) q0 rfl) <| ov [500, 3] (Aj ((Aa.ck a_0).take 6) ((Aa.ck a_0).drop 7) 1 isAgg38 q0 rfl rfl) <| ov [2] (Ab q0) <| ov [501, 500] (AS underlying38 sizeOf37 Ao.lens q0 q1 hv5) <| ov [500] (EV (n := 1) [Af 32 ((a_0.Ay.getD r3.toNat default).Bt)] _ underlying37 rfl sizeOf24 (by decide) q0 rfl) <| ov [500] (Ds [] isAgg24 q0) <| ov [0] (Ab q0) <| ov [501, 500] (Ak EW q0 q1) <| ov [500] (Ae q0) .nil) fun _ a w h => ?_
  refine CC h hF 0 [] [] (fun hb6 hF h => ?_) (fun hb6 hF h => ?_)
  ·refine As mixed hn hG h [500] (ov [] (Ae qi) .nil) fun _ a w h => ?_
   refine wp_ret ?_
   obtain rfl := Option.some.inj hF
   exact ⟨.inl rfl, BW h results58 (Ba 0 rfl) [] [] rfl rfl rfl⟩
  ·refine wp_skip ?_
   show Code.wp prog _ _ a w
   refine As mixed hn hG h [500] (ov [] (Ae qi) .nil) fun _ a w h => ?_
   refine wp_ret ?_
   obtain rfl := Option.some.inj hF
   exact ⟨.inl rfl, BW h results58 (Ba 0 rfl) [] [] rfl rfl rfl⟩

def Cq (a_0 : List (Al)) : Option (List (Al)) := (if a_0.length * 72 ≤ 140737488355328 then some a_0 else none)
theorem KI {a_0 r : List (Al)} (hF : Cq a_0 = some r) : AH prog KG 59 [(AJ Al.ck a_0)] [] (fun _ => []) (AJ Al.ck r) := by
 unfold Cq at hF
 obtain ⟨hv1, hF⟩ := AF hF
 obtain rfl := Option.some.inj hF
 refine AH.intro 8 func59 rfl ntmps59 (Nat.le_of_ble_eq_true rfl) ?_
 intro c a w hG hn h
 change AA c [.slot 0 (AJ Al.ck a_0)] a w at h
 refine wp_seq ?_
 refine Co (n := 8) [.slot 2 100000 100000 (fun _ _ => (Az (.slice none 0 0)))] [0] [⟨[], [], [1], [], some 2⟩] [0] mixed hn hG h (by kernel_rfl) ?_ ?_
 ·exact ⟨⟨rfl, fun β => (AB.plain (Ae (D2 (ec _))) rfl)⟩, trivial⟩
 clear h
 intro β a w h
 change AA c [.slot 0 (AJ Al.ck a_0)] a w at h
 clear β
 show Code.wp prog _ _ a w
 refine wp_seq ?_
 refine wp_seq ?_
 refine Co (n := 8) [.slot 3 100000 100000 (fun _ _ => (AJ Al.ck a_0)), .slot 4 100000 100000 (fun _ _ => (Fg a_0))] [0, 1] [⟨[0], [], [1], [], some 3⟩, ⟨[1], [], [2], [0], some 4⟩] [0, 2] mixed hn hG h (by kernel_rfl) ?_ ?_
 ·exact ⟨⟨rfl, fun β => (AB.plain (Ab (opt 0 rfl)) rfl)⟩, ⟨rfl, fun β => (AB.plain (Ak (Gj underlying39) (opt 0 rfl) (D2 (ec _))) rfl)⟩, trivial⟩
 clear h
 intro β a w h
 change AA c [.slot 0 (AJ Al.ck a_0), .slot 4 (Fg a_0)] a w at h
 clear β
 show Code.wp prog _ _ a w
 obtain ⟨b0, hb0, h⟩ := h.Oi 1 rfl
 change AA c [.slot 0 (AJ Al.ck a_0), .slot 4 (AL b0)] a w at h
 refine Gx h 1 rfl (fun hb => ?_) (fun hb => ?_)
 ·obtain rfl := hb0 hb
  replace h := h.sub [] (by rfl)
  change AA c [] a w at h
  refine wp_seq ?_
  refine Co (n := 8) [.slot 2 100000 100000 (fun _ _ => (Az (.slice none 0 0)))] [0] [⟨[], [], [0], [], some 2⟩] [0] mixed hn hG h (by kernel_rfl) ?_ ?_
  ·exact ⟨⟨rfl, fun β => (AB.plain (Ae (D2 (ec _))) rfl)⟩, trivial⟩
  clear h
  intro β a w h
  change AA c [.slot 2 (Az (.slice none 0 0))] a w at h
  clear β
  show Code.wp prog _ _ a w
  refine wp_ret ?_
  exact ⟨.inl rfl, BW h results59 (Mf 0 rfl) [] [] rfl rfl rfl⟩
 ·replace h := h.sub [0] (by rfl)
  change AA c [.slot 0 (AJ Al.ck a_0)] a w at h
  refine wp_skip ?_
  show Code.wp prog _ _ a w
  refine wp_seq ?_
  refine Co (n := 8) [.slot 5 100000 100000 (fun _ _ => MA), .slot 6 100000 100000 (fun _ _ => (AJ Al.ck a_0)), .slot 7 100000 100000 (fun _ _ => (AJ Al.ck a_0)), .slot 2 100000 100000 (fun _ _ => (AJ Al.ck a_0))] [0, 1, 2, 3] [⟨[], [], [1], [], some 5⟩, ⟨[0], [], [2], [0], some 6⟩, ⟨[1, 2], [], [3], [0, 1], some 7⟩, ⟨[3], [], [4], [0, 1, 2], some 2⟩] [4] mixed hn hG h (by kernel_rfl) ?_ ?_
  ·exact ⟨⟨rfl, fun β => (AB.plain (LA underlying39 sizeOf110 zeroValue110) rfl)⟩, ⟨rfl, fun β => (AB.plain (Ab (opt 0 rfl)) rfl)⟩, ⟨rfl, fun β => (AB.plain (GJ (i := t110) underlying39 type110 rfl Al.lens (by decide) rfl (opt 0 rfl) (opt 1 rfl) hv1) rfl)⟩, ⟨rfl, fun β => (AB.plain (Ae (opt 0 rfl)) rfl)⟩, trivial⟩
  clear h
  intro β a w h
  change AA c [.slot 2 (AJ Al.ck a_0)] a w at h
  clear β
  show Code.wp prog _ _ a w
  refine wp_ret ?_
  exact ⟨.inl rfl, BW h results59 (Ba 0 rfl) [] [] rfl rfl rfl⟩
theorem Ey {a_0 r : List (Al)} (hF : Cq a_0 = some r) : AH prog KG 59 [(AJ Al.ck a_0)] [] (fun v => [own v 110 65 Al.ck r]) NR := by
 unfold Cq at hF
 obtain ⟨hv1, hF⟩ := AF hF
 obtain rfl := Option.some.inj hF
 refine AH.intro 8 func59 rfl ntmps59 (Nat.le_of_ble_eq_true rfl) ?_
 intro c a w hG hn h
 change AA c [.slot 0 (AJ Al.ck a_0)] a w at h
 have hm : a_0.length ≤ CW := h.OJ 0 rfl (fun _ _ q => q.1)
 refine wp_seq ?_
 refine Co (n := 8) [.slot 2 100000 100000 (fun _ _ => (Az (.slice none 0 0)))] [0] [⟨[], [], [1], [], some 2⟩] [0] mixed hn hG h (by kernel_rfl) ?_ ?_
 ·exact ⟨⟨rfl, fun β => (AB.plain (Ae (D2 (ec _))) rfl)⟩, trivial⟩
 clear h
 intro β a w h
 change AA c [.slot 0 (AJ Al.ck a_0)] a w at h
 clear β
 show Code.wp prog _ _ a w
 refine wp_seq ?_
 refine wp_seq ?_
 refine Co (n := 8) [.slot 3 100000 100000 (fun _ _ => (AJ Al.ck a_0)), .slot 4 100000 100000 (fun _ _ => (Fg a_0))] [0, 1] [⟨[0], [], [1], [], some 3⟩, ⟨[1], [], [2], [0], some 4⟩] [0, 2] mixed hn hG h (by kernel_rfl) ?_ ?_
 ·exact ⟨⟨rfl, fun β => (AB.plain (Ab (opt 0 rfl)) rfl)⟩, ⟨rfl, fun β => (AB.plain (Ak (Gj underlying39) (opt 0 rfl) (D2 (ec _))) rfl)⟩, trivial⟩
 clear h
 intro β a w h
 change AA c [.slot 0 (AJ Al.ck a_0), .slot 4 (Fg a_0)] a w at h
 clear β
 show Code.wp prog _ _ a w
 obtain ⟨b0, hb0, h⟩ := h.Oi 1 rfl
 change AA c [.slot 0 (AJ Al.ck a_0), .slot 4 (AL b0)] a w at h
 refine Gx h 1 rfl (fun hb => ?_) (fun hb => ?_)
 ·obtain rfl := hb0 hb
  replace h := h.sub [] (by rfl)
  change AA c [] a w at h
  refine wp_seq ?_
  refine Co (n := 8) [.slot 2 100000 100000 (fun _ _ => (Az (.slice none 0 0)))] [0] [⟨[], [], [0], [], some 2⟩] [0] mixed hn hG h (by kernel_rfl) ?_ ?_
  ·exact ⟨⟨rfl, fun β => (AB.plain (Ae (D2 (ec _))) rfl)⟩, trivial⟩
  clear h
  intro β a w h
  change AA c [.slot 2 (Az (.slice none 0 0))] a w at h
  clear β
  replace h := h.Nc 110 65 Al.ck
  show Code.wp prog _ _ a w
  refine wp_ret ?_
  exact ⟨.inl rfl, K4 (p := .slice none 0 0) h results59 (Ba 0 rfl) [1] _ rfl rfl rfl⟩
 ·replace h := h.sub [0] (by rfl)
  change AA c [.slot 0 (AJ Al.ck a_0)] a w at h
  refine wp_skip ?_
  show Code.wp prog _ _ a w
  refine wp_seq ?_
  refine Co (n := 8) [.slot 5 0 100000 (fun v _ => (Az v)), .res 0 100000 (fun v _ => (own v 110 65 Al.ck ([] : List (Al)))), .slot 6 100000 100000 (fun _ _ => (AJ Al.ck a_0)), .slot 7 2 100000 (fun v _ => (Az v)), .res 2 100000 (fun v _ => (own v 110 65 Al.ck (([] : List (Al)) ++ a_0))), .slot 2 2 100000 (fun v _ => (Az v))] [0, 0, 1, 2, 2, 3] [⟨[], [], [1, 2], [], some 5⟩, ⟨[0], [], [3], [0], some 6⟩, ⟨[1, 3], [2], [4, 5], [0, 1], some 7⟩, ⟨[4], [], [6], [0, 1, 2], some 2⟩] [6, 5] mixed hn hG h (by kernel_rfl) ?_ ?_
  ·exact ⟨⟨rfl, fun β => (AB.plain (Kh underlying39 sizeOf110 zeroValue110) rfl)⟩, ⟨rfl, fun β => (AB.plain (Ab (opt 0 rfl)) rfl)⟩, ⟨rfl, fun β => (AB.plain (Ff (i := t110) underlying39 type110 rfl Al.lens (by decide) rfl (opt 0 rfl) (opt 1 rfl) ⟨by simpa using hm, by rw [List.length_nil, Nat.zero_add]; exact hv1⟩) rfl)⟩, ⟨rfl, fun β => (AB.plain (Ae (V := Az (β 2)) (opt 0 rfl)) rfl)⟩, trivial⟩
  clear h
  intro β a w h
  change AA c [.slot 2 (Az (β 2)), .res (own (β 2) 110 65 Al.ck a_0)] a w at h
  generalize β 2 = p at h
  clear β
  show Code.wp prog _ _ a w
  refine wp_ret ?_
  exact ⟨.inl rfl, K4 (p := p) h results59 (Ba 0 rfl) [1] _ rfl rfl rfl⟩

def C2 (L_0 : Ea) : Option (List UInt8) := (if L_0.DF ≠ [] then some L_0.DF else none)
theorem EN {p_0 : Value} {L_0 : Ea} {r : (List UInt8)} (hF : C2 L_0 = some r) : AH prog KG 111 [(Az p_0)] [(DJ p_0 (some L_0))] (fun _ => []) (Br r) := by
 refine AH.intro 14 func111 rfl ntmps111 (Nat.le_of_ble_eq_true rfl) ?_
 intro c a w hG hn h
 unfold C2 at hF
 change AA c [.slot 0 (Az p_0), .res (DJ p_0 (some L_0))] a w at h
 obtain ⟨h_0_1, h⟩ := h.ex 1 rfl
 change AA c [.slot 0 (Az p_0), .res (Ll p_0 h_0_1 (some L_0))] a w at h
 have hp := h.PK 1 rfl (fun Φ f w q => LQ Φ f w q)
 replace h := h.Gy 0 rfl (V' := Av p_0 0) (fun _ _ h => Jr h hp)
 replace h := h.sep (R := lb p_0 222 [one (DL p_0), one (Az h_0_1)]) (S := (acc h_0_1 5 1 bC L_0.DF)) 1 rfl
 replace h := h.sub [0, 1, 2] (by rfl)
 change AA c [.slot 0 (Av p_0 0), .res (lb p_0 222 [one (DL p_0), one (Az h_0_1)]), .res (acc h_0_1 5 1 bC L_0.DF)] a w at h
 refine As mixed hn hG h [0, 1, 2] (ov [] (Ae (D2 (sc _ (by decide)))) .nil) fun _ a w h => ?_
 obtain ⟨hv1, hF⟩ := AF hF
 refine As mixed hn hG h [500, 1] (ov [0] (Ab q0) <| ov [500] (CY q0 (EX _ _)) <| ov [500] (Ad (p := p_0) (n := 1) 0 1 underlying222 rfl sizeOf207 (by decide) q0 rfl) <| ov [500, 1] (Aj [one (DL p_0)] [] 1 isAgg207 q0 rfl rfl) <| ov [500, 2] (Rl 1 q0 rfl hv1) <| ov [0] (Ab q0) <| ov [500] (CY q0 (EX _ _)) <| ov [500] (Ad (p := p_0) (n := 1) 0 1 underlying222 rfl sizeOf207 (by decide) q0 rfl) <| ov [500, 1] (Aj [one (DL p_0)] [] 1 isAgg207 q0 rfl rfl) <| ov [500, 2] (A6 underlying207 (HV 0 1 rfl rfl)) <| oe [505, 500] [2] (AB.plain (Qf underlying255 (by kernel_rfl) q0 q1 hv1) rfl) <| ov [500] (Ae q0) .nil) fun _ a w h => ?_
 refine wp_ret ?_
 obtain rfl := Option.some.inj hF
 exact ⟨.inl rfl, BW h results111 (Ba 0 rfl) [] [] rfl rfl rfl⟩

def ES.b1 (a_0 : Int) (a_1 : Int) (x4 : Int) (x5 : List UInt8) : Option (Cn (List UInt8) (Int × (List UInt8))) := (if (decide (x4 < a_1)) = true then (if (0 : Int) ≤ IntKind.wrap .i64 (8 * (IntKind.wrap .i64 ((IntKind.wrap .i64 (a_1 - 1)) - x4))) then (if (0 : Int) ≤ x4 ∧ x4 < 8 then some (.cont (IntKind.wrap .i64 (x4 + 1), x5.set x4.toNat (B5 (IntKind.wrap .u8 (shr .u64 a_0 (IntKind.wrap .i64 (8 * (IntKind.wrap .i64 ((IntKind.wrap .i64 (a_1 - 1)) - x4))))))))) else none) else none) else some (.brk (x4, x5)))
def ES (a_0 : Int) (a_1 : Int) : Option (List UInt8) := ((Bu (fun s : Int × (List UInt8) => ES.b1 a_0 a_1 s.1 s.2) ((a_1 - 0 : Int).toNat + 2) (0, (List.replicate 8 0))).bind fun cr => match cr with | .ret r => some r | .next (y18, y19) => (if (0 : Int) ≤ 0 ∧ (0 : Int) ≤ a_1 ∧ a_1 ≤ 8 ∧ (0 : Int) < 8 then (if (a_1 : Int).toNat - (0 : Int).toNat ≤ 8 then some (y19.take ((a_1 : Int).toNat - (0 : Int).toNat)) else none) else none))
theorem Jj {a_0 : Int} {a_1 : Int} {r : (List UInt8)} (hF : ES a_0 a_1 = some r) : AH prog KG 114 [(Ag .u64 a_0), (Ag .i64 a_1)] [] (fun _ => []) (Br r) := by
 refine AH.intro 25 func114 rfl ntmps114 (Nat.le_of_ble_eq_true rfl) ?_
 intro c a w hG hn h
 unfold ES at hF
 change AA c [.slot 0 (Ag .u64 a_0), .slot 1 (Ag .i64 a_1)] a w at h
 refine As mixed hn hG h [0, 1] (ov [] (Ae (D2 (sc _ (by decide)))) .nil) fun _ a w h => ?_
 refine As mixed hn hG h [0, 1, 501, 500] (ob [] (AR zeroValue216 QZ) .nil) fun b1 a w h => ?_
 refine wp_seq ?_
 refine As mixed hn hG h [0, 1, 2, 501, 500, 3] (ov [1] (Ab q0) <| ov [] (Ab qi) .nil) fun _ a w h => ?_
 refine wp_block ?_
 obtain ⟨cr14, hl15, hF⟩ := bind_some hF
 refine wp_mono (Bx (R := (List UInt8)) (S := Int × (List UInt8)) (fun s a w => AA c [.slot 0 (Ag .u64 a_0), .slot 1 (Ag .i64 a_1), .slot 5 (Av (b1 0) 0), .slot 7 (Ag .i64 a_1), .slot 8 (Ag .i64 s.1), .res (lb (b1 0) 216 [Af 8 s.2])] a w) (fun res e a w => match res with | .next s => e = .exit 0 ∧ AA c [.slot 1 (Ag .i64 a_1), .slot 5 (Av (b1 0) 0), .res (lb (b1 0) 216 [Af 8 s.2])] a w | .ret r => e = .ret ∧ Cu prog f114 c (Br r) (fun _ => []) a w) ?_ _ (0, (List.replicate 8 0)) _ _ _ (h.sub [0, 1, 2, 3, 4, 5] (by rfl)) hl15) ?_
 ·clear hl15 hF h
  intro s a w o h hF
  obtain ⟨x4, x5⟩ := s
  change ES.b1 a_0 a_1 x4 x5 = some o at hF
  unfold ES.b1 at hF
  change AA c [.slot 0 (Ag .u64 a_0), .slot 1 (Ag .i64 a_1), .slot 5 (Av (b1 0) 0), .slot 7 (Ag .i64 a_1), .slot 8 (Ag .i64 x4), .res (lb (b1 0) 216 [Af 8 x5])] a w at h
  refine As mixed hn hG h [0, 1, 2, 3, 4, 500, 5] (ov [4, 3] (Ak Bl q0 q1) .nil) fun _ a w h => ?_
  refine wp_seq ?_
  refine CC h hF 5 [0, 1, 2, 3, 4, 6] [0, 1, 2, 3, 4, 6] (fun hb11 hF h => ?_) (fun hb11 hF h => ?_)
  ·refine wp_skip ?_
   show Code.wp prog _ _ a w
   refine wp_seq ?_
   refine wp_block ?_
   refine As mixed hn hG h [0, 1, 2, 500, 3, 4, 5] (ov [4] (Ab q0) <| ov [500] (Ae q0) .nil) fun _ a w h => ?_
   obtain ⟨hv12, hF⟩ := AF hF
   obtain ⟨hv13, hF⟩ := AF hF
   refine Cd mixed hn hG h [0, 1, 2, 4, 5, 500] (ov [3] (Ab q0) <| ov [0] (Ab q0) <| ov [1] (Ab q0) <| ov [500] (Ak CX q0 qi) <| ov [3] (Ab q0) <| ov [501, 500] (Ak CX q0 q1) <| ov [500] (Ak DQ qi q0) <| ov [505, 500] (Ak (HO hv12) q0 q1) <| ov [500] (A3 underlying24 underlying5 q0) <| ov [2, 508] (AM underlying216 sizeOf5 q0 q1 hv13) <| ou [500, 501] 6 (Fe (i := x4) [] [] sizeOf5 q0 q1 rfl hv13) .nil) fun _ a w h => ?_
   show Code.wp prog _ _ a w
   refine Cd mixed hn hG h [0, 1, 2, 3, 500, 5] (ov [4] (Ak A9 q0 qi) <| od [500] 4 (Ab q0) .nil) fun _ a w h => ?_
   obtain rfl := Option.some.inj hF
   exact ⟨rfl, h.sub [0, 1, 2, 3, 4, 5] (by rfl)⟩
  ·refine wp_exit ?_
   obtain rfl := Option.some.inj hF
   exact ⟨BK _, rfl, h.sub [1, 2, 5] (by rfl)⟩
 ·clear hl15
  intro e a w hq
  cases cr14 with
  | ret r16 =>
   obtain ⟨rfl, hq⟩ := hq
   obtain rfl := Option.some.inj hF
   exact ⟨.inl rfl, hq⟩
  | next s17 =>
   obtain ⟨y18, y19⟩ := s17
   obtain ⟨rfl, h⟩ := hq
   change AA c [.slot 1 (Ag .i64 a_1), .slot 5 (Av (b1 0) 0), .res (lb (b1 0) 216 [Af 8 y19])] a w at h
   refine Bd ?_
   show Code.wp prog _ _ a w
   obtain ⟨hv20, hF⟩ := AF hF
   obtain ⟨hv21, hF⟩ := AF hF
   refine As mixed hn hG h [500] (ov [0] (Ab q0) <| ov [1, 500] (EC (a := 0) (b := a_1) underlying216 sizeOf5 q0 rfl ⟨_, q1⟩ hv20) <| ov [500, 2] (Gr [] [] 1 underlying207 underlying5 underlying9 q0 rfl rfl hv21 (by decide)) <| ov [500] (Ae q0) .nil) fun _ a w h => ?_
   refine wp_ret ?_
   obtain rfl := Option.some.inj hF
   exact ⟨.inl rfl, BW h results114 (Ba 0 rfl) [] [] rfl rfl rfl⟩

def Dn (a_0 : Int) : Option (List UInt8) := ((ES (IntKind.wrap .u64 a_0) 4).bind fun r1 => some r1)
theorem D6 {a_0 : Int} {r : (List UInt8)} (hF : Dn a_0 = some r) : AH prog KG 89 [(Ag .u32 a_0)] [] (fun _ => []) (Br r) := by
 refine AH.intro 6 func89 rfl ntmps89 (Nat.le_of_ble_eq_true rfl) ?_
 intro c a w hG hn h
 unfold Dn at hF
 change AA c [.slot 0 (Ag .u32 a_0)] a w at h
 refine As mixed hn hG h [0] (ov [] (Ae (D2 (sc _ (by decide)))) .nil) fun _ a w h => ?_
 obtain ⟨r1, hr1, hF⟩ := bind_some hF
 refine As mixed hn hG h [500] (ov [0] (Ab q0) <| ov [500] (A3 underlying29 underlying24 q0) <| oc [500] [] call114 (Jj hr1) ⟨q0, qi, trivial⟩ <| ov [500] (Ae q0) .nil) fun _ a w h => ?_
 refine wp_ret ?_
 obtain rfl := Option.some.inj hF
 exact ⟨.inl rfl, BW h results89 (Ba 0 rfl) [] [] rfl rfl rfl⟩

def EH (a_0 : List UInt8) : Option (List UInt8) := ((Dn (IntKind.wrap .u32 (a_0.length : Int))).bind fun r1 => (if r1.length + a_0.length ≤ CW then some (r1 ++ a_0) else none))
theorem F7 {a_0 : List UInt8} {r : (List UInt8)} (hF : EH a_0 = some r) : AH prog KG 117 [(Br a_0)] [] (fun _ => []) (Br r) := by
 refine AH.intro 9 func117 rfl ntmps117 (Nat.le_of_ble_eq_true rfl) ?_
 intro c a w hG hn h
 unfold EH at hF
 change AA c [.slot 0 (Br a_0)] a w at h
 refine As mixed hn hG h [0] (ov [] (Ae (D2 (sc _ (by decide)))) .nil) fun _ a w h => ?_
 obtain ⟨r1, hr1, hF⟩ := bind_some hF
 obtain ⟨hv2, hF⟩ := AF hF
 refine As mixed hn hG h [500] (ov [0] (Ab q0) <| ov [500] (ED underlying9 q0) <| ov [500] (A3 underlying3 underlying29 q0) <| oc [500] [] call89 (D6 hr1) ⟨q0, trivial⟩ <| ov [0] (Ab q0) <| ov [501, 500] (Ak (DN hv2) q0 q1) <| ov [500] (Ae q0) .nil) fun _ a w h => ?_
 refine wp_ret ?_
 obtain rfl := Option.some.inj hF
 exact ⟨.inl rfl, BW h results117 (Ba 0 rfl) [] [] rfl rfl rfl⟩

def Dt (L_0 : Ea) (a_1 : Int) : Option (Value × Ea) := (if L_0.DF.length + [B5 a_1].length ≤ CW ∧ (L_0.DF.length + [B5 a_1].length) * 1 ≤ 140737488355328 then some (Value.nilIface, ⟨L_0.DF ++ [B5 a_1]⟩) else none)
theorem FU {p_0 : Value} {L_0 : Ea} {a_1 : Int} {r : Value × Ea} (hF : Dt L_0 a_1 = some r) : AH prog KG 127 [(Az p_0), (Ag .u8 a_1)] [(DJ p_0 (some L_0))] (fun _ => [DJ p_0 (some r.2)]) (Az r.1) := by
 refine AH.intro 17 func127 rfl ntmps127 (Nat.le_of_ble_eq_true rfl) ?_
 intro c a w hG hn h
 unfold Dt at hF
 change AA c [.slot 0 (Az p_0), .slot 1 (Ag .u8 a_1), .res (DJ p_0 (some L_0))] a w at h
 obtain ⟨h_0_1, h⟩ := h.ex 2 rfl
 change AA c [.slot 0 (Az p_0), .slot 1 (Ag .u8 a_1), .res (Ll p_0 h_0_1 (some L_0))] a w at h
 have hp := h.PK 2 rfl (fun Φ f w q => LQ Φ f w q)
 replace h := h.Gy 0 rfl (V' := Av p_0 0) (fun _ _ h => Jr h hp)
 replace h := h.sep (R := lb p_0 222 [one (DL p_0), one (Az h_0_1)]) (S := (acc h_0_1 5 1 bC L_0.DF)) 2 rfl
 replace h := h.sub [0, 1, 2, 3] (by rfl)
 change AA c [.slot 0 (Av p_0 0), .slot 1 (Ag .u8 a_1), .res (lb p_0 222 [one (DL p_0), one (Az h_0_1)]), .res (acc h_0_1 5 1 bC L_0.DF)] a w at h
 refine As mixed hn hG h [0, 1, 2, 3] (ov [] (Ae (D2 (ec _))) .nil) fun _ a w h => ?_
 refine As mixed hn hG h [0, 1, 3, 500] (ov [0] (Ab q0) <| oc [500] [2] call132 G5 ⟨(Nd 0 rfl), trivial⟩ .nil) fun _ a w h => ?_
 obtain ⟨hv1, hF⟩ := AF hF
 refine As mixed hn hG h [500, 503] (ov [0] (Ab q0) <| ov [0] (Ab q0) <| ov [500] (CY q0 (EX _ _)) <| ov [500] (Ad (p := p_0) (n := 1) 0 1 underlying222 rfl sizeOf207 (by decide) q0 rfl) <| ov [500, 3] (Aj [one (DL p_0)] [] 1 isAgg207 q0 rfl rfl) <| ov [1] (Ab q0) <| ov [500] (CP (xs := [.tmp 12]) (ys := [B5 a_1]) _ rfl underlying207 sizeOf5 zeroValue5 rfl rfl (by decide) (by decide) ⟨⟨_, q0, (Fo _)⟩, trivial⟩ D0) <| og [502, 500] [2] [.slot 14 7 100000 (fun v1_ _ => (Az v1_)), .res 7 100000 (fun v1_ _ => (acc (v1_) 5 1 bC (L_0.DF ++ [B5 a_1])))] (AB.plain (CL (i := t5) underlying207 type5 rfl D0 (by decide) rfl q0 q1 hv1) rfl) <| ov [508] (CY q0 (EX _ _)) <| ov [500] (Ad (p := p_0) (n := 1) 0 1 underlying222 rfl sizeOf207 (by decide) q0 rfl) <| og [500, 503, 502] [3] [.res 7 100000 (fun v1_ _ => (lb p_0 222 [one (DL p_0), one (Az (v1_))]))] (fun {β} => (AB.plain (B8 [one (DL p_0)] [one (Az h_0_1)] [] [one (Az ((β 7)))] sizeOf207 q0 (HU 1 2 rfl rfl IM) (FG _) rfl rfl rfl) rfl)) .nil) fun b2 a w h => ?_
 refine As mixed hn hG h [500, 0, 1] (ov [] (Ae (D2 (ec _))) .nil) fun _ a w h => ?_
 refine wp_ret ?_
 replace h := h.F4 1 2 rfl rfl (by decide)
 replace h := h.conv 1 rfl (R' := DJ p_0 (some ⟨L_0.DF ++ [B5 a_1]⟩)) (Ji (v1 := (b2 7)) (o := (some ⟨L_0.DF ++ [B5 a_1]⟩)))
 replace h := h.sub [0, 1] (by rfl)
 change AA c [.slot 4 (Az Value.nilIface), .res (DJ p_0 (some ⟨L_0.DF ++ [B5 a_1]⟩))] a w at h
 obtain rfl := Option.some.inj hF
 exact ⟨.inl rfl, BW h results127 (Ba 0 rfl) [1] [(DJ p_0 (some ⟨L_0.DF ++ [B5 a_1]⟩))] rfl rfl rfl⟩

def De (L_0 : Ea) (a_1 : List UInt8) : Option (Int × Value × Ea) := (if L_0.DF.length + a_1.length ≤ CW ∧ (L_0.DF.length + a_1.length) * 1 ≤ 140737488355328 then some ((a_1.length : Int), Value.nilIface, ⟨L_0.DF ++ a_1⟩) else none)
theorem Fv {p_0 : Value} {L_0 : Ea} {a_1 : List UInt8} {r : Int × Value × Ea} (hF : De L_0 a_1 = some r) : AH prog KG 128 [(Az p_0), (Br a_1)] [(DJ p_0 (some L_0))] (fun _ => [DJ p_0 (some r.2.2)]) (Db [(Ag .i64 r.1), (Az r.2.1)]) := by
 refine AH.intro 19 func128 rfl ntmps128 (Nat.le_of_ble_eq_true rfl) ?_
 intro c a w hG hn h
 unfold De at hF
 change AA c [.slot 0 (Az p_0), .slot 1 (Br a_1), .res (DJ p_0 (some L_0))] a w at h
 obtain ⟨h_0_1, h⟩ := h.ex 2 rfl
 change AA c [.slot 0 (Az p_0), .slot 1 (Br a_1), .res (Ll p_0 h_0_1 (some L_0))] a w at h
 have hp := h.PK 2 rfl (fun Φ f w q => LQ Φ f w q)
 replace h := h.Gy 0 rfl (V' := Av p_0 0) (fun _ _ h => Jr h hp)
 replace h := h.sep (R := lb p_0 222 [one (DL p_0), one (Az h_0_1)]) (S := (acc h_0_1 5 1 bC L_0.DF)) 2 rfl
 replace h := h.sub [0, 1, 2, 3] (by rfl)
 change AA c [.slot 0 (Av p_0 0), .slot 1 (Br a_1), .res (lb p_0 222 [one (DL p_0), one (Az h_0_1)]), .res (acc h_0_1 5 1 bC L_0.DF)] a w at h
 refine As mixed hn hG h [0, 1, 2, 3] (ov [] (Ae qi) <| ov [] (Ae (D2 (ec _))) .nil) fun _ a w h => ?_
 refine As mixed hn hG h [0, 1, 3, 500] (ov [0] (Ab q0) <| oc [500] [2] call132 G5 ⟨(Nd 0 rfl), trivial⟩ .nil) fun _ a w h => ?_
 obtain ⟨hv1, hF⟩ := AF hF
 refine As mixed hn hG h [1, 500, 503] (ov [0] (Ab q0) <| ov [0] (Ab q0) <| ov [500] (CY q0 (EX _ _)) <| ov [500] (Ad (p := p_0) (n := 1) 0 1 underlying222 rfl sizeOf207 (by decide) q0 rfl) <| ov [500, 3] (Aj [one (DL p_0)] [] 1 isAgg207 q0 rfl rfl) <| ov [1] (Ab q0) <| og [501, 500] [2] [.slot 14 6 100000 (fun v1_ _ => (Az v1_)), .res 6 100000 (fun v1_ _ => (acc (v1_) 5 1 bC (L_0.DF ++ a_1)))] (AB.plain (ET underlying207 underlying9 type5 rfl rfl rfl rfl q0 q1 hv1) rfl) <| ov [507] (CY q0 (EX _ _)) <| ov [500] (Ad (p := p_0) (n := 1) 0 1 underlying222 rfl sizeOf207 (by decide) q0 rfl) <| og [500, 503, 502] [3] [.res 6 100000 (fun v1_ _ => (lb p_0 222 [one (DL p_0), one (Az (v1_))]))] (fun {β} => (AB.plain (B8 [one (DL p_0)] [one (Az h_0_1)] [] [one (Az ((β 6)))] sizeOf207 q0 (HU 1 2 rfl rfl IM) (FG _) rfl rfl rfl) rfl)) .nil) fun b2 a w h => ?_
 refine As mixed hn hG h [501, 500, 1, 2] (ov [0] (Ab q0) <| ov [500] (ED underlying9 q0) <| ov [500] (Ae q0) <| ov [] (Ae (D2 (ec _))) .nil) fun _ a w h => ?_
 refine wp_ret ?_
 replace h := h.F4 2 3 rfl rfl (by decide)
 replace h := h.conv 2 rfl (R' := DJ p_0 (some ⟨L_0.DF ++ a_1⟩)) (Ji (v1 := (b2 6)) (o := (some ⟨L_0.DF ++ a_1⟩)))
 replace h := h.sub [0, 1, 2] (by rfl)
 change AA c [.slot 4 (Ag .i64 (a_1.length : Int)), .slot 5 (Az Value.nilIface), .res (DJ p_0 (some ⟨L_0.DF ++ a_1⟩))] a w at h
 obtain rfl := Option.some.inj hF
 exact ⟨.inl rfl, CJ h (rs := [.tmp 4, .tmp 5]) (Vs := [(Ag .i64 (a_1.length : Int)), (Az Value.nilIface)]) results128 (by decide) ⟨(Ba 0 rfl), (Ba 1 rfl), trivial⟩ [2] [(DJ p_0 (some ⟨L_0.DF ++ a_1⟩))] rfl rfl rfl⟩

def CU.b1 (a_1 : List (List UInt8)) (x7 : Int) (x8 : Ea) : Option (Cn (List UInt8) (Int × Ea)) := (if (decide (x7 < (a_1.length : Int))) = true then (if (0 : Int) ≤ x7 ∧ x7 < a_1.length then ((EH (a_1.getD x7.toNat default)).bind fun r17 => ((De x8 r17).bind fun r18 => some (.cont (IntKind.wrap .i64 (x7 + 1), r18.2.2)))) else none) else some (.brk (x7, x8)))
def CU (a_0 : Int) (a_1 : List (List UInt8)) : Option (List UInt8) := ((Dt ⟨[]⟩ a_0).bind fun r2 => ((Bu (fun s : Int × Ea => CU.b1 a_1 s.1 s.2) (((a_1.length : Int) - 0 : Int).toNat + 2) (0, r2.2)).bind fun cr => match cr with | .ret r => some r | .next (y23, y24) => ((C2 y24).bind fun r25 => some r25)))
theorem JI {a_0 : Int} {a_1 : List (List UInt8)} {r : (List UInt8)} (hF : CU a_0 a_1 = some r) : AH prog KG 107 [(Ag .u8 a_0), (AJ Ed a_1)] [] (fun _ => []) (Br r) := by
 refine AH.intro 21 func107 rfl ntmps107 (Nat.le_of_ble_eq_true rfl) ?_
 intro c a w hG hn h
 unfold CU at hF
 change AA c [.slot 0 (Ag .u8 a_0), .slot 1 (AJ Ed a_1)] a w at h
 refine As mixed hn hG h [0, 1] (ov [] (Ae (D2 (sc _ (by decide)))) .nil) fun _ a w h => ?_
 refine As mixed hn hG h [0, 1, 501, 500] (ob [] (AR zeroValue222 QC) .nil) fun b1 a w h => ?_
 replace h := h.conv 3 rfl NW
 replace h := h.Gy 2 rfl (fun _ _ h => LD h)
 replace h := h.sub [0, 1, 2, 3] (by rfl)
 change AA c [.slot 0 (Ag .u8 a_0), .slot 1 (AJ Ed a_1), .slot 5 (Az (b1 0)), .res (DJ (b1 0) (some ⟨[]⟩))] a w at h
 obtain ⟨r2, hr2, hF⟩ := bind_some hF
 refine As mixed hn hG h [1, 2, 500] (ov [0] (Ab q0) <| oc [2, 500] [3] call127 (FU hr2) ⟨q0, q1, trivial⟩ .nil) fun _ a w h => ?_
 refine wp_seq ?_
 refine As mixed hn hG h [1, 502, 501, 500, 2] (ov [0] (Ab q0) <| ov [500] (A6 underlying22 q0) <| ov [] (Ab qi) .nil) fun _ a w h => ?_
 refine wp_block ?_
 obtain ⟨cr19, hl20, hF⟩ := bind_some hF
 refine wp_mono (Bx (R := (List UInt8)) (S := Int × Ea) (fun s a w => AA c [.slot 5 (Az (b1 0)), .slot 10 (AJ Ed a_1), .slot 11 (Ag .i64 (a_1.length : Int)), .slot 12 (Ag .i64 s.1), .res (DJ (b1 0) (some s.2))] a w) (fun res e a w => match res with | .next s => e = .exit 0 ∧ AA c [.slot 5 (Az (b1 0)), .res (DJ (b1 0) (some s.2))] a w | .ret r => e = .ret ∧ Cu prog f107 c (Br r) (fun _ => []) a w) ?_ _ (0, r2.2) _ _ _ (h.sub [0, 1, 2, 3, 4] (by rfl)) hl20) ?_
 ·clear hl20 hF h
  intro s a w o h hF
  obtain ⟨x7, x8⟩ := s
  change CU.b1 a_1 x7 x8 = some o at hF
  unfold CU.b1 at hF
  change AA c [.slot 5 (Az (b1 0)), .slot 10 (AJ Ed a_1), .slot 11 (Ag .i64 (a_1.length : Int)), .slot 12 (Ag .i64 x7), .res (DJ (b1 0) (some x8))] a w at h
  refine As mixed hn hG h [0, 1, 2, 3, 500, 4] (ov [3, 2] (Ak Bl q0 q1) .nil) fun _ a w h => ?_
  refine wp_seq ?_
  refine CC h hF 4 [0, 1, 2, 3, 5] [0, 1, 2, 3, 5] (fun hb15 hF h => ?_) (fun hb15 hF h => ?_)
  ·refine wp_skip ?_
   show Code.wp prog _ _ a w
   refine wp_seq ?_
   refine wp_block ?_
   obtain ⟨hv16, hF⟩ := AF hF
   refine As mixed hn hG h [0, 500, 1, 2, 3, 4] (ov [1, 3] (AS underlying22 sizeOf9 CF q0 q1 hv16) <| ov [500] (Ds [] isAgg9 q0) <| ov [500] (Ae q0) .nil) fun _ a w h => ?_
   obtain ⟨r17, hr17, hF⟩ := bind_some hF
   obtain ⟨r18, hr18, hF⟩ := bind_some hF
   refine Cd mixed hn hG h [0, 2, 3, 4, 500] (ov [1] (Ab q0) <| oc [500] [] call117 (F7 hr17) ⟨q0, trivial⟩ <| oc [0, 500] [5] call128 (Fv hr18) ⟨q0, q1, trivial⟩ .nil) fun _ a w h => ?_
   show Code.wp prog _ _ a w
   refine Cd mixed hn hG h [0, 1, 2, 500, 4] (ov [3] (Ak A9 q0 qi) <| od [500] 3 (Ab q0) .nil) fun _ a w h => ?_
   obtain rfl := Option.some.inj hF
   exact ⟨rfl, h.sub [0, 1, 2, 3, 4] (by rfl)⟩
  ·refine wp_exit ?_
   obtain rfl := Option.some.inj hF
   exact ⟨BK _, rfl, h.sub [0, 4] (by rfl)⟩
 ·clear hl20
  intro e a w hq
  cases cr19 with
  | ret r21 =>
   obtain ⟨rfl, hq⟩ := hq
   obtain rfl := Option.some.inj hF
   exact ⟨.inl rfl, hq⟩
  | next s22 =>
   obtain ⟨y23, y24⟩ := s22
   obtain ⟨rfl, h⟩ := hq
   change AA c [.slot 5 (Az (b1 0)), .res (DJ (b1 0) (some y24))] a w at h
   refine Bd ?_
   show Code.wp prog _ _ a w
   obtain ⟨r25, hr25, hF⟩ := bind_some hF
   refine As mixed hn hG h [500] (oc [0] [1] call111 (EN hr25) ⟨q0, trivial⟩ <| ov [500] (Ae q0) .nil) fun _ a w h => ?_
   refine wp_ret ?_
   obtain rfl := Option.some.inj hF
   exact ⟨.inl rfl, BW h results107 (Ba 0 rfl) [] [] rfl rfl rfl⟩

def GP : Option AO := some (AO.mk Fl [] (0 : Int))
theorem Lp {r : AO} (hF : GP = some r) : AH prog KG 129 [] [] (fun _ => []) (Au (AO.ck r)) := by
 refine AH.intro 3 func129 rfl ntmps129 (Nat.le_of_ble_eq_true rfl) ?_
 intro c a w hG hn h
 unfold GP at hF
 change AA c [] a w at h
 refine As mixed hn hG h [501, 500] (ob [] (AR zeroValue247 PN) .nil) fun b1 a w h => ?_
 refine As mixed hn hG h [0, 500] (ov [] (Bq [AY .u32 8 Fl] [] isAgg208 sizeOf208 (SL (fun Φ h => h.1)) rfl) <| ov [500] (Dw [(0, .tmp 1)] rfl Sa PN ⟨[], [AY .u32 8 (List.replicate 8 0)], [one (Br []), one (Ag .u64 (0 : Int))], [AY .u32 8 Fl], _, rfl, rfl, rfl, q0, (Ai _), rfl⟩) <| ou [0, 500] 1 (Aq sizeOf247 q0 q1 (Ai _)) .nil) fun _ a w h => ?_
 refine wp_ret ?_
 obtain rfl := Option.some.inj hF
 exact ⟨.inl rfl, BW h results129 (Be 0 1 rfl rfl isAgg247 sizeOf247 rfl) [] [] rfl rfl rfl⟩

def Bs (a_0 : Int) (a_1 : Int) : Option Int := some (bits .or .u32 (shl .u32 a_0 (bits .and .u64 (IntKind.wrap .u64 a_1) 31)) (shr .u32 a_0 (IntKind.wrap .u64 (32 - (bits .and .u64 (IntKind.wrap .u64 a_1) 31)))))
theorem Cf {a_0 : Int} {a_1 : Int} {r : Int} (hF : Bs a_0 a_1 = some r) : AH prog KG 144 [(Ag .u32 a_0), (Ag .i64 a_1)] [] (fun _ => []) (Ag .u32 r) := by
 refine AH.intro 17 func144 rfl ntmps144 (Nat.le_of_ble_eq_true rfl) ?_
 intro c a w hG hn h
 unfold Bs at hF
 change AA c [.slot 0 (Ag .u32 a_0), .slot 1 (Ag .i64 a_1)] a w at h
 refine As mixed hn hG h [0, 1] (ov [] (Ae qi) .nil) fun _ a w h => ?_
 refine As mixed hn hG h [0, 500] (ov [1] (Ab q0) <| ov [500] (A3 underlying3 underlying67 q0) <| ov [500] (Ak Ew q0 qi) <| ov [500] (Ae q0) .nil) fun _ a w h => ?_
 refine As mixed hn hG h [500] (ov [0] (Ab q0) <| ov [1] (Ab q0) <| ov [501, 500] (Ak (HG rfl) q0 q1) <| ov [0] (Ab q0) <| ov [1] (Ab q0) <| ov [500] (Ak CX qi q0) <| ov [502, 500] (Ak (Fp rfl) q0 q1) <| ov [504, 500] (Ak KC q0 q1) <| ov [500] (Ae q0) .nil) fun _ a w h => ?_
 refine wp_ret ?_
 obtain rfl := Option.some.inj hF
 exact ⟨.inl rfl, BW h results144 (Ba 0 rfl) [] [] rfl rfl rfl⟩

def BY.b1 (a_0 : List UInt8) (x18 : Int) (x19 : List Int) : Option (Cn (List Int) (Int × (List Int))) := (if (decide (x18 < (64 : Int))) = true then (if (decide (x18 < (16 : Int))) = true then (if (0 : Int) ≤ IntKind.wrap .i64 (4 * x18) ∧ IntKind.wrap .i64 (4 * x18) ≤ IntKind.wrap .i64 ((IntKind.wrap .i64 (4 * x18)) + 4) ∧ IntKind.wrap .i64 ((IntKind.wrap .i64 (4 * x18)) + 4) ≤ a_0.length then (if (0 : Int) ≤ 0 ∧ (0 : Int) < ((a_0.take (IntKind.wrap .i64 ((IntKind.wrap .i64 (4 * x18)) + 4)).toNat).drop (IntKind.wrap .i64 (4 * x18)).toNat).length then (if (0 : Int) ≤ 1 ∧ (1 : Int) < ((a_0.take (IntKind.wrap .i64 ((IntKind.wrap .i64 (4 * x18)) + 4)).toNat).drop (IntKind.wrap .i64 (4 * x18)).toNat).length then (if (0 : Int) ≤ 2 ∧ (2 : Int) < ((a_0.take (IntKind.wrap .i64 ((IntKind.wrap .i64 (4 * x18)) + 4)).toNat).drop (IntKind.wrap .i64 (4 * x18)).toNat).length then (if (0 : Int) ≤ 3 ∧ (3 : Int) < ((a_0.take (IntKind.wrap .i64 ((IntKind.wrap .i64 (4 * x18)) + 4)).toNat).drop (IntKind.wrap .i64 (4 * x18)).toNat).length then (if (0 : Int) ≤ x18 ∧ x18 < 64 then some (.cont (IntKind.wrap .i64 (x18 + 1), x19.set x18.toNat (bits .or .u32 (bits .or .u32 (bits .or .u32 (shl .u32 (IntKind.wrap .u32 ((((a_0.take (IntKind.wrap .i64 ((IntKind.wrap .i64 (4 * x18)) + 4)).toNat).drop (IntKind.wrap .i64 (4 * x18)).toNat).getD (0 : Int).toNat 0).toNat)) 24) (shl .u32 (IntKind.wrap .u32 ((((a_0.take (IntKind.wrap .i64 ((IntKind.wrap .i64 (4 * x18)) + 4)).toNat).drop (IntKind.wrap .i64 (4 * x18)).toNat).getD (1 : Int).toNat 0).toNat)) 16)) (shl .u32 (IntKind.wrap .u32 ((((a_0.take (IntKind.wrap .i64 ((IntKind.wrap .i64 (4 * x18)) + 4)).toNat).drop (IntKind.wrap .i64 (4 * x18)).toNat).getD (2 : Int).toNat 0).toNat)) 8)) (IntKind.wrap .u32 ((((a_0.take (IntKind.wrap .i64 ((IntKind.wrap .i64 (4 * x18)) + 4)).toNat).drop (IntKind.wrap .i64 (4 * x18)).toNat).getD (3 : Int).toNat 0).toNat))))) else none) else none) else none) else none) else none) else none) else (if (0 : Int) ≤ IntKind.wrap .i64 (x18 - 15) ∧ IntKind.wrap .i64 (x18 - 15) < 64 then (if (0 : Int) ≤ IntKind.wrap .i64 (x18 - 2) ∧ IntKind.wrap .i64 (x18 - 2) < 64 then ((Bs (x19.getD (IntKind.wrap .i64 (x18 - 15)).toNat 0) (-7 : Int)).bind fun r49 => ((Bs (x19.getD (IntKind.wrap .i64 (x18 - 15)).toNat 0) (-18 : Int)).bind fun r50 => ((Bs (x19.getD (IntKind.wrap .i64 (x18 - 2)).toNat 0) (-17 : Int)).bind fun r51 => ((Bs (x19.getD (IntKind.wrap .i64 (x18 - 2)).toNat 0) (-19 : Int)).bind fun r52 => (if (0 : Int) ≤ IntKind.wrap .i64 (x18 - 16) ∧ IntKind.wrap .i64 (x18 - 16) < 64 then (if (0 : Int) ≤ IntKind.wrap .i64 (x18 - 7) ∧ IntKind.wrap .i64 (x18 - 7) < 64 then (if (0 : Int) ≤ x18 ∧ x18 < 64 then some (.cont (IntKind.wrap .i64 (x18 + 1), x19.set x18.toNat (IntKind.wrap .u32 ((IntKind.wrap .u32 ((IntKind.wrap .u32 ((x19.getD (IntKind.wrap .i64 (x18 - 16)).toNat 0) + (bits .xor .u32 (bits .xor .u32 r49 r50) (shr .u32 (x19.getD (IntKind.wrap .i64 (x18 - 15)).toNat 0) 3)))) + (x19.getD (IntKind.wrap .i64 (x18 - 7)).toNat 0))) + (bits .xor .u32 (bits .xor .u32 r51 r52) (shr .u32 (x19.getD (IntKind.wrap .i64 (x18 - 2)).toNat 0) 10)))))) else none) else none) else none))))) else none) else none)) else some (.brk (x18, x19)))
def BY (a_0 : List UInt8) : Option (List Int) := ((Bu (fun s : Int × (List Int) => BY.b1 a_0 s.1 s.2) ((64 - 0 : Int).toNat + 2) (0, (List.replicate 64 0))).bind fun cr => match cr with | .ret r => some r | .next (y60, y61) => some y61)
theorem Jw {a_0 : List UInt8} {r : (List Int)} (hF : BY a_0 = some r) : AH prog KG 143 [(Br a_0)] [] (fun _ => []) (Au [AY .u32 64 r]) := by
 refine AH.intro 83 func143 rfl ntmps143 (Nat.le_of_ble_eq_true rfl) ?_
 intro c a w hG hn h
 unfold BY at hF
 change AA c [.slot 0 (Br a_0)] a w at h
 refine As mixed hn hG h [0, 501, 500] (ob [] (AR zeroValue262 NX) .nil) fun b1 a w h => ?_
 refine As mixed hn hG h [0, 1, 501, 2, 500] (ob [] (AR zeroValue262 NX) .nil) fun b2 a w h => ?_
 refine wp_seq ?_
 refine As mixed hn hG h [0, 1, 2, 500, 3, 4] (ov [] (Ab qi) .nil) fun _ a w h => ?_
 refine wp_block ?_
 obtain ⟨cr56, hl57, hF⟩ := bind_some hF
 refine wp_mono (Bx (R := (List Int)) (S := Int × (List Int)) (fun s a w => AA c [.slot 0 (Br a_0), .slot 2 (Av (b1 0) 0), .slot 3 (Av (b2 0) 0), .slot 10 (Ag .i64 s.1), .res (lb (b1 0) 262 [AY .u32 64 (List.replicate 64 0)]), .res (lb (b2 0) 262 [AY .u32 64 s.2])] a w) (fun res e a w => match res with | .next s => e = .exit 0 ∧ AA c [.slot 2 (Av (b1 0) 0), .slot 3 (Av (b2 0) 0), .res (lb (b1 0) 262 [AY .u32 64 (List.replicate 64 0)]), .res (lb (b2 0) 262 [AY .u32 64 s.2])] a w | .ret r => e = .ret ∧ Cu prog f143 c (Au [AY .u32 64 r]) (fun _ => []) a w) ?_ _ (0, (List.replicate 64 0)) _ _ _ (h.sub [0, 1, 2, 3, 4, 5] (by rfl)) hl57) ?_
 ·clear hl57 hF h
  intro s a w o h hF
  obtain ⟨x18, x19⟩ := s
  change BY.b1 a_0 x18 x19 = some o at hF
  unfold BY.b1 at hF
  change AA c [.slot 0 (Br a_0), .slot 2 (Av (b1 0) 0), .slot 3 (Av (b2 0) 0), .slot 10 (Ag .i64 x18), .res (lb (b1 0) 262 [AY .u32 64 (List.replicate 64 0)]), .res (lb (b2 0) 262 [AY .u32 64 x19])] a w at h
  refine As mixed hn hG h [0, 1, 2, 3, 500, 4, 5] (ov [3] (Ak Bl q0 qi) .nil) fun _ a w h => ?_
  refine wp_seq ?_
  refine CC h hF 4 [0, 1, 2, 3, 5, 6] [0, 1, 2, 3, 5, 6] (fun hb39 hF h => ?_) (fun hb39 hF h => ?_)
  ·refine wp_skip ?_
   show Code.wp prog _ _ a w
   refine wp_seq ?_
   refine wp_block ?_
   refine As mixed hn hG h [0, 1, 2, 500, 3, 4, 5] (ov [3] (Ab q0) <| ov [500] (Ae q0) .nil) fun _ a w h => ?_
   refine wp_seq ?_
   refine As mixed hn hG h [0, 1, 2, 3, 4, 500, 5, 6] (ov [3] (Ab q0) <| ov [500] (Ak Bl q0 qi) .nil) fun _ a w h => ?_
   refine CC h hF 5 [0, 1, 2, 3, 4, 6, 7] [0, 1, 2, 3, 4, 6, 7] (fun hb40 hF h => ?_) (fun hb40 hF h => ?_)
   ·obtain ⟨hv41, hF⟩ := AF hF
    refine As mixed hn hG h [0, 1, 2, 3, 500, 4, 5, 6] (ov [0] (Ab q0) <| ov [3] (Ab q0) <| ov [500] (Ak DQ qi q0) <| ov [3] (Ab q0) <| ov [500] (Ak DQ qi q0) <| ov [500] (Ak A9 q0 qi) <| ov [505, 503, 500] (G1 (a := IntKind.wrap .i64 (4 * x18)) (b := IntKind.wrap .i64 ((IntKind.wrap .i64 (4 * x18)) + 4)) underlying9 q0 ⟨_, q1⟩ ⟨_, q2⟩ hv41) <| ov [500] (Ae q0) .nil) fun _ a w h => ?_
    obtain ⟨hv42, hF⟩ := AF hF
    obtain ⟨hv43, hF⟩ := AF hF
    obtain ⟨hv44, hF⟩ := AF hF
    obtain ⟨hv45, hF⟩ := AF hF
    obtain ⟨hv46, hF⟩ := AF hF
    refine As mixed hn hG h [0, 1, 2, 5, 6, 500] (ov [3] (Ab q0) <| ov [4] (Ab q0) <| ov [500] (Gb underlying9 q0 qi hv42) <| ov [500] (A3 underlying5 underlying29 q0) <| ov [500] (Ak (HG rfl) q0 qi) <| ov [4] (Ab q0) <| ov [500] (Gb underlying9 q0 qi hv43) <| ov [500] (A3 underlying5 underlying29 q0) <| ov [500] (Ak (HG rfl) q0 qi) <| ov [504, 500] (Ak KC q0 q1) <| ov [4] (Ab q0) <| ov [500] (Gb underlying9 q0 qi hv44) <| ov [500] (A3 underlying5 underlying29 q0) <| ov [500] (Ak (HG rfl) q0 qi) <| ov [504, 500] (Ak KC q0 q1) <| ov [4] (Ab q0) <| ov [500] (Gb underlying9 q0 qi hv45) <| ov [500] (A3 underlying5 underlying29 q0) <| ov [503, 500] (Ak KC q0 q1) <| ov [2, 518] (AM underlying262 sizeOf29 q0 q1 hv46) <| ou [500, 501] 7 (En (i := x18) [] [] sizeOf29 q0 q1 rfl hv46) .nil) fun _ a w h => ?_
    refine wp_exit ?_
    show Code.wp prog _ _ a w
    refine Cd mixed hn hG h [0, 1, 2, 500, 4, 5] (ov [3] (Ak A9 q0 qi) <| od [500] 3 (Ab q0) .nil) fun _ a w h => ?_
    obtain rfl := Option.some.inj hF
    exact ⟨rfl, h.sub [0, 1, 2, 3, 4, 5] (by rfl)⟩
   ·refine wp_skip ?_
    show Code.wp prog _ _ a w
    obtain ⟨hv47, hF⟩ := AF hF
    obtain ⟨hv48, hF⟩ := AF hF
    refine As mixed hn hG h [0, 1, 2, 3, 501, 500, 4, 5, 6] (ov [3] (Ab q0) <| ov [500] (Ak CX q0 qi) <| ov [2, 500] (AM underlying262 sizeOf29 q0 q1 hv47) <| ov [500, 6] (Bm (i := IntKind.wrap .i64 (x18 - 15)) [] [] 1 isAgg29 q0 rfl rfl hv47) <| ov [3] (Ab q0) <| ov [500] (Ak CX q0 qi) <| ov [2, 500] (AM underlying262 sizeOf29 q0 q1 hv48) <| ov [500, 6] (Bm (i := IntKind.wrap .i64 (x18 - 2)) [] [] 1 isAgg29 q0 rfl rfl hv48) <| ov [504] (Ae q0) <| ov [501] (Ae q0) .nil) fun _ a w h => ?_
    obtain ⟨r49, hr49, hF⟩ := bind_some hF
    obtain ⟨r50, hr50, hF⟩ := bind_some hF
    refine As mixed hn hG h [0, 1, 2, 3, 5, 500, 6, 7, 8] (ov [4] (Ab q0) <| oc [500] [] call144 (Cf hr49) ⟨q0, qi, trivial⟩ <| ov [4] (Ab q0) <| oc [500] [] call144 (Cf hr50) ⟨q0, qi, trivial⟩ <| ov [502, 500] (Ak Da q0 q1) <| ov [4] (Ab q0) <| ov [500] (Ak (Fp rfl) q0 qi) <| ov [502, 500] (Ak Da q0 q1) <| ov [500] (Ae q0) .nil) fun _ a w h => ?_
    obtain ⟨r51, hr51, hF⟩ := bind_some hF
    obtain ⟨r52, hr52, hF⟩ := bind_some hF
    refine As mixed hn hG h [0, 1, 2, 3, 5, 500, 6, 7, 8] (ov [4] (Ab q0) <| oc [500] [] call144 (Cf hr51) ⟨q0, qi, trivial⟩ <| ov [4] (Ab q0) <| oc [500] [] call144 (Cf hr52) ⟨q0, qi, trivial⟩ <| ov [502, 500] (Ak Da q0 q1) <| ov [4] (Ab q0) <| ov [500] (Ak (Fp rfl) q0 qi) <| ov [502, 500] (Ak Da q0 q1) <| ov [500] (Ae q0) .nil) fun _ a w h => ?_
    obtain ⟨hv53, hF⟩ := AF hF
    obtain ⟨hv54, hF⟩ := AF hF
    obtain ⟨hv55, hF⟩ := AF hF
    refine Cd mixed hn hG h [0, 1, 2, 6, 7, 500] (ov [3] (Ab q0) <| ov [3] (Ab q0) <| ov [500] (Ak CX q0 qi) <| ov [2, 500] (AM underlying262 sizeOf29 q0 q1 hv53) <| ov [500, 8] (Bm (i := IntKind.wrap .i64 (x18 - 16)) [] [] 1 isAgg29 q0 rfl rfl hv53) <| ov [4] (Ab q0) <| ov [501, 500] (Ak A9 q0 q1) <| ov [3] (Ab q0) <| ov [500] (Ak CX q0 qi) <| ov [2, 500] (AM underlying262 sizeOf29 q0 q1 hv54) <| ov [500, 8] (Bm (i := IntKind.wrap .i64 (x18 - 7)) [] [] 1 isAgg29 q0 rfl rfl hv54) <| ov [504, 500] (Ak A9 q0 q1) <| ov [5] (Ab q0) <| ov [501, 500] (Ak A9 q0 q1) <| ov [2, 513] (AM underlying262 sizeOf29 q0 q1 hv55) <| ou [500, 501] 8 (En (i := x18) [] [] sizeOf29 q0 q1 rfl hv55) .nil) fun _ a w h => ?_
    show Code.wp prog _ _ a w
    refine Cd mixed hn hG h [0, 1, 2, 500, 4, 5] (ov [3] (Ak A9 q0 qi) <| od [500] 3 (Ab q0) .nil) fun _ a w h => ?_
    obtain rfl := Option.some.inj hF
    exact ⟨rfl, h.sub [0, 1, 2, 3, 4, 5] (by rfl)⟩
  ·refine wp_exit ?_
   obtain rfl := Option.some.inj hF
   exact ⟨BK _, rfl, h.sub [1, 2, 4, 5] (by rfl)⟩
 ·clear hl57
  intro e a w hq
  cases cr56 with
  | ret r58 =>
   obtain ⟨rfl, hq⟩ := hq
   obtain rfl := Option.some.inj hF
   exact ⟨.inl rfl, hq⟩
  | next s59 =>
   obtain ⟨y60, y61⟩ := s59
   obtain ⟨rfl, h⟩ := hq
   change AA c [.slot 2 (Av (b1 0) 0), .slot 3 (Av (b2 0) 0), .res (lb (b1 0) 262 [AY .u32 64 (List.replicate 64 0)]), .res (lb (b2 0) 262 [AY .u32 64 y61])] a w at h
   refine Bd ?_
   show Code.wp prog _ _ a w
   refine As mixed hn hG h [0, 500] (ov [1, 3] (An 1 isAgg262 sizeOf262 q0) <| ou [0, 500] 2 (Aq sizeOf262 q0 q1 (Ai _)) .nil) fun _ a w h => ?_
   refine wp_ret ?_
   obtain rfl := Option.some.inj hF
   exact ⟨.inl rfl, BW h results143 (Be 0 1 rfl rfl isAgg262 sizeOf262 rfl) [] [] rfl rfl rfl⟩

def BP.b1 (r4 : (List Int)) (x14 : Int) (x15 : List Int) : Option (Cn (List Int) (Int × (List Int))) := (if (decide (x14 < (64 : Int))) = true then ((Bs (x15.getD (4 : Int).toNat 0) (-6 : Int)).bind fun r27 => ((Bs (x15.getD (4 : Int).toNat 0) (-11 : Int)).bind fun r28 => ((Bs (x15.getD (4 : Int).toNat 0) (-25 : Int)).bind fun r29 => (if (0 : Int) ≤ x14 ∧ x14 < 64 then ((Bs (x15.getD (0 : Int).toNat 0) (-2 : Int)).bind fun r31 => ((Bs (x15.getD (0 : Int).toNat 0) (-13 : Int)).bind fun r32 => ((Bs (x15.getD (0 : Int).toNat 0) (-22 : Int)).bind fun r33 => some (.cont (IntKind.wrap .i64 (x14 + 1), ((x15.take (1 : Int).toNat ++ (x15.drop (0 : Int).toNat).take (min ((7 : Int).toNat - (0 : Int).toNat) ((8 : Int).toNat - (1 : Int).toNat)) ++ x15.drop ((1 : Int).toNat + (min ((7 : Int).toNat - (0 : Int).toNat) ((8 : Int).toNat - (1 : Int).toNat)))).set (4 : Int).toNat (IntKind.wrap .u32 (((x15.take (1 : Int).toNat ++ (x15.drop (0 : Int).toNat).take (min ((7 : Int).toNat - (0 : Int).toNat) ((8 : Int).toNat - (1 : Int).toNat)) ++ x15.drop ((1 : Int).toNat + (min ((7 : Int).toNat - (0 : Int).toNat) ((8 : Int).toNat - (1 : Int).toNat)))).getD (4 : Int).toNat 0) + (IntKind.wrap .u32 ((IntKind.wrap .u32 ((IntKind.wrap .u32 ((IntKind.wrap .u32 ((x15.getD (7 : Int).toNat 0) + (bits .xor .u32 (bits .xor .u32 r27 r28) r29))) + (bits .xor .u32 (bits .and .u32 (x15.getD (4 : Int).toNat 0) (x15.getD (5 : Int).toNat 0)) (bits .and .u32 (Pg .u32 (x15.getD (4 : Int).toNat 0)) (x15.getD (6 : Int).toNat 0))))) + (Gu.getD x14.toNat 0))) + (r4.getD x14.toNat 0)))))).set (0 : Int).toNat (IntKind.wrap .u32 ((IntKind.wrap .u32 ((IntKind.wrap .u32 ((IntKind.wrap .u32 ((IntKind.wrap .u32 ((IntKind.wrap .u32 ((x15.getD (7 : Int).toNat 0) + (bits .xor .u32 (bits .xor .u32 r27 r28) r29))) + (bits .xor .u32 (bits .and .u32 (x15.getD (4 : Int).toNat 0) (x15.getD (5 : Int).toNat 0)) (bits .and .u32 (Pg .u32 (x15.getD (4 : Int).toNat 0)) (x15.getD (6 : Int).toNat 0))))) + (Gu.getD x14.toNat 0))) + (r4.getD x14.toNat 0))) + (bits .xor .u32 (bits .xor .u32 r31 r32) r33))) + (bits .xor .u32 (bits .xor .u32 (bits .and .u32 (x15.getD (0 : Int).toNat 0) (x15.getD (1 : Int).toNat 0)) (bits .and .u32 (x15.getD (0 : Int).toNat 0) (x15.getD (2 : Int).toNat 0))) (bits .and .u32 (x15.getD (1 : Int).toNat 0) (x15.getD (2 : Int).toNat 0)))))))))) else none)))) else some (.brk (x14, x15)))
def BP.b2 (a_0 : List Int) (x41 : Int) (x42 : List Int) : Option (Cn (List Int) (Int × (List Int))) := (if (decide (x41 < (8 : Int))) = true then (if (0 : Int) ≤ x41 ∧ x41 < 8 then some (.cont (IntKind.wrap .i64 (x41 + 1), x42.set x41.toNat (IntKind.wrap .u32 ((x42.getD x41.toNat 0) + (a_0.getD x41.toNat 0))))) else none) else some (.brk (x41, x42)))
def BP (a_0 : List Int) (a_1 : List UInt8) : Option (List Int) := (if (!decide ((a_1.length : Int) = (64 : Int))) = true then some a_0 else ((BY a_1).bind fun r4 => ((Bu (fun s : Int × (List Int) => BP.b1 r4 s.1 s.2) ((64 - 0 : Int).toNat + 2) (0, a_0)).bind fun cr => match cr with | .ret r => some r | .next (y38, y39) => ((Bu (fun s : Int × (List Int) => BP.b2 a_0 s.1 s.2) ((8 - 0 : Int).toNat + 2) (0, y39)).bind fun cr => match cr with | .ret r => some r | .next (y53, y54) => some y54))))
theorem Lo {a_0 : List Int} {a_1 : List UInt8} {r : (List Int)} (hF : BP a_0 a_1 = some r) : AH prog KG 140 [(Au [AY .u32 8 a_0]), (Br a_1)] [] (fun _ => []) (Au [AY .u32 8 r]) := by
 refine AH.intro 113 func140 rfl ntmps140 (Nat.le_of_ble_eq_true rfl) ?_
 intro c a w hG hn h
 unfold BP at hF
 change AA c [.slot 0 (Au [AY .u32 8 a_0]), .slot 1 (Br a_1)] a w at h
 refine As mixed hn hG h [1, 503, 501, 502, 500] (ob [0] (Bc q0 (Ai _)) <| ob [] (AR zeroValue208 z208) .nil) fun b1 a w h => ?_
 refine wp_seq ?_
 refine As mixed hn hG h [0, 1, 2, 500, 3, 4] (ov [0] (Ab q0) <| ov [500] (ED underlying9 q0) <| ov [500] (Ak Bg q0 qi) .nil) fun _ a w h => ?_
 refine CC h hF 3 [1, 2, 4, 5] [0, 1, 2, 4, 5] (fun hb3 hF h => ?_) (fun hb3 hF h => ?_)
 ·refine As mixed hn hG h [1, 500] (ov [0, 2] (An 1 isAgg208 sizeOf208 q0) <| ou [1, 500] 3 (Aq sizeOf208 q0 q1 (Ai _)) .nil) fun _ a w h => ?_
  refine wp_ret ?_
  obtain rfl := Option.some.inj hF
  exact ⟨.inl rfl, BW h results140 (Be 0 1 rfl rfl isAgg208 sizeOf208 rfl) [] [] rfl rfl rfl⟩
 ·refine wp_skip ?_
  show Code.wp prog _ _ a w
  obtain ⟨r4, hr4, hF⟩ := bind_some hF
  refine As mixed hn hG h [1, 2, 502, 3, 4, 500] (ov [0] (Ab q0) <| oc [500] [] call143 (Jw hr4) ⟨q0, trivial⟩ <| ob [] (AR zeroValue262 NX) <| og [501, 502] [500] [.res 2 100000 (fun v1_ _ => (lb (v1_) 262 [AY .u32 64 r4]))] (AB.plain (Aq sizeOf262 q0 q1 (Ai _)) rfl) .nil) fun b5 a w h => ?_
  refine As mixed hn hG h [0, 1, 2, 502, 3, 4, 5, 500] (ov [0, 3] (An 1 isAgg208 sizeOf208 q0) <| ob [] (AR zeroValue208 z208) <| og [501, 502] [500] [.res 1 100000 (fun v1_ _ => (lb (v1_) 208 [AY .u32 8 a_0]))] (AB.plain (Aq sizeOf208 q0 q1 (Ai _)) rfl) .nil) fun b6 a w h => ?_
  refine wp_seq ?_
  refine As mixed hn hG h [0, 1, 2, 3, 500, 4, 5, 6, 7] (ov [] (Ab qi) .nil) fun _ a w h => ?_
  refine wp_block ?_
  obtain ⟨cr34, hl35, hF⟩ := bind_some hF
  refine wp_mono (Bx (R := (List Int)) (S := Int × (List Int)) (fun s a w => AA c [.slot 2 (Av (b1 0) 0), .slot 4 (Av (b1 1) 0), .slot 5 (Av (b5 2) 0), .slot 6 (Av (b6 1) 0), .slot 23 (Ag .i64 s.1), .res (lb (b1 0) 208 [AY .u32 8 a_0]), .res (lb (b1 1) 208 [AY .u32 8 (List.replicate 8 0)]), .res (lb (b5 2) 262 [AY .u32 64 r4]), .res (lb (b6 1) 208 [AY .u32 8 s.2])] a w) (fun res e a w => match res with | .next s => e = .exit 0 ∧ AA c [.slot 2 (Av (b1 0) 0), .slot 4 (Av (b1 1) 0), .slot 6 (Av (b6 1) 0), .res (lb (b1 0) 208 [AY .u32 8 a_0]), .res (lb (b1 1) 208 [AY .u32 8 (List.replicate 8 0)]), .res (lb (b6 1) 208 [AY .u32 8 s.2])] a w | .ret r => e = .ret ∧ Cu prog f140 c (Au [AY .u32 8 r]) (fun _ => []) a w) ?_ _ (0, a_0) _ _ _ (h.sub [0, 1, 2, 3, 4, 5, 6, 7, 8] (by rfl)) hl35) ?_
  ·clear hl35 hF h
   intro s a w o h hF
   obtain ⟨x14, x15⟩ := s
   change BP.b1 r4 x14 x15 = some o at hF
   unfold BP.b1 at hF
   change AA c [.slot 2 (Av (b1 0) 0), .slot 4 (Av (b1 1) 0), .slot 5 (Av (b5 2) 0), .slot 6 (Av (b6 1) 0), .slot 23 (Ag .i64 x14), .res (lb (b1 0) 208 [AY .u32 8 a_0]), .res (lb (b1 1) 208 [AY .u32 8 (List.replicate 8 0)]), .res (lb (b5 2) 262 [AY .u32 64 r4]), .res (lb (b6 1) 208 [AY .u32 8 x15])] a w at h
   refine As mixed hn hG h [0, 1, 2, 3, 4, 500, 5, 6, 7, 8] (ov [4] (Ak Bl q0 qi) .nil) fun _ a w h => ?_
   refine wp_seq ?_
   refine CC h hF 5 [0, 1, 2, 3, 4, 6, 7, 8, 9] [0, 1, 2, 3, 4, 6, 7, 8, 9] (fun hb26 hF h => ?_) (fun hb26 hF h => ?_)
   ·refine wp_skip ?_
    show Code.wp prog _ _ a w
    refine wp_seq ?_
    refine wp_block ?_
    refine As mixed hn hG h [0, 1, 2, 3, 500, 4, 5, 6, 7, 8] (ov [4] (Ab q0) <| ov [500] (Ae q0) .nil) fun _ a w h => ?_
    refine As mixed hn hG h [0, 1, 2, 3, 4, 501, 500, 5, 6, 7, 8, 9] (ov [3] (AM underlying208 sizeOf29 q0 qi (by decide)) <| ov [500, 9] (Bm (i := 0) [] [] 1 isAgg29 q0 rfl rfl (by decide)) <| ov [3] (AM underlying208 sizeOf29 q0 qi (by decide)) <| ov [500, 9] (Bm (i := 4) [] [] 1 isAgg29 q0 rfl rfl (by decide)) <| ov [502] (Ae q0) <| ov [501] (Ae q0) .nil) fun _ a w h => ?_
    obtain ⟨r27, hr27, hF⟩ := bind_some hF
    obtain ⟨r28, hr28, hF⟩ := bind_some hF
    obtain ⟨r29, hr29, hF⟩ := bind_some hF
    refine As mixed hn hG h [0, 1, 2, 3, 4, 5, 6, 500, 7, 8, 9, 10, 11] (ov [6] (Ab q0) <| oc [500] [] call144 (Cf hr27) ⟨q0, qi, trivial⟩ <| ov [6] (Ab q0) <| oc [500] [] call144 (Cf hr28) ⟨q0, qi, trivial⟩ <| ov [502, 500] (Ak Da q0 q1) <| ov [6] (Ab q0) <| oc [500] [] call144 (Cf hr29) ⟨q0, qi, trivial⟩ <| ov [502, 500] (Ak Da q0 q1) <| ov [500] (Ae q0) .nil) fun _ a w h => ?_
    refine As mixed hn hG h [0, 1, 2, 3, 4, 5, 7, 500, 8, 9, 10, 11, 12] (ov [6] (Ab q0) <| ov [3] (AM underlying208 sizeOf29 q0 qi (by decide)) <| ov [500, 12] (Bm (i := 5) [] [] 1 isAgg29 q0 rfl rfl (by decide)) <| ov [502, 500] (Ak Ew q0 q1) <| ov [6] (Ab q0) <| ov [500] (EO (Q0 _ _) q0) <| ov [3] (AM underlying208 sizeOf29 q0 qi (by decide)) <| ov [500, 12] (Bm (i := 6) [] [] 1 isAgg29 q0 rfl rfl (by decide)) <| ov [502, 500] (Ak Ew q0 q1) <| ov [505, 500] (Ak Da q0 q1) <| ov [500] (Ae q0) .nil) fun _ a w h => ?_
    obtain ⟨hv30, hF⟩ := AF hF
    refine As mixed hn hG h [0, 1, 2, 3, 5, 500, 8, 9, 10, 11, 12] (ov [3] (AM underlying208 sizeOf29 q0 qi (by decide)) <| ov [500, 12] (Bm (i := 7) [] [] 1 isAgg29 q0 rfl rfl (by decide)) <| ov [6] (Ab q0) <| ov [501, 500] (Ak A9 q0 q1) <| ov [7] (Ab q0) <| ov [501, 500] (Ak A9 q0 q1) <| ov [4] (Ab q0) <| ov [500] (I5 underlying262 sizeOf29 (SL (fun Φ h => h.2)) q0 hv30) <| ov [500] (Ds [] isAgg29 q0) <| ov [503, 500] (Ak A9 q0 q1) <| ov [4] (Ab q0) <| ov [2, 500] (AM underlying262 sizeOf29 q0 q1 hv30) <| ov [500, 11] (Bm (i := x14) [] [] 1 isAgg29 q0 rfl rfl hv30) <| ov [503, 500] (Ak A9 q0 q1) <| ov [500] (Ae q0) .nil) fun _ a w h => ?_
    obtain ⟨r31, hr31, hF⟩ := bind_some hF
    obtain ⟨r32, hr32, hF⟩ := bind_some hF
    obtain ⟨r33, hr33, hF⟩ := bind_some hF
    refine As mixed hn hG h [0, 1, 2, 3, 4, 5, 500, 6, 7, 8, 9, 10] (ov [4] (Ab q0) <| oc [500] [] call144 (Cf hr31) ⟨q0, qi, trivial⟩ <| ov [4] (Ab q0) <| oc [500] [] call144 (Cf hr32) ⟨q0, qi, trivial⟩ <| ov [502, 500] (Ak Da q0 q1) <| ov [4] (Ab q0) <| oc [500] [] call144 (Cf hr33) ⟨q0, qi, trivial⟩ <| ov [502, 500] (Ak Da q0 q1) <| ov [500] (Ae q0) .nil) fun _ a w h => ?_
    refine As mixed hn hG h [0, 1, 2, 3, 5, 6, 500, 7, 8, 9, 10, 11] (ov [4] (Ab q0) <| ov [3] (AM underlying208 sizeOf29 q0 qi (by decide)) <| ov [500, 11] (Bm (i := 1) [] [] 1 isAgg29 q0 rfl rfl (by decide)) <| ov [502, 500] (Ak Ew q0 q1) <| ov [4] (Ab q0) <| ov [3] (AM underlying208 sizeOf29 q0 qi (by decide)) <| ov [500, 11] (Bm (i := 2) [] [] 1 isAgg29 q0 rfl rfl (by decide)) <| ov [502, 500] (Ak Ew q0 q1) <| ov [504, 500] (Ak Da q0 q1) <| ov [3] (AM underlying208 sizeOf29 q0 qi (by decide)) <| ov [500, 11] (Bm (i := 1) [] [] 1 isAgg29 q0 rfl rfl (by decide)) <| ov [3] (AM underlying208 sizeOf29 q0 qi (by decide)) <| ov [500, 11] (Bm (i := 2) [] [] 1 isAgg29 q0 rfl rfl (by decide)) <| ov [502, 500] (Ak Ew q0 q1) <| ov [505, 500] (Ak Da q0 q1) <| ov [500] (Ae q0) .nil) fun _ a w h => ?_
    refine As mixed hn hG h [0, 1, 2, 3, 4, 5, 6, 7, 8, 9, 10, 500] (ov [3] (EC (a := 1) (b := 8) underlying208 sizeOf29 q0 ⟨_, qi⟩ rfl (by decide)) <| ov [3] (EC (a := 0) (b := 7) underlying208 sizeOf29 q0 rfl ⟨_, qi⟩ (by decide)) <| oe [501, 500] [11] (AB.plain (M9 (i := (1 : Int).toNat) (j := (0 : Int).toNat) [] [] underlying271 rfl q0 q1 (by rfl) (by rfl) (by decide) (by decide)) rfl) .nil) fun _ a w h => ?_
    refine As mixed hn hG h [0, 1, 2, 3, 4, 5, 6, 7, 8, 9, 10, 500] (ov [3] (AM underlying208 sizeOf29 q0 qi (by decide)) <| ov [500, 11] (Bm (i := 4) [] [] 1 isAgg29 q0 rfl rfl (by decide)) <| ov [4] (Ab q0) <| ov [501, 500] (Ak A9 q0 q1) <| ov [3] (AM underlying208 sizeOf29 q0 qi (by decide)) <| ou [500, 501] 11 (En (i := 4) [] [] sizeOf29 q0 q1 rfl (by decide)) .nil) fun _ a w h => ?_
    refine Cd mixed hn hG h [0, 1, 2, 3, 7, 8, 9, 10, 500] (ov [4] (Ab q0) <| ov [5] (Ab q0) <| ov [501, 500] (Ak A9 q0 q1) <| ov [6] (Ab q0) <| ov [501, 500] (Ak A9 q0 q1) <| ov [3] (AM underlying208 sizeOf29 q0 qi (by decide)) <| ou [500, 501] 11 (En (i := 0) [] [] sizeOf29 q0 q1 rfl (by decide)) .nil) fun _ a w h => ?_
    show Code.wp prog _ _ a w
    refine Cd mixed hn hG h [0, 1, 2, 3, 500, 5, 6, 7, 8] (ov [4] (Ak A9 q0 qi) <| od [500] 4 (Ab q0) .nil) fun _ a w h => ?_
    obtain rfl := Option.some.inj hF
    exact ⟨rfl, h.sub [0, 1, 2, 3, 4, 5, 6, 7, 8] (by rfl)⟩
   ·refine wp_exit ?_
    obtain rfl := Option.some.inj hF
    exact ⟨BK _, rfl, h.sub [0, 1, 3, 5, 6, 8] (by rfl)⟩
  ·clear hl35
   intro e a w hq
   cases cr34 with
   | ret r36 =>
    obtain ⟨rfl, hq⟩ := hq
    obtain rfl := Option.some.inj hF
    exact ⟨.inl rfl, hq⟩
   | next s37 =>
    obtain ⟨y38, y39⟩ := s37
    obtain ⟨rfl, h⟩ := hq
    change AA c [.slot 2 (Av (b1 0) 0), .slot 4 (Av (b1 1) 0), .slot 6 (Av (b6 1) 0), .res (lb (b1 0) 208 [AY .u32 8 a_0]), .res (lb (b1 1) 208 [AY .u32 8 (List.replicate 8 0)]), .res (lb (b6 1) 208 [AY .u32 8 y39])] a w at h
    refine Bd ?_
    show Code.wp prog _ _ a w
    refine wp_seq ?_
    refine As mixed hn hG h [0, 1, 2, 500, 3, 4, 5] (ov [] (Ab qi) .nil) fun _ a w h => ?_
    refine wp_block ?_
    obtain ⟨cr49, hl50, hF⟩ := bind_some hF
    refine wp_mono (Bx (R := (List Int)) (S := Int × (List Int)) (fun s a w => AA c [.slot 2 (Av (b1 0) 0), .slot 4 (Av (b1 1) 0), .slot 6 (Av (b6 1) 0), .slot 100 (Ag .i64 s.1), .res (lb (b1 0) 208 [AY .u32 8 a_0]), .res (lb (b1 1) 208 [AY .u32 8 (List.replicate 8 0)]), .res (lb (b6 1) 208 [AY .u32 8 s.2])] a w) (fun res e a w => match res with | .next s => e = .exit 2 ∧ AA c [.slot 4 (Av (b1 1) 0), .slot 6 (Av (b6 1) 0), .res (lb (b1 1) 208 [AY .u32 8 (List.replicate 8 0)]), .res (lb (b6 1) 208 [AY .u32 8 s.2])] a w | .ret r => e = .ret ∧ Cu prog f140 c (Au [AY .u32 8 r]) (fun _ => []) a w) ?_ _ (0, y39) _ _ _ (h.sub [0, 1, 2, 3, 4, 5, 6] (by rfl)) hl50) ?_
    ·clear hl50 hF h
     intro s a w o h hF
     obtain ⟨x41, x42⟩ := s
     change BP.b2 a_0 x41 x42 = some o at hF
     unfold BP.b2 at hF
     change AA c [.slot 2 (Av (b1 0) 0), .slot 4 (Av (b1 1) 0), .slot 6 (Av (b6 1) 0), .slot 100 (Ag .i64 x41), .res (lb (b1 0) 208 [AY .u32 8 a_0]), .res (lb (b1 1) 208 [AY .u32 8 (List.replicate 8 0)]), .res (lb (b6 1) 208 [AY .u32 8 x42])] a w at h
     refine As mixed hn hG h [0, 1, 2, 3, 500, 4, 5, 6] (ov [3] (Ak Bl q0 qi) .nil) fun _ a w h => ?_
     refine wp_seq ?_
     refine CC h hF 4 [0, 1, 2, 3, 5, 6, 7] [0, 1, 2, 3, 5, 6, 7] (fun hb47 hF h => ?_) (fun hb47 hF h => ?_)
     ·refine wp_skip ?_
      show Code.wp prog _ _ a w
      refine wp_seq ?_
      refine wp_block ?_
      refine As mixed hn hG h [0, 1, 2, 500, 3, 4, 5, 6] (ov [3] (Ab q0) <| ov [500] (Ae q0) .nil) fun _ a w h => ?_
      obtain ⟨hv48, hF⟩ := AF hF
      refine Cd mixed hn hG h [0, 1, 2, 4, 5, 6, 500] (ov [3] (Ab q0) <| ov [2, 500] (AM underlying208 sizeOf29 q0 q1 hv48) <| ov [500, 7] (Bm (i := x41) [] [] 1 isAgg29 q0 rfl rfl hv48) <| ov [3] (Ab q0) <| ov [0, 500] (AM underlying208 sizeOf29 q0 q1 hv48) <| ov [500, 5] (Bm (i := x41) [] [] 1 isAgg29 q0 rfl rfl hv48) <| ov [503, 500] (Ak A9 q0 q1) <| ov [2, 506] (AM underlying208 sizeOf29 q0 q1 hv48) <| ou [500, 501] 7 (En (i := x41) [] [] sizeOf29 q0 q1 rfl hv48) .nil) fun _ a w h => ?_
      show Code.wp prog _ _ a w
      refine Cd mixed hn hG h [0, 1, 2, 500, 4, 5, 6] (ov [3] (Ak A9 q0 qi) <| od [500] 3 (Ab q0) .nil) fun _ a w h => ?_
      obtain rfl := Option.some.inj hF
      exact ⟨rfl, h.sub [0, 1, 2, 3, 4, 5, 6] (by rfl)⟩
     ·refine wp_exit ?_
      obtain rfl := Option.some.inj hF
      exact ⟨BK _, rfl, h.sub [1, 2, 5, 6] (by rfl)⟩
    ·clear hl50
     intro e a w hq
     cases cr49 with
     | ret r51 =>
      obtain ⟨rfl, hq⟩ := hq
      obtain rfl := Option.some.inj hF
      exact ⟨.inl rfl, hq⟩
     | next s52 =>
      obtain ⟨y53, y54⟩ := s52
      obtain ⟨rfl, h⟩ := hq
      change AA c [.slot 4 (Av (b1 1) 0), .slot 6 (Av (b6 1) 0), .res (lb (b1 1) 208 [AY .u32 8 (List.replicate 8 0)]), .res (lb (b6 1) 208 [AY .u32 8 y54])] a w at h
      refine Bd ?_
      show Code.wp prog _ _ a w
      refine As mixed hn hG h [0, 500] (ov [1, 3] (An 1 isAgg208 sizeOf208 q0) <| ou [0, 500] 2 (Aq sizeOf208 q0 q1 (Ai _)) .nil) fun _ a w h => ?_
      refine wp_ret ?_
      obtain rfl := Option.some.inj hF
      exact ⟨.inl rfl, BW h results140 (Be 0 1 rfl rfl isAgg208 sizeOf208 rfl) [] [] rfl rfl rfl⟩

def BX.b1 (x8 : List UInt8) (x9 : AO) : Option (Cn AO ((List UInt8) × AO)) := (if (decide ((64 : Int) ≤ (x8.length : Int))) = true then (if (0 : Int) ≤ 0 ∧ (0 : Int) ≤ 64 ∧ (64 : Int) ≤ x8.length then ((BP x9.Cb ((x8.take 64).drop (0 : Int).toNat)).bind fun r18 => (if (0 : Int) ≤ 64 ∧ (64 : Int) ≤ (x8.length : Int) ∧ (x8.length : Int) ≤ x8.length then some (.cont ((x8.take (x8.length : Int).toNat).drop 64, (AO.mk r18 x9.B3 x9.Cz))) else none)) else none) else some (.brk (x8, x9)))
def BX (a_0 : AO) (a_1 : List UInt8) : Option AO := (if a_0.B3.length + a_1.length ≤ CW then ((Bu (fun s : (List UInt8) × AO => BX.b1 s.1 s.2) ((((a_0.B3 ++ a_1).length : Int) - 64 : Int).toNat + 2) (a_0.B3 ++ a_1, (AO.mk a_0.Cb a_0.B3 (IntKind.wrap .u64 (a_0.Cz + (IntKind.wrap .u64 (a_1.length : Int))))))).bind fun cr => match cr with | .ret r => some r | .next (y24, y25) => some (AO.mk y25.Cb y24 y25.Cz)) else none)
theorem GO {a_0 : AO} {a_1 : List UInt8} {r : AO} (hF : BX a_0 a_1 = some r) : AH prog KG 130 [(Au (AO.ck a_0)), (Br a_1)] [] (fun _ => []) (Au (AO.ck r)) := by
 refine AH.intro 31 func130 rfl ntmps130 (Nat.le_of_ble_eq_true rfl) ?_
 intro c a w hG hn h
 unfold BX at hF
 change AA c [.slot 0 (Au (AO.ck a_0)), .slot 1 (Br a_1)] a w at h
 refine As mixed hn hG h [1, 503, 501, 502, 500] (ob [0] (Bc q0 (Ai _)) <| ob [] (AR zeroValue247 PN) .nil) fun b1 a w h => ?_
 refine As mixed hn hG h [0, 1, 2, 500, 4] (ov [1] (Ad (p := (b1 0)) (n := 1) 0 9 underlying247 rfl sizeOf24 (by decide) q0 rfl) <| ov [500, 3] (Aj ((AO.ck a_0).take 2) [] 1 isAgg24 q0 rfl rfl) <| ov [0] (Ab q0) <| ov [500] (ED underlying9 q0) <| ov [500] (A3 underlying3 underlying24 q0) <| ov [503, 500] (Ak A9 q0 q1) <| ov [1] (Ad (p := (b1 0)) (n := 1) 0 9 underlying247 rfl sizeOf24 (by decide) q0 rfl) <| ou [500, 501] 3 (B8 ((AO.ck a_0).take 2) [one (Ag .u64 a_0.Cz)] [] [one (Ag .u64 (IntKind.wrap .u64 (a_0.Cz + (IntKind.wrap .u64 (a_1.length : Int)))))] sizeOf24 q0 q1 (AG (A8 _ _)) rfl rfl rfl) .nil) fun _ a w h => ?_
 obtain ⟨hv3, hF⟩ := AF hF
 refine As mixed hn hG h [1, 2, 500, 3, 4] (ov [1] (Ad (p := (b1 0)) (n := 1) 0 8 underlying247 rfl sizeOf9 (by decide) q0 rfl) <| ov [500, 3] (Aj [AY .u32 8 a_0.Cb] [one (Ag .u64 (IntKind.wrap .u64 (a_0.Cz + (IntKind.wrap .u64 (a_1.length : Int)))))] 1 isAgg9 q0 rfl rfl) <| ov [0] (Ab q0) <| ov [501, 500] (Ak (DN hv3) q0 q1) <| ov [500] (Ae q0) .nil) fun _ a w h => ?_
 refine wp_seq ?_
 refine wp_block ?_
 obtain ⟨cr20, hl21, hF⟩ := bind_some hF
 refine wp_mono (Bx (R := AO) (S := (List UInt8) × AO) (fun s a w => AA c [.slot 2 (Av (b1 0) 0), .slot 4 (Av (b1 1) 0), .slot 5 (Br s.1), .res (lb (b1 0) 247 (AO.ck s.2)), .res (lb (b1 1) 247 (AO.ck (AO.mk (List.replicate 8 0) [] (0 : Int))))] a w) (fun res e a w => match res with | .next s => e = .exit 0 ∧ AA c [.slot 2 (Av (b1 0) 0), .slot 4 (Av (b1 1) 0), .slot 5 (Br s.1), .res (lb (b1 0) 247 (AO.ck s.2)), .res (lb (b1 1) 247 (AO.ck (AO.mk (List.replicate 8 0) [] (0 : Int))))] a w | .ret r => e = .ret ∧ Cu prog f130 c (Au (AO.ck r)) (fun _ => []) a w) ?_ _ (a_0.B3 ++ a_1, (AO.mk a_0.Cb a_0.B3 (IntKind.wrap .u64 (a_0.Cz + (IntKind.wrap .u64 (a_1.length : Int)))))) _ _ _ (h.sub [0, 1, 2, 3, 4] (by rfl)) hl21) ?_
 ·clear hl21 hF h
  intro s a w o h hF
  obtain ⟨x8, x9⟩ := s
  change BX.b1 x8 x9 = some o at hF
  unfold BX.b1 at hF
  change AA c [.slot 2 (Av (b1 0) 0), .slot 4 (Av (b1 1) 0), .slot 5 (Br x8), .res (lb (b1 0) 247 (AO.ck x9)), .res (lb (b1 1) 247 (AO.ck (AO.mk (List.replicate 8 0) [] (0 : Int))))] a w at h
  refine wp_seq ?_
  refine As mixed hn hG h [0, 1, 2, 500, 3, 4] (ov [2] (Ab q0) <| ov [500] (ED underlying9 q0) <| ov [500] (Ak Ef q0 qi) .nil) fun _ a w h => ?_
  refine CC h hF 3 [0, 1, 2, 4, 5] [0, 1, 2, 4, 5] (fun hb16 hF h => ?_) (fun hb16 hF h => ?_)
  ·refine wp_skip ?_
   show Code.wp prog _ _ a w
   refine wp_block ?_
   obtain ⟨hv17, hF⟩ := AF hF
   obtain ⟨r18, hr18, hF⟩ := bind_some hF
   refine As mixed hn hG h [0, 1, 2, 500, 4] (ov [0] (Ad (p := (b1 0)) (n := 8) 0 0 underlying247 rfl sizeOf208 (by decide) q0 rfl) <| ov [500, 3] (AT [] [AY .u32 8 x9.Cb] ((AO.ck x9).drop 1) 1 isAgg208 sizeOf208 q0 rfl rfl rfl) <| ov [2] (Ab q0) <| ov [500] (G1 (a := 0) (b := 64) underlying9 q0 rfl ⟨_, qi⟩ hv17) <| oc [502, 500] [] call140 (Lo hr18) ⟨q0, q1, trivial⟩ <| ov [0] (Ad (p := (b1 0)) (n := 8) 0 0 underlying247 rfl sizeOf208 (by decide) q0 rfl) <| ou [500, 501] 3 (B8 [] [AY .u32 8 x9.Cb] ((AO.ck x9).drop 1) [AY .u32 8 r18] sizeOf208 q0 q1 (Ai _) rfl rfl rfl) .nil) fun _ a w h => ?_
   obtain ⟨hv19, hF⟩ := AF hF
   refine Cd mixed hn hG h [0, 1, 500, 3, 4] (ov [2] (Ab q0) <| ov [500] (G1 (a := 64) (b := (x8.length : Int)) underlying9 q0 ⟨_, qi⟩ rfl hv19) <| od [500] 2 (Ae q0) .nil) fun _ a w h => ?_
   obtain rfl := Option.some.inj hF
   exact ⟨rfl, h.sub [0, 1, 2, 3, 4] (by rfl)⟩
  ·refine wp_exit ?_
   obtain rfl := Option.some.inj hF
   exact ⟨BK _, rfl, h.sub [0, 1, 2, 3, 4] (by rfl)⟩
 ·clear hl21
  intro e a w hq
  cases cr20 with
  | ret r22 =>
   obtain ⟨rfl, hq⟩ := hq
   obtain rfl := Option.some.inj hF
   exact ⟨.inl rfl, hq⟩
  | next s23 =>
   obtain ⟨y24, y25⟩ := s23
   obtain ⟨rfl, h⟩ := hq
   change AA c [.slot 2 (Av (b1 0) 0), .slot 4 (Av (b1 1) 0), .slot 5 (Br y24), .res (lb (b1 0) 247 (AO.ck y25)), .res (lb (b1 1) 247 (AO.ck (AO.mk (List.replicate 8 0) [] (0 : Int))))] a w at h
   refine Bd ?_
   show Code.wp prog _ _ a w
   refine As mixed hn hG h [0, 1, 500, 4] (ov [2] (Ab q0) <| ov [0] (Ad (p := (b1 0)) (n := 1) 0 8 underlying247 rfl sizeOf9 (by decide) q0 rfl) <| ou [500, 501] 3 (B8 [AY .u32 8 y25.Cb] [one (Br y25.B3)] [one (Ag .u64 y25.Cz)] [one (Br y24)] sizeOf9 q0 q1 (AG (CD _)) rfl rfl rfl) .nil) fun _ a w h => ?_
   refine As mixed hn hG h [1, 500] (ov [0, 2] (An 1 isAgg247 sizeOf247 q0) <| ou [1, 500] 3 (Aq sizeOf247 q0 q1 (Ai _)) .nil) fun _ a w h => ?_
   refine wp_ret ?_
   obtain rfl := Option.some.inj hF
   exact ⟨.inl rfl, BW h results130 (Be 0 1 rfl rfl isAgg247 sizeOf247 rfl) [] [] rfl rfl rfl⟩

def A7.b1 (a_0 : AO) (x6 : Int) (x7 : List UInt8) : Option (Cn (List UInt8) (Int × (List UInt8))) := (if (decide (x6 < (8 : Int))) = true then (if (0 : Int) ≤ IntKind.wrap .i64 (56 - (IntKind.wrap .i64 (8 * x6))) then (if (0 : Int) ≤ x6 ∧ x6 < 8 then some (.cont (IntKind.wrap .i64 (x6 + 1), x7.set x6.toNat (B5 (IntKind.wrap .u8 (shr .u64 (IntKind.wrap .u64 (8 * a_0.Cz)) (IntKind.wrap .i64 (56 - (IntKind.wrap .i64 (8 * x6))))))))) else none) else none) else some (.brk (x6, x7)))
def A7.b3 (r25 : AO) (x38 : Int) (x59 : Int) (x60 : List UInt8) : Option (Cn (List UInt8) (Int × (List UInt8))) := (if (decide (x59 < (4 : Int))) = true then (if (0 : Int) ≤ IntKind.wrap .i64 (24 - (IntKind.wrap .i64 (8 * x59))) then (if (0 : Int) ≤ IntKind.wrap .i64 ((IntKind.wrap .i64 (4 * x38)) + x59) ∧ IntKind.wrap .i64 ((IntKind.wrap .i64 (4 * x38)) + x59) < 32 then some (.cont (IntKind.wrap .i64 (x59 + 1), x60.set (IntKind.wrap .i64 ((IntKind.wrap .i64 (4 * x38)) + x59)).toNat (B5 (IntKind.wrap .u8 (shr .u32 (r25.Cb.getD x38.toNat 0) (IntKind.wrap .i64 (24 - (IntKind.wrap .i64 (8 * x59))))))))) else none) else none) else some (.brk (x59, x60)))
def A7.b2 (r25 : AO) (x38 : Int) (x39 : List UInt8) : Option (Cn (List UInt8) (Int × (List UInt8))) := (if (decide (x38 < (8 : Int))) = true then (if (0 : Int) ≤ x38 ∧ x38 < 8 then ((Bu (fun s : Int × (List UInt8) => A7.b3 r25 x38 s.1 s.2) ((4 - 0 : Int).toNat + 2) (0, x39)).bind fun cr => match cr with | .ret r => some (.ret r) | .next (y73, y74) => some (.cont (IntKind.wrap .i64 (x38 + 1), y74))) else none) else some (.brk (x38, x39)))
def A7 (a_0 : AO) : Option (List UInt8) := ((Bu (fun s : Int × (List UInt8) => A7.b1 a_0 s.1 s.2) ((8 - 0 : Int).toNat + 2) (0, (List.replicate 8 0))).bind fun cr => match cr with | .ret r => some r | .next (y20, y21) => (if (0 : Int) ≤ (IntKind.wrap .i64 (119 - ((a_0.B3.length : Int).tmod 64))).tmod 64 ∧ [0].length * ((IntKind.wrap .i64 (119 - ((a_0.B3.length : Int).tmod 64))).tmod 64 : Int).toNat ≤ 140737488355328 then (if [128].length + (Lib.repeatL [0] ((IntKind.wrap .i64 (119 - ((a_0.B3.length : Int).tmod 64))).tmod 64 : Int).toNat).length ≤ CW then (if ([128] ++ (Lib.repeatL [0] ((IntKind.wrap .i64 (119 - ((a_0.B3.length : Int).tmod 64))).tmod 64 : Int).toNat)).length + (y21.take ((8 : Int).toNat - (0 : Int).toNat)).length ≤ CW then ((BX a_0 (([128] ++ (Lib.repeatL [0] ((IntKind.wrap .i64 (119 - ((a_0.B3.length : Int).tmod 64))).tmod 64 : Int).toNat)) ++ (y21.take ((8 : Int).toNat - (0 : Int).toNat)))).bind fun r25 => ((Bu (fun s : Int × (List UInt8) => A7.b2 r25 s.1 s.2) ((8 - 0 : Int).toNat + 2) (0, (List.replicate 32 0))).bind fun cr => match cr with | .ret r => some r | .next (y79, y80) => some y80)) else none) else none) else none))
theorem IU {a_0 : AO} {r : (List UInt8)} (hF : A7 a_0 = some r) : AH prog KG 131 [(Au (AO.ck a_0))] [] (fun _ => []) (Au [Af 32 r]) := by
 refine AH.intro 63 func131 rfl ntmps131 (Nat.le_of_ble_eq_true rfl) ?_
 intro c a w hG hn h
 unfold A7 at hF
 change AA c [.slot 0 (Au (AO.ck a_0))] a w at h
 refine As mixed hn hG h [503, 501, 502, 500] (ob [0] (Bc q0 (Ai _)) <| ob [] (AR zeroValue33 FT) .nil) fun b1 a w h => ?_
 refine As mixed hn hG h [0, 1, 500, 2, 3] (ov [0] (Ad (p := (b1 0)) (n := 1) 0 9 underlying247 rfl sizeOf24 (by decide) q0 rfl) <| ov [500, 2] (Aj ((AO.ck a_0).take 2) [] 1 isAgg24 q0 rfl rfl) <| ov [500] (Ak DQ qi q0) <| ov [500] (Ae q0) .nil) fun _ a w h => ?_
 refine As mixed hn hG h [0, 1, 2, 500, 3, 4] (ov [0] (Ad (p := (b1 0)) (n := 1) 0 8 underlying247 rfl sizeOf9 (by decide) q0 rfl) <| ov [500, 3] (Aj [AY .u32 8 a_0.Cb] [one (Ag .u64 a_0.Cz)] 1 isAgg9 q0 rfl rfl) <| ov [500] (ED underlying9 q0) <| ov [500] (Ak (DH (by decide)) q0 qi) <| ov [500] (Ak CX qi q0) <| ov [500] (Ak (DH (by decide)) q0 qi) <| ov [500] (Ae q0) .nil) fun _ a w h => ?_
 refine As mixed hn hG h [0, 1, 2, 3, 501, 4, 5, 500] (ob [] (AR zeroValue216 QZ) .nil) fun b3 a w h => ?_
 refine wp_seq ?_
 refine As mixed hn hG h [0, 1, 2, 3, 4, 500, 5, 6, 7] (ov [] (Ab qi) .nil) fun _ a w h => ?_
 refine wp_block ?_
 obtain ⟨cr16, hl17, hF⟩ := bind_some hF
 refine wp_mono (Bx (R := (List UInt8)) (S := Int × (List UInt8)) (fun s a w => AA c [.slot 1 (Av (b1 0) 0), .slot 2 (Av (b1 1) 0), .slot 3 (Ag .u64 (IntKind.wrap .u64 (8 * a_0.Cz))), .slot 4 (Ag .i64 ((IntKind.wrap .i64 (119 - ((a_0.B3.length : Int).tmod 64))).tmod 64)), .slot 5 (Av (b3 0) 0), .slot 20 (Ag .i64 s.1), .res (lb (b1 0) 247 (AO.ck a_0)), .res (lb (b1 1) 33 [Af 32 (List.replicate 32 0)]), .res (lb (b3 0) 216 [Af 8 s.2])] a w) (fun res e a w => match res with | .next s => e = .exit 0 ∧ AA c [.slot 1 (Av (b1 0) 0), .slot 2 (Av (b1 1) 0), .slot 4 (Ag .i64 ((IntKind.wrap .i64 (119 - ((a_0.B3.length : Int).tmod 64))).tmod 64)), .slot 5 (Av (b3 0) 0), .res (lb (b1 0) 247 (AO.ck a_0)), .res (lb (b1 1) 33 [Af 32 (List.replicate 32 0)]), .res (lb (b3 0) 216 [Af 8 s.2])] a w | .ret r => e = .ret ∧ Cu prog f131 c (Au [Af 32 r]) (fun _ => []) a w) ?_ _ (0, (List.replicate 8 0)) _ _ _ (h.sub [0, 1, 2, 3, 4, 5, 6, 7, 8] (by rfl)) hl17) ?_
 ·clear hl17 hF h
  intro s a w o h hF
  obtain ⟨x6, x7⟩ := s
  change A7.b1 a_0 x6 x7 = some o at hF
  unfold A7.b1 at hF
  change AA c [.slot 1 (Av (b1 0) 0), .slot 2 (Av (b1 1) 0), .slot 3 (Ag .u64 (IntKind.wrap .u64 (8 * a_0.Cz))), .slot 4 (Ag .i64 ((IntKind.wrap .i64 (119 - ((a_0.B3.length : Int).tmod 64))).tmod 64)), .slot 5 (Av (b3 0) 0), .slot 20 (Ag .i64 x6), .res (lb (b1 0) 247 (AO.ck a_0)), .res (lb (b1 1) 33 [Af 32 (List.replicate 32 0)]), .res (lb (b3 0) 216 [Af 8 x7])] a w at h
  refine As mixed hn hG h [0, 1, 2, 3, 4, 5, 500, 6, 7, 8] (ov [5] (Ak Bl q0 qi) .nil) fun _ a w h => ?_
  refine wp_seq ?_
  refine CC h hF 6 [0, 1, 2, 3, 4, 5, 7, 8, 9] [0, 1, 2, 3, 4, 5, 7, 8, 9] (fun hb13 hF h => ?_) (fun hb13 hF h => ?_)
  ·refine wp_skip ?_
   show Code.wp prog _ _ a w
   refine wp_seq ?_
   refine wp_block ?_
   refine As mixed hn hG h [0, 1, 2, 3, 4, 500, 5, 6, 7, 8] (ov [5] (Ab q0) <| ov [500] (Ae q0) .nil) fun _ a w h => ?_
   obtain ⟨hv14, hF⟩ := AF hF
   obtain ⟨hv15, hF⟩ := AF hF
   refine Cd mixed hn hG h [0, 1, 2, 3, 4, 6, 7, 8, 500] (ov [5] (Ab q0) <| ov [2] (Ab q0) <| ov [5] (Ab q0) <| ov [500] (Ak DQ qi q0) <| ov [500] (Ak CX qi q0) <| ov [503, 500] (Ak (HO hv14) q0 q1) <| ov [500] (A3 underlying24 underlying5 q0) <| ov [4, 506] (AM underlying216 sizeOf5 q0 q1 hv15) <| ou [500, 501] 9 (Fe (i := x6) [] [] sizeOf5 q0 q1 rfl hv15) .nil) fun _ a w h => ?_
   show Code.wp prog _ _ a w
   refine Cd mixed hn hG h [0, 1, 2, 3, 4, 500, 6, 7, 8] (ov [5] (Ak A9 q0 qi) <| od [500] 5 (Ab q0) .nil) fun _ a w h => ?_
   obtain rfl := Option.some.inj hF
   exact ⟨rfl, h.sub [0, 1, 2, 3, 4, 5, 6, 7, 8] (by rfl)⟩
  ·refine wp_exit ?_
   obtain rfl := Option.some.inj hF
   exact ⟨BK _, rfl, h.sub [0, 1, 3, 4, 6, 7, 8] (by rfl)⟩
 ·clear hl17
  intro e a w hq
  cases cr16 with
  | ret r18 =>
   obtain ⟨rfl, hq⟩ := hq
   obtain rfl := Option.some.inj hF
   exact ⟨.inl rfl, hq⟩
  | next s19 =>
   obtain ⟨y20, y21⟩ := s19
   obtain ⟨rfl, h⟩ := hq
   change AA c [.slot 1 (Av (b1 0) 0), .slot 2 (Av (b1 1) 0), .slot 4 (Ag .i64 ((IntKind.wrap .i64 (119 - ((a_0.B3.length : Int).tmod 64))).tmod 64)), .slot 5 (Av (b3 0) 0), .res (lb (b1 0) 247 (AO.ck a_0)), .res (lb (b1 1) 33 [Af 32 (List.replicate 32 0)]), .res (lb (b3 0) 216 [Af 8 y21])] a w at h
   refine Bd ?_
   show Code.wp prog _ _ a w
   obtain ⟨hv22, hF⟩ := AF hF
   obtain ⟨hv23, hF⟩ := AF hF
   obtain ⟨hv24, hF⟩ := AF hF
   obtain ⟨r25, hr25, hF⟩ := bind_some hF
   refine As mixed hn hG h [0, 1, 500, 5] (ov [0, 4] (An 1 isAgg247 sizeOf247 q0) <| ov [2] (Ab q0) <| oc [500] [] call141 (Ob hv22) ⟨(D2 (sc _ (by decide))), q0, trivial⟩ <| ov [500] (Ak (DN hv23) (D2 (sc _ (by decide))) q0) <| ov [3] (EC (a := 0) (b := 8) underlying216 sizeOf5 q0 rfl rfl (by decide)) <| ov [500, 6] (Gr [] [] 1 underlying207 underlying5 underlying9 q0 rfl rfl (by decide) (by decide)) <| ov [502, 500] (Ak (DN hv24) q0 q1) <| oc [506, 500] [] call130 (GO hr25) ⟨q0, q1, trivial⟩ <| ou [0, 500] 4 (Aq sizeOf247 q0 q1 (Ai _)) .nil) fun _ a w h => ?_
   refine As mixed hn hG h [0, 1, 501, 2, 3, 500] (ob [] (AR zeroValue33 FT) .nil) fun b26 a w h => ?_
   refine wp_seq ?_
   refine As mixed hn hG h [1, 2, 501, 500, 4, 5] (ov [0] (Ad (p := (b1 0)) (n := 8) 0 0 underlying247 rfl sizeOf208 (by decide) q0 rfl) <| ov [500, 3] (AT [] [AY .u32 8 r25.Cb] ((AO.ck r25).drop 1) 1 isAgg208 sizeOf208 q0 rfl rfl rfl) <| ov [] (Ab qi) .nil) fun _ a w h => ?_
   refine wp_block ?_
   obtain ⟨cr75, hl76, hF⟩ := bind_some hF
   refine wp_mono (Bx (R := (List UInt8)) (S := Int × (List UInt8)) (fun s a w => AA c [.slot 2 (Av (b1 1) 0), .slot 7 (Av (b26 0) 0), .slot 41 (Au [AY .u32 8 r25.Cb]), .slot 42 (Ag .i64 s.1), .res (lb (b1 1) 33 [Af 32 (List.replicate 32 0)]), .res (lb (b26 0) 33 [Af 32 s.2])] a w) (fun res e a w => match res with | .next s => e = .exit 2 ∧ AA c [.slot 2 (Av (b1 1) 0), .slot 7 (Av (b26 0) 0), .res (lb (b1 1) 33 [Af 32 (List.replicate 32 0)]), .res (lb (b26 0) 33 [Af 32 s.2])] a w | .ret r => e = .ret ∧ Cu prog f131 c (Au [Af 32 r]) (fun _ => []) a w) ?_ _ (0, (List.replicate 32 0)) _ _ _ (h.sub [0, 1, 2, 3, 4, 5] (by rfl)) hl76) ?_
   ·clear hl76 hF h
    intro s a w o h hF
    obtain ⟨x38, x39⟩ := s
    change A7.b2 r25 x38 x39 = some o at hF
    unfold A7.b2 at hF
    change AA c [.slot 2 (Av (b1 1) 0), .slot 7 (Av (b26 0) 0), .slot 41 (Au [AY .u32 8 r25.Cb]), .slot 42 (Ag .i64 x38), .res (lb (b1 1) 33 [Af 32 (List.replicate 32 0)]), .res (lb (b26 0) 33 [Af 32 x39])] a w at h
    refine As mixed hn hG h [0, 1, 2, 3, 500, 4, 5] (ov [3] (Ak Bl q0 qi) .nil) fun _ a w h => ?_
    refine wp_seq ?_
    refine CC h hF 4 [0, 1, 2, 3, 5, 6] [0, 1, 2, 3, 5, 6] (fun hb54 hF h => ?_) (fun hb54 hF h => ?_)
    ·refine wp_skip ?_
     show Code.wp prog _ _ a w
     refine wp_seq ?_
     refine wp_block ?_
     obtain ⟨hv55, hF⟩ := AF hF
     refine As mixed hn hG h [0, 1, 501, 500, 2, 3, 4, 5] (ov [3] (Ab q0) <| ov [2, 3] (KP underlying208 sizeOf29 isAgg29 q0 q1 hv55) <| ov [501] (Ae q0) <| ov [501] (Ae q0) .nil) fun _ a w h => ?_
     refine As mixed hn hG h [0, 1, 2, 3, 4, 5, 500, 6, 7] (ov [] (Ab qi) .nil) fun _ a w h => ?_
     refine wp_block ?_
     obtain ⟨cr69, hl70, hF⟩ := bind_some hF
     refine wp_mono (Bx (R := (List UInt8)) (S := Int × (List UInt8)) (fun s a w => AA c [.slot 2 (Av (b1 1) 0), .slot 7 (Av (b26 0) 0), .slot 8 (Ag .i64 x38), .slot 9 (Ag .u32 (r25.Cb.getD x38.toNat 0)), .slot 41 (Au [AY .u32 8 r25.Cb]), .slot 42 (Ag .i64 x38), .slot 46 (Ag .i64 s.1), .res (lb (b1 1) 33 [Af 32 (List.replicate 32 0)]), .res (lb (b26 0) 33 [Af 32 s.2])] a w) (fun res e a w => match res with | .next s => e = .exit 4 ∧ AA c [.slot 2 (Av (b1 1) 0), .slot 7 (Av (b26 0) 0), .slot 41 (Au [AY .u32 8 r25.Cb]), .slot 42 (Ag .i64 x38), .res (lb (b1 1) 33 [Af 32 (List.replicate 32 0)]), .res (lb (b26 0) 33 [Af 32 s.2])] a w | .ret r => e = .ret ∧ Cu prog f131 c (Au [Af 32 r]) (fun _ => []) a w) ?_ _ (0, x39) _ _ _ (h.sub [0, 1, 2, 3, 4, 5, 6, 7, 8] (by rfl)) hl70) ?_
     ·clear hl70 hF h
      intro s a w o h hF
      obtain ⟨x59, x60⟩ := s
      change A7.b3 r25 x38 x59 x60 = some o at hF
      unfold A7.b3 at hF
      change AA c [.slot 2 (Av (b1 1) 0), .slot 7 (Av (b26 0) 0), .slot 8 (Ag .i64 x38), .slot 9 (Ag .u32 (r25.Cb.getD x38.toNat 0)), .slot 41 (Au [AY .u32 8 r25.Cb]), .slot 42 (Ag .i64 x38), .slot 46 (Ag .i64 x59), .res (lb (b1 1) 33 [Af 32 (List.replicate 32 0)]), .res (lb (b26 0) 33 [Af 32 x60])] a w at h
      refine As mixed hn hG h [0, 1, 2, 3, 4, 5, 6, 500, 7, 8] (ov [6] (Ak Bl q0 qi) .nil) fun _ a w h => ?_
      refine wp_seq ?_
      refine CC h hF 7 [0, 1, 2, 3, 4, 5, 6, 8, 9] [0, 1, 2, 3, 4, 5, 6, 8, 9] (fun hb66 hF h => ?_) (fun hb66 hF h => ?_)
      ·refine wp_skip ?_
       show Code.wp prog _ _ a w
       refine wp_seq ?_
       refine wp_block ?_
       refine As mixed hn hG h [0, 1, 2, 3, 500, 4, 5, 6, 7, 8] (ov [6] (Ab q0) <| ov [500] (Ae q0) .nil) fun _ a w h => ?_
       obtain ⟨hv67, hF⟩ := AF hF
       obtain ⟨hv68, hF⟩ := AF hF
       refine Cd mixed hn hG h [0, 1, 2, 3, 5, 6, 7, 8, 500] (ov [2] (Ab q0) <| ov [500] (Ak DQ qi q0) <| ov [4] (Ab q0) <| ov [501, 500] (Ak A9 q0 q1) <| ov [3] (Ab q0) <| ov [4] (Ab q0) <| ov [500] (Ak DQ qi q0) <| ov [500] (Ak CX qi q0) <| ov [503, 500] (Ak (HO hv67) q0 q1) <| ov [500] (A3 underlying29 underlying5 q0) <| ov [1, 506] (AM underlying33 sizeOf5 q0 q1 hv68) <| ou [500, 501] 9 (Fe (i := IntKind.wrap .i64 ((IntKind.wrap .i64 (4 * x38)) + x59)) [] [] sizeOf5 q0 q1 rfl hv68) .nil) fun _ a w h => ?_
       show Code.wp prog _ _ a w
       refine Cd mixed hn hG h [0, 1, 2, 3, 4, 5, 500, 7, 8] (ov [6] (Ak A9 q0 qi) <| od [500] 6 (Ab q0) .nil) fun _ a w h => ?_
       obtain rfl := Option.some.inj hF
       exact ⟨rfl, h.sub [0, 1, 2, 3, 4, 5, 6, 7, 8] (by rfl)⟩
      ·refine wp_exit ?_
       obtain rfl := Option.some.inj hF
       exact ⟨BK _, rfl, h.sub [0, 1, 4, 5, 7, 8] (by rfl)⟩
     ·clear hl70
      intro e a w hq
      cases cr69 with
      | ret r71 =>
       obtain ⟨rfl, hq⟩ := hq
       obtain rfl := Option.some.inj hF
       exact ⟨EA, rfl, hq⟩
      | next s72 =>
       obtain ⟨y73, y74⟩ := s72
       obtain ⟨rfl, h⟩ := hq
       change AA c [.slot 2 (Av (b1 1) 0), .slot 7 (Av (b26 0) 0), .slot 41 (Au [AY .u32 8 r25.Cb]), .slot 42 (Ag .i64 x38), .res (lb (b1 1) 33 [Af 32 (List.replicate 32 0)]), .res (lb (b26 0) 33 [Af 32 y74])] a w at h
       refine Bd ?_
       show Code.wp prog _ _ a w
       refine Cd mixed hn hG h [0, 1, 2, 500, 4, 5] (ov [3] (Ak A9 q0 qi) <| od [500] 3 (Ab q0) .nil) fun _ a w h => ?_
       obtain rfl := Option.some.inj hF
       exact ⟨rfl, h.sub [0, 1, 2, 3, 4, 5] (by rfl)⟩
    ·refine wp_exit ?_
     obtain rfl := Option.some.inj hF
     exact ⟨BK _, rfl, h.sub [0, 1, 4, 5] (by rfl)⟩
   ·clear hl76
    intro e a w hq
    cases cr75 with
    | ret r77 =>
     obtain ⟨rfl, hq⟩ := hq
     obtain rfl := Option.some.inj hF
     exact ⟨.inl rfl, hq⟩
    | next s78 =>
     obtain ⟨y79, y80⟩ := s78
     obtain ⟨rfl, h⟩ := hq
     change AA c [.slot 2 (Av (b1 1) 0), .slot 7 (Av (b26 0) 0), .res (lb (b1 1) 33 [Af 32 (List.replicate 32 0)]), .res (lb (b26 0) 33 [Af 32 y80])] a w at h
     refine Bd ?_
     show Code.wp prog _ _ a w
     refine As mixed hn hG h [0, 500] (ov [1, 3] (An 1 isAgg33 sizeOf33 q0) <| ou [0, 500] 2 (Aq sizeOf33 q0 q1 (Ai _)) .nil) fun _ a w h => ?_
     refine wp_ret ?_
     obtain rfl := Option.some.inj hF
     exact ⟨.inl rfl, BW h results131 (Be 0 1 rfl rfl isAgg33 sizeOf33 rfl) [] [] rfl rfl rfl⟩

def C6.b1 (a_0 : List (List UInt8)) (x7 : Int) (x8 : AO) : Option (Cn (List UInt8) (Int × AO)) := (if (decide (x7 < (a_0.length : Int))) = true then (if (0 : Int) ≤ x7 ∧ x7 < a_0.length then ((BX x8 (a_0.getD x7.toNat default)).bind fun r16 => some (.cont (IntKind.wrap .i64 (x7 + 1), r16))) else none) else some (.brk (x7, x8)))
def C6 (a_0 : List (List UInt8)) : Option (List UInt8) := ((GP).bind fun r2 => ((Bu (fun s : Int × AO => C6.b1 a_0 s.1 s.2) (((a_0.length : Int) - 0 : Int).toNat + 2) (0, r2)).bind fun cr => match cr with | .ret r => some r | .next (y21, y22) => ((A7 y22).bind fun r23 => some r23)))
theorem MW {a_0 : List (List UInt8)} {r : (List UInt8)} (hF : C6 a_0 = some r) : AH prog KG 108 [(AJ Ed a_0)] [] (fun _ => []) (Au [Af 32 r]) := by
 refine AH.intro 19 func108 rfl ntmps108 (Nat.le_of_ble_eq_true rfl) ?_
 intro c a w hG hn h
 unfold C6 at hF
 change AA c [.slot 0 (AJ Ed a_0)] a w at h
 refine As mixed hn hG h [0, 501, 500] (ob [] (AR zeroValue33 FT) .nil) fun b1 a w h => ?_
 obtain ⟨r2, hr2, hF⟩ := bind_some hF
 refine As mixed hn hG h [0, 1, 502, 2, 500] (oc [] [] call129 (Lp hr2) trivial <| ob [] (AR zeroValue247 PN) <| og [501, 502] [500] [.res 1 100000 (fun v1_ _ => (lb (v1_) 247 (AO.ck r2)))] (AB.plain (Aq sizeOf247 q0 q1 (Ai _)) rfl) .nil) fun b3 a w h => ?_
 refine wp_seq ?_
 refine As mixed hn hG h [1, 2, 502, 501, 500, 3, 4] (ov [0] (Ab q0) <| ov [500] (A6 underlying22 q0) <| ov [] (Ab qi) .nil) fun _ a w h => ?_
 refine wp_block ?_
 obtain ⟨cr17, hl18, hF⟩ := bind_some hF
 refine wp_mono (Bx (R := (List UInt8)) (S := Int × AO) (fun s a w => AA c [.slot 2 (Av (b1 0) 0), .slot 3 (Av (b3 1) 0), .slot 7 (AJ Ed a_0), .slot 8 (Ag .i64 (a_0.length : Int)), .slot 9 (Ag .i64 s.1), .res (lb (b1 0) 33 [Af 32 (List.replicate 32 0)]), .res (lb (b3 1) 247 (AO.ck s.2))] a w) (fun res e a w => match res with | .next s => e = .exit 0 ∧ AA c [.slot 2 (Av (b1 0) 0), .slot 3 (Av (b3 1) 0), .res (lb (b1 0) 33 [Af 32 (List.replicate 32 0)]), .res (lb (b3 1) 247 (AO.ck s.2))] a w | .ret r => e = .ret ∧ Cu prog f108 c (Au [Af 32 r]) (fun _ => []) a w) ?_ _ (0, r2) _ _ _ (h.sub [0, 1, 2, 3, 4, 5, 6] (by rfl)) hl18) ?_
 ·clear hl18 hF h
  intro s a w o h hF
  obtain ⟨x7, x8⟩ := s
  change C6.b1 a_0 x7 x8 = some o at hF
  unfold C6.b1 at hF
  change AA c [.slot 2 (Av (b1 0) 0), .slot 3 (Av (b3 1) 0), .slot 7 (AJ Ed a_0), .slot 8 (Ag .i64 (a_0.length : Int)), .slot 9 (Ag .i64 x7), .res (lb (b1 0) 33 [Af 32 (List.replicate 32 0)]), .res (lb (b3 1) 247 (AO.ck x8))] a w at h
  refine As mixed hn hG h [0, 1, 2, 3, 4, 500, 5, 6] (ov [4, 3] (Ak Bl q0 q1) .nil) fun _ a w h => ?_
  refine wp_seq ?_
  refine CC h hF 5 [0, 1, 2, 3, 4, 6, 7] [0, 1, 2, 3, 4, 6, 7] (fun hb14 hF h => ?_) (fun hb14 hF h => ?_)
  ·refine wp_skip ?_
   show Code.wp prog _ _ a w
   refine wp_seq ?_
   refine wp_block ?_
   obtain ⟨hv15, hF⟩ := AF hF
   refine As mixed hn hG h [0, 1, 500, 2, 3, 4, 5, 6] (ov [2, 4] (AS underlying22 sizeOf9 CF q0 q1 hv15) <| ov [500] (Ds [] isAgg9 q0) <| ov [500] (Ae q0) .nil) fun _ a w h => ?_
   obtain ⟨r16, hr16, hF⟩ := bind_some hF
   refine Cd mixed hn hG h [0, 1, 3, 4, 5, 6, 500] (ov [1, 7] (An 1 isAgg247 sizeOf247 q0) <| ov [2] (Ab q0) <| oc [501, 500] [] call130 (GO hr16) ⟨q0, q1, trivial⟩ <| ou [1, 500] 7 (Aq sizeOf247 q0 q1 (Ai _)) .nil) fun _ a w h => ?_
   show Code.wp prog _ _ a w
   refine Cd mixed hn hG h [0, 1, 2, 3, 500, 5, 6] (ov [4] (Ak A9 q0 qi) <| od [500] 4 (Ab q0) .nil) fun _ a w h => ?_
   obtain rfl := Option.some.inj hF
   exact ⟨rfl, h.sub [0, 1, 2, 3, 4, 5, 6] (by rfl)⟩
  ·refine wp_exit ?_
   obtain rfl := Option.some.inj hF
   exact ⟨BK _, rfl, h.sub [0, 1, 5, 6] (by rfl)⟩
 ·clear hl18
  intro e a w hq
  cases cr17 with
  | ret r19 =>
   obtain ⟨rfl, hq⟩ := hq
   obtain rfl := Option.some.inj hF
   exact ⟨.inl rfl, hq⟩
  | next s20 =>
   obtain ⟨y21, y22⟩ := s20
   obtain ⟨rfl, h⟩ := hq
   change AA c [.slot 2 (Av (b1 0) 0), .slot 3 (Av (b3 1) 0), .res (lb (b1 0) 33 [Af 32 (List.replicate 32 0)]), .res (lb (b3 1) 247 (AO.ck y22))] a w at h
   refine Bd ?_
   show Code.wp prog _ _ a w
   obtain ⟨r23, hr23, hF⟩ := bind_some hF
   refine As mixed hn hG h [0, 500] (ov [1, 3] (An 1 isAgg247 sizeOf247 q0) <| oc [500] [] call131 (IU hr23) ⟨q0, trivial⟩ <| ou [0, 500] 2 (Aq sizeOf33 q0 q1 (Ai _)) .nil) fun _ a w h => ?_
   refine wp_ret ?_
   obtain rfl := Option.some.inj hF
   exact ⟨.inl rfl, BW h results108 (Be 0 1 rfl rfl isAgg33 sizeOf33 rfl) [] [] rfl rfl rfl⟩

def Bv.n (a_1 : List UInt8) (a_2 : List UInt8) : Option (Option AD) := some none
def Bv.j2 (x6 : List ((List UInt8) × (List UInt8))) (x7 : List ((List UInt8) × Bool)) : Option (Option AD) := some (some ⟨x6, x7⟩)
def Bv.j1 (s_0 : AD) (a_1 : List UInt8) (a_2 : List UInt8) (x5 : Bool) : Option (Option AD) := (if x5 = true then Bv.j2 s_0.Ei (GW a_2 true s_0.Fm) else Bv.j2 (GW a_1 a_2 s_0.Ei) s_0.Fm)
def Bv.s (s_0 : AD) (a_1 : List UInt8) (a_2 : List UInt8) : Option (Option AD) := (if ((Gd a_1 s_0.Ei).isSome) = true then Bv.j1 s_0 a_1 a_2 (!decide (((Gd a_1 s_0.Ei).getD []) = a_2)) else Bv.j1 s_0 a_1 a_2 false)
def Bv (L_0 : Option AD) (a_1 : List UInt8) (a_2 : List UInt8) : Option (Option AD) := match L_0 with | none => Bv.n a_1 a_2 | some s_0 => Bv.s s_0 a_1 a_2
theorem Ic {p_0 : Value} {L_0 : Option AD} {a_1 : List UInt8} {a_2 : List UInt8} {r : (Option AD)} (hF : Bv L_0 a_1 a_2 = some r) : AH prog KG 109 [(Az p_0), (Au [Af 32 a_1]), (Br a_2)] [(AK p_0 L_0)] (fun _ => [AK p_0 r]) (Db []) := by
 refine AH.intro 36 func109 rfl ntmps109 (Nat.le_of_ble_eq_true rfl) ?_
 intro c a w hG hn h
 unfold Bv at hF
 change AA c [.slot 0 (Az p_0), .slot 1 (Au [Af 32 a_1]), .slot 2 (Br a_2), .res (AK p_0 L_0)] a w at h
 obtain ⟨h_0_0, h⟩ := h.ex 3 rfl
 obtain ⟨h_0_1, h⟩ := h.ex 3 rfl
 change AA c [.slot 0 (Az p_0), .slot 1 (Au [Af 32 a_1]), .slot 2 (Br a_2), .res (NT p_0 h_0_0 h_0_1 L_0)] a w at h
 cases L_0 with
 | none =>
  change Bv.n a_1 a_2 = some r at hF
  unfold Bv.n at hF
  obtain rfl := h.PK 3 rfl (fun _ _ _ q => q.2)
  replace h := h.Gy 0 rfl (V' := K6 (.pointer none) false) (fun _ _ h => ⟨h, rfl⟩)
  change AA c [.slot 0 (K6 (.pointer none) false), .slot 1 (Au [Af 32 a_1]), .slot 2 (Br a_2), .res (NT (.pointer none) h_0_0 h_0_1 none)] a w at h
  refine As mixed hn hG h [0, 2, 501, 3, 500] (ob [1] (Bc q0 (Ai _)) .nil) fun b1 a w h => ?_
  refine wp_seq ?_
  refine As mixed hn hG h [0, 1, 2, 500, 3, 4] (ov [0] (Ab q0) <| ov [500] (Ak (IL underlying101) q0 (D2 (ec _))) .nil) fun _ a w h => ?_
  refine Gx h 3 rfl (fun hb2 => ?_) (fun hb2 => ?_)
  ·skip
   replace h := h.Sg [4]
   refine wp_ret ?_
   replace h := h.conv 0 rfl Lk
   change AA c [.res (AK (.pointer none) none)] a w at h
   obtain rfl := Option.some.inj hF
   exact ⟨.inl rfl, CJ h (rs := []) (Vs := []) results109 (by decide) trivial [0] [(AK (.pointer none) none)] rfl rfl rfl⟩
  ·cases hb2
 | some s_0 =>
  change Bv.s s_0 a_1 a_2 = some r at hF
  unfold Bv.s at hF
  have hp := h.PK 3 rfl (fun Φ f w q => RB Φ f w q)
  replace h := h.Gy 0 rfl (V' := Av p_0 0) (fun _ _ h => Jr h hp)
  replace h := h.sep (R := lb p_0 254 [one (Az h_0_0), one (Az h_0_1)]) (S := (RP.sep (D7 h_0_0 FR (fun l => l.length = 32) (fun u y => RP.val (Br y) u) s_0.Ei) (D7 h_0_1 Il (fun _ => True) (fun u y => RP.val (AL y) u) s_0.Fm))) 3 rfl
  replace h := h.sep (R := D7 h_0_0 FR (fun l => l.length = 32) (fun u y => RP.val (Br y) u) s_0.Ei) (S := (D7 h_0_1 Il (fun _ => True) (fun u y => RP.val (AL y) u) s_0.Fm)) 4 rfl
  replace h := h.sub [0, 1, 2, 3, 4, 5] (by rfl)
  change AA c [.slot 0 (Av p_0 0), .slot 1 (Au [Af 32 a_1]), .slot 2 (Br a_2), .res (lb p_0 254 [one (Az h_0_0), one (Az h_0_1)]), .res (D7 h_0_0 FR (fun l => l.length = 32) (fun u y => RP.val (Br y) u) s_0.Ei), .res (D7 h_0_1 Il (fun _ => True) (fun u y => RP.val (AL y) u) s_0.Fm)] a w at h
  refine As mixed hn hG h [0, 2, 501, 3, 4, 5, 500] (ob [1] (Bc q0 (Ai _)) .nil) fun b3 a w h => ?_
  refine wp_seq ?_
  refine As mixed hn hG h [0, 1, 2, 500, 3, 4, 5, 6] (ov [0] (Ab q0) <| ov [500] (Ak (IL underlying101) (Pa q0) (D2 (ec _))) .nil) fun _ a w h => ?_
  refine Gx h 3 rfl (fun hb4 => ?_) (fun hb4 => ?_)
  ·cases hb4
  ·skip
   replace h := h.Sg [0, 1, 2, 4, 5, 6, 7]
   refine wp_skip ?_
   show Code.wp prog _ _ a w
   refine As mixed hn hG h [0, 1, 2, 501, 500, 3, 4, 5, 6] (ov [0] (Ab q0) <| ov [500] (CY q0 (EX _ _)) <| ov [500] (Ad (p := p_0) (n := 1) 0 0 underlying254 rfl sizeOf251 (by decide) q0 rfl) <| ov [500, 3] (Aj [] [one (Az h_0_1)] 1 isAgg251 q0 rfl rfl) <| ov [2, 6] (An 1 isAgg33 sizeOf33 q0) <| ov [501, 500, 4] (Gi Br [] 2 underlying251 (LF underlying33 underlying5 type5 sizeOf5 isAgg5) zeroValue9 q0 q1 LG rfl IY (fun _ _ _ _ _ h => h.2) (fun _ => ⟨rfl, by decide⟩)) <| ov [500] (Ab q0) <| ov [500] (A5 q0 rfl) <| ov [501] (A5 q0 rfl) <| ov [501] (Ae q0) <| ov [501] (Ae q0) .nil) fun _ a w h => ?_
   refine wp_seq ?_
   refine wp_cut (fun a w => ∃ (x5 : Bool), Bv.j1 s_0 a_1 a_2 x5 = some r ∧ AA c [.slot 0 (Av p_0 0), .slot 2 (Br a_2), .slot 4 (Av (b3 0) 0), .slot 24 (AL x5), .res (lb p_0 254 [one (Az h_0_0), one (Az h_0_1)]), .res (D7 h_0_0 FR (fun l => l.length = 32) (fun u y => RP.val (Br y) u) s_0.Ei), .res (D7 h_0_1 Il (fun _ => True) (fun u y => RP.val (AL y) u) s_0.Fm), .res (lb (b3 0) 33 [Af 32 a_1])] a w) ?_ ?_
   ·rcases Bool.eq_false_or_eq_true ((Gd a_1 s_0.Ei).isSome) with hb9 | hb9
    ·replace hF := CQ hb9 hF
     refine Cd mixed hn hG h [0, 1, 2, 500, 5, 6, 7, 8] (ov [4] (Ab q0) <| ov [500] (Ab q0) <| oe [500, 3] [] (AB.Aw hb9 rfl rfl rfl (Ab q0)) <| oe [501, 1] [] (AB.Aw hb9 rfl rfl rfl (Ab q0)) <| oe [502, 501, 500] [] (AB.Aw hb9 rfl rfl rfl (Ak Px q0 q1)) <| ov [503, 500] (AU hb9 q0 q1) .nil) fun _ a w h => ?_
     exact ⟨!decide (((Gd a_1 s_0.Ei).getD []) = a_2), hF, h.sub [0, 1, 2, 3, 4, 5, 6, 7] (by rfl)⟩
    ·replace hF := CT hb9 hF
     refine Cd mixed hn hG h [0, 1, 2, 500, 5, 6, 7, 8] (ov [4] (Ab q0) <| ov [500] (Ab q0) <| oe [500] [] (AB.At (want := true) hb9 rfl rfl rfl rfl) <| oe [501] [] (AB.At (want := true) hb9 rfl rfl rfl rfl) <| oe [502] [] (AB.At (want := true) hb9 rfl rfl rfl rfl) <| ov [503] (AV hb9 q0 qb) .nil) fun _ a w h => ?_
     exact ⟨false, hF, h.sub [0, 1, 2, 3, 4, 5, 6, 7] (by rfl)⟩
   ·clear h hF
    rintro a w ⟨x5, hF, h⟩
    unfold Bv.j1 at hF
    show Code.wp prog _ _ a w
    refine wp_cut (fun a w => ∃ (x6 : List ((List UInt8) × (List UInt8))), ∃ (x7 : List ((List UInt8) × Bool)), Bv.j2 x6 x7 = some r ∧ AA c [.res (lb p_0 254 [one (Az h_0_0), one (Az h_0_1)]), .res (D7 h_0_0 FR (fun l => l.length = 32) (fun u y => RP.val (Br y) u) x6), .res (D7 h_0_1 Il (fun _ => True) (fun u y => RP.val (AL y) u) x7)] a w) ?_ ?_
    ·refine CC h hF 3 [0, 1, 4, 5, 6] [0, 1, 2, 4, 5, 6, 7] (fun hb8 hF h => ?_) (fun hb8 hF h => ?_)
     ·refine Cd mixed hn hG h [2, 3, 500] (ov [0] (Ab q0) <| ov [500] (CY q0 (EX _ _)) <| ov [500] (Ad (p := p_0) (n := 1) 0 1 underlying254 rfl sizeOf252 (by decide) q0 rfl) <| ov [500, 2] (Aj [one (Az h_0_0)] [] 1 isAgg252 q0 rfl rfl) <| ov [1] (Ab q0) <| ou [501, 500] 4 (Ga underlying252 (Ro underlying9) q0 q1 Rq qb) .nil) fun _ a w h => ?_
      exact ⟨s_0.Ei, GW a_2 true s_0.Fm, hF, h.sub [0, 1, 2] (by rfl)⟩
     ·refine Cd mixed hn hG h [3, 500, 5] (ov [0] (Ab q0) <| ov [500] (CY q0 (EX _ _)) <| ov [500] (Ad (p := p_0) (n := 1) 0 0 underlying254 rfl sizeOf251 (by decide) q0 rfl) <| ov [500, 3] (Aj [] [one (Az h_0_1)] 1 isAgg251 q0 rfl rfl) <| ov [2, 6] (An 1 isAgg33 sizeOf33 q0) <| ov [1] (Ab q0) <| ou [502, 501, 500] 4 (Ga underlying251 (LF underlying33 underlying5 type5 sizeOf5 isAgg5) q0 q1 LG q2) .nil) fun _ a w h => ?_
      exact ⟨GW a_1 a_2 s_0.Ei, s_0.Fm, hF, h.sub [0, 1, 2] (by rfl)⟩
    ·clear h hF
     rintro a w ⟨x6, x7, hF, h⟩
     unfold Bv.j2 at hF
     replace h := h.F4 1 2 rfl rfl (by decide)
     replace h := h.F4 0 1 rfl rfl (by decide)
     replace h := h.conv 0 rfl (R' := AK p_0 (some ⟨x6, x7⟩)) (Lk (v0 := h_0_0) (v1 := h_0_1) (o := (some ⟨x6, x7⟩)))
     replace h := h.sub [0] (by rfl)
     change AA c [.res (AK p_0 (some ⟨x6, x7⟩))] a w at h
     obtain rfl := Option.some.inj hF
     exact ⟨.inr rfl, CJ h (rs := []) (Vs := []) results109 (by decide) trivial [0] [(AK p_0 (some ⟨x6, x7⟩))] rfl rfl rfl⟩

def C9 (L_0 : Option AD) (a_1 : Int) (a_2 : List (List UInt8)) : Option ((List UInt8) × (Option AD)) := ((CU a_1 a_2).bind fun r2 => ((C6 [r2]).bind fun r3 => ((Bv L_0 r3 r2).bind fun r5 => some (r3, r5))))
theorem DA {p_0 : Value} {L_0 : Option AD} {a_1 : Int} {a_2 : List (List UInt8)} {r : (List UInt8) × (Option AD)} (hF : C9 L_0 a_1 a_2 = some r) : AH prog KG 80 [(Az p_0), (Ag .u8 a_1), (AJ Ed a_2)] [(AK p_0 L_0)] (fun _ => [AK p_0 r.2]) (Au [Af 32 r.1]) := by
 refine AH.intro 20 func80 rfl ntmps80 (Nat.le_of_ble_eq_true rfl) ?_
 intro c a w hG hn h
 unfold C9 at hF
 change AA c [.slot 0 (Az p_0), .slot 1 (Ag .u8 a_1), .slot 2 (AJ Ed a_2), .res (AK p_0 L_0)] a w at h
 refine As mixed hn hG h [0, 1, 2, 501, 3, 500] (ob [] (AR zeroValue33 FT) .nil) fun b1 a w h => ?_
 obtain ⟨r2, hr2, hF⟩ := bind_some hF
 refine As mixed hn hG h [0, 3, 500, 4, 5] (ov [1] (Ab q0) <| ov [2] (Ab q0) <| oc [501, 500] [] call107 (JI hr2) ⟨q0, q1, trivial⟩ <| ov [500] (Ae q0) .nil) fun _ a w h => ?_
 obtain ⟨r3, hr3, hF⟩ := bind_some hF
 refine As mixed hn hG h [0, 1, 2, 502, 3, 4, 500] (ov [2] (Ab q0) <| ov [500] (CP (xs := [.tmp 12]) (ys := [r2]) _ rfl underlying22 sizeOf9 zeroValue9 rfl rfl (by decide) (by decide) ⟨⟨_, q0, (AG (CD _))⟩, trivial⟩ CF) <| oc [500] [] call108 (MW hr3) ⟨q0, trivial⟩ <| ob [] (AR zeroValue33 FT) <| og [501, 502] [500] [.res 3 100000 (fun v1_ _ => (lb (v1_) 33 [Af 32 r3]))] (AB.plain (Aq sizeOf33 q0 q1 (Ai _)) rfl) .nil) fun b4 a w h => ?_
 obtain ⟨r5, hr5, hF⟩ := bind_some hF
 refine As mixed hn hG h [1, 3, 5, 6, 500] (ov [0] (Ab q0) <| ov [3, 6] (An 1 isAgg33 sizeOf33 q0) <| ov [2] (Ab q0) <| oc [502, 501, 500] [4] call109 (Ic hr5) ⟨q0, q1, q2, trivial⟩ .nil) fun _ a w h => ?_
 refine As mixed hn hG h [0, 500, 4] (ov [1, 3] (An 1 isAgg33 sizeOf33 q0) <| ou [0, 500] 2 (Aq sizeOf33 q0 q1 (Ai _)) .nil) fun _ a w h => ?_
 refine wp_ret ?_
 obtain rfl := Option.some.inj hF
 exact ⟨.inl rfl, BW h results80 (Be 0 1 rfl rfl isAgg33 sizeOf33 rfl) [2] [(AK p_0 r5)] rfl rfl rfl⟩
end Go.Proofs.YteboiefnflipjaaGreatDoor
