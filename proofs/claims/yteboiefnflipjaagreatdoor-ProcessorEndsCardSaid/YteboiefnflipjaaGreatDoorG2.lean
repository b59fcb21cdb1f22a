/- The functions' Lean twins and contracts, printed by this session's own program: part 2. -/
import Derived.Test.YteboiefnflipjaaGreatDoorG1
namespace Go.Proofs.YteboiefnflipjaaGreatDoor
open _root_.Go.Proofs.Tryz
open Go Go.RowKit Go.Proofs
set_option maxRecDepth 100000
set_option maxHeartbeats 4000000
set_option linter.unusedVariables false
set_option linter.unusedSimpArgs false
def CD.b1 (x4 : Int) (x5 : Int) (x6 : List UInt8) : Option (CR (List UInt8) (Int × Int × (List UInt8))) := (if (decide ((0 : Int) ≤ x5)) = true then (if (0 : Int) ≤ x5 ∧ x5 < 8 then some (.cont (IntKind.wrap .u64 (x4.tdiv 256), IntKind.wrap .i64 (x5 - 1), x6.set x5.toNat (BA (IntKind.wrap .u8 (x4.tmod 256))))) else none) else some (.brk (x4, x5, x6)))
def CD (a_0 : Int) (a_1 : Int) : Option (List UInt8) := ((Bf (fun s : Int × Int × (List UInt8) => CD.b1 s.1 s.2.1 s.2.2) (((IntKind.wrap .i64 (a_1 - 1)) - 0 : Int).toNat + 2) (a_0, IntKind.wrap .i64 (a_1 - 1), (List.replicate 8 0))).bind fun cr => match cr with | .ret r => some r | .next (y18, y19, y20) => (if (0 : Int) ≤ 0 ∧ (0 : Int) ≤ a_1 ∧ a_1 ≤ 8 ∧ (0 : Int) < 8 then (if (a_1 : Int).toNat - (0 : Int).toNat ≤ 8 then some (y20.take ((a_1 : Int).toNat - (0 : Int).toNat)) else none) else none))
theorem FH {a_0 : Int} {a_1 : Int} {r : (List UInt8)} (hF : CD a_0 a_1 = some r) : Az prog KG 73 [(Ab .u64 a_0), (Ab .i64 a_1)] [] (fun _ => []) (As r) := by
 refine Az.intro 23 func73 rfl ntmps73 (Nat.le_of_ble_eq_true rfl) ?_
 intro c a w hG hn h
 unfold CD at hF
 change Ar c [.slot 0 (Ab .u64 a_0), .slot 1 (Ab .i64 a_1)] a w at h
 refine Ao mixed hn hG h [0, 1] (ov [] (Ad (DZ (sc _ (by decide)))) .nil) fun _ a w h => ?_
 refine Ao mixed hn hG h [0, 1, 501, 500] (ob [] (AJ zeroValue216 PJ) .nil) fun b1 a w h => ?_
 refine wp_seq ?_
 refine Ao mixed hn hG h [0, 1, 2, 500, 3] (ov [1] (Aa q0) <| ov [500] (Ak CH q0 qi) <| ov [500] (Ad q0) .nil) fun _ a w h => ?_
 refine wp_block ?_
 obtain ⟨cr14, hl15, hF⟩ := bind_some hF
 refine wp_mono (Bw (R := (List UInt8)) (S := Int × Int × (List UInt8)) (fun s a w => Ar c [.slot 0 (Ab .u64 s.1), .slot 1 (Ab .i64 a_1), .slot 5 (Au (b1 0) 0), .slot 6 (Ab .i64 s.2.1), .res (lb (b1 0) 216 [Af 8 s.2.2])] a w) (fun res e a w => match res with | .next s => e = .exit 0 ∧ Ar c [.slot 1 (Ab .i64 a_1), .slot 5 (Au (b1 0) 0), .res (lb (b1 0) 216 [Af 8 s.2.2])] a w | .ret r => e = .ret ∧ CO prog f73 c (As r) (fun _ => []) a w) ?_ _ (a_0, IntKind.wrap .i64 (a_1 - 1), (List.replicate 8 0)) _ _ _ (h.sub [0, 1, 2, 3, 4] (by rfl)) hl15) ?_
 ·clear hl15 hF h
  intro s a w o h hF
  obtain ⟨x4, x5, x6⟩ := s
  change CD.b1 x4 x5 x6 = some o at hF
  unfold CD.b1 at hF
  change Ar c [.slot 0 (Ab .u64 x4), .slot 1 (Ab .i64 a_1), .slot 5 (Au (b1 0) 0), .slot 6 (Ab .i64 x5), .res (lb (b1 0) 216 [Af 8 x6])] a w at h
  refine wp_seq ?_
  refine Ao mixed hn hG h [0, 1, 2, 3, 500, 4] (ov [3] (Aa q0) <| ov [500] (Ak DJ q0 qi) .nil) fun _ a w h => ?_
  refine DL h hF 4 [0, 1, 2, 3, 5] [0, 1, 2, 3, 5] (fun hb12 hF h => ?_) (fun hb12 hF h => ?_)
  ·refine wp_skip ?_
   show Code.wp prog _ _ a w
   refine wp_seq ?_
   refine wp_block ?_
   obtain ⟨hv13, hF⟩ := Ay hF
   refine Ao mixed hn hG h [0, 1, 2, 3, 500] (ov [3] (Aa q0) <| ov [0] (Aa q0) <| ov [500] (Ak (GG (by decide)) q0 qi) <| ov [500] (AW underlying24 underlying5 q0) <| ov [2, 503] (Aw underlying216 sizeOf5 q0 q1 hv13) <| ou [500, 501] 4 (E4 (i := x5) [] [] sizeOf5 q0 q1 rfl hv13) .nil) fun _ a w h => ?_
   refine CY mixed hn hG h [500, 1, 2, 3, 4] (ov [0] (Aa q0) <| ov [500] (Ak (KQ (by decide)) q0 qi) <| od [500] 0 (Ad q0) .nil) fun _ a w h => ?_
   show Code.wp prog _ _ a w
   refine CY mixed hn hG h [0, 1, 2, 500, 4] (ov [3] (Aa q0) <| ov [500] (Ak CH q0 qi) <| od [500] 3 (Ad q0) .nil) fun _ a w h => ?_
   obtain rfl := Option.some.inj hF
   exact ⟨rfl, h.sub [0, 1, 2, 3, 4] (by rfl)⟩
  ·refine wp_exit ?_
   obtain rfl := Option.some.inj hF
   exact ⟨BQ _, rfl, h.sub [1, 2, 4] (by rfl)⟩
 ·clear hl15
  intro e a w hq
  cases cr14 with
  | ret r16 =>
   obtain ⟨rfl, hq⟩ := hq
   obtain rfl := Option.some.inj hF
   exact ⟨.inl rfl, hq⟩
  | next s17 =>
   obtain ⟨y18, y19, y20⟩ := s17
   obtain ⟨rfl, h⟩ := hq
   change Ar c [.slot 1 (Ab .i64 a_1), .slot 5 (Au (b1 0) 0), .res (lb (b1 0) 216 [Af 8 y20])] a w at h
   refine Be ?_
   show Code.wp prog _ _ a w
   obtain ⟨hv21, hF⟩ := Ay hF
   obtain ⟨hv22, hF⟩ := Ay hF
   refine Ao mixed hn hG h [500] (ov [0] (Aa q0) <| ov [1, 500] (Eb (a := 0) (b := a_1) underlying216 sizeOf5 q0 rfl ⟨_, q1⟩ hv21) <| ov [500, 2] (FV [] [] 1 underlying207 underlying5 underlying9 q0 rfl rfl hv22 (by decide)) <| ov [500] (Ad q0) .nil) fun _ a w h => ?_
   refine wp_ret ?_
   obtain rfl := Option.some.inj hF
   exact ⟨.inl rfl, BG h results73 (Bc 0 rfl) [] [] rfl rfl rfl⟩

def EB (a_0 : List UInt8) : Option (List UInt8) := ((CD (IntKind.wrap .u64 (a_0.length : Int)) 4).bind fun r1 => (if r1.length + a_0.length ≤ CG then some (r1 ++ a_0) else none))
theorem Fq {a_0 : List UInt8} {r : (List UInt8)} (hF : EB a_0 = some r) : Az prog KG 74 [(As a_0)] [] (fun _ => []) (As r) := by
 refine Az.intro 9 func74 rfl ntmps74 (Nat.le_of_ble_eq_true rfl) ?_
 intro c a w hG hn h
 unfold EB at hF
 change Ar c [.slot 0 (As a_0)] a w at h
 refine Ao mixed hn hG h [0] (ov [] (Ad (DZ (sc _ (by decide)))) .nil) fun _ a w h => ?_
 obtain ⟨r1, hr1, hF⟩ := bind_some hF
 obtain ⟨hv2, hF⟩ := Ay hF
 refine Ao mixed hn hG h [500] (ov [0] (Aa q0) <| ov [500] (DU underlying9 q0) <| ov [500] (AW underlying3 underlying24 q0) <| oc [500] [] call73 (FH hr1) ⟨q0, qi, trivial⟩ <| ov [0] (Aa q0) <| ov [501, 500] (Ak (Cy hv2) q0 q1) <| ov [500] (Ad q0) .nil) fun _ a w h => ?_
 refine wp_ret ?_
 obtain rfl := Option.some.inj hF
 exact ⟨.inl rfl, BG h results74 (Bc 0 rfl) [] [] rfl rfl rfl⟩

def CM.b1 (a_1 : List (List UInt8)) (x5 : List UInt8) (x6 : Int) : Option (CR (List UInt8) ((List UInt8) × Int)) := (if (decide (x6 < (a_1.length : Int))) = true then (if (0 : Int) ≤ x6 ∧ x6 < a_1.length then ((EB (a_1.getD x6.toNat default)).bind fun r15 => (if x5.length + r15.length ≤ CG then some (.cont (x5 ++ r15, IntKind.wrap .i64 (x6 + 1))) else none)) else none) else some (.brk (x5, x6)))
def CM (a_0 : Int) (a_1 : List (List UInt8)) : Option (List UInt8) := ((Bf (fun s : (List UInt8) × Int => CM.b1 a_1 s.1 s.2) (((a_1.length : Int) - 0 : Int).toNat + 2) ([BA a_0], 0)).bind fun cr => match cr with | .ret r => some r | .next (y21, y22) => some y21)
theorem Ji {a_0 : Int} {a_1 : List (List UInt8)} {r : (List UInt8)} (hF : CM a_0 a_1 = some r) : Az prog KG 70 [(Ab .u8 a_0), (An C9 a_1)] [] (fun _ => []) (As r) := by
 refine Az.intro 23 func70 rfl ntmps70 (Nat.le_of_ble_eq_true rfl) ?_
 intro c a w hG hn h
 unfold CM at hF
 change Ar c [.slot 0 (Ab .u8 a_0), .slot 1 (An C9 a_1)] a w at h
 refine Ao mixed hn hG h [0, 1] (ov [] (Ad (DZ (sc _ (by decide)))) .nil) fun _ a w h => ?_
 refine Ao mixed hn hG h [1, 500] (ov [0] (Aa q0) <| ov [500] (Dn (xs := [.tmp 8]) (ys := [BA a_0]) _ rfl underlying207 sizeOf5 zeroValue5 rfl rfl (by decide) (by decide) ⟨⟨_, q0, (G5 _)⟩, trivial⟩ DQ) <| ov [500] (Jn underlying207 underlying5 underlying9 q0) <| ov [500] (Ad q0) .nil) fun _ a w h => ?_
 refine wp_seq ?_
 refine Ao mixed hn hG h [1, 502, 501, 500] (ov [0] (Aa q0) <| ov [500] (A4 underlying22 q0) <| ov [] (Aa qi) .nil) fun _ a w h => ?_
 refine wp_block ?_
 obtain ⟨cr17, hl18, hF⟩ := bind_some hF
 refine wp_mono (Bw (R := (List UInt8)) (S := (List UInt8) × Int) (fun s a w => Ar c [.slot 5 (As s.1), .slot 11 (An C9 a_1), .slot 12 (Ab .i64 (a_1.length : Int)), .slot 13 (Ab .i64 s.2)] a w) (fun res e a w => match res with | .next s => e = .exit 0 ∧ Ar c [.slot 5 (As s.1)] a w | .ret r => e = .ret ∧ CO prog f70 c (As r) (fun _ => []) a w) ?_ _ ([BA a_0], 0) _ _ _ (h.sub [0, 1, 2, 3] (by rfl)) hl18) ?_
 ·clear hl18 hF h
  intro s a w o h hF
  obtain ⟨x5, x6⟩ := s
  change CM.b1 a_1 x5 x6 = some o at hF
  unfold CM.b1 at hF
  change Ar c [.slot 5 (As x5), .slot 11 (An C9 a_1), .slot 12 (Ab .i64 (a_1.length : Int)), .slot 13 (Ab .i64 x6)] a w at h
  refine Ao mixed hn hG h [0, 1, 2, 3, 500] (ov [3, 2] (Ak Bl q0 q1) .nil) fun _ a w h => ?_
  refine wp_seq ?_
  refine DL h hF 4 [0, 1, 2, 3] [0, 1, 2, 3] (fun hb13 hF h => ?_) (fun hb13 hF h => ?_)
  ·refine wp_skip ?_
   show Code.wp prog _ _ a w
   refine wp_seq ?_
   refine wp_block ?_
   obtain ⟨hv14, hF⟩ := Ay hF
   refine Ao mixed hn hG h [0, 500, 1, 2, 3] (ov [1, 3] (AL underlying22 sizeOf9 C5 q0 q1 hv14) <| ov [500] (BH [] isAgg9 q0) <| ov [500] (Ad q0) .nil) fun _ a w h => ?_
   obtain ⟨r15, hr15, hF⟩ := bind_some hF
   obtain ⟨hv16, hF⟩ := Ay hF
   refine CY mixed hn hG h [500, 2, 3, 4] (ov [0] (Aa q0) <| ov [1] (Aa q0) <| oc [500] [] call74 (Fq hr15) ⟨q0, trivial⟩ <| ov [502, 500] (Ak (Cy hv16) q0 q1) <| od [500] 0 (Ad q0) .nil) fun _ a w h => ?_
   show Code.wp prog _ _ a w
   refine CY mixed hn hG h [0, 1, 2, 500] (ov [3] (Ak AY q0 qi) <| od [500] 3 (Aa q0) .nil) fun _ a w h => ?_
   obtain rfl := Option.some.inj hF
   exact ⟨rfl, h.sub [0, 1, 2, 3] (by rfl)⟩
  ·refine wp_exit ?_
   obtain rfl := Option.some.inj hF
   exact ⟨BQ _, rfl, h.sub [0] (by rfl)⟩
 ·clear hl18
  intro e a w hq
  cases cr17 with
  | ret r19 =>
   obtain ⟨rfl, hq⟩ := hq
   obtain rfl := Option.some.inj hF
   exact ⟨.inl rfl, hq⟩
  | next s20 =>
   obtain ⟨y21, y22⟩ := s20
   obtain ⟨rfl, h⟩ := hq
   change Ar c [.slot 5 (As y21)] a w at h
   refine Be ?_
   show Code.wp prog _ _ a w
   refine Ao mixed hn hG h [500] (ov [0] (Aa q0) <| ov [500] (Ad q0) .nil) fun _ a w h => ?_
   refine wp_ret ?_
   obtain rfl := Option.some.inj hF
   exact ⟨.inl rfl, BG h results70 (Bc 0 rfl) [] [] rfl rfl rfl⟩

def EP : Option (List Int) := some ([1116352408, 1899447441, 3049323471, 3921009573, 961987163, 1508970993, 2453635748, 2870763221, 3624381080, 310598401, 607225278, 1426881987, 1925078388, 2162078206, 2614888103, 3248222580, 3835390401, 4022224774, 264347078, 604807628, 770255983, 1249150122, 1555081692, 1996064986, 2554220882, 2821834349, 2952996808, 3210313671, 3336571891, 3584528711, 113926993, 338241895, 666307205, 773529912, 1294757372, 1396182291, 1695183700, 1986661051, 2177026350, 2456956037, 2730485921, 2820302411, 3259730800, 3345764771, 3516065817, 3600352804, 4094571909, 275423344, 430227734, 506948616, 659060556, 883997877, 958139571, 1322822218, 1537002063, 1747873779, 1955562222, 2024104815, 2227730452, 2361852424, 2428436474, 2756734187, 3204031479, 3329325298] ++ List.replicate (64 - 64) 0)
theorem Ht {r : (List Int)} (hF : EP = some r) : Az prog KG 138 [] [] (fun _ => []) (AG [AI .u32 64 r]) := by
 refine Az.intro 2 func138 rfl ntmps138 (Nat.le_of_ble_eq_true rfl) ?_
 intro c a w hG hn h
 unfold EP at hF
 change Ar c [] a w at h
 refine Ao mixed hn hG h [501, 500] (ob [] (AJ zeroValue262 MC) .nil) fun b1 a w h => ?_
 refine Ao mixed hn hG h [0, 500] (ov [] (Ii (xs := [.const (.int .u32 1116352408), .const (.int .u32 1899447441), .const (.int .u32 3049323471), .const (.int .u32 3921009573), .const (.int .u32 961987163), .const (.int .u32 1508970993), .const (.int .u32 2453635748), .const (.int .u32 2870763221), .const (.int .u32 3624381080), .const (.int .u32 310598401), .const (.int .u32 607225278), .const (.int .u32 1426881987), .const (.int .u32 1925078388), .const (.int .u32 2162078206), .const (.int .u32 2614888103), .const (.int .u32 3248222580), .const (.int .u32 3835390401), .const (.int .u32 4022224774), .const (.int .u32 264347078), .const (.int .u32 604807628), .const (.int .u32 770255983), .const (.int .u32 1249150122), .const (.int .u32 1555081692), .const (.int .u32 1996064986), .const (.int .u32 2554220882), .const (.int .u32 2821834349), .const (.int .u32 2952996808), .const (.int .u32 3210313671), .const (.int .u32 3336571891), .const (.int .u32 3584528711), .const (.int .u32 113926993), .const (.int .u32 338241895), .const (.int .u32 666307205), .const (.int .u32 773529912), .const (.int .u32 1294757372), .const (.int .u32 1396182291), .const (.int .u32 1695183700), .const (.int .u32 1986661051), .const (.int .u32 2177026350), .const (.int .u32 2456956037), .const (.int .u32 2730485921), .const (.int .u32 2820302411), .const (.int .u32 3259730800), .const (.int .u32 3345764771), .const (.int .u32 3516065817), .const (.int .u32 3600352804), .const (.int .u32 4094571909), .const (.int .u32 275423344), .const (.int .u32 430227734), .const (.int .u32 506948616), .const (.int .u32 659060556), .const (.int .u32 883997877), .const (.int .u32 958139571), .const (.int .u32 1322822218), .const (.int .u32 1537002063), .const (.int .u32 1747873779), .const (.int .u32 1955562222), .const (.int .u32 2024104815), .const (.int .u32 2227730452), .const (.int .u32 2361852424), .const (.int .u32 2428436474), .const (.int .u32 2756734187), .const (.int .u32 3204031479), .const (.int .u32 3329325298)]) (ys := [1116352408, 1899447441, 3049323471, 3921009573, 961987163, 1508970993, 2453635748, 2870763221, 3624381080, 310598401, 607225278, 1426881987, 1925078388, 2162078206, 2614888103, 3248222580, 3835390401, 4022224774, 264347078, 604807628, 770255983, 1249150122, 1555081692, 1996064986, 2554220882, 2821834349, 2952996808, 3210313671, 3336571891, 3584528711, 113926993, 338241895, 666307205, 773529912, 1294757372, 1396182291, 1695183700, 1986661051, 2177026350, 2456956037, 2730485921, 2820302411, 3259730800, 3345764771, 3516065817, 3600352804, 4094571909, 275423344, 430227734, 506948616, 659060556, 883997877, 958139571, 1322822218, 1537002063, 1747873779, 1955562222, 2024104815, 2227730452, 2361852424, 2428436474, 2756734187, 3204031479, 3329325298]) rfl Q4 ⟨⟨_, qi, (Ap (AK _ _))⟩, ⟨_, qi, (Ap (AK _ _))⟩, ⟨_, qi, (Ap (AK _ _))⟩, ⟨_, qi, (Ap (AK _ _))⟩, ⟨_, qi, (Ap (AK _ _))⟩, ⟨_, qi, (Ap (AK _ _))⟩, ⟨_, qi, (Ap (AK _ _))⟩, ⟨_, qi, (Ap (AK _ _))⟩, ⟨_, qi, (Ap (AK _ _))⟩, ⟨_, qi, (Ap (AK _ _))⟩, ⟨_, qi, (Ap (AK _ _))⟩, ⟨_, qi, (Ap (AK _ _))⟩, ⟨_, qi, (Ap (AK _ _))⟩, ⟨_, qi, (Ap (AK _ _))⟩, ⟨_, qi, (Ap (AK _ _))⟩, ⟨_, qi, (Ap (AK _ _))⟩, ⟨_, qi, (Ap (AK _ _))⟩, ⟨_, qi, (Ap (AK _ _))⟩, ⟨_, qi, (Ap (AK _ _))⟩, ⟨_, qi, (Ap (AK _ _))⟩, ⟨_, qi, (Ap (AK _ _))⟩, ⟨_, qi, (Ap (AK _ _))⟩, ⟨_, qi, (Ap (AK _ _))⟩, ⟨_, qi, (Ap (AK _ _))⟩, ⟨_, qi, (Ap (AK _ _))⟩, ⟨_, qi, (Ap (AK _ _))⟩, ⟨_, qi, (Ap (AK _ _))⟩, ⟨_, qi, (Ap (AK _ _))⟩, ⟨_, qi, (Ap (AK _ _))⟩, ⟨_, qi, (Ap (AK _ _))⟩, ⟨_, qi, (Ap (AK _ _))⟩, ⟨_, qi, (Ap (AK _ _))⟩, ⟨_, qi, (Ap (AK _ _))⟩, ⟨_, qi, (Ap (AK _ _))⟩, ⟨_, qi, (Ap (AK _ _))⟩, ⟨_, qi, (Ap (AK _ _))⟩, ⟨_, qi, (Ap (AK _ _))⟩, ⟨_, qi, (Ap (AK _ _))⟩, ⟨_, qi, (Ap (AK _ _))⟩, ⟨_, qi, (Ap (AK _ _))⟩, ⟨_, qi, (Ap (AK _ _))⟩, ⟨_, qi, (Ap (AK _ _))⟩, ⟨_, qi, (Ap (AK _ _))⟩, ⟨_, qi, (Ap (AK _ _))⟩, ⟨_, qi, (Ap (AK _ _))⟩, ⟨_, qi, (Ap (AK _ _))⟩, ⟨_, qi, (Ap (AK _ _))⟩, ⟨_, qi, (Ap (AK _ _))⟩, ⟨_, qi, (Ap (AK _ _))⟩, ⟨_, qi, (Ap (AK _ _))⟩, ⟨_, qi, (Ap (AK _ _))⟩, ⟨_, qi, (Ap (AK _ _))⟩, ⟨_, qi, (Ap (AK _ _))⟩, ⟨_, qi, (Ap (AK _ _))⟩, ⟨_, qi, (Ap (AK _ _))⟩, ⟨_, qi, (Ap (AK _ _))⟩, ⟨_, qi, (Ap (AK _ _))⟩, ⟨_, qi, (Ap (AK _ _))⟩, ⟨_, qi, (Ap (AK _ _))⟩, ⟨_, qi, (Ap (AK _ _))⟩, ⟨_, qi, (Ap (AK _ _))⟩, ⟨_, qi, (Ap (AK _ _))⟩, ⟨_, qi, (Ap (AK _ _))⟩, ⟨_, qi, (Ap (AK _ _))⟩, trivial⟩ (by decide) rfl) <| ou [0, 500] 1 (Aq sizeOf262 q0 q1 (Al _)) .nil) fun _ a w h => ?_
 refine wp_ret ?_
 obtain rfl := Option.some.inj hF
 exact ⟨.inl rfl, BG h results138 (Bs 0 1 rfl rfl isAgg262 sizeOf262 rfl) [] [] rfl rfl rfl⟩

def Bg (a_0 : Int) (a_1 : Int) : Option Int := some (bits .or .u32 (shr .u32 a_0 a_1) (shl .u32 a_0 (IntKind.wrap .u64 (32 - a_1))))
theorem CT {a_0 : Int} {a_1 : Int} {r : Int} (hF : Bg a_0 a_1 = some r) : Az prog KG 139 [(Ab .u32 a_0), (Ab .u64 a_1)] [] (fun _ => []) (Ab .u32 r) := by
 refine Az.intro 13 func139 rfl ntmps139 (Nat.le_of_ble_eq_true rfl) ?_
 intro c a w hG hn h
 unfold Bg at hF
 change Ar c [.slot 0 (Ab .u32 a_0), .slot 1 (Ab .u64 a_1)] a w at h
 refine Ao mixed hn hG h [0, 1] (ov [] (Ad qi) .nil) fun _ a w h => ?_
 refine Ao mixed hn hG h [500] (ov [0] (Aa q0) <| ov [1] (Aa q0) <| ov [501, 500] (Ak (Fz rfl) q0 q1) <| ov [0] (Aa q0) <| ov [1] (Aa q0) <| ov [500] (Ak CH qi q0) <| ov [502, 500] (Ak (Gr rfl) q0 q1) <| ov [504, 500] (Ak It q0 q1) <| ov [500] (Ad q0) .nil) fun _ a w h => ?_
 refine wp_ret ?_
 obtain rfl := Option.some.inj hF
 exact ⟨.inl rfl, BG h results139 (Bc 0 rfl) [] [] rfl rfl rfl⟩

def A8.b1 (a_1 : List (UInt8)) (x12 : Int) (x13 : List Int) : Option (CR (List Int) (Int × (List Int))) := (if (decide (x12 < (16 : Int))) = true then (if (0 : Int) ≤ IntKind.wrap .i64 (4 * x12) ∧ IntKind.wrap .i64 (4 * x12) < a_1.length then (if (0 : Int) ≤ IntKind.wrap .i64 ((IntKind.wrap .i64 (4 * x12)) + 1) ∧ IntKind.wrap .i64 ((IntKind.wrap .i64 (4 * x12)) + 1) < a_1.length then (if (0 : Int) ≤ IntKind.wrap .i64 ((IntKind.wrap .i64 (4 * x12)) + 2) ∧ IntKind.wrap .i64 ((IntKind.wrap .i64 (4 * x12)) + 2) < a_1.length then (if (0 : Int) ≤ IntKind.wrap .i64 ((IntKind.wrap .i64 (4 * x12)) + 3) ∧ IntKind.wrap .i64 ((IntKind.wrap .i64 (4 * x12)) + 3) < a_1.length then (if (0 : Int) ≤ x12 ∧ x12 < 64 then some (.cont (IntKind.wrap .i64 (x12 + 1), x13.set x12.toNat (IntKind.wrap .u32 ((IntKind.wrap .u32 ((IntKind.wrap .u32 ((IntKind.wrap .u32 ((IntKind.wrap .u32 ((a_1.getD (IntKind.wrap .i64 (4 * x12)).toNat default).toNat)) * 16777216)) + (IntKind.wrap .u32 ((IntKind.wrap .u32 ((a_1.getD (IntKind.wrap .i64 ((IntKind.wrap .i64 (4 * x12)) + 1)).toNat default).toNat)) * 65536)))) + (IntKind.wrap .u32 ((IntKind.wrap .u32 ((a_1.getD (IntKind.wrap .i64 ((IntKind.wrap .i64 (4 * x12)) + 2)).toNat default).toNat)) * 256)))) + (IntKind.wrap .u32 ((a_1.getD (IntKind.wrap .i64 ((IntKind.wrap .i64 (4 * x12)) + 3)).toNat default).toNat)))))) else none) else none) else none) else none) else none) else some (.brk (x12, x13)))
def A8.b2 (x43 : Int) (x44 : List Int) : Option (CR (List Int) (Int × (List Int))) := (if (decide (x43 < (64 : Int))) = true then (if (0 : Int) ≤ IntKind.wrap .i64 (x43 - 15) ∧ IntKind.wrap .i64 (x43 - 15) < 64 then ((Bg (x44.getD (IntKind.wrap .i64 (x43 - 15)).toNat 0) 7).bind fun r59 => ((Bg (x44.getD (IntKind.wrap .i64 (x43 - 15)).toNat 0) 18).bind fun r60 => (if (0 : Int) ≤ IntKind.wrap .i64 (x43 - 2) ∧ IntKind.wrap .i64 (x43 - 2) < 64 then ((Bg (x44.getD (IntKind.wrap .i64 (x43 - 2)).toNat 0) 17).bind fun r62 => ((Bg (x44.getD (IntKind.wrap .i64 (x43 - 2)).toNat 0) 19).bind fun r63 => (if (0 : Int) ≤ IntKind.wrap .i64 (x43 - 16) ∧ IntKind.wrap .i64 (x43 - 16) < 64 then (if (0 : Int) ≤ IntKind.wrap .i64 (x43 - 7) ∧ IntKind.wrap .i64 (x43 - 7) < 64 then (if (0 : Int) ≤ x43 ∧ x43 < 64 then some (.cont (IntKind.wrap .i64 (x43 + 1), x44.set x43.toNat (IntKind.wrap .u32 ((IntKind.wrap .u32 ((IntKind.wrap .u32 ((x44.getD (IntKind.wrap .i64 (x43 - 16)).toNat 0) + (bits .xor .u32 (bits .xor .u32 r59 r60) (shr .u32 (x44.getD (IntKind.wrap .i64 (x43 - 15)).toNat 0) 3)))) + (x44.getD (IntKind.wrap .i64 (x43 - 7)).toNat 0))) + (bits .xor .u32 (bits .xor .u32 r62 r63) (shr .u32 (x44.getD (IntKind.wrap .i64 (x43 - 2)).toNat 0) 10)))))) else none) else none) else none))) else none))) else none) else some (.brk (x43, x44)))
def A8.b3 (r4 : (List Int)) (y72 : List Int) (x80 : Int) (x81 : Int) (x82 : Int) (x83 : Int) (x84 : Int) (x85 : Int) (x86 : Int) (x87 : Int) (x88 : Int) : Option (CR (List Int) (Int × Int × Int × Int × Int × Int × Int × Int × Int)) := (if (decide (x88 < (64 : Int))) = true then ((Bg x84 6).bind fun r107 => ((Bg x84 11).bind fun r108 => ((Bg x84 25).bind fun r109 => (if (0 : Int) ≤ x88 ∧ x88 < 64 then ((Bg x80 2).bind fun r111 => ((Bg x80 13).bind fun r112 => ((Bg x80 22).bind fun r113 => some (.cont (IntKind.wrap .u32 ((IntKind.wrap .u32 ((IntKind.wrap .u32 ((IntKind.wrap .u32 ((IntKind.wrap .u32 (x87 + (bits .xor .u32 (bits .xor .u32 r107 r108) r109))) + (bits .xor .u32 (bits .and .u32 x84 x85) (bits .and .u32 (bits .xor .u32 4294967295 x84) x86)))) + (r4.getD x88.toNat 0))) + (y72.getD x88.toNat 0))) + (IntKind.wrap .u32 ((bits .xor .u32 (bits .xor .u32 r111 r112) r113) + (bits .xor .u32 (bits .xor .u32 (bits .and .u32 x80 x81) (bits .and .u32 x80 x82)) (bits .and .u32 x81 x82))))), x80, x81, x82, IntKind.wrap .u32 (x83 + (IntKind.wrap .u32 ((IntKind.wrap .u32 ((IntKind.wrap .u32 ((IntKind.wrap .u32 (x87 + (bits .xor .u32 (bits .xor .u32 r107 r108) r109))) + (bits .xor .u32 (bits .and .u32 x84 x85) (bits .and .u32 (bits .xor .u32 4294967295 x84) x86)))) + (r4.getD x88.toNat 0))) + (y72.getD x88.toNat 0)))), x84, x85, x86, IntKind.wrap .i64 (x88 + 1)))))) else none)))) else some (.brk (x80, x81, x82, x83, x84, x85, x86, x87, x88)))
def A8 (a_0 : List Int) (a_1 : List (UInt8)) : Option (List Int) := (if (!decide ((a_1.length : Int) = (64 : Int))) = true then some a_0 else ((EP).bind fun r4 => ((Bf (fun s : Int × (List Int) => A8.b1 a_1 s.1 s.2) ((16 - 0 : Int).toNat + 2) (0, (List.replicate 64 0))).bind fun cr => match cr with | .ret r => some r | .next (y32, y33) => ((Bf (fun s : Int × (List Int) => A8.b2 s.1 s.2) ((64 - 16 : Int).toNat + 2) (16, y33)).bind fun cr => match cr with | .ret r => some r | .next (y71, y72) => ((Bf (fun s : Int × Int × Int × Int × Int × Int × Int × Int × Int => A8.b3 r4 y72 s.1 s.2.1 s.2.2.1 s.2.2.2.1 s.2.2.2.2.1 s.2.2.2.2.2.1 s.2.2.2.2.2.2.1 s.2.2.2.2.2.2.2.1 s.2.2.2.2.2.2.2.2) ((64 - 0 : Int).toNat + 2) (a_0.getD (0 : Int).toNat 0, a_0.getD (1 : Int).toNat 0, a_0.getD (2 : Int).toNat 0, a_0.getD (3 : Int).toNat 0, a_0.getD (4 : Int).toNat 0, a_0.getD (5 : Int).toNat 0, a_0.getD (6 : Int).toNat 0, a_0.getD (7 : Int).toNat 0, 0)).bind fun cr => match cr with | .ret r => some r | .next (y118, y119, y120, y121, y122, y123, y124, y125, y126) => some ([IntKind.wrap .u32 ((a_0.getD (0 : Int).toNat 0) + y118), IntKind.wrap .u32 ((a_0.getD (1 : Int).toNat 0) + y119), IntKind.wrap .u32 ((a_0.getD (2 : Int).toNat 0) + y120), IntKind.wrap .u32 ((a_0.getD (3 : Int).toNat 0) + y121), IntKind.wrap .u32 ((a_0.getD (4 : Int).toNat 0) + y122), IntKind.wrap .u32 ((a_0.getD (5 : Int).toNat 0) + y123), IntKind.wrap .u32 ((a_0.getD (6 : Int).toNat 0) + y124), IntKind.wrap .u32 ((a_0.getD (7 : Int).toNat 0) + y125)] ++ List.replicate (8 - 8) 0))))))
theorem Jk {a_0 : List Int} {a_1 : List (UInt8)} {r : (List Int)} (hF : A8 a_0 a_1 = some r) : Az prog KG 126 [(AG [AI .u32 8 a_0]), (An bC a_1)] [] (fun _ => []) (AG [AI .u32 8 r]) := by
 refine Az.intro 231 func126 rfl ntmps126 (Nat.le_of_ble_eq_true rfl) ?_
 intro c a w hG hn h
 unfold A8 at hF
 change Ar c [.slot 0 (AG [AI .u32 8 a_0]), .slot 1 (An bC a_1)] a w at h
 refine Ao mixed hn hG h [1, 503, 501, 502, 500] (ob [0] (BF q0 (Al _)) <| ob [] (AJ zeroValue208 z208) .nil) fun b1 a w h => ?_
 refine wp_seq ?_
 refine Ao mixed hn hG h [0, 1, 2, 500, 3, 4] (ov [0] (Aa q0) <| ov [500] (A4 underlying207 q0) <| ov [500] (Ak C2 q0 qi) .nil) fun _ a w h => ?_
 refine DL h hF 3 [1, 2, 4, 5] [0, 1, 2, 4, 5] (fun hb3 hF h => ?_) (fun hb3 hF h => ?_)
 ·refine Ao mixed hn hG h [1, 500] (ov [0, 2] (AA 1 isAgg208 sizeOf208 q0) <| ou [1, 500] 3 (Aq sizeOf208 q0 q1 (Al _)) .nil) fun _ a w h => ?_
  refine wp_ret ?_
  obtain rfl := Option.some.inj hF
  exact ⟨.inl rfl, BG h results126 (Bs 0 1 rfl rfl isAgg208 sizeOf208 rfl) [] [] rfl rfl rfl⟩
 ·refine wp_skip ?_
  show Code.wp prog _ _ a w
  obtain ⟨r4, hr4, hF⟩ := bind_some hF
  refine Ao mixed hn hG h [0, 1, 2, 502, 3, 4, 500] (oc [] [] call138 (Ht hr4) trivial <| ob [] (AJ zeroValue262 MC) <| og [501, 502] [500] [.res 1 100000 (fun v1_ _ => (lb (v1_) 262 [AI .u32 64 r4]))] (AV.plain (Aq sizeOf262 q0 q1 (Al _)) rfl) .nil) fun b5 a w h => ?_
  refine Ao mixed hn hG h [0, 1, 2, 3, 501, 4, 5, 6, 500] (ob [] (AJ zeroValue262 MC) .nil) fun b6 a w h => ?_
  refine wp_seq ?_
  refine Ao mixed hn hG h [0, 1, 2, 3, 4, 500, 5, 6, 7, 8] (ov [] (Ad qi) .nil) fun _ a w h => ?_
  refine wp_block ?_
  obtain ⟨cr28, hl29, hF⟩ := bind_some hF
  refine wp_mono (Bw (R := (List Int)) (S := Int × (List Int)) (fun s a w => Ar c [.slot 1 (An bC a_1), .slot 2 (Au (b1 0) 0), .slot 4 (Au (b1 1) 0), .slot 5 (Au (b5 1) 0), .slot 6 (Au (b6 0) 0), .slot 7 (Ab .i64 s.1), .res (lb (b1 0) 208 [AI .u32 8 a_0]), .res (lb (b1 1) 208 [AI .u32 8 (List.replicate 8 0)]), .res (lb (b5 1) 262 [AI .u32 64 r4]), .res (lb (b6 0) 262 [AI .u32 64 s.2])] a w) (fun res e a w => match res with | .next s => e = .exit 0 ∧ Ar c [.slot 2 (Au (b1 0) 0), .slot 4 (Au (b1 1) 0), .slot 5 (Au (b5 1) 0), .slot 6 (Au (b6 0) 0), .res (lb (b1 0) 208 [AI .u32 8 a_0]), .res (lb (b1 1) 208 [AI .u32 8 (List.replicate 8 0)]), .res (lb (b5 1) 262 [AI .u32 64 r4]), .res (lb (b6 0) 262 [AI .u32 64 s.2])] a w | .ret r => e = .ret ∧ CO prog f126 c (AG [AI .u32 8 r]) (fun _ => []) a w) ?_ _ (0, (List.replicate 64 0)) _ _ _ (h.sub [0, 1, 2, 3, 4, 5, 6, 7, 8, 9] (by rfl)) hl29) ?_
  ·clear hl29 hF h
   intro s a w o h hF
   obtain ⟨x12, x13⟩ := s
   change A8.b1 a_1 x12 x13 = some o at hF
   unfold A8.b1 at hF
   change Ar c [.slot 1 (An bC a_1), .slot 2 (Au (b1 0) 0), .slot 4 (Au (b1 1) 0), .slot 5 (Au (b5 1) 0), .slot 6 (Au (b6 0) 0), .slot 7 (Ab .i64 x12), .res (lb (b1 0) 208 [AI .u32 8 a_0]), .res (lb (b1 1) 208 [AI .u32 8 (List.replicate 8 0)]), .res (lb (b5 1) 262 [AI .u32 64 r4]), .res (lb (b6 0) 262 [AI .u32 64 x13])] a w at h
   refine wp_seq ?_
   refine Ao mixed hn hG h [0, 1, 2, 3, 4, 5, 500, 6, 7, 8, 9] (ov [5] (Aa q0) <| ov [500] (Ak Bl q0 qi) .nil) fun _ a w h => ?_
   refine DL h hF 6 [0, 1, 2, 3, 4, 5, 7, 8, 9, 10] [0, 1, 2, 3, 4, 5, 7, 8, 9, 10] (fun hb22 hF h => ?_) (fun hb22 hF h => ?_)
   ·refine wp_skip ?_
    show Code.wp prog _ _ a w
    refine wp_seq ?_
    refine wp_block ?_
    obtain ⟨hv23, hF⟩ := Ay hF
    obtain ⟨hv24, hF⟩ := Ay hF
    obtain ⟨hv25, hF⟩ := Ay hF
    obtain ⟨hv26, hF⟩ := Ay hF
    obtain ⟨hv27, hF⟩ := Ay hF
    refine CY mixed hn hG h [0, 1, 2, 3, 4, 5, 6, 7, 8, 500] (ov [5] (Aa q0) <| ov [0] (Aa q0) <| ov [5] (Aa q0) <| ov [500] (Ak Db qi q0) <| ov [502, 500] (AL underlying207 sizeOf5 DQ q0 q1 hv23) <| ov [500] (BH [] isAgg5 q0) <| ov [500] (AW underlying5 underlying29 q0) <| ov [500] (Ak Db q0 qi) <| ov [0] (Aa q0) <| ov [5] (Aa q0) <| ov [500] (Ak Db qi q0) <| ov [500] (Ak AY q0 qi) <| ov [503, 500] (AL underlying207 sizeOf5 DQ q0 q1 hv24) <| ov [500] (BH [] isAgg5 q0) <| ov [500] (AW underlying5 underlying29 q0) <| ov [500] (Ak Db q0 qi) <| ov [508, 500] (Ak AY q0 q1) <| ov [0] (Aa q0) <| ov [5] (Aa q0) <| ov [500] (Ak Db qi q0) <| ov [500] (Ak AY q0 qi) <| ov [503, 500] (AL underlying207 sizeOf5 DQ q0 q1 hv25) <| ov [500] (BH [] isAgg5 q0) <| ov [500] (AW underlying5 underlying29 q0) <| ov [500] (Ak Db q0 qi) <| ov [508, 500] (Ak AY q0 q1) <| ov [0] (Aa q0) <| ov [5] (Aa q0) <| ov [500] (Ak Db qi q0) <| ov [500] (Ak AY q0 qi) <| ov [503, 500] (AL underlying207 sizeOf5 DQ q0 q1 hv26) <| ov [500] (BH [] isAgg5 q0) <| ov [500] (AW underlying5 underlying29 q0) <| ov [507, 500] (Ak AY q0 q1) <| ov [4, 533] (Aw underlying262 sizeOf29 q0 q1 hv27) <| ou [500, 501] 9 (Eg (i := x12) [] [] sizeOf29 q0 q1 rfl hv27) .nil) fun _ a w h => ?_
    show Code.wp prog _ _ a w
    refine CY mixed hn hG h [0, 1, 2, 3, 4, 500, 6, 7, 8, 9] (ov [5] (Aa q0) <| ov [500] (Ak AY q0 qi) <| od [500] 5 (Ad q0) .nil) fun _ a w h => ?_
    obtain rfl := Option.some.inj hF
    exact ⟨rfl, h.sub [0, 1, 2, 3, 4, 5, 6, 7, 8, 9] (by rfl)⟩
   ·refine wp_exit ?_
    obtain rfl := Option.some.inj hF
    exact ⟨BQ _, rfl, h.sub [1, 2, 3, 4, 6, 7, 8, 9] (by rfl)⟩
  ·clear hl29
   intro e a w hq
   cases cr28 with
   | ret r30 =>
    obtain ⟨rfl, hq⟩ := hq
    obtain rfl := Option.some.inj hF
    exact ⟨.inl rfl, hq⟩
   | next s31 =>
    obtain ⟨y32, y33⟩ := s31
    obtain ⟨rfl, h⟩ := hq
    change Ar c [.slot 2 (Au (b1 0) 0), .slot 4 (Au (b1 1) 0), .slot 5 (Au (b5 1) 0), .slot 6 (Au (b6 0) 0), .res (lb (b1 0) 208 [AI .u32 8 a_0]), .res (lb (b1 1) 208 [AI .u32 8 (List.replicate 8 0)]), .res (lb (b5 1) 262 [AI .u32 64 r4]), .res (lb (b6 0) 262 [AI .u32 64 y33])] a w at h
    refine Be ?_
    show Code.wp prog _ _ a w
    refine wp_seq ?_
    refine Ao mixed hn hG h [0, 1, 2, 3, 500, 4, 5, 6, 7] (ov [] (Ad qi) .nil) fun _ a w h => ?_
    refine wp_block ?_
    obtain ⟨cr67, hl68, hF⟩ := bind_some hF
    refine wp_mono (Bw (R := (List Int)) (S := Int × (List Int)) (fun s a w => Ar c [.slot 2 (Au (b1 0) 0), .slot 4 (Au (b1 1) 0), .slot 5 (Au (b5 1) 0), .slot 6 (Au (b6 0) 0), .slot 8 (Ab .i64 s.1), .res (lb (b1 0) 208 [AI .u32 8 a_0]), .res (lb (b1 1) 208 [AI .u32 8 (List.replicate 8 0)]), .res (lb (b5 1) 262 [AI .u32 64 r4]), .res (lb (b6 0) 262 [AI .u32 64 s.2])] a w) (fun res e a w => match res with | .next s => e = .exit 2 ∧ Ar c [.slot 2 (Au (b1 0) 0), .slot 4 (Au (b1 1) 0), .slot 5 (Au (b5 1) 0), .slot 6 (Au (b6 0) 0), .res (lb (b1 0) 208 [AI .u32 8 a_0]), .res (lb (b1 1) 208 [AI .u32 8 (List.replicate 8 0)]), .res (lb (b5 1) 262 [AI .u32 64 r4]), .res (lb (b6 0) 262 [AI .u32 64 s.2])] a w | .ret r => e = .ret ∧ CO prog f126 c (AG [AI .u32 8 r]) (fun _ => []) a w) ?_ _ (16, y33) _ _ _ (h.sub [0, 1, 2, 3, 4, 5, 6, 7, 8] (by rfl)) hl68) ?_
    ·clear hl68 hF h
     intro s a w o h hF
     obtain ⟨x43, x44⟩ := s
     change A8.b2 x43 x44 = some o at hF
     unfold A8.b2 at hF
     change Ar c [.slot 2 (Au (b1 0) 0), .slot 4 (Au (b1 1) 0), .slot 5 (Au (b5 1) 0), .slot 6 (Au (b6 0) 0), .slot 8 (Ab .i64 x43), .res (lb (b1 0) 208 [AI .u32 8 a_0]), .res (lb (b1 1) 208 [AI .u32 8 (List.replicate 8 0)]), .res (lb (b5 1) 262 [AI .u32 64 r4]), .res (lb (b6 0) 262 [AI .u32 64 x44])] a w at h
     refine wp_seq ?_
     refine Ao mixed hn hG h [0, 1, 2, 3, 4, 500, 5, 6, 7, 8] (ov [4] (Aa q0) <| ov [500] (Ak Bl q0 qi) .nil) fun _ a w h => ?_
     refine DL h hF 5 [0, 1, 2, 3, 4, 6, 7, 8, 9] [0, 1, 2, 3, 4, 6, 7, 8, 9] (fun hb57 hF h => ?_) (fun hb57 hF h => ?_)
     ·refine wp_skip ?_
      show Code.wp prog _ _ a w
      refine wp_seq ?_
      refine wp_block ?_
      obtain ⟨hv58, hF⟩ := Ay hF
      obtain ⟨r59, hr59, hF⟩ := bind_some hF
      obtain ⟨r60, hr60, hF⟩ := bind_some hF
      refine Ao mixed hn hG h [0, 1, 2, 3, 4, 500, 5, 6, 7, 8] (ov [4] (Aa q0) <| ov [500] (Ak CH q0 qi) <| ov [3, 500] (Aw underlying262 sizeOf29 q0 q1 hv58) <| ov [500, 8] (AX (i := IntKind.wrap .i64 (x43 - 15)) [] [] 1 isAgg29 q0 rfl rfl hv58) <| oc [500] [] call139 (CT hr59) ⟨q0, qi, trivial⟩ <| ov [4] (Aa q0) <| ov [500] (Ak CH q0 qi) <| ov [3, 500] (Aw underlying262 sizeOf29 q0 q1 hv58) <| ov [500, 8] (AX (i := IntKind.wrap .i64 (x43 - 15)) [] [] 1 isAgg29 q0 rfl rfl hv58) <| oc [500] [] call139 (CT hr60) ⟨q0, qi, trivial⟩ <| ov [505, 500] (Ak CQ q0 q1) <| ov [4] (Aa q0) <| ov [500] (Ak CH q0 qi) <| ov [3, 500] (Aw underlying262 sizeOf29 q0 q1 hv58) <| ov [500, 8] (AX (i := IntKind.wrap .i64 (x43 - 15)) [] [] 1 isAgg29 q0 rfl rfl hv58) <| ov [500] (Ak (Fz rfl) q0 qi) <| ov [505, 500] (Ak CQ q0 q1) <| ov [500] (Ad q0) .nil) fun _ a w h => ?_
      obtain ⟨hv61, hF⟩ := Ay hF
      obtain ⟨r62, hr62, hF⟩ := bind_some hF
      obtain ⟨r63, hr63, hF⟩ := bind_some hF
      refine Ao mixed hn hG h [0, 1, 2, 3, 4, 5, 500, 6, 7, 8, 9] (ov [4] (Aa q0) <| ov [500] (Ak CH q0 qi) <| ov [3, 500] (Aw underlying262 sizeOf29 q0 q1 hv61) <| ov [500, 9] (AX (i := IntKind.wrap .i64 (x43 - 2)) [] [] 1 isAgg29 q0 rfl rfl hv61) <| oc [500] [] call139 (CT hr62) ⟨q0, qi, trivial⟩ <| ov [4] (Aa q0) <| ov [500] (Ak CH q0 qi) <| ov [3, 500] (Aw underlying262 sizeOf29 q0 q1 hv61) <| ov [500, 9] (AX (i := IntKind.wrap .i64 (x43 - 2)) [] [] 1 isAgg29 q0 rfl rfl hv61) <| oc [500] [] call139 (CT hr63) ⟨q0, qi, trivial⟩ <| ov [505, 500] (Ak CQ q0 q1) <| ov [4] (Aa q0) <| ov [500] (Ak CH q0 qi) <| ov [3, 500] (Aw underlying262 sizeOf29 q0 q1 hv61) <| ov [500, 9] (AX (i := IntKind.wrap .i64 (x43 - 2)) [] [] 1 isAgg29 q0 rfl rfl hv61) <| ov [500] (Ak (Fz rfl) q0 qi) <| ov [505, 500] (Ak CQ q0 q1) <| ov [500] (Ad q0) .nil) fun _ a w h => ?_
      obtain ⟨hv64, hF⟩ := Ay hF
      obtain ⟨hv65, hF⟩ := Ay hF
      obtain ⟨hv66, hF⟩ := Ay hF
      refine CY mixed hn hG h [0, 1, 2, 3, 4, 7, 8, 9, 500] (ov [4] (Aa q0) <| ov [4] (Aa q0) <| ov [500] (Ak CH q0 qi) <| ov [3, 500] (Aw underlying262 sizeOf29 q0 q1 hv64) <| ov [500, 10] (AX (i := IntKind.wrap .i64 (x43 - 16)) [] [] 1 isAgg29 q0 rfl rfl hv64) <| ov [5] (Aa q0) <| ov [501, 500] (Ak AY q0 q1) <| ov [4] (Aa q0) <| ov [500] (Ak CH q0 qi) <| ov [3, 500] (Aw underlying262 sizeOf29 q0 q1 hv65) <| ov [500, 10] (AX (i := IntKind.wrap .i64 (x43 - 7)) [] [] 1 isAgg29 q0 rfl rfl hv65) <| ov [504, 500] (Ak AY q0 q1) <| ov [6] (Aa q0) <| ov [501, 500] (Ak AY q0 q1) <| ov [3, 513] (Aw underlying262 sizeOf29 q0 q1 hv66) <| ou [500, 501] 10 (Eg (i := x43) [] [] sizeOf29 q0 q1 rfl hv66) .nil) fun _ a w h => ?_
      show Code.wp prog _ _ a w
      refine CY mixed hn hG h [0, 1, 2, 3, 500, 5, 6, 7, 8] (ov [4] (Aa q0) <| ov [500] (Ak AY q0 qi) <| od [500] 4 (Ad q0) .nil) fun _ a w h => ?_
      obtain rfl := Option.some.inj hF
      exact ⟨rfl, h.sub [0, 1, 2, 3, 4, 5, 6, 7, 8] (by rfl)⟩
     ·refine wp_exit ?_
      obtain rfl := Option.some.inj hF
      exact ⟨BQ _, rfl, h.sub [0, 1, 2, 3, 5, 6, 7, 8] (by rfl)⟩
    ·clear hl68
     intro e a w hq
     cases cr67 with
     | ret r69 =>
      obtain ⟨rfl, hq⟩ := hq
      obtain rfl := Option.some.inj hF
      exact ⟨.inl rfl, hq⟩
     | next s70 =>
      obtain ⟨y71, y72⟩ := s70
      obtain ⟨rfl, h⟩ := hq
      change Ar c [.slot 2 (Au (b1 0) 0), .slot 4 (Au (b1 1) 0), .slot 5 (Au (b5 1) 0), .slot 6 (Au (b6 0) 0), .res (lb (b1 0) 208 [AI .u32 8 a_0]), .res (lb (b1 1) 208 [AI .u32 8 (List.replicate 8 0)]), .res (lb (b5 1) 262 [AI .u32 64 r4]), .res (lb (b6 0) 262 [AI .u32 64 y72])] a w at h
      refine Be ?_
      show Code.wp prog _ _ a w
      refine Ao mixed hn hG h [0, 1, 2, 3, 507, 506, 505, 504, 503, 502, 501, 500, 4, 5, 6, 7] (ov [0] (Aw underlying208 sizeOf29 q0 qi (by decide)) <| ov [500, 4] (AX (i := 0) [] [] 1 isAgg29 q0 rfl rfl (by decide)) <| ov [0] (Aw underlying208 sizeOf29 q0 qi (by decide)) <| ov [500, 4] (AX (i := 1) [] [] 1 isAgg29 q0 rfl rfl (by decide)) <| ov [0] (Aw underlying208 sizeOf29 q0 qi (by decide)) <| ov [500, 4] (AX (i := 2) [] [] 1 isAgg29 q0 rfl rfl (by decide)) <| ov [0] (Aw underlying208 sizeOf29 q0 qi (by decide)) <| ov [500, 4] (AX (i := 3) [] [] 1 isAgg29 q0 rfl rfl (by decide)) <| ov [0] (Aw underlying208 sizeOf29 q0 qi (by decide)) <| ov [500, 4] (AX (i := 4) [] [] 1 isAgg29 q0 rfl rfl (by decide)) <| ov [0] (Aw underlying208 sizeOf29 q0 qi (by decide)) <| ov [500, 4] (AX (i := 5) [] [] 1 isAgg29 q0 rfl rfl (by decide)) <| ov [0] (Aw underlying208 sizeOf29 q0 qi (by decide)) <| ov [500, 4] (AX (i := 6) [] [] 1 isAgg29 q0 rfl rfl (by decide)) <| ov [0] (Aw underlying208 sizeOf29 q0 qi (by decide)) <| ov [500, 4] (AX (i := 7) [] [] 1 isAgg29 q0 rfl rfl (by decide)) <| ov [514] (Ad q0) <| ov [513] (Ad q0) <| ov [512] (Ad q0) <| ov [511] (Ad q0) <| ov [510] (Ad q0) <| ov [509] (Ad q0) <| ov [508] (Ad q0) <| ov [507] (Ad q0) .nil) fun _ a w h => ?_
      refine wp_seq ?_
      refine Ao mixed hn hG h [0, 1, 2, 3, 4, 5, 6, 7, 8, 9, 10, 11, 500, 12, 13, 14, 15] (ov [] (Ad qi) .nil) fun _ a w h => ?_
      refine wp_block ?_
      obtain ⟨cr114, hl115, hF⟩ := bind_some hF
      refine wp_mono (Bw (R := (List Int)) (S := Int × Int × Int × Int × Int × Int × Int × Int × Int) (fun s a w => Ar c [.slot 2 (Au (b1 0) 0), .slot 4 (Au (b1 1) 0), .slot 5 (Au (b5 1) 0), .slot 6 (Au (b6 0) 0), .slot 11 (Ab .u32 s.1), .slot 12 (Ab .u32 s.2.1), .slot 13 (Ab .u32 s.2.2.1), .slot 14 (Ab .u32 s.2.2.2.1), .slot 15 (Ab .u32 s.2.2.2.2.1), .slot 16 (Ab .u32 s.2.2.2.2.2.1), .slot 17 (Ab .u32 s.2.2.2.2.2.2.1), .slot 18 (Ab .u32 s.2.2.2.2.2.2.2.1), .slot 19 (Ab .i64 s.2.2.2.2.2.2.2.2), .res (lb (b1 0) 208 [AI .u32 8 a_0]), .res (lb (b1 1) 208 [AI .u32 8 (List.replicate 8 0)]), .res (lb (b5 1) 262 [AI .u32 64 r4]), .res (lb (b6 0) 262 [AI .u32 64 y72])] a w) (fun res e a w => match res with | .next s => e = .exit 4 ∧ Ar c [.slot 2 (Au (b1 0) 0), .slot 4 (Au (b1 1) 0), .slot 11 (Ab .u32 s.1), .slot 12 (Ab .u32 s.2.1), .slot 13 (Ab .u32 s.2.2.1), .slot 14 (Ab .u32 s.2.2.2.1), .slot 15 (Ab .u32 s.2.2.2.2.1), .slot 16 (Ab .u32 s.2.2.2.2.2.1), .slot 17 (Ab .u32 s.2.2.2.2.2.2.1), .slot 18 (Ab .u32 s.2.2.2.2.2.2.2.1), .res (lb (b1 0) 208 [AI .u32 8 a_0]), .res (lb (b1 1) 208 [AI .u32 8 (List.replicate 8 0)])] a w | .ret r => e = .ret ∧ CO prog f126 c (AG [AI .u32 8 r]) (fun _ => []) a w) ?_ _ (a_0.getD (0 : Int).toNat 0, a_0.getD (1 : Int).toNat 0, a_0.getD (2 : Int).toNat 0, a_0.getD (3 : Int).toNat 0, a_0.getD (4 : Int).toNat 0, a_0.getD (5 : Int).toNat 0, a_0.getD (6 : Int).toNat 0, a_0.getD (7 : Int).toNat 0, 0) _ _ _ (h.sub [0, 1, 2, 3, 4, 5, 6, 7, 8, 9, 10, 11, 12, 13, 14, 15, 16] (by rfl)) hl115) ?_
      ·clear hl115 hF h
       intro s a w o h hF
       obtain ⟨x80, x81, x82, x83, x84, x85, x86, x87, x88⟩ := s
       change A8.b3 r4 y72 x80 x81 x82 x83 x84 x85 x86 x87 x88 = some o at hF
       unfold A8.b3 at hF
       change Ar c [.slot 2 (Au (b1 0) 0), .slot 4 (Au (b1 1) 0), .slot 5 (Au (b5 1) 0), .slot 6 (Au (b6 0) 0), .slot 11 (Ab .u32 x80), .slot 12 (Ab .u32 x81), .slot 13 (Ab .u32 x82), .slot 14 (Ab .u32 x83), .slot 15 (Ab .u32 x84), .slot 16 (Ab .u32 x85), .slot 17 (Ab .u32 x86), .slot 18 (Ab .u32 x87), .slot 19 (Ab .i64 x88), .res (lb (b1 0) 208 [AI .u32 8 a_0]), .res (lb (b1 1) 208 [AI .u32 8 (List.replicate 8 0)]), .res (lb (b5 1) 262 [AI .u32 64 r4]), .res (lb (b6 0) 262 [AI .u32 64 y72])] a w at h
       refine wp_seq ?_
       refine Ao mixed hn hG h [0, 1, 2, 3, 4, 5, 6, 7, 8, 9, 10, 11, 12, 500, 13, 14, 15, 16] (ov [12] (Aa q0) <| ov [500] (Ak Bl q0 qi) .nil) fun _ a w h => ?_
       refine DL h hF 13 [0, 1, 2, 3, 4, 5, 6, 7, 8, 9, 10, 11, 12, 14, 15, 16, 17] [0, 1, 2, 3, 4, 5, 6, 7, 8, 9, 10, 11, 12, 14, 15, 16, 17] (fun hb106 hF h => ?_) (fun hb106 hF h => ?_)
       ·refine wp_skip ?_
        show Code.wp prog _ _ a w
        refine wp_seq ?_
        refine wp_block ?_
        obtain ⟨r107, hr107, hF⟩ := bind_some hF
        obtain ⟨r108, hr108, hF⟩ := bind_some hF
        obtain ⟨r109, hr109, hF⟩ := bind_some hF
        obtain ⟨hv110, hF⟩ := Ay hF
        refine Ao mixed hn hG h [0, 1, 2, 3, 4, 5, 6, 7, 8, 9, 10, 12, 500, 13, 14, 15, 16] (ov [11] (Aa q0) <| ov [8] (Aa q0) <| oc [500] [] call139 (CT hr107) ⟨q0, qi, trivial⟩ <| ov [8] (Aa q0) <| oc [500] [] call139 (CT hr108) ⟨q0, qi, trivial⟩ <| ov [502, 500] (Ak CQ q0 q1) <| ov [8] (Aa q0) <| oc [500] [] call139 (CT hr109) ⟨q0, qi, trivial⟩ <| ov [502, 500] (Ak CQ q0 q1) <| ov [508, 500] (Ak AY q0 q1) <| ov [8] (Aa q0) <| ov [9] (Aa q0) <| ov [501, 500] (Ak ER q0 q1) <| ov [8] (Aa q0) <| ov [500] (Ak CQ qi q0) <| ov [10] (Aa q0) <| ov [501, 500] (Ak ER q0 q1) <| ov [504, 500] (Ak CQ q0 q1) <| ov [508, 500] (Ak AY q0 q1) <| ov [12] (Aa q0) <| ov [2, 500] (Aw underlying262 sizeOf29 q0 q1 hv110) <| ov [500, 15] (AX (i := x88) [] [] 1 isAgg29 q0 rfl rfl hv110) <| ov [503, 500] (Ak AY q0 q1) <| ov [12] (Aa q0) <| ov [3, 500] (Aw underlying262 sizeOf29 q0 q1 hv110) <| ov [500, 16] (AX (i := x88) [] [] 1 isAgg29 q0 rfl rfl hv110) <| ov [503, 500] (Ak AY q0 q1) <| ov [500] (Ad q0) .nil) fun _ a w h => ?_
        obtain ⟨r111, hr111, hF⟩ := bind_some hF
        obtain ⟨r112, hr112, hF⟩ := bind_some hF
        obtain ⟨r113, hr113, hF⟩ := bind_some hF
        refine Ao mixed hn hG h [0, 1, 2, 3, 4, 5, 6, 7, 8, 9, 10, 11, 12, 500, 13, 14, 15, 16] (ov [4] (Aa q0) <| oc [500] [] call139 (CT hr111) ⟨q0, qi, trivial⟩ <| ov [4] (Aa q0) <| oc [500] [] call139 (CT hr112) ⟨q0, qi, trivial⟩ <| ov [502, 500] (Ak CQ q0 q1) <| ov [4] (Aa q0) <| oc [500] [] call139 (CT hr113) ⟨q0, qi, trivial⟩ <| ov [502, 500] (Ak CQ q0 q1) <| ov [4] (Aa q0) <| ov [5] (Aa q0) <| ov [501, 500] (Ak ER q0 q1) <| ov [4] (Aa q0) <| ov [6] (Aa q0) <| ov [501, 500] (Ak ER q0 q1) <| ov [503, 500] (Ak CQ q0 q1) <| ov [5] (Aa q0) <| ov [6] (Aa q0) <| ov [501, 500] (Ak ER q0 q1) <| ov [503, 500] (Ak CQ q0 q1) <| ov [511, 500] (Ak AY q0 q1) <| ov [500] (Ad q0) .nil) fun _ a w h => ?_
        refine Ao mixed hn hG h [0, 1, 2, 3, 4, 5, 6, 7, 8, 9, 500, 11, 12, 13, 14, 15, 16, 17] (ov [10] (Aa q0) <| ov [500] (Ad q0) .nil) fun _ a w h => ?_
        refine Ao mixed hn hG h [0, 1, 2, 3, 4, 5, 6, 7, 8, 500, 10, 11, 12, 13, 14, 15, 16, 17] (ov [9] (Aa q0) <| ov [500] (Ad q0) .nil) fun _ a w h => ?_
        refine Ao mixed hn hG h [0, 1, 2, 3, 4, 5, 6, 7, 500, 9, 10, 11, 12, 13, 14, 15, 16, 17] (ov [8] (Aa q0) <| ov [500] (Ad q0) .nil) fun _ a w h => ?_
        refine Ao mixed hn hG h [0, 1, 2, 3, 4, 5, 6, 500, 8, 9, 10, 11, 12, 13, 14, 15, 16, 17] (ov [7] (Aa q0) <| ov [12] (Aa q0) <| ov [501, 500] (Ak AY q0 q1) <| ov [500] (Ad q0) .nil) fun _ a w h => ?_
        refine Ao mixed hn hG h [0, 1, 2, 3, 4, 5, 500, 7, 8, 9, 10, 11, 12, 13, 14, 15, 16, 17] (ov [6] (Aa q0) <| ov [500] (Ad q0) .nil) fun _ a w h => ?_
        refine Ao mixed hn hG h [0, 1, 2, 3, 4, 500, 6, 7, 8, 9, 10, 11, 12, 13, 14, 15, 16, 17] (ov [5] (Aa q0) <| ov [500] (Ad q0) .nil) fun _ a w h => ?_
        refine Ao mixed hn hG h [0, 1, 2, 3, 500, 5, 6, 7, 8, 9, 10, 11, 12, 13, 14, 15, 16, 17] (ov [4] (Aa q0) <| ov [500] (Ad q0) .nil) fun _ a w h => ?_
        refine CY mixed hn hG h [0, 1, 2, 3, 500, 4, 5, 6, 7, 8, 9, 10, 11, 14, 15, 16, 17] (ov [12] (Aa q0) <| ov [13] (Aa q0) <| ov [501, 500] (Ak AY q0 q1) <| ov [500] (Ad q0) .nil) fun _ a w h => ?_
        show Code.wp prog _ _ a w
        refine CY mixed hn hG h [0, 1, 2, 3, 4, 5, 6, 7, 8, 9, 10, 11, 500, 13, 14, 15, 16] (ov [12] (Aa q0) <| ov [500] (Ak AY q0 qi) <| od [500] 12 (Ad q0) .nil) fun _ a w h => ?_
        obtain rfl := Option.some.inj hF
        exact ⟨rfl, h.sub [0, 1, 2, 3, 4, 5, 6, 7, 8, 9, 10, 11, 12, 13, 14, 15, 16] (by rfl)⟩
       ·refine wp_exit ?_
        obtain rfl := Option.some.inj hF
        exact ⟨BQ _, rfl, h.sub [0, 1, 4, 5, 6, 7, 8, 9, 10, 11, 13, 14] (by rfl)⟩
      ·clear hl115
       intro e a w hq
       cases cr114 with
       | ret r116 =>
        obtain ⟨rfl, hq⟩ := hq
        obtain rfl := Option.some.inj hF
        exact ⟨.inl rfl, hq⟩
       | next s117 =>
        obtain ⟨y118, y119, y120, y121, y122, y123, y124, y125, y126⟩ := s117
        obtain ⟨rfl, h⟩ := hq
        change Ar c [.slot 2 (Au (b1 0) 0), .slot 4 (Au (b1 1) 0), .slot 11 (Ab .u32 y118), .slot 12 (Ab .u32 y119), .slot 13 (Ab .u32 y120), .slot 14 (Ab .u32 y121), .slot 15 (Ab .u32 y122), .slot 16 (Ab .u32 y123), .slot 17 (Ab .u32 y124), .slot 18 (Ab .u32 y125), .res (lb (b1 0) 208 [AI .u32 8 a_0]), .res (lb (b1 1) 208 [AI .u32 8 (List.replicate 8 0)])] a w at h
        refine Be ?_
        show Code.wp prog _ _ a w
        refine Ao mixed hn hG h [1, 500] (ov [0] (Aw underlying208 sizeOf29 q0 qi (by decide)) <| ov [500, 10] (AX (i := 0) [] [] 1 isAgg29 q0 rfl rfl (by decide)) <| ov [2] (Aa q0) <| ov [501, 500] (Ak AY q0 q1) <| ov [0] (Aw underlying208 sizeOf29 q0 qi (by decide)) <| ov [500, 10] (AX (i := 1) [] [] 1 isAgg29 q0 rfl rfl (by decide)) <| ov [3] (Aa q0) <| ov [501, 500] (Ak AY q0 q1) <| ov [0] (Aw underlying208 sizeOf29 q0 qi (by decide)) <| ov [500, 10] (AX (i := 2) [] [] 1 isAgg29 q0 rfl rfl (by decide)) <| ov [4] (Aa q0) <| ov [501, 500] (Ak AY q0 q1) <| ov [0] (Aw underlying208 sizeOf29 q0 qi (by decide)) <| ov [500, 10] (AX (i := 3) [] [] 1 isAgg29 q0 rfl rfl (by decide)) <| ov [5] (Aa q0) <| ov [501, 500] (Ak AY q0 q1) <| ov [0] (Aw underlying208 sizeOf29 q0 qi (by decide)) <| ov [500, 10] (AX (i := 4) [] [] 1 isAgg29 q0 rfl rfl (by decide)) <| ov [6] (Aa q0) <| ov [501, 500] (Ak AY q0 q1) <| ov [0] (Aw underlying208 sizeOf29 q0 qi (by decide)) <| ov [500, 10] (AX (i := 5) [] [] 1 isAgg29 q0 rfl rfl (by decide)) <| ov [7] (Aa q0) <| ov [501, 500] (Ak AY q0 q1) <| ov [0] (Aw underlying208 sizeOf29 q0 qi (by decide)) <| ov [500, 10] (AX (i := 6) [] [] 1 isAgg29 q0 rfl rfl (by decide)) <| ov [8] (Aa q0) <| ov [501, 500] (Ak AY q0 q1) <| ov [0] (Aw underlying208 sizeOf29 q0 qi (by decide)) <| ov [500, 10] (AX (i := 7) [] [] 1 isAgg29 q0 rfl rfl (by decide)) <| ov [9] (Aa q0) <| ov [501, 500] (Ak AY q0 q1) <| ov [528, 524, 520, 516, 512, 508, 504, 500] (Ii (xs := [.tmp 201, .tmp 205, .tmp 209, .tmp 213, .tmp 217, .tmp 221, .tmp 225, .tmp 229]) (ys := [IntKind.wrap .u32 ((a_0.getD (0 : Int).toNat 0) + y118), IntKind.wrap .u32 ((a_0.getD (1 : Int).toNat 0) + y119), IntKind.wrap .u32 ((a_0.getD (2 : Int).toNat 0) + y120), IntKind.wrap .u32 ((a_0.getD (3 : Int).toNat 0) + y121), IntKind.wrap .u32 ((a_0.getD (4 : Int).toNat 0) + y122), IntKind.wrap .u32 ((a_0.getD (5 : Int).toNat 0) + y123), IntKind.wrap .u32 ((a_0.getD (6 : Int).toNat 0) + y124), IntKind.wrap .u32 ((a_0.getD (7 : Int).toNat 0) + y125)]) rfl Pr ⟨⟨_, q0, (Ap (AK _ _))⟩, ⟨_, q1, (Ap (AK _ _))⟩, ⟨_, q2, (Ap (AK _ _))⟩, ⟨_, q3, (Ap (AK _ _))⟩, ⟨_, (opt 4 rfl), (Ap (AK _ _))⟩, ⟨_, (opt 5 rfl), (Ap (AK _ _))⟩, ⟨_, (opt 6 rfl), (Ap (AK _ _))⟩, ⟨_, (opt 7 rfl), (Ap (AK _ _))⟩, trivial⟩ (by decide) rfl) <| ou [1, 500] 11 (Aq sizeOf208 q0 q1 (Al _)) .nil) fun _ a w h => ?_
        refine wp_ret ?_
        obtain rfl := Option.some.inj hF
        exact ⟨.inl rfl, BG h results126 (Bs 0 1 rfl rfl isAgg208 sizeOf208 rfl) [] [] rfl rfl rfl⟩

def Ci.b1 (x7 : List (UInt8)) (x8 : List Int) : Option (CR ((List Int) × (List (UInt8))) ((List (UInt8)) × (List Int))) := (if (decide ((64 : Int) ≤ (x7.length : Int))) = true then (if (0 : Int) ≤ 0 ∧ (0 : Int) ≤ 64 ∧ (64 : Int) ≤ x7.length then ((A8 x8 ((x7.take 64).drop (0 : Int).toNat)).bind fun r17 => (if (0 : Int) ≤ 64 ∧ (64 : Int) ≤ (x7.length : Int) ∧ (x7.length : Int) ≤ x7.length then some (.cont ((x7.take (x7.length : Int).toNat).drop 64, r17)) else none)) else none) else some (.brk (x7, x8)))
def Ci (a_0 : List Int) (a_1 : List (UInt8)) : Option ((List Int) × (List (UInt8))) := ((Bf (fun s : (List (UInt8)) × (List Int) => Ci.b1 s.1 s.2) (((a_1.length : Int) - 64 : Int).toNat + 2) (a_1, a_0)).bind fun cr => match cr with | .ret r => some r | .next (y23, y24) => some (y24, y23))
theorem GV {a_0 : List Int} {a_1 : List (UInt8)} {r : (List Int) × (List (UInt8))} (hF : Ci a_0 a_1 = some r) : Az prog KG 101 [(AG [AI .u32 8 a_0]), (An bC a_1)] [] (fun _ => []) (CV [(AG [AI .u32 8 r.1]), (An bC r.2)]) := by
 refine Az.intro 17 func101 rfl ntmps101 (Nat.le_of_ble_eq_true rfl) ?_
 intro c a w hG hn h
 unfold Ci at hF
 change Ar c [.slot 0 (AG [AI .u32 8 a_0]), .slot 1 (An bC a_1)] a w at h
 refine Ao mixed hn hG h [1, 504, 502, 503, 501] (ob [0] (BF q0 (Al _)) <| ob [] (AJ zeroValue208 z208) <| ov [] (Ad (DZ (ec _))) .nil) fun b1 a w h => ?_
 refine wp_seq ?_
 refine wp_block ?_
 obtain ⟨cr19, hl20, hF⟩ := bind_some hF
 refine wp_mono (Bw (R := (List Int) × (List (UInt8))) (S := (List (UInt8)) × (List Int)) (fun s a w => Ar c [.slot 1 (An bC s.1), .slot 2 (Au (b1 0) 0), .slot 4 (Au (b1 1) 0), .res (lb (b1 0) 208 [AI .u32 8 s.2]), .res (lb (b1 1) 208 [AI .u32 8 (List.replicate 8 0)])] a w) (fun res e a w => match res with | .next s => e = .exit 0 ∧ Ar c [.slot 1 (An bC s.1), .slot 2 (Au (b1 0) 0), .slot 4 (Au (b1 1) 0), .res (lb (b1 0) 208 [AI .u32 8 s.2]), .res (lb (b1 1) 208 [AI .u32 8 (List.replicate 8 0)])] a w | .ret r => e = .ret ∧ CO prog f101 c (CV [(AG [AI .u32 8 r.1]), (An bC r.2)]) (fun _ => []) a w) ?_ _ (a_1, a_0) _ _ _ (h.sub [0, 1, 2, 3, 4] (by rfl)) hl20) ?_
 ·clear hl20 hF h
  intro s a w o h hF
  obtain ⟨x7, x8⟩ := s
  change Ci.b1 x7 x8 = some o at hF
  unfold Ci.b1 at hF
  change Ar c [.slot 1 (An bC x7), .slot 2 (Au (b1 0) 0), .slot 4 (Au (b1 1) 0), .res (lb (b1 0) 208 [AI .u32 8 x8]), .res (lb (b1 1) 208 [AI .u32 8 (List.replicate 8 0)])] a w at h
  refine wp_seq ?_
  refine Ao mixed hn hG h [0, 1, 2, 500, 3, 4] (ov [0] (Aa q0) <| ov [500] (A4 underlying207 q0) <| ov [500] (Ak DJ q0 qi) .nil) fun _ a w h => ?_
  refine DL h hF 3 [0, 1, 2, 4, 5] [0, 1, 2, 4, 5] (fun hb15 hF h => ?_) (fun hb15 hF h => ?_)
  ·refine wp_skip ?_
   show Code.wp prog _ _ a w
   refine wp_block ?_
   obtain ⟨hv16, hF⟩ := Ay hF
   obtain ⟨r17, hr17, hF⟩ := bind_some hF
   refine Ao mixed hn hG h [0, 1, 2, 500, 4] (ov [1, 3] (AA 1 isAgg208 sizeOf208 q0) <| ov [0] (Aa q0) <| ov [500] (Ea (a := 0) (b := 64) underlying207 sizeOf5 DQ q0 rfl ⟨_, qi⟩ hv16) <| oc [502, 500] [] call126 (Jk hr17) ⟨q0, q1, trivial⟩ <| ou [1, 500] 3 (Aq sizeOf208 q0 q1 (Al _)) .nil) fun _ a w h => ?_
   obtain ⟨hv18, hF⟩ := Ay hF
   refine CY mixed hn hG h [500, 1, 2, 3, 4] (ov [0] (Aa q0) <| ov [500] (Ea (a := 64) (b := (x7.length : Int)) underlying207 sizeOf5 DQ q0 ⟨_, qi⟩ rfl hv18) <| od [500] 0 (Ad q0) .nil) fun _ a w h => ?_
   obtain rfl := Option.some.inj hF
   exact ⟨rfl, h.sub [0, 1, 2, 3, 4] (by rfl)⟩
  ·refine wp_exit ?_
   obtain rfl := Option.some.inj hF
   exact ⟨BQ _, rfl, h.sub [0, 1, 2, 3, 4] (by rfl)⟩
 ·clear hl20
  intro e a w hq
  cases cr19 with
  | ret r21 =>
   obtain ⟨rfl, hq⟩ := hq
   obtain rfl := Option.some.inj hF
   exact ⟨.inl rfl, hq⟩
  | next s22 =>
   obtain ⟨y23, y24⟩ := s22
   obtain ⟨rfl, h⟩ := hq
   change Ar c [.slot 1 (An bC y23), .slot 2 (Au (b1 0) 0), .slot 4 (Au (b1 1) 0), .res (lb (b1 0) 208 [AI .u32 8 y24]), .res (lb (b1 1) 208 [AI .u32 8 (List.replicate 8 0)])] a w at h
   refine Be ?_
   show Code.wp prog _ _ a w
   refine Ao mixed hn hG h [2, 500, 501] (ov [1, 3] (AA 1 isAgg208 sizeOf208 q0) <| ov [0] (Aa q0) <| ou [2, 501] 4 (Aq sizeOf208 q0 q1 (Al _)) <| ov [501] (Ad q0) .nil) fun _ a w h => ?_
   refine wp_ret ?_
   obtain rfl := Option.some.inj hF
   exact ⟨.inl rfl, Es h (rs := [.cell 4 208, .tmp 5]) (Vs := [(AG [AI .u32 8 y24]), (An bC y23)]) results101 (by decide) ⟨(Bs 0 2 rfl rfl isAgg208 sizeOf208 rfl), (Bc 1 rfl), trivial⟩ [] [] rfl rfl rfl⟩

def F9 : Option (List Int) := some ([1779033703, 3144134277, 1013904242, 2773480762, 1359893119, 2600822924, 528734635, 1541459225] ++ List.replicate (8 - 8) 0)
theorem Jj {r : (List Int)} (hF : F9 = some r) : Az prog KG 102 [] [] (fun _ => []) (AG [AI .u32 8 r]) := by
 refine Az.intro 2 func102 rfl ntmps102 (Nat.le_of_ble_eq_true rfl) ?_
 intro c a w hG hn h
 unfold F9 at hF
 change Ar c [] a w at h
 refine Ao mixed hn hG h [501, 500] (ob [] (AJ zeroValue208 z208) .nil) fun b1 a w h => ?_
 refine Ao mixed hn hG h [0, 500] (ov [] (Ii (xs := [.const (.int .u32 1779033703), .const (.int .u32 3144134277), .const (.int .u32 1013904242), .const (.int .u32 2773480762), .const (.int .u32 1359893119), .const (.int .u32 2600822924), .const (.int .u32 528734635), .const (.int .u32 1541459225)]) (ys := [1779033703, 3144134277, 1013904242, 2773480762, 1359893119, 2600822924, 528734635, 1541459225]) rfl Pr ⟨⟨_, qi, (Ap (AK _ _))⟩, ⟨_, qi, (Ap (AK _ _))⟩, ⟨_, qi, (Ap (AK _ _))⟩, ⟨_, qi, (Ap (AK _ _))⟩, ⟨_, qi, (Ap (AK _ _))⟩, ⟨_, qi, (Ap (AK _ _))⟩, ⟨_, qi, (Ap (AK _ _))⟩, ⟨_, qi, (Ap (AK _ _))⟩, trivial⟩ (by decide) rfl) <| ou [0, 500] 1 (Aq sizeOf208 q0 q1 (Al _)) .nil) fun _ a w h => ?_
 refine wp_ret ?_
 obtain rfl := Option.some.inj hF
 exact ⟨.inl rfl, BG h results102 (Bs 0 1 rfl rfl isAgg208 sizeOf208 rfl) [] [] rfl rfl rfl⟩

def Bt.b1 (x11 : List (UInt8)) : Option (CR (List UInt8) (List (UInt8))) := (if (!decide (((x11.length : Int).tmod 64) = (56 : Int))) = true then (if x11.length + [BA 0].length ≤ CG ∧ (x11.length + [BA 0].length) * 1 ≤ 140737488355328 then some (.cont (x11 ++ [BA 0])) else none) else some (.brk x11))
def Bt.b2 (a_2 : Int) (x29 : Int) (x30 : List (UInt8)) : Option (CR (List UInt8) (Int × (List (UInt8)))) := (if (decide (x29 < (8 : Int))) = true then (if x30.length + [BA (IntKind.wrap .u8 (shr .u64 (IntKind.wrap .u64 (8 * a_2)) (IntKind.wrap .u64 (IntKind.wrap .i64 (56 - (IntKind.wrap .i64 (8 * x29)))))))].length ≤ CG ∧ (x30.length + [BA (IntKind.wrap .u8 (shr .u64 (IntKind.wrap .u64 (8 * a_2)) (IntKind.wrap .u64 (IntKind.wrap .i64 (56 - (IntKind.wrap .i64 (8 * x29)))))))].length) * 1 ≤ 140737488355328 then some (.cont (IntKind.wrap .i64 (x29 + 1), x30 ++ [BA (IntKind.wrap .u8 (shr .u64 (IntKind.wrap .u64 (8 * a_2)) (IntKind.wrap .u64 (IntKind.wrap .i64 (56 - (IntKind.wrap .i64 (8 * x29)))))))])) else none) else some (.brk (x29, x30)))
def Bt.b3 (r47 : (List Int) × (List (UInt8))) (x51 : Int) (x52 : List UInt8) : Option (CR (List UInt8) (Int × (List UInt8))) := (if (decide (x51 < (32 : Int))) = true then (if (0 : Int) ≤ IntKind.wrap .i64 (x51.tdiv 4) ∧ IntKind.wrap .i64 (x51.tdiv 4) < 8 then (if (0 : Int) ≤ x51 ∧ x51 < 32 then some (.cont (IntKind.wrap .i64 (x51 + 1), x52.set x51.toNat (BA (IntKind.wrap .u8 (shr .u32 (r47.1.getD (IntKind.wrap .i64 (x51.tdiv 4)).toNat 0) (IntKind.wrap .u64 (IntKind.wrap .i64 (24 - (IntKind.wrap .i64 (8 * (x51.tmod 4))))))))))) else none) else none) else some (.brk (x51, x52)))
def Bt (a_0 : List Int) (a_1 : List (UInt8)) (a_2 : Int) : Option (List UInt8) := (if ([] : List UInt8).length + a_1.length ≤ CG ∧ (([] : List UInt8).length + a_1.length) * 1 ≤ 140737488355328 then (if (([] : List UInt8) ++ a_1).length + [BA 128].length ≤ CG ∧ ((([] : List UInt8) ++ a_1).length + [BA 128].length) * 1 ≤ 140737488355328 then ((Bf (fun s : (List (UInt8)) => Bt.b1 s) 100000 ((([] : List UInt8) ++ a_1) ++ [BA 128])).bind fun cr => match cr with | .ret r => some r | .next y25 => ((Bf (fun s : Int × (List (UInt8)) => Bt.b2 a_2 s.1 s.2) ((8 - 0 : Int).toNat + 2) (0, y25)).bind fun cr => match cr with | .ret r => some r | .next (y45, y46) => ((Ci a_0 y46).bind fun r47 => ((Bf (fun s : Int × (List UInt8) => Bt.b3 r47 s.1 s.2) ((32 - 0 : Int).toNat + 2) (0, (List.replicate 32 0))).bind fun cr => match cr with | .ret r => some r | .next (y65, y66) => some y66)))) else none) else none)
theorem Kp {a_0 : List Int} {a_1 : List (UInt8)} {a_2 : Int} {r : (List UInt8)} (hF : Bt a_0 a_1 a_2 = some r) : Az prog KG 103 [(AG [AI .u32 8 a_0]), (An bC a_1), (Ab .u64 a_2)] [] (fun _ => []) (AG [Af 32 r]) := by
 refine Az.intro 65 func103 rfl ntmps103 (Nat.le_of_ble_eq_true rfl) ?_
 intro c a w hG hn h
 unfold Bt at hF
 change Ar c [.slot 0 (AG [AI .u32 8 a_0]), .slot 1 (An bC a_1), .slot 2 (Ab .u64 a_2)] a w at h
 refine Ao mixed hn hG h [1, 2, 503, 501, 502, 500] (ob [0] (BF q0 (Al _)) <| ob [] (AJ zeroValue33 GN) .nil) fun b1 a w h => ?_
 refine Ao mixed hn hG h [0, 1, 2, 3, 500, 4, 5] (ov [] (Ad (DZ (ec _))) .nil) fun _ a w h => ?_
 obtain ⟨q3, h⟩ : ∃ q3 : Value, Ar c [.slot 1 (An bC a_1), .slot 2 (Ab .u64 a_2), .slot 3 (Au (b1 0) 0), .slot 6 (Au (b1 1) 0), .slot 7 (Am q3), .res (lb (b1 0) 208 [AI .u32 8 a_0]), .res (lb (b1 1) 33 [Af 32 (List.replicate 32 0)]), .res (acc q3 5 1 bC ([] : List UInt8))] a w := ⟨.slice none 0 0, (h.Ij 5 1 bC).sub [0, 1, 2, 3, 4, 5, 6, 7] (by rfl)⟩
 obtain ⟨hv4, hF⟩ := Ay hF
 refine Ao mixed hn hG h [1, 2, 3, 500, 5, 6, 501] (ov [4] (Aa q0) <| ov [0] (Aa q0) <| og [501, 500] [7] [.slot 14 2 100000 (fun v1_ _ => (Am v1_)), .res 2 100000 (fun v1_ _ => (acc (v1_) 5 1 bC (([] : List UInt8) ++ a_1)))] (AV.plain (DO (i := t5) underlying207 type5 rfl DQ (by decide) rfl q0 q1 hv4) rfl) <| og [501] [4] [.slot 7 2 100000 (fun v1_ _ => (Am v1_))] (fun {β} => (AV.drop _ (AV.plain (Ad (V := (Am (β 2))) q0) rfl))) .nil) fun b5 a w h => ?_
 obtain ⟨hv6, hF⟩ := Ay hF
 refine Ao mixed hn hG h [0, 1, 2, 500, 4, 5, 501] (ov [3] (Aa q0) <| ov [] (Dn (xs := [.const (.int .u8 128)]) (ys := [BA 128]) _ rfl underlying207 sizeOf5 zeroValue5 rfl rfl (by decide) (by decide) ⟨⟨_, qi, (G5 _)⟩, trivial⟩ DQ) <| og [501, 500] [6] [.slot 17 2 100000 (fun v1_ _ => (Am v1_)), .res 2 100000 (fun v1_ _ => (acc (v1_) 5 1 bC ((([] : List UInt8) ++ a_1) ++ [BA 128])))] (AV.plain (DO (i := t5) underlying207 type5 rfl DQ (by decide) rfl q0 q1 hv6) rfl) <| og [501] [3] [.slot 7 2 100000 (fun v1_ _ => (Am v1_))] (fun {β} => (AV.drop _ (AV.plain (Ad (V := (Am (β 2))) q0) rfl))) .nil) fun b7 a w h => ?_
 refine wp_seq ?_
 refine wp_block ?_
 obtain ⟨cr21, hl22, hF⟩ := bind_some hF
 refine wp_mono (Bw (R := (List UInt8)) (S := (List (UInt8))) (fun s a w => ∃ q12 : Value, Ar c [.slot 2 (Ab .u64 a_2), .slot 3 (Au (b1 0) 0), .slot 6 (Au (b1 1) 0), .slot 7 (Am q12), .res (lb (b1 0) 208 [AI .u32 8 a_0]), .res (lb (b1 1) 33 [Af 32 (List.replicate 32 0)]), .res (acc q12 5 1 bC s)] a w) (fun res e a w => match res with | .next s => e = .exit 0 ∧ ∃ q12 : Value, Ar c [.slot 2 (Ab .u64 a_2), .slot 3 (Au (b1 0) 0), .slot 6 (Au (b1 1) 0), .slot 7 (Am q12), .res (lb (b1 0) 208 [AI .u32 8 a_0]), .res (lb (b1 1) 33 [Af 32 (List.replicate 32 0)]), .res (acc q12 5 1 bC s)] a w | .ret r => e = .ret ∧ CO prog f103 c (AG [Af 32 r]) (fun _ => []) a w) ?_ _ ((([] : List UInt8) ++ a_1) ++ [BA 128]) _ _ _ ⟨(b7 2), (h.sub [0, 1, 2, 3, 4, 5, 6] (by rfl))⟩ hl22) ?_
 ·clear hl22 hF h
  intro x11 a w o h hF
  obtain ⟨q12, h⟩ := h
  change Bt.b1 x11 = some o at hF
  unfold Bt.b1 at hF
  change Ar c [.slot 2 (Ab .u64 a_2), .slot 3 (Au (b1 0) 0), .slot 6 (Au (b1 1) 0), .slot 7 (Am q12), .res (lb (b1 0) 208 [AI .u32 8 a_0]), .res (lb (b1 1) 33 [Af 32 (List.replicate 32 0)]), .res (acc q12 5 1 bC x11)] a w at h
  refine wp_seq ?_
  refine Ao mixed hn hG h [0, 1, 2, 3, 500, 4, 5, 6] (ov [3] (Aa q0) <| ov [500, 6] (A4 underlying207 (NO 0 1 rfl rfl)) <| ov [500] (Ak (GG (by decide)) q0 qi) <| ov [500] (Ak C2 q0 qi) .nil) fun _ a w h => ?_
  refine DL h hF 4 [0, 1, 2, 3, 5, 6, 7] [0, 1, 2, 3, 5, 6, 7] (fun hb18 hF h => ?_) (fun hb18 hF h => ?_)
  ·refine wp_skip ?_
   show Code.wp prog _ _ a w
   refine wp_block ?_
   obtain ⟨hv19, hF⟩ := Ay hF
   refine CY mixed hn hG h [0, 1, 2, 500, 4, 5, 501] (ov [3] (Aa q0) <| ov [] (Dn (xs := [.const (.int .u8 0)]) (ys := [BA 0]) _ rfl underlying207 sizeOf5 zeroValue5 rfl rfl (by decide) (by decide) ⟨⟨_, qi, (G5 _)⟩, trivial⟩ DQ) <| og [501, 500] [6] [.slot 24 2 100000 (fun v1_ _ => (Am v1_)), .res 2 100000 (fun v1_ _ => (acc (v1_) 5 1 bC (x11 ++ [BA 0])))] (AV.plain (DO (i := t5) underlying207 type5 rfl DQ (by decide) rfl q0 q1 hv19) rfl) <| og [501] [3] [.slot 7 2 100000 (fun v1_ _ => (Am v1_))] (fun {β} => (AV.drop _ (AV.plain (Ad (V := (Am (β 2))) q0) rfl))) .nil) fun b20 a w h => ?_
   obtain rfl := Option.some.inj hF
   exact ⟨rfl, (b20 2), h.sub [0, 1, 2, 3, 4, 5, 6] (by rfl)⟩
  ·refine wp_exit ?_
   obtain rfl := Option.some.inj hF
   exact ⟨BQ _, rfl, q12, h.sub [0, 1, 2, 3, 4, 5, 6] (by rfl)⟩
 ·clear hl22
  intro e a w hq
  cases cr21 with
  | ret r23 =>
   obtain ⟨rfl, hq⟩ := hq
   obtain rfl := Option.some.inj hF
   exact ⟨.inl rfl, hq⟩
  | next y25 =>
   obtain ⟨rfl, q12, h⟩ := hq
   change Ar c [.slot 2 (Ab .u64 a_2), .slot 3 (Au (b1 0) 0), .slot 6 (Au (b1 1) 0), .slot 7 (Am q12), .res (lb (b1 0) 208 [AI .u32 8 a_0]), .res (lb (b1 1) 33 [Af 32 (List.replicate 32 0)]), .res (acc q12 5 1 bC y25)] a w at h
   refine Be ?_
   show Code.wp prog _ _ a w
   refine Ao mixed hn hG h [1, 2, 3, 500, 4, 5, 6] (ov [0] (Aa q0) <| ov [500] (Ak Db qi q0) <| ov [500] (Ad q0) .nil) fun _ a w h => ?_
   refine wp_seq ?_
   refine Ao mixed hn hG h [0, 1, 2, 3, 500, 4, 5, 6] (ov [] (Ad qi) .nil) fun _ a w h => ?_
   refine wp_block ?_
   obtain ⟨cr41, hl42, hF⟩ := bind_some hF
   refine wp_mono (Bw (R := (List UInt8)) (S := Int × (List (UInt8))) (fun s a w => ∃ q31 : Value, Ar c [.slot 3 (Au (b1 0) 0), .slot 6 (Au (b1 1) 0), .slot 7 (Am q31), .slot 8 (Ab .u64 (IntKind.wrap .u64 (8 * a_2))), .slot 9 (Ab .i64 s.1), .res (lb (b1 0) 208 [AI .u32 8 a_0]), .res (lb (b1 1) 33 [Af 32 (List.replicate 32 0)]), .res (acc q31 5 1 bC s.2)] a w) (fun res e a w => match res with | .next s => e = .exit 2 ∧ ∃ q31 : Value, Ar c [.slot 3 (Au (b1 0) 0), .slot 6 (Au (b1 1) 0), .slot 7 (Am q31), .res (lb (b1 0) 208 [AI .u32 8 a_0]), .res (lb (b1 1) 33 [Af 32 (List.replicate 32 0)]), .res (acc q31 5 1 bC s.2)] a w | .ret r => e = .ret ∧ CO prog f103 c (AG [Af 32 r]) (fun _ => []) a w) ?_ _ (0, y25) _ _ _ ⟨q12, (h.sub [0, 1, 2, 3, 4, 5, 6, 7] (by rfl))⟩ hl42) ?_
   ·clear hl42 hF h
    intro s a w o h hF
    obtain ⟨x29, x30⟩ := s
    obtain ⟨q31, h⟩ := h
    change Bt.b2 a_2 x29 x30 = some o at hF
    unfold Bt.b2 at hF
    change Ar c [.slot 3 (Au (b1 0) 0), .slot 6 (Au (b1 1) 0), .slot 7 (Am q31), .slot 8 (Ab .u64 (IntKind.wrap .u64 (8 * a_2))), .slot 9 (Ab .i64 x29), .res (lb (b1 0) 208 [AI .u32 8 a_0]), .res (lb (b1 1) 33 [Af 32 (List.replicate 32 0)]), .res (acc q31 5 1 bC x30)] a w at h
    refine wp_seq ?_
    refine Ao mixed hn hG h [0, 1, 2, 3, 4, 500, 5, 6, 7] (ov [4] (Aa q0) <| ov [500] (Ak Bl q0 qi) .nil) fun _ a w h => ?_
    refine DL h hF 5 [0, 1, 2, 3, 4, 6, 7, 8] [0, 1, 2, 3, 4, 6, 7, 8] (fun hb38 hF h => ?_) (fun hb38 hF h => ?_)
    ·refine wp_skip ?_
     show Code.wp prog _ _ a w
     refine wp_seq ?_
     refine wp_block ?_
     obtain ⟨hv39, hF⟩ := Ay hF
     refine CY mixed hn hG h [0, 1, 500, 3, 4, 5, 6, 501] (ov [2] (Aa q0) <| ov [3] (Aa q0) <| ov [4] (Aa q0) <| ov [500] (Ak Db qi q0) <| ov [500] (Ak CH qi q0) <| ov [500] (AW underlying3 underlying67 q0) <| ov [504, 500] (Ak (Fz rfl) q0 q1) <| ov [500] (AW underlying24 underlying5 q0) <| ov [500] (Dn (xs := [.tmp 38]) (ys := [BA (IntKind.wrap .u8 (shr .u64 (IntKind.wrap .u64 (8 * a_2)) (IntKind.wrap .u64 (IntKind.wrap .i64 (56 - (IntKind.wrap .i64 (8 * x29)))))))]) _ rfl underlying207 sizeOf5 zeroValue5 rfl rfl (by decide) (by decide) ⟨⟨_, q0, (G5 _)⟩, trivial⟩ DQ) <| og [508, 500] [7] [.slot 40 9 100000 (fun v1_ _ => (Am v1_)), .res 9 100000 (fun v1_ _ => (acc (v1_) 5 1 bC (x30 ++ [BA (IntKind.wrap .u8 (shr .u64 (IntKind.wrap .u64 (8 * a_2)) (IntKind.wrap .u64 (IntKind.wrap .i64 (56 - (IntKind.wrap .i64 (8 * x29)))))))])))] (AV.plain (DO (i := t5) underlying207 type5 rfl DQ (by decide) rfl q0 q1 hv39) rfl) <| og [501] [2] [.slot 7 9 100000 (fun v1_ _ => (Am v1_))] (fun {β} => (AV.drop _ (AV.plain (Ad (V := (Am (β 9))) q0) rfl))) .nil) fun b40 a w h => ?_
     show Code.wp prog _ _ a w
     refine CY mixed hn hG h [0, 1, 2, 3, 500, 5, 6, 7] (ov [4] (Aa q0) <| ov [500] (Ak AY q0 qi) <| od [500] 4 (Ad q0) .nil) fun _ a w h => ?_
     obtain rfl := Option.some.inj hF
     exact ⟨rfl, (b40 9), h.sub [0, 1, 2, 3, 4, 5, 6, 7] (by rfl)⟩
    ·refine wp_exit ?_
     obtain rfl := Option.some.inj hF
     exact ⟨BQ _, rfl, q31, h.sub [0, 1, 2, 5, 6, 7] (by rfl)⟩
   ·clear hl42
    intro e a w hq
    cases cr41 with
    | ret r43 =>
     obtain ⟨rfl, hq⟩ := hq
     obtain rfl := Option.some.inj hF
     exact ⟨.inl rfl, hq⟩
    | next s44 =>
     obtain ⟨y45, y46⟩ := s44
     obtain ⟨rfl, q31, h⟩ := hq
     change Ar c [.slot 3 (Au (b1 0) 0), .slot 6 (Au (b1 1) 0), .slot 7 (Am q31), .res (lb (b1 0) 208 [AI .u32 8 a_0]), .res (lb (b1 1) 33 [Af 32 (List.replicate 32 0)]), .res (acc q31 5 1 bC y46)] a w at h
     refine Be ?_
     show Code.wp prog _ _ a w
     obtain ⟨r47, hr47, hF⟩ := bind_some hF
     refine Ao mixed hn hG h [0, 1, 500, 4] (ov [0, 3] (AA 1 isAgg208 sizeOf208 q0) <| ov [2] (Aa q0) <| oc [501, 500, 5] [] call101 (GV hr47) ⟨q0, (NO 1 2 rfl rfl), trivial⟩ <| ov [500] (Aa q0) <| ov [500] (AQ q0 rfl) <| ov [501] (AQ q0 rfl) <| ou [0, 501] 3 (Aq sizeOf208 q0 q1 (Al _)) .nil) fun _ a w h => ?_
     refine Ao mixed hn hG h [0, 1, 501, 2, 3, 500] (ob [] (AJ zeroValue33 GN) .nil) fun b48 a w h => ?_
     refine wp_seq ?_
     refine Ao mixed hn hG h [0, 1, 2, 500, 3, 4, 5] (ov [] (Ad qi) .nil) fun _ a w h => ?_
     refine wp_block ?_
     obtain ⟨cr61, hl62, hF⟩ := bind_some hF
     refine wp_mono (Bw (R := (List UInt8)) (S := Int × (List UInt8)) (fun s a w => Ar c [.slot 3 (Au (b1 0) 0), .slot 6 (Au (b1 1) 0), .slot 10 (Au (b48 0) 0), .slot 11 (Ab .i64 s.1), .res (lb (b1 0) 208 [AI .u32 8 r47.1]), .res (lb (b1 1) 33 [Af 32 (List.replicate 32 0)]), .res (lb (b48 0) 33 [Af 32 s.2])] a w) (fun res e a w => match res with | .next s => e = .exit 4 ∧ Ar c [.slot 6 (Au (b1 1) 0), .slot 10 (Au (b48 0) 0), .res (lb (b1 1) 33 [Af 32 (List.replicate 32 0)]), .res (lb (b48 0) 33 [Af 32 s.2])] a w | .ret r => e = .ret ∧ CO prog f103 c (AG [Af 32 r]) (fun _ => []) a w) ?_ _ (0, (List.replicate 32 0)) _ _ _ (h.sub [0, 1, 2, 3, 4, 5, 6] (by rfl)) hl62) ?_
     ·clear hl62 hF h
      intro s a w o h hF
      obtain ⟨x51, x52⟩ := s
      change Bt.b3 r47 x51 x52 = some o at hF
      unfold Bt.b3 at hF
      change Ar c [.slot 3 (Au (b1 0) 0), .slot 6 (Au (b1 1) 0), .slot 10 (Au (b48 0) 0), .slot 11 (Ab .i64 x51), .res (lb (b1 0) 208 [AI .u32 8 r47.1]), .res (lb (b1 1) 33 [Af 32 (List.replicate 32 0)]), .res (lb (b48 0) 33 [Af 32 x52])] a w at h
      refine wp_seq ?_
      refine Ao mixed hn hG h [0, 1, 2, 3, 500, 4, 5, 6] (ov [3] (Aa q0) <| ov [500] (Ak Bl q0 qi) .nil) fun _ a w h => ?_
      refine DL h hF 4 [0, 1, 2, 3, 5, 6, 7] [0, 1, 2, 3, 5, 6, 7] (fun hb58 hF h => ?_) (fun hb58 hF h => ?_)
      ·refine wp_skip ?_
       show Code.wp prog _ _ a w
       refine wp_seq ?_
       refine wp_block ?_
       obtain ⟨hv59, hF⟩ := Ay hF
       obtain ⟨hv60, hF⟩ := Ay hF
       refine CY mixed hn hG h [0, 1, 2, 3, 4, 5, 500] (ov [3] (Aa q0) <| ov [3] (Aa q0) <| ov [500] (Ak (KQ (by decide)) q0 qi) <| ov [0, 500] (Aw underlying208 sizeOf29 q0 q1 hv59) <| ov [500, 4] (AX (i := IntKind.wrap .i64 (x51.tdiv 4)) [] [] 1 isAgg29 q0 rfl rfl hv59) <| ov [3] (Aa q0) <| ov [500] (Ak (GG (by decide)) q0 qi) <| ov [500] (Ak Db qi q0) <| ov [500] (Ak CH qi q0) <| ov [500] (AW underlying3 underlying67 q0) <| ov [505, 500] (Ak (Fz rfl) q0 q1) <| ov [500] (AW underlying29 underlying5 q0) <| ov [2, 511] (Aw underlying33 sizeOf5 q0 q1 hv60) <| ou [500, 501] 6 (E4 (i := x51) [] [] sizeOf5 q0 q1 rfl hv60) .nil) fun _ a w h => ?_
       show Code.wp prog _ _ a w
       refine CY mixed hn hG h [0, 1, 2, 500, 4, 5, 6] (ov [3] (Aa q0) <| ov [500] (Ak AY q0 qi) <| od [500] 3 (Ad q0) .nil) fun _ a w h => ?_
       obtain rfl := Option.some.inj hF
       exact ⟨rfl, h.sub [0, 1, 2, 3, 4, 5, 6] (by rfl)⟩
      ·refine wp_exit ?_
       obtain rfl := Option.some.inj hF
       exact ⟨BQ _, rfl, h.sub [1, 2, 5, 6] (by rfl)⟩
     ·clear hl62
      intro e a w hq
      cases cr61 with
      | ret r63 =>
       obtain ⟨rfl, hq⟩ := hq
       obtain rfl := Option.some.inj hF
       exact ⟨.inl rfl, hq⟩
      | next s64 =>
       obtain ⟨y65, y66⟩ := s64
       obtain ⟨rfl, h⟩ := hq
       change Ar c [.slot 6 (Au (b1 1) 0), .slot 10 (Au (b48 0) 0), .res (lb (b1 1) 33 [Af 32 (List.replicate 32 0)]), .res (lb (b48 0) 33 [Af 32 y66])] a w at h
       refine Be ?_
       show Code.wp prog _ _ a w
       refine Ao mixed hn hG h [0, 500] (ov [1, 3] (AA 1 isAgg33 sizeOf33 q0) <| ou [0, 500] 2 (Aq sizeOf33 q0 q1 (Al _)) .nil) fun _ a w h => ?_
       refine wp_ret ?_
       obtain rfl := Option.some.inj hF
       exact ⟨.inl rfl, BG h results103 (Bs 0 1 rfl rfl isAgg33 sizeOf33 rfl) [] [] rfl rfl rfl⟩

def FL (a_0 : List UInt8) : Option (List UInt8) := ((F9).bind fun r2 => ((Ci r2 a_0).bind fun r3 => ((Bt r3.1 r3.2 (IntKind.wrap .u64 (a_0.length : Int))).bind fun r5 => some r5)))
theorem Ko {a_0 : List UInt8} {r : (List UInt8)} (hF : FL a_0 = some r) : Az prog KG 71 [(As a_0)] [] (fun _ => []) (AG [Af 32 r]) := by
 refine Az.intro 18 func71 rfl ntmps71 (Nat.le_of_ble_eq_true rfl) ?_
 intro c a w hG hn h
 unfold FL at hF
 change Ar c [.slot 0 (As a_0)] a w at h
 refine Ao mixed hn hG h [0, 501, 500] (ob [] (AJ zeroValue33 GN) .nil) fun b1 a w h => ?_
 obtain ⟨r2, hr2, hF⟩ := bind_some hF
 obtain ⟨r3, hr3, hF⟩ := bind_some hF
 refine Ao mixed hn hG h [0, 1, 503, 500, 2, 501] (oc [] [] call102 (Jj hr2) trivial <| ov [0] (Aa q0) <| ov [500] (GY underlying9 underlying207 underlying5 q0) <| oc [502, 500] [] call101 (GV hr3) ⟨q0, q1, trivial⟩ <| ov [500] (Aa q0) <| ov [500] (AQ q0 rfl) <| ov [501] (AQ q0 rfl) <| ob [] (AJ zeroValue208 z208) <| og [501, 503] [500] [.res 7 100000 (fun v1_ _ => (lb (v1_) 208 [AI .u32 8 r3.1]))] (AV.plain (Aq sizeOf208 q0 q1 (Al _)) rfl) <| ov [503] (Ad q0) .nil) fun b4 a w h => ?_
 obtain ⟨r5, hr5, hF⟩ := bind_some hF
 refine Ao mixed hn hG h [1, 500] (ov [2, 5] (AA 1 isAgg208 sizeOf208 q0) <| ov [3] (Aa q0) <| ov [0] (Aa q0) <| ov [500] (DU underlying9 q0) <| ov [500] (AW underlying3 underlying24 q0) <| oc [504, 503, 500] [] call103 (Kp hr5) ⟨q0, q1, q2, trivial⟩ <| ou [1, 500] 4 (Aq sizeOf33 q0 q1 (Al _)) .nil) fun _ a w h => ?_
 refine wp_ret ?_
 obtain rfl := Option.some.inj hF
 exact ⟨.inl rfl, BG h results71 (Bs 0 1 rfl rfl isAgg33 sizeOf33 rfl) [] [] rfl rfl rfl⟩

def BL.n (a_1 : List UInt8) (a_2 : List UInt8) : Option (Option Bn) := some none
def BL.b1 (s_0 : Bn) (a_1 : List UInt8) (a_2 : List UInt8) (x8 : Int) : Option (CR (Option Bn) Int) := (if (decide (x8 < (((GM a_1 s_0.Bm).getD []).length : Int))) = true then (if (0 : Int) ≤ x8 ∧ x8 < ((GM a_1 s_0.Bm).getD []).length then (if (decide ((((GM a_1 s_0.Bm).getD []).getD x8.toNat default) = a_2)) = true then some (.ret (some s_0)) else some (.cont (IntKind.wrap .i64 (x8 + 1)))) else none) else some (.brk x8))
def BL.s (s_0 : Bn) (a_1 : List UInt8) (a_2 : List UInt8) : Option (Option Bn) := ((Bf (fun s : Int => BL.b1 s_0 a_1 a_2 s) (((((GM a_1 s_0.Bm).getD []).length : Int) - 0 : Int).toNat + 2) 0).bind fun cr => match cr with | .ret r => some r | .next y20 => (if ((GM a_1 s_0.Bm).getD ([] : List (List UInt8))).length + [a_2].length ≤ CG ∧ (((GM a_1 s_0.Bm).getD ([] : List (List UInt8))).length + [a_2].length) * 16 ≤ 140737488355328 then (if s_0.Dr.length + [a_2].length ≤ CG ∧ (s_0.Dr.length + [a_2].length) * 16 ≤ 140737488355328 then some (some ⟨s_0.Dr ++ [a_2], Gw a_1 (((GM a_1 s_0.Bm).getD ([] : List (List UInt8))) ++ [a_2]) (Mt a_1 ([] : List (List UInt8)) s_0.Bm)⟩) else none) else none))
def BL (L_0 : Option Bn) (a_1 : List UInt8) (a_2 : List UInt8) : Option (Option Bn) := match L_0 with | none => BL.n a_1 a_2 | some s_0 => BL.s s_0 a_1 a_2
theorem HL {p_0 : Value} {L_0 : Option Bn} {a_1 : List UInt8} {a_2 : List UInt8} {r : (Option Bn)} (hF : BL L_0 a_1 a_2 = some r) : Az prog KG 72 [(Am p_0), (AG [Af 32 a_1]), (As a_2)] [(A5 p_0 L_0)] (fun _ => [A5 p_0 r]) (CV []) := by
 refine Az.intro 46 func72 rfl ntmps72 (Nat.le_of_ble_eq_true rfl) ?_
 intro c a w hG hn h
 unfold BL at hF
 change Ar c [.slot 0 (Am p_0), .slot 1 (AG [Af 32 a_1]), .slot 2 (As a_2), .res (A5 p_0 L_0)] a w at h
 obtain ⟨h_0_0, h⟩ := h.ex 3 rfl
 obtain ⟨h_0_1, h⟩ := h.ex 3 rfl
 change Ar c [.slot 0 (Am p_0), .slot 1 (AG [Af 32 a_1]), .slot 2 (As a_2), .res (KU p_0 h_0_0 h_0_1 L_0)] a w at h
 cases L_0 with
 | none =>
  change BL.n a_1 a_2 = some r at hF
  unfold BL.n at hF
  obtain rfl := h.Hi 3 rfl (fun _ _ _ q => q.2)
  replace h := h.B6 0 rfl (V' := J0 (.pointer none) false) (fun _ _ h => ⟨h, rfl⟩)
  change Ar c [.slot 0 (J0 (.pointer none) false), .slot 1 (AG [Af 32 a_1]), .slot 2 (As a_2), .res (KU (.pointer none) h_0_0 h_0_1 none)] a w at h
  refine Ao mixed hn hG h [0, 2, 501, 3, 500] (ob [1] (BF q0 (Al _)) .nil) fun b1 a w h => ?_
  refine wp_seq ?_
  refine Ao mixed hn hG h [0, 1, 2, 500, 3, 4] (ov [0] (Aa q0) <| ov [500] (Ak (Gt underlying95) q0 (DZ (ec _))) .nil) fun _ a w h => ?_
  refine D6 h 3 rfl (fun hb2 => ?_) (fun hb2 => ?_)
  ·skip
   replace h := h.LO [4]
   refine wp_ret ?_
   replace h := h.conv 0 rfl HC
   change Ar c [.res (A5 (.pointer none) none)] a w at h
   obtain rfl := Option.some.inj hF
   exact ⟨.inl rfl, Es h (rs := []) (Vs := []) results72 (by decide) trivial [0] [(A5 (.pointer none) none)] rfl rfl rfl⟩
  ·cases hb2
 | some s_0 =>
  change BL.s s_0 a_1 a_2 = some r at hF
  unfold BL.s at hF
  have hp := h.Hi 3 rfl (fun Φ f w q => Pa Φ f w q)
  replace h := h.B6 0 rfl (V' := Au p_0 0) (fun _ _ h => DG h hp)
  replace h := h.sep (R := lb p_0 215 [one (Am h_0_0), one (Am h_0_1)]) (S := (RP.sep (acc h_0_0 9 1 C9 s_0.Dr) (Et h_0_1 Ex (fun l => l.length = 32) (fun u y => acc u 9 1 C9 y) s_0.Bm))) 3 rfl
  replace h := h.sep (R := acc h_0_0 9 1 C9 s_0.Dr) (S := (Et h_0_1 Ex (fun l => l.length = 32) (fun u y => acc u 9 1 C9 y) s_0.Bm)) 4 rfl
  replace h := h.sub [0, 1, 2, 3, 4, 5] (by rfl)
  change Ar c [.slot 0 (Au p_0 0), .slot 1 (AG [Af 32 a_1]), .slot 2 (As a_2), .res (lb p_0 215 [one (Am h_0_0), one (Am h_0_1)]), .res (acc h_0_0 9 1 C9 s_0.Dr), .res (Et h_0_1 Ex (fun l => l.length = 32) (fun u y => acc u 9 1 C9 y) s_0.Bm)] a w at h
  refine Ao mixed hn hG h [0, 2, 501, 3, 4, 5, 500] (ob [1] (BF q0 (Al _)) .nil) fun b3 a w h => ?_
  refine wp_seq ?_
  refine Ao mixed hn hG h [0, 1, 2, 500, 3, 4, 5, 6] (ov [0] (Aa q0) <| ov [500] (Ak (Gt underlying95) (KE q0) (DZ (ec _))) .nil) fun _ a w h => ?_
  refine D6 h 3 rfl (fun hb4 => ?_) (fun hb4 => ?_)
  ·cases hb4
  ·skip
   replace h := h.LO [0, 1, 2, 4, 5, 6, 7]
   refine wp_skip ?_
   show Code.wp prog _ _ a w
   refine wp_seq ?_
   refine Ao mixed hn hG h [0, 1, 2, 502, 501, 500, 3, 4, 5, 6] (ov [0] (Aa q0) <| ov [500] (Bz q0 (DA _ _)) <| ov [500] (Aj (p := p_0) (n := 1) 0 1 underlying215 rfl sizeOf213 (by decide) q0 rfl) <| ov [500, 3] (AB [one (Am h_0_0)] [] 1 isAgg213 q0 rfl rfl) <| ov [2, 6] (AA 1 isAgg33 sizeOf33 q0) <| ov [501, 500, 5] (Ie (An C9) [] 2 underlying213 (Il underlying33 underlying5 type5 sizeOf5 isAgg5) zeroValue22 q0 q1 Im rfl LP (fun _ _ _ _ _ h => Iu h) (fun _ => ⟨by decide, .inl ⟨rfl, rfl⟩⟩)) <| ov [500] (A4 underlying22 q0) <| ov [] (Aa qi) .nil) fun _ a w h => ?_
   refine wp_block ?_
   obtain ⟨cr16, hl17, hF⟩ := bind_some hF
   refine wp_mono (Bw (R := (Option Bn)) (S := Int) (fun s a w => Ar c [.slot 0 (Au p_0 0), .slot 2 (As a_2), .slot 4 (Au (b3 0) 0), .slot 15 (An C9 ((GM a_1 s_0.Bm).getD [])), .slot 16 (Ab .i64 (((GM a_1 s_0.Bm).getD []).length : Int)), .slot 17 (Ab .i64 s), .res (lb p_0 215 [one (Am h_0_0), one (Am h_0_1)]), .res (acc h_0_0 9 1 C9 s_0.Dr), .res (Et h_0_1 Ex (fun l => l.length = 32) (fun u y => acc u 9 1 C9 y) s_0.Bm), .res (lb (b3 0) 33 [Af 32 a_1])] a w) (fun res e a w => match res with | .next s => e = .exit 0 ∧ Ar c [.slot 0 (Au p_0 0), .slot 2 (As a_2), .slot 4 (Au (b3 0) 0), .res (lb p_0 215 [one (Am h_0_0), one (Am h_0_1)]), .res (acc h_0_0 9 1 C9 s_0.Dr), .res (Et h_0_1 Ex (fun l => l.length = 32) (fun u y => acc u 9 1 C9 y) s_0.Bm), .res (lb (b3 0) 33 [Af 32 a_1])] a w | .ret r => e = .ret ∧ CO prog f72 c (CV []) (fun _ => [A5 p_0 r]) a w) ?_ _ 0 _ _ _ (h.sub [0, 1, 2, 3, 4, 5, 6, 7, 8, 9] (by rfl)) hl17) ?_
   ·clear hl17 hF h
    intro x8 a w o h hF
    change BL.b1 s_0 a_1 a_2 x8 = some o at hF
    unfold BL.b1 at hF
    change Ar c [.slot 0 (Au p_0 0), .slot 2 (As a_2), .slot 4 (Au (b3 0) 0), .slot 15 (An C9 ((GM a_1 s_0.Bm).getD [])), .slot 16 (Ab .i64 (((GM a_1 s_0.Bm).getD []).length : Int)), .slot 17 (Ab .i64 x8), .res (lb p_0 215 [one (Am h_0_0), one (Am h_0_1)]), .res (acc h_0_0 9 1 C9 s_0.Dr), .res (Et h_0_1 Ex (fun l => l.length = 32) (fun u y => acc u 9 1 C9 y) s_0.Bm), .res (lb (b3 0) 33 [Af 32 a_1])] a w at h
    refine Ao mixed hn hG h [0, 1, 2, 3, 4, 5, 500, 6, 7, 8, 9] (ov [5, 4] (Ak Bl q0 q1) .nil) fun _ a w h => ?_
    refine wp_seq ?_
    refine DL h hF 6 [0, 1, 2, 3, 4, 5, 7, 8, 9, 10] [0, 1, 2, 3, 4, 5, 7, 8, 9, 10] (fun hb13 hF h => ?_) (fun hb13 hF h => ?_)
    ·refine wp_skip ?_
     show Code.wp prog _ _ a w
     refine wp_seq ?_
     refine wp_block ?_
     obtain ⟨hv14, hF⟩ := Ay hF
     refine Ao mixed hn hG h [0, 1, 2, 500, 3, 4, 5, 6, 7, 8, 9] (ov [3, 5] (AL underlying22 sizeOf9 C5 q0 q1 hv14) <| ov [500] (BH [] isAgg9 q0) <| ov [500] (Ad q0) .nil) fun _ a w h => ?_
     refine Ao mixed hn hG h [0, 1, 2, 4, 5, 6, 500, 7, 8, 9, 10] (ov [3] (Aa q0) <| ov [1] (Aa q0) <| ov [501, 500] (Ak Lv q0 q1) .nil) fun _ a w h => ?_
     refine DL h hF 6 [7, 8, 9] [0, 1, 2, 3, 4, 5, 7, 8, 9, 10] (fun hb15 hF h => ?_) (fun hb15 hF h => ?_)
     ·refine wp_ret ?_
      replace h := h.EY 1 2 rfl rfl (by decide)
      replace h := h.EY 0 1 rfl rfl (by decide)
      replace h := h.conv 0 rfl (R' := A5 p_0 (some s_0)) (HC (v0 := h_0_0) (v1 := h_0_1) (o := (some s_0)))
      replace h := h.sub [0] (by rfl)
      change Ar c [.res (A5 p_0 (some s_0))] a w at h
      obtain rfl := Option.some.inj hF
      exact ⟨E2, rfl, Es h (rs := []) (Vs := []) results72 (by decide) trivial [0] [(A5 p_0 (some s_0))] rfl rfl rfl⟩
     ·refine wp_skip ?_
      show Code.wp prog _ _ a w
      refine CY mixed hn hG h [0, 1, 2, 3, 4, 500, 6, 7, 8, 9] (ov [5] (Ak AY q0 qi) <| od [500] 5 (Aa q0) .nil) fun _ a w h => ?_
      obtain rfl := Option.some.inj hF
      exact ⟨rfl, h.sub [0, 1, 2, 3, 4, 5, 6, 7, 8, 9] (by rfl)⟩
    ·refine wp_exit ?_
     obtain rfl := Option.some.inj hF
     exact ⟨BQ _, rfl, h.sub [0, 1, 2, 6, 7, 8, 9] (by rfl)⟩
   ·clear hl17
    intro e a w hq
    cases cr16 with
    | ret r18 =>
     obtain ⟨rfl, hq⟩ := hq
     obtain rfl := Option.some.inj hF
     exact ⟨.inl rfl, hq⟩
    | next y20 =>
     obtain ⟨rfl, h⟩ := hq
     change Ar c [.slot 0 (Au p_0 0), .slot 2 (As a_2), .slot 4 (Au (b3 0) 0), .res (lb p_0 215 [one (Am h_0_0), one (Am h_0_1)]), .res (acc h_0_0 9 1 C9 s_0.Dr), .res (Et h_0_1 Ex (fun l => l.length = 32) (fun u y => acc u 9 1 C9 y) s_0.Bm), .res (lb (b3 0) 33 [Af 32 a_1])] a w at h
     refine Be ?_
     show Code.wp prog _ _ a w
     obtain ⟨hv21, hF⟩ := Ay hF
     refine Ao mixed hn hG h [0, 1, 3, 4, 500] (ov [0] (Aa q0) <| ov [500] (Bz q0 (DA _ _)) <| ov [500] (Aj (p := p_0) (n := 1) 0 1 underlying215 rfl sizeOf213 (by decide) q0 rfl) <| ov [500, 3] (AB [one (Am h_0_0)] [] 1 isAgg213 q0 rfl rfl) <| ov [2, 6] (AA 1 isAgg33 sizeOf33 q0) <| ov [1] (Aa q0) <| ov [500] (Dn (xs := [.tmp 31]) (ys := [a_2]) _ rfl underlying22 sizeOf9 zeroValue9 rfl rfl (by decide) (by decide) ⟨⟨_, q0, (Ap (Du _))⟩, trivial⟩ C5) <| og [503, 502] [5] [.slot 33 7 100000 (fun v1_ _ => (CV [(Am (MG v1_)), (Am (MF v1_))])), .res 7 100000 (fun v1_ _ => (acc (MG v1_) 9 1 C9 ((GM a_1 s_0.Bm).getD ([] : List (List UInt8))))), .res 7 100000 (fun v1_ _ => (Qa h_0_1 (MF v1_) Ex (fun l => l.length = 32) (fun u y => acc u 9 1 C9 y) a_1 (Mt a_1 ([] : List (List UInt8)) s_0.Bm)))] (AV.plain (K7 ([] : List (List UInt8)) underlying213 (Il underlying33 underlying5 type5 sizeOf5 isAgg5) zeroValue22 q0 q1 Im (fun _ _ => ⟨by decide, .inl ⟨rfl, rfl, rfl⟩⟩)) rfl) <| og [502] [] [.slot 30 7 100000 (fun v1_ _ => (Am (MG v1_)))] (fun {β} => (AV.plain (AQ (V := (Am (MG (β 7)))) q0 rfl) rfl)) <| og [500, 504] [502] [.slot 34 9 100000 (fun v1_ _ => (Am v1_)), .res 9 100000 (fun v1_ _ => (acc (v1_) 9 1 C9 (((GM a_1 s_0.Bm).getD ([] : List (List UInt8))) ++ [a_2])))] (AV.plain (DO (i := t9) underlying22 type9 rfl C5 (by decide) rfl q0 q1 hv21) rfl) <| og [505] [] [.slot 35 7 100000 (fun v1_ _ => (Am (MF v1_)))] (fun {β} => (AV.plain (AQ (V := (Am (MF (β 7)))) q0 rfl) rfl)) <| og [510, 500, 502] [501, 504] [.base (.res (Et h_0_1 Ex (fun l => l.length = 32) (fun u y => acc u 9 1 C9 y) (Gw a_1 (((GM a_1 s_0.Bm).getD ([] : List (List UInt8))) ++ [a_2]) (Mt a_1 ([] : List (List UInt8)) s_0.Bm))))] (fun {β} => (AV.plain (JN (eR := (fun u y => acc u 9 1 C9 y)) (u := (β 9)) (n := (((GM a_1 s_0.Bm).getD ([] : List (List UInt8))) ++ [a_2])) q0 q1 q2) rfl)) .nil) fun _ a w h => ?_
     obtain ⟨hv22, hF⟩ := Ay hF
     refine CY mixed hn hG h [500, 4, 503] (ov [0] (Aa q0) <| ov [0] (Aa q0) <| ov [500] (Bz q0 (DA _ _)) <| ov [500] (Aj (p := p_0) (n := 1) 0 0 underlying215 rfl sizeOf22 (by decide) q0 rfl) <| ov [500, 2] (AB [] [one (Am h_0_1)] 1 isAgg22 q0 rfl rfl) <| ov [1] (Aa q0) <| ov [500] (Dn (xs := [.tmp 41]) (ys := [a_2]) _ rfl underlying22 sizeOf9 zeroValue9 rfl rfl (by decide) (by decide) ⟨⟨_, q0, (Ap (Du _))⟩, trivial⟩ C5) <| og [502, 500] [3] [.slot 43 7 100000 (fun v1_ _ => (Am v1_)), .res 7 100000 (fun v1_ _ => (acc (v1_) 9 1 C9 (s_0.Dr ++ [a_2])))] (AV.plain (DO (i := t9) underlying22 type9 rfl C5 (by decide) rfl q0 q1 hv22) rfl) <| ov [508] (Bz q0 (DA _ _)) <| ov [500] (Aj (p := p_0) (n := 1) 0 0 underlying215 rfl sizeOf22 (by decide) q0 rfl) <| og [500, 503, 502] [2] [.res 7 100000 (fun v1_ _ => (lb p_0 215 [one (Am (v1_)), one (Am h_0_1)]))] (fun {β} => (AV.plain (B7 [] [one (Am h_0_0)] [one (Am h_0_1)] [one (Am ((β 7)))] sizeOf22 q0 (IB 1 2 rfl rfl H0) (Gc _) rfl rfl rfl) rfl)) .nil) fun b23 a w h => ?_
     replace h := h.EY 2 1 rfl rfl (by decide)
     replace h := h.EY 0 2 rfl rfl (by decide)
     replace h := h.conv 0 rfl (R' := A5 p_0 (some ⟨s_0.Dr ++ [a_2], Gw a_1 (((GM a_1 s_0.Bm).getD ([] : List (List UInt8))) ++ [a_2]) (Mt a_1 ([] : List (List UInt8)) s_0.Bm)⟩)) (HC (v0 := (b23 7)) (v1 := h_0_1) (o := (some ⟨s_0.Dr ++ [a_2], Gw a_1 (((GM a_1 s_0.Bm).getD ([] : List (List UInt8))) ++ [a_2]) (Mt a_1 ([] : List (List UInt8)) s_0.Bm)⟩)))
     replace h := h.sub [0] (by rfl)
     change Ar c [.res (A5 p_0 (some ⟨s_0.Dr ++ [a_2], Gw a_1 (((GM a_1 s_0.Bm).getD ([] : List (List UInt8))) ++ [a_2]) (Mt a_1 ([] : List (List UInt8)) s_0.Bm)⟩))] a w at h
     obtain rfl := Option.some.inj hF
     exact ⟨.inr rfl, Es h (rs := []) (Vs := []) results72 (by decide) trivial [0] [(A5 p_0 (some ⟨s_0.Dr ++ [a_2], Gw a_1 (((GM a_1 s_0.Bm).getD ([] : List (List UInt8))) ++ [a_2]) (Mt a_1 ([] : List (List UInt8)) s_0.Bm)⟩))] rfl rfl rfl⟩

def EI (L_0 : Option Bn) (a_1 : Int) (a_2 : List (List UInt8)) : Option ((List UInt8) × (Option Bn)) := ((CM a_1 a_2).bind fun r2 => ((FL r2).bind fun r3 => ((BL L_0 r3 r2).bind fun r5 => some (r3, r5))))
theorem GK {p_0 : Value} {L_0 : Option Bn} {a_1 : Int} {a_2 : List (List UInt8)} {r : (List UInt8) × (Option Bn)} (hF : EI L_0 a_1 a_2 = some r) : Az prog KG 33 [(Am p_0), (Ab .u8 a_1), (An C9 a_2)] [(A5 p_0 L_0)] (fun _ => [A5 p_0 r.2]) (AG [Af 32 r.1]) := by
 refine Az.intro 19 func33 rfl ntmps33 (Nat.le_of_ble_eq_true rfl) ?_
 intro c a w hG hn h
 unfold EI at hF
 change Ar c [.slot 0 (Am p_0), .slot 1 (Ab .u8 a_1), .slot 2 (An C9 a_2), .res (A5 p_0 L_0)] a w at h
 refine Ao mixed hn hG h [0, 1, 2, 501, 3, 500] (ob [] (AJ zeroValue33 GN) .nil) fun b1 a w h => ?_
 obtain ⟨r2, hr2, hF⟩ := bind_some hF
 refine Ao mixed hn hG h [0, 3, 500, 4, 5] (ov [1] (Aa q0) <| ov [2] (Aa q0) <| oc [501, 500] [] call70 (Ji hr2) ⟨q0, q1, trivial⟩ <| ov [500] (Ad q0) .nil) fun _ a w h => ?_
 obtain ⟨r3, hr3, hF⟩ := bind_some hF
 refine Ao mixed hn hG h [0, 1, 2, 502, 3, 4, 500] (ov [2] (Aa q0) <| oc [500] [] call71 (Ko hr3) ⟨q0, trivial⟩ <| ob [] (AJ zeroValue33 GN) <| og [501, 502] [500] [.res 2 100000 (fun v1_ _ => (lb (v1_) 33 [Af 32 r3]))] (AV.plain (Aq sizeOf33 q0 q1 (Al _)) rfl) .nil) fun b4 a w h => ?_
 obtain ⟨r5, hr5, hF⟩ := bind_some hF
 refine Ao mixed hn hG h [1, 3, 5, 6, 500] (ov [0] (Aa q0) <| ov [3, 6] (AA 1 isAgg33 sizeOf33 q0) <| ov [2] (Aa q0) <| oc [502, 501, 500] [4] call72 (HL hr5) ⟨q0, q1, q2, trivial⟩ .nil) fun _ a w h => ?_
 refine Ao mixed hn hG h [0, 500, 4] (ov [1, 3] (AA 1 isAgg33 sizeOf33 q0) <| ou [0, 500] 2 (Aq sizeOf33 q0 q1 (Al _)) .nil) fun _ a w h => ?_
 refine wp_ret ?_
 obtain rfl := Option.some.inj hF
 exact ⟨.inl rfl, BG h results33 (Bs 0 1 rfl rfl isAgg33 sizeOf33 rfl) [2] [(A5 p_0 r5)] rfl rfl rfl⟩

def F7 (a_0 : Ai) : Option (List UInt8) := ((CD (IntKind.wrap .u64 a_0.CK) 4).bind fun r2 => ((CD (IntKind.wrap .u64 a_0.Dl) 4).bind fun r3 => (if r2.length + r3.length ≤ CG then ((CD (IntKind.wrap .u64 a_0.Fk) 4).bind fun r5 => (if (r2 ++ r3).length + r5.length ≤ CG then ((EB a_0.Fy).bind fun r7 => (if ((r2 ++ r3) ++ r5).length + r7.length ≤ CG then ((EB a_0.EC).bind fun r9 => (if (((r2 ++ r3) ++ r5) ++ r7).length + r9.length ≤ CG then ((EB a_0.Gg).bind fun r11 => (if ((((r2 ++ r3) ++ r5) ++ r7) ++ r9).length + r11.length ≤ CG then some (((((r2 ++ r3) ++ r5) ++ r7) ++ r9) ++ r11) else none)) else none)) else none)) else none)) else none)))
theorem Jf {a_0 : Ai} {r : (List UInt8)} (hF : F7 a_0 = some r) : Az prog KG 34 [(AG (Ai.ck a_0))] [] (fun _ => []) (As r) := by
 refine Az.intro 33 func34 rfl ntmps34 (Nat.le_of_ble_eq_true rfl) ?_
 intro c a w hG hn h
 unfold F7 at hF
 change Ar c [.slot 0 (AG (Ai.ck a_0))] a w at h
 refine Ao mixed hn hG h [502, 501] (ob [0] (BF q0 (Al _)) <| ov [] (Ad (DZ (sc _ (by decide)))) .nil) fun b1 a w h => ?_
 obtain ⟨r2, hr2, hF⟩ := bind_some hF
 refine Ao mixed hn hG h [0, 500, 1] (ov [0] (Aj (p := (b1 0)) (n := 1) 0 0 underlying31 rfl sizeOf29 (by decide) q0 rfl) <| ov [500, 1] (AB [] ((Ai.ck a_0).drop 1) 1 isAgg29 q0 rfl rfl) <| ov [500] (AW underlying29 underlying24 q0) <| oc [500] [] call73 (FH hr2) ⟨q0, qi, trivial⟩ <| ov [500] (Ad q0) .nil) fun _ a w h => ?_
 obtain ⟨r3, hr3, hF⟩ := bind_some hF
 obtain ⟨hv4, hF⟩ := Ay hF
 refine Ao mixed hn hG h [0, 500, 2] (ov [1] (Aa q0) <| ov [0] (Aj (p := (b1 0)) (n := 1) 0 1 underlying31 rfl sizeOf29 (by decide) q0 rfl) <| ov [500, 2] (AB [one (Ab .u32 a_0.CK)] ((Ai.ck a_0).drop 2) 1 isAgg29 q0 rfl rfl) <| ov [500] (AW underlying29 underlying24 q0) <| oc [500] [] call73 (FH hr3) ⟨q0, qi, trivial⟩ <| ov [504, 500] (Ak (Cy hv4) q0 q1) <| od [500] 1 (Ad q0) .nil) fun _ a w h => ?_
 obtain ⟨r5, hr5, hF⟩ := bind_some hF
 obtain ⟨hv6, hF⟩ := Ay hF
 refine Ao mixed hn hG h [0, 500, 2] (ov [1] (Aa q0) <| ov [0] (Aj (p := (b1 0)) (n := 1) 0 2 underlying31 rfl sizeOf29 (by decide) q0 rfl) <| ov [500, 2] (AB ((Ai.ck a_0).take 2) ((Ai.ck a_0).drop 3) 1 isAgg29 q0 rfl rfl) <| ov [500] (AW underlying29 underlying24 q0) <| oc [500] [] call73 (FH hr5) ⟨q0, qi, trivial⟩ <| ov [504, 500] (Ak (Cy hv6) q0 q1) <| od [500] 1 (Ad q0) .nil) fun _ a w h => ?_
 obtain ⟨r7, hr7, hF⟩ := bind_some hF
 obtain ⟨hv8, hF⟩ := Ay hF
 obtain ⟨r9, hr9, hF⟩ := bind_some hF
 obtain ⟨hv10, hF⟩ := Ay hF
 obtain ⟨r11, hr11, hF⟩ := bind_some hF
 obtain ⟨hv12, hF⟩ := Ay hF
 refine Ao mixed hn hG h [500] (ov [1] (Aa q0) <| ov [0] (Aj (p := (b1 0)) (n := 1) 0 3 underlying31 rfl sizeOf9 (by decide) q0 rfl) <| ov [500, 2] (AB ((Ai.ck a_0).take 3) ((Ai.ck a_0).drop 4) 1 isAgg9 q0 rfl rfl) <| oc [500] [] call74 (Fq hr7) ⟨q0, trivial⟩ <| ov [503, 500] (Ak (Cy hv8) q0 q1) <| ov [0] (Aj (p := (b1 0)) (n := 1) 0 4 underlying31 rfl sizeOf9 (by decide) q0 rfl) <| ov [500, 2] (AB ((Ai.ck a_0).take 4) [one (As a_0.Gg)] 1 isAgg9 q0 rfl rfl) <| oc [500] [] call74 (Fq hr9) ⟨q0, trivial⟩ <| ov [503, 500] (Ak (Cy hv10) q0 q1) <| ov [0] (Aj (p := (b1 0)) (n := 1) 0 5 underlying31 rfl sizeOf9 (by decide) q0 rfl) <| ov [500, 2] (AB ((Ai.ck a_0).take 5) [] 1 isAgg9 q0 rfl rfl) <| oc [500] [] call74 (Fq hr11) ⟨q0, trivial⟩ <| ov [503, 500] (Ak (Cy hv12) q0 q1) <| ov [500] (Ad q0) .nil) fun _ a w h => ?_
 refine wp_ret ?_
 obtain rfl := Option.some.inj hF
 exact ⟨.inl rfl, BG h results34 (Bc 0 rfl) [] [] rfl rfl rfl⟩

def Fg (L_0 : Option Bn) (a_1 : Ai) : Option ((List UInt8) × (Option Bn)) := ((F7 a_1).bind fun r3 => ((EI L_0 5 [r3]).bind fun r4 => some (r4.1, r4.2)))
theorem Hk {p_0 : Value} {L_0 : Option Bn} {a_1 : Ai} {r : (List UInt8) × (Option Bn)} (hF : Fg L_0 a_1 = some r) : Az prog KG 6 [(Am p_0), (AG (Ai.ck a_1))] [(A5 p_0 L_0)] (fun _ => [A5 p_0 r.2]) (AG [Af 32 r.1]) := by
 refine Az.intro 10 func6 rfl ntmps6 (Nat.le_of_ble_eq_true rfl) ?_
 intro c a w hG hn h
 unfold Fg at hF
 change Ar c [.slot 0 (Am p_0), .slot 1 (AG (Ai.ck a_1)), .res (A5 p_0 L_0)] a w at h
 refine Ao mixed hn hG h [0, 503, 501, 2, 502, 500] (ob [1] (BF q0 (Al _)) <| ob [] (AJ zeroValue33 GN) .nil) fun b1 a w h => ?_
 obtain ⟨r3, hr3, hF⟩ := bind_some hF
 obtain ⟨r4, hr4, hF⟩ := bind_some hF
 refine Ao mixed hn hG h [2, 500, 501] (ov [0] (Aa q0) <| ov [1, 4] (AA 1 isAgg31 sizeOf31 q0) <| oc [500] [] call34 (Jf hr3) ⟨q0, trivial⟩ <| ov [500] (Dn (xs := [.tmp 7]) (ys := [r3]) _ rfl underlying22 sizeOf9 zeroValue9 rfl rfl (by decide) (by decide) ⟨⟨_, q0, (Ap (Du _))⟩, trivial⟩ C5) <| oc [503, 500] [3] call33 (GK hr4) ⟨q0, qi, q1, trivial⟩ <| ou [2, 501] 5 (Aq sizeOf33 q0 q1 (Al _)) .nil) fun _ a w h => ?_
 refine wp_ret ?_
 obtain rfl := Option.some.inj hF
 exact ⟨.inl rfl, BG h results6 (Bs 0 1 rfl rfl isAgg33 sizeOf33 rfl) [2] [(A5 p_0 r4.2)] rfl rfl rfl⟩

def CZ.b1 (a_0 : Int) (x2 : Int) (x3 : Int) : Option (CR Int (Int × Int)) := (if (decide (x3 < a_0)) = true then some (.cont (IntKind.wrap .i64 (2 * x2), IntKind.wrap .i64 (x3 + 1))) else some (.brk (x2, x3)))
def CZ (a_0 : Int) : Option Int := ((Bf (fun s : Int × Int => CZ.b1 a_0 s.1 s.2) ((a_0 - 0 : Int).toNat + 2) (1, 0)).bind fun cr => match cr with | .ret r => some r | .next (y12, y13) => some y12)
theorem JK {a_0 : Int} {r : Int} (hF : CZ a_0 = some r) : Az prog KG 75 [(Ab .i64 a_0)] [] (fun _ => []) (Ab .i64 r) := by
 refine Az.intro 13 func75 rfl ntmps75 (Nat.le_of_ble_eq_true rfl) ?_
 intro c a w hG hn h
 unfold CZ at hF
 change Ar c [.slot 0 (Ab .i64 a_0)] a w at h
 refine Ao mixed hn hG h [0] (ov [] (Ad qi) .nil) fun _ a w h => ?_
 refine Ao mixed hn hG h [0, 500] (ov [] (Ad qi) .nil) fun _ a w h => ?_
 refine wp_seq ?_
 refine Ao mixed hn hG h [0, 1, 500] (ov [] (Ad qi) .nil) fun _ a w h => ?_
 refine wp_block ?_
 obtain ⟨cr8, hl9, hF⟩ := bind_some hF
 refine wp_mono (Bw (R := Int) (S := Int × Int) (fun s a w => Ar c [.slot 0 (Ab .i64 a_0), .slot 3 (Ab .i64 s.1), .slot 4 (Ab .i64 s.2)] a w) (fun res e a w => match res with | .next s => e = .exit 0 ∧ Ar c [.slot 3 (Ab .i64 s.1)] a w | .ret r => e = .ret ∧ CO prog f75 c (Ab .i64 r) (fun _ => []) a w) ?_ _ (1, 0) _ _ _ (h.sub [0, 1, 2] (by rfl)) hl9) ?_
 ·clear hl9 hF h
  intro s a w o h hF
  obtain ⟨x2, x3⟩ := s
  change CZ.b1 a_0 x2 x3 = some o at hF
  unfold CZ.b1 at hF
  change Ar c [.slot 0 (Ab .i64 a_0), .slot 3 (Ab .i64 x2), .slot 4 (Ab .i64 x3)] a w at h
  refine wp_seq ?_
  refine Ao mixed hn hG h [0, 1, 2, 500] (ov [2] (Aa q0) <| ov [0] (Aa q0) <| ov [501, 500] (Ak Bl q0 q1) .nil) fun _ a w h => ?_
  refine DL h hF 3 [0, 1, 2] [0, 1, 2] (fun hb7 hF h => ?_) (fun hb7 hF h => ?_)
  ·refine wp_skip ?_
   show Code.wp prog _ _ a w
   refine wp_seq ?_
   refine wp_block ?_
   refine CY mixed hn hG h [0, 500, 2] (ov [1] (Aa q0) <| ov [500] (Ak Db qi q0) <| od [500] 1 (Ad q0) .nil) fun _ a w h => ?_
   show Code.wp prog _ _ a w
   refine CY mixed hn hG h [0, 1, 500] (ov [2] (Aa q0) <| ov [500] (Ak AY q0 qi) <| od [500] 2 (Ad q0) .nil) fun _ a w h => ?_
   obtain rfl := Option.some.inj hF
   exact ⟨rfl, h.sub [0, 1, 2] (by rfl)⟩
  ·refine wp_exit ?_
   obtain rfl := Option.some.inj hF
   exact ⟨BQ _, rfl, h.sub [1] (by rfl)⟩
 ·clear hl9
  intro e a w hq
  cases cr8 with
  | ret r10 =>
   obtain ⟨rfl, hq⟩ := hq
   obtain rfl := Option.some.inj hF
   exact ⟨.inl rfl, hq⟩
  | next s11 =>
   obtain ⟨y12, y13⟩ := s11
   obtain ⟨rfl, h⟩ := hq
   change Ar c [.slot 3 (Ab .i64 y12)] a w at h
   refine Be ?_
   show Code.wp prog _ _ a w
   refine Ao mixed hn hG h [500] (ov [0] (Aa q0) <| ov [500] (Ad q0) .nil) fun _ a w h => ?_
   refine wp_ret ?_
   obtain rfl := Option.some.inj hF
   exact ⟨.inl rfl, BG h results75 (Bc 0 rfl) [] [] rfl rfl rfl⟩

def Fv (a_0 : List UInt8) : Option (List UInt8) := some (a_0.take ((32 : Int).toNat - (0 : Int).toNat))
theorem GU {a_0 : List UInt8} {r : (List UInt8)} (hF : Fv a_0 = some r) : Az prog KG 104 [(AG [Af 32 a_0])] [] (fun _ => []) (As r) := by
 refine Az.intro 5 func104 rfl ntmps104 (Nat.le_of_ble_eq_true rfl) ?_
 intro c a w hG hn h
 unfold Fv at hF
 change Ar c [.slot 0 (AG [Af 32 a_0])] a w at h
 refine Ao mixed hn hG h [502, 501] (ob [0] (BF q0 (Al _)) <| ov [] (Ad (DZ (sc _ (by decide)))) .nil) fun b1 a w h => ?_
 refine Ao mixed hn hG h [500] (ov [0] (Eb (a := 0) (b := 32) underlying33 sizeOf5 q0 rfl rfl (by decide)) <| ov [500, 1] (FV [] [] 1 underlying207 underlying5 underlying9 q0 rfl rfl (by decide) (by decide)) <| ov [500] (Ad q0) .nil) fun _ a w h => ?_
 refine wp_ret ?_
 obtain rfl := Option.some.inj hF
 exact ⟨.inl rfl, BG h results104 (Bc 0 rfl) [] [] rfl rfl rfl⟩

def Ek (L_0 : Option Bn) (a_1 : Int) (a_2 : List UInt8) (a_3 : List UInt8) : Option ((List UInt8) × (Option Bn)) := ((Fv a_2).bind fun r4 => ((Fv a_3).bind fun r5 => ((EI L_0 a_1 [r4, r5]).bind fun r6 => some (r6.1, r6.2))))
theorem Gn {p_0 : Value} {L_0 : Option Bn} {a_1 : Int} {a_2 : List UInt8} {a_3 : List UInt8} {r : (List UInt8) × (Option Bn)} (hF : Ek L_0 a_1 a_2 a_3 = some r) : Az prog KG 76 [(Am p_0), (Ab .u8 a_1), (AG [Af 32 a_2]), (AG [Af 32 a_3])] [(A5 p_0 L_0)] (fun _ => [A5 p_0 r.2]) (AG [Af 32 r.1]) := by
 refine Az.intro 17 func76 rfl ntmps76 (Nat.le_of_ble_eq_true rfl) ?_
 intro c a w hG hn h
 unfold Ek at hF
 change Ar c [.slot 0 (Am p_0), .slot 1 (Ab .u8 a_1), .slot 2 (AG [Af 32 a_2]), .slot 3 (AG [Af 32 a_3]), .res (A5 p_0 L_0)] a w at h
 refine Ao mixed hn hG h [0, 1, 505, 503, 501, 4, 504, 502, 500] (ob [2] (BF q0 (Al _)) <| ob [3] (BF q0 (Al _)) <| ob [] (AJ zeroValue33 GN) .nil) fun b1 a w h => ?_
 obtain ⟨r4, hr4, hF⟩ := bind_some hF
 obtain ⟨r5, hr5, hF⟩ := bind_some hF
 obtain ⟨r6, hr6, hF⟩ := bind_some hF
 refine Ao mixed hn hG h [4, 500, 501] (ov [0] (Aa q0) <| ov [1] (Aa q0) <| ov [2, 6] (AA 1 isAgg33 sizeOf33 q0) <| oc [500] [] call104 (GU hr4) ⟨q0, trivial⟩ <| ov [3, 7] (AA 1 isAgg33 sizeOf33 q0) <| oc [500] [] call104 (GU hr5) ⟨q0, trivial⟩ <| ov [502, 500] (Dn (xs := [.tmp 12, .tmp 14]) (ys := [r4, r5]) _ rfl underlying22 sizeOf9 zeroValue9 rfl rfl (by decide) (by decide) ⟨⟨_, q0, (Ap (Du _))⟩, ⟨_, q1, (Ap (Du _))⟩, trivial⟩ C5) <| oc [506, 505, 500] [5] call33 (GK hr6) ⟨q0, q1, q2, trivial⟩ <| ou [4, 501] 8 (Aq sizeOf33 q0 q1 (Al _)) .nil) fun _ a w h => ?_
 refine wp_ret ?_
 obtain rfl := Option.some.inj hF
 exact ⟨.inl rfl, BG h results76 (Bs 0 1 rfl rfl isAgg33 sizeOf33 rfl) [2] [(A5 p_0 r6.2)] rfl rfl rfl⟩

def Ef (slf : (Option Bn) → (List (List UInt8)) → (List (List UInt8)) → Int → Int → Option ((List UInt8) × (Option Bn))) (L_0 : Option Bn) (a_1 : List (List UInt8)) (a_2 : List (List UInt8)) (a_3 : Int) (a_4 : Int) : Option ((List UInt8) × (Option Bn)) := ((CZ a_3).bind fun r2 => (if (decide ((a_2.length : Int) ≤ (IntKind.wrap .i64 (a_4 * r2)))) = true then (if (0 : Int) ≤ a_3 ∧ a_3 < a_1.length then some (a_1.getD a_3.toNat default, L_0) else none) else (if (decide (a_3 = (0 : Int))) = true then (if (0 : Int) ≤ a_4 ∧ a_4 < a_2.length then some (a_2.getD a_4.toNat default, L_0) else none) else ((slf L_0 a_1 a_2 (IntKind.wrap .i64 (a_3 - 1)) (IntKind.wrap .i64 (2 * a_4))).bind fun r7 => ((slf r7.2 a_1 a_2 (IntKind.wrap .i64 (a_3 - 1)) (IntKind.wrap .i64 ((IntKind.wrap .i64 (2 * a_4)) + 1))).bind fun r9 => ((Ek r9.2 6 r7.1 r9.1).bind fun r11 => some (r11.1, r11.2)))))))
def EH : Nat → (Option Bn) → (List (List UInt8)) → (List (List UInt8)) → Int → Int → Option ((List UInt8) × (Option Bn))
 | 0, _, _, _, _, _ => none
 | k + 1, L_0, a_1, a_2, a_3, a_4 => Ef (EH k) L_0 a_1 a_2 a_3 a_4
def Jg (L_0 : Option Bn) (a_1 : List (List UInt8)) (a_2 : List (List UInt8)) (a_3 : Int) (a_4 : Int) : Option ((List UInt8) × (Option Bn)) := EH 100000 L_0 a_1 a_2 a_3 a_4
theorem IN {slf : (Option Bn) → (List (List UInt8)) → (List (List UInt8)) → Int → Int → Option ((List UInt8) × (Option Bn))} (slf_ok : ∀ {p_0 : Value} {L_0 : Option Bn} {a_1 : List (List UInt8)} {a_2 : List (List UInt8)} {a_3 : Int} {a_4 : Int} {r : (List UInt8) × (Option Bn)}, slf L_0 a_1 a_2 a_3 a_4 = some r → Az prog KG 35 [(Am p_0), (An (dC 32) a_1), (An (dC 32) a_2), (Ab .i64 a_3), (Ab .i64 a_4)] [(A5 p_0 L_0)] (fun _ => [A5 p_0 r.2]) (AG [Af 32 r.1])) {p_0 : Value} {L_0 : Option Bn} {a_1 : List (List UInt8)} {a_2 : List (List UInt8)} {a_3 : Int} {a_4 : Int} {r : (List UInt8) × (Option Bn)} (hF : Ef slf L_0 a_1 a_2 a_3 a_4 = some r) : Az prog KG 35 [(Am p_0), (An (dC 32) a_1), (An (dC 32) a_2), (Ab .i64 a_3), (Ab .i64 a_4)] [(A5 p_0 L_0)] (fun _ => [A5 p_0 r.2]) (AG [Af 32 r.1]) := by
 refine Az.intro 51 func35 rfl ntmps35 (Nat.le_of_ble_eq_true rfl) ?_
 intro c a w hG hn h
 unfold Ef at hF
 change Ar c [.slot 0 (Am p_0), .slot 1 (An (dC 32) a_1), .slot 2 (An (dC 32) a_2), .slot 3 (Ab .i64 a_3), .slot 4 (Ab .i64 a_4), .res (A5 p_0 L_0)] a w at h
 refine Ao mixed hn hG h [0, 1, 2, 3, 4, 501, 5, 500] (ob [] (AJ zeroValue33 GN) .nil) fun b1 a w h => ?_
 refine wp_seq ?_
 obtain ⟨r2, hr2, hF⟩ := bind_some hF
 refine Ao mixed hn hG h [0, 1, 2, 3, 4, 5, 500, 6, 7] (ov [4] (Aa q0) <| ov [3] (Aa q0) <| oc [500] [] call75 (JK hr2) ⟨q0, trivial⟩ <| ov [502, 500] (Ak Db q0 q1) <| ov [2] (Aa q0) <| ov [500] (A4 underlying27 q0) <| ov [502, 500] (Ak DJ q0 q1) .nil) fun _ a w h => ?_
 refine DL h hF 6 [1, 3, 5, 7, 8] [0, 1, 2, 3, 4, 5, 7, 8] (fun hb3 hF h => ?_) (fun hb3 hF h => ?_)
 ·obtain ⟨hv4, hF⟩ := Ay hF
  refine Ao mixed hn hG h [2, 3, 500] (ov [0] (Aa q0) <| ov [1] (Aa q0) <| ov [501, 500] (AL underlying27 sizeOf33 (Bk 32) q0 q1 hv4) <| ov [500] (BM [Af 32 (a_1.getD a_3.toNat default)] [] isAgg33 sizeOf33 q0 rfl) <| ou [2, 500] 4 (Aq sizeOf33 q0 q1 (Al _)) .nil) fun _ a w h => ?_
  refine wp_ret ?_
  obtain rfl := Option.some.inj hF
  exact ⟨.inl rfl, BG h results35 (Bs 0 2 rfl rfl isAgg33 sizeOf33 rfl) [1] [(A5 p_0 L_0)] rfl rfl rfl⟩
 ·refine wp_skip ?_
  show Code.wp prog _ _ a w
  refine wp_seq ?_
  refine Ao mixed hn hG h [0, 1, 2, 3, 4, 5, 500, 6, 7] (ov [3] (Aa q0) <| ov [500] (Ak C3 q0 qi) .nil) fun _ a w h => ?_
  refine DL h hF 6 [2, 4, 5, 7, 8] [0, 1, 2, 3, 4, 5, 7, 8] (fun hb5 hF h => ?_) (fun hb5 hF h => ?_)
  ·obtain ⟨hv6, hF⟩ := Ay hF
   refine Ao mixed hn hG h [2, 3, 500] (ov [0] (Aa q0) <| ov [1] (Aa q0) <| ov [501, 500] (AL underlying27 sizeOf33 (Bk 32) q0 q1 hv6) <| ov [500] (BM [Af 32 (a_2.getD a_4.toNat default)] [] isAgg33 sizeOf33 q0 rfl) <| ou [2, 500] 4 (Aq sizeOf33 q0 q1 (Al _)) .nil) fun _ a w h => ?_
   refine wp_ret ?_
   obtain rfl := Option.some.inj hF
   exact ⟨.inl rfl, BG h results35 (Bs 0 2 rfl rfl isAgg33 sizeOf33 rfl) [1] [(A5 p_0 L_0)] rfl rfl rfl⟩
  ·refine wp_skip ?_
   show Code.wp prog _ _ a w
   obtain ⟨r7, hr7, hF⟩ := bind_some hF
   refine Ao mixed hn hG h [0, 1, 2, 3, 4, 5, 502, 7, 503, 500] (ov [0] (Aa q0) <| ov [1] (Aa q0) <| ov [2] (Aa q0) <| ov [3] (Aa q0) <| ov [500] (Ak CH q0 qi) <| ov [4] (Aa q0) <| ov [500] (Ak Db qi q0) <| oc [506, 505, 504, 502, 500] [6] call35 (slf_ok hr7) ⟨q0, q1, q2, q3, (opt 4 rfl), trivial⟩ <| ob [] (AJ zeroValue33 GN) <| og [501, 503] [500] [.res 8 100000 (fun v1_ _ => (lb (v1_) 33 [Af 32 r7.1]))] (AV.plain (Aq sizeOf33 q0 q1 (Al _)) rfl) .nil) fun b8 a w h => ?_
   obtain ⟨r9, hr9, hF⟩ := bind_some hF
   refine Ao mixed hn hG h [0, 5, 6, 502, 7, 9, 503, 500] (ov [0] (Aa q0) <| ov [1] (Aa q0) <| ov [2] (Aa q0) <| ov [3] (Aa q0) <| ov [500] (Ak CH q0 qi) <| ov [4] (Aa q0) <| ov [500] (Ak Db qi q0) <| ov [500] (Ak AY q0 qi) <| oc [507, 506, 505, 503, 500] [8] call35 (slf_ok hr9) ⟨q0, q1, q2, q3, (opt 4 rfl), trivial⟩ <| ob [] (AJ zeroValue33 GN) <| og [501, 503] [500] [.res 9 100000 (fun v1_ _ => (lb (v1_) 33 [Af 32 r9.1]))] (AV.plain (Aq sizeOf33 q0 q1 (Al _)) rfl) .nil) fun b10 a w h => ?_
   obtain ⟨r11, hr11, hF⟩ := bind_some hF
   refine Ao mixed hn hG h [1, 500, 501] (ov [0] (Aa q0) <| ov [2, 5] (AA 1 isAgg33 sizeOf33 q0) <| ov [3, 7] (AA 1 isAgg33 sizeOf33 q0) <| oc [502, 501, 500] [6] call76 (Gn hr11) ⟨q0, qi, q1, q2, trivial⟩ <| ou [1, 501] 4 (Aq sizeOf33 q0 q1 (Al _)) .nil) fun _ a w h => ?_
   refine wp_ret ?_
   obtain rfl := Option.some.inj hF
   exact ⟨.inl rfl, BG h results35 (Bs 0 1 rfl rfl isAgg33 sizeOf33 rfl) [2] [(A5 p_0 r11.2)] rfl rfl rfl⟩
theorem GJ : ∀ (k : Nat) {p_0 : Value} {L_0 : Option Bn} {a_1 : List (List UInt8)} {a_2 : List (List UInt8)} {a_3 : Int} {a_4 : Int} {r : (List UInt8) × (Option Bn)}, EH k L_0 a_1 a_2 a_3 a_4 = some r → Az prog KG 35 [(Am p_0), (An (dC 32) a_1), (An (dC 32) a_2), (Ab .i64 a_3), (Ab .i64 a_4)] [(A5 p_0 L_0)] (fun _ => [A5 p_0 r.2]) (AG [Af 32 r.1])
 | 0, _, _, _, _, _, _, _ => fun hF => by cases hF
 | k + 1, _, _, _, _, _, _, _ => fun hF => IN (fun h => GJ k h) hF
theorem JL {p_0 : Value} {L_0 : Option Bn} {a_1 : List (List UInt8)} {a_2 : List (List UInt8)} {a_3 : Int} {a_4 : Int} {r : (List UInt8) × (Option Bn)} (hF : Jg L_0 a_1 a_2 a_3 a_4 = some r) : Az prog KG 35 [(Am p_0), (An (dC 32) a_1), (An (dC 32) a_2), (Ab .i64 a_3), (Ab .i64 a_4)] [(A5 p_0 L_0)] (fun _ => [A5 p_0 r.2]) (AG [Af 32 r.1]) := GJ 100000 hF

def Cb.b1 (x12 : Int) (x13 : Option Bn) (x14 : List UInt8) (x15 : List (List UInt8)) : Option (CR ((List (List UInt8)) × (Option Bn)) (Int × (Option Bn) × (List UInt8) × (List (List UInt8)))) := (if (decide (x12 < (33 : Int))) = true then (if x15.length + [x14].length ≤ CG ∧ (x15.length + [x14].length) * 32 ≤ 140737488355328 then ((Ek x13 6 x14 x14).bind fun r29 => some (.cont (IntKind.wrap .i64 (x12 + 1), r29.2, r29.1, x15 ++ [x14]))) else none) else some (.brk (x12, x13, x14, x15)))
def Cb (L_0 : Option Bn) : Option ((List (List UInt8)) × (Option Bn)) := ((Bf (fun s : Int × (Option Bn) × (List UInt8) × (List (List UInt8)) => Cb.b1 s.1 s.2.1 s.2.2.1 s.2.2.2) ((33 - 0 : Int).toNat + 2) (0, L_0, (List.replicate 32 0), [])).bind fun cr => match cr with | .ret r => some r | .next (y34, y35, y36, y37) => some (y37, y35))
theorem Ib {p_0 : Value} {L_0 : Option Bn} {r : (List (List UInt8)) × (Option Bn)} (hF : Cb L_0 = some r) : Az prog KG 36 [(Am p_0)] [(A5 p_0 L_0)] (fun _ => [A5 p_0 r.2]) (An (dC 32) r.1) := by
 refine Az.intro 19 func36 rfl ntmps36 (Nat.le_of_ble_eq_true rfl) ?_
 intro c a w hG hn h
 unfold Cb at hF
 change Ar c [.slot 0 (Am p_0), .res (A5 p_0 L_0)] a w at h
 refine Ao mixed hn hG h [0, 1] (ov [] (Ad (DZ (ec _))) .nil) fun _ a w h => ?_
 refine Ao mixed hn hG h [0, 500, 1] (ov [] (Ad (DZ (ec _))) .nil) fun _ a w h => ?_
 refine Ao mixed hn hG h [0, 1, 501, 2, 500] (ob [] (AJ zeroValue33 GN) .nil) fun b1 a w h => ?_
 refine wp_seq ?_
 refine Ao mixed hn hG h [0, 1, 2, 500, 3, 4] (ov [] (Ad qi) .nil) fun _ a w h => ?_
 refine wp_block ?_
 obtain ⟨q7, h⟩ : ∃ q7 : Value, Ar c [.slot 0 (Am p_0), .slot 3 (Am q7), .slot 4 (Au (b1 0) 0), .slot 5 (Ab .i64 0), .res (A5 p_0 L_0), .res (lb (b1 0) 33 [Af 32 (List.replicate 32 0)]), .res (acc q7 33 32 (dC 32) [])] a w := ⟨.slice none 0 0, (h.Ij 33 32 (dC 32)).sub [0, 1, 2, 3, 4, 5, 6] (by rfl)⟩
 obtain ⟨cr30, hl31, hF⟩ := bind_some hF
 refine wp_mono (Bw (R := (List (List UInt8)) × (Option Bn)) (S := Int × (Option Bn) × (List UInt8) × (List (List UInt8))) (fun s a w => ∃ q16 : Value, Ar c [.slot 0 (Am p_0), .slot 3 (Am q16), .slot 4 (Au (b1 0) 0), .slot 5 (Ab .i64 s.1), .res (A5 p_0 s.2.1), .res (lb (b1 0) 33 [Af 32 s.2.2.1]), .res (acc q16 33 32 (dC 32) s.2.2.2)] a w) (fun res e a w => match res with | .next s => e = .exit 0 ∧ ∃ q16 : Value, Ar c [.slot 3 (Am q16), .res (A5 p_0 s.2.1), .res (acc q16 33 32 (dC 32) s.2.2.2)] a w | .ret r => e = .ret ∧ CO prog f36 c (An (dC 32) r.1) (fun _ => [A5 p_0 r.2]) a w) ?_ _ (0, L_0, (List.replicate 32 0), []) _ _ _ ⟨q7, (h.sub [0, 1, 2, 3, 4, 5, 6] (by rfl))⟩ hl31) ?_
 ·clear hl31 hF h
  intro s a w o h hF
  obtain ⟨x12, x13, x14, x15⟩ := s
  obtain ⟨q16, h⟩ := h
  change Cb.b1 x12 x13 x14 x15 = some o at hF
  unfold Cb.b1 at hF
  change Ar c [.slot 0 (Am p_0), .slot 3 (Am q16), .slot 4 (Au (b1 0) 0), .slot 5 (Ab .i64 x12), .res (A5 p_0 x13), .res (lb (b1 0) 33 [Af 32 x14]), .res (acc q16 33 32 (dC 32) x15)] a w at h
  refine wp_seq ?_
  refine Ao mixed hn hG h [0, 1, 2, 3, 500, 4, 5, 6] (ov [3] (Aa q0) <| ov [500] (Ak Bl q0 qi) .nil) fun _ a w h => ?_
  refine DL h hF 4 [0, 1, 2, 3, 5, 6, 7] [0, 1, 2, 3, 5, 6, 7] (fun hb26 hF h => ?_) (fun hb26 hF h => ?_)
  ·refine wp_skip ?_
   show Code.wp prog _ _ a w
   refine wp_seq ?_
   refine wp_block ?_
   obtain ⟨hv27, hF⟩ := Ay hF
   refine Ao mixed hn hG h [0, 500, 2, 3, 4, 5, 501] (ov [1] (Aa q0) <| ov [2, 5] (AA 1 isAgg33 sizeOf33 q0) <| ov [500] (Dn (xs := [.tmp 11]) (ys := [x14]) _ rfl underlying27 sizeOf33 zeroValue33 rfl rfl (by decide) (by decide) ⟨⟨_, q0, (Al _)⟩, trivial⟩ (Bk 32)) <| og [502, 500] [6] [.slot 13 3 100000 (fun v1_ _ => (Am v1_)), .res 3 100000 (fun v1_ _ => (acc (v1_) 33 32 (dC 32) (x15 ++ [x14])))] (AV.plain (DO (i := t33) underlying27 type33 rfl (Bk 32) (by decide) rfl q0 q1 hv27) rfl) <| og [501] [1] [.slot 3 3 100000 (fun v1_ _ => (Am v1_))] (fun {β} => (AV.drop _ (AV.plain (Ad (V := (Am (β 3))) q0) rfl))) .nil) fun b28 a w h => ?_
   obtain ⟨r29, hr29, hF⟩ := bind_some hF
   refine CY mixed hn hG h [0, 1, 2, 3, 500, 6, 501] (ov [0] (Aa q0) <| ov [2, 5] (AA 1 isAgg33 sizeOf33 q0) <| ov [2, 5] (AA 1 isAgg33 sizeOf33 q0) <| oc [502, 501, 500] [4] call76 (Gn hr29) ⟨q0, qi, q1, q2, trivial⟩ <| ou [2, 501] 5 (Aq sizeOf33 q0 q1 (Al _)) .nil) fun _ a w h => ?_
   show Code.wp prog _ _ a w
   refine CY mixed hn hG h [0, 1, 2, 500, 4, 5, 6] (ov [3] (Aa q0) <| ov [500] (Ak AY q0 qi) <| od [500] 3 (Ad q0) .nil) fun _ a w h => ?_
   obtain rfl := Option.some.inj hF
   exact ⟨rfl, (b28 3), h.sub [0, 1, 2, 3, 6, 4, 5] (by rfl)⟩
  ·refine wp_exit ?_
   obtain rfl := Option.some.inj hF
   exact ⟨BQ _, rfl, q16, h.sub [1, 4, 6] (by rfl)⟩
 ·clear hl31
  intro e a w hq
  cases cr30 with
  | ret r32 =>
   obtain ⟨rfl, hq⟩ := hq
   obtain rfl := Option.some.inj hF
   exact ⟨.inl rfl, hq⟩
  | next s33 =>
   obtain ⟨y34, y35, y36, y37⟩ := s33
   obtain ⟨rfl, q16, h⟩ := hq
   change Ar c [.slot 3 (Am q16), .res (A5 p_0 y35), .res (acc q16 33 32 (dC 32) y37)] a w at h
   refine Be ?_
   show Code.wp prog _ _ a w
   refine Ao mixed hn hG h [500, 1, 2] (ov [0] (Aa q0) <| ov [500] (Ad q0) .nil) fun _ a w h => ?_
   refine wp_ret ?_
   obtain rfl := Option.some.inj hF
   exact ⟨.inl rfl, BG h results36 (NG 0 2 rfl rfl) [1] [(A5 p_0 y35)] rfl rfl rfl⟩

def F8 (a_0 : List (List UInt8)) : Option (List (List UInt8)) := (if (decide ((4096 : Int) < (a_0.length : Int))) = true then (if (0 : Int) ≤ 0 ∧ (0 : Int) ≤ 4096 ∧ (4096 : Int) ≤ a_0.length then some ((a_0.take 4096).drop (0 : Int).toNat) else none) else some a_0)
theorem Jh {a_0 : List (List UInt8)} {r : (List (List UInt8))} (hF : F8 a_0 = some r) : Az prog KG 37 [(An (dC 32) a_0)] [] (fun _ => []) (An (dC 32) r) := by
 refine Az.intro 9 func37 rfl ntmps37 (Nat.le_of_ble_eq_true rfl) ?_
 intro c a w hG hn h
 unfold F8 at hF
 change Ar c [.slot 0 (An (dC 32) a_0)] a w at h
 refine Ao mixed hn hG h [0] (ov [] (Ad (DZ (ec _))) .nil) fun _ a w h => ?_
 refine wp_seq ?_
 refine Ao mixed hn hG h [0, 500] (ov [0] (Aa q0) <| ov [500] (A4 underlying27 q0) <| ov [500] (Ak Gd q0 qi) .nil) fun _ a w h => ?_
 refine DL h hF 1 [0] [0] (fun hb1 hF h => ?_) (fun hb1 hF h => ?_)
 ·obtain ⟨hv2, hF⟩ := Ay hF
  refine Ao mixed hn hG h [500] (ov [0] (Aa q0) <| ov [500] (Ea (a := 0) (b := 4096) underlying27 sizeOf33 (Bk 32) q0 rfl ⟨_, qi⟩ hv2) <| ov [500] (Ad q0) .nil) fun _ a w h => ?_
  refine wp_ret ?_
  obtain rfl := Option.some.inj hF
  exact ⟨.inl rfl, BG h results37 (Bc 0 rfl) [] [] rfl rfl rfl⟩
 ·refine wp_skip ?_
  show Code.wp prog _ _ a w
  refine Ao mixed hn hG h [500] (ov [0] (Aa q0) <| ov [500] (Ad q0) .nil) fun _ a w h => ?_
  refine wp_ret ?_
  obtain rfl := Option.some.inj hF
  exact ⟨.inl rfl, BG h results37 (Bc 0 rfl) [] [] rfl rfl rfl⟩

def Gm (L_0 : Option Bn) (a_1 : List (List UInt8)) : Option ((List UInt8) × (Option Bn)) := ((Cb L_0).bind fun r2 => ((F8 a_1).bind fun r3 => ((Jg r2.2 r2.1 r3 32 0).bind fun r4 => some (r4.1, r4.2))))
theorem IA {p_0 : Value} {L_0 : Option Bn} {a_1 : List (List UInt8)} {r : (List UInt8) × (Option Bn)} (hF : Gm L_0 a_1 = some r) : Az prog KG 7 [(Am p_0), (An (dC 32) a_1)] [(A5 p_0 L_0)] (fun _ => [A5 p_0 r.2]) (AG [Af 32 r.1]) := by
 refine Az.intro 11 func7 rfl ntmps7 (Nat.le_of_ble_eq_true rfl) ?_
 intro c a w hG hn h
 unfold Gm at hF
 change Ar c [.slot 0 (Am p_0), .slot 1 (An (dC 32) a_1), .res (A5 p_0 L_0)] a w at h
 refine Ao mixed hn hG h [0, 1, 501, 2, 500] (ob [] (AJ zeroValue33 GN) .nil) fun b1 a w h => ?_
 obtain ⟨r2, hr2, hF⟩ := bind_some hF
 obtain ⟨r3, hr3, hF⟩ := bind_some hF
 obtain ⟨r4, hr4, hF⟩ := bind_some hF
 refine Ao mixed hn hG h [2, 500, 501] (ov [0] (Aa q0) <| ov [0] (Aa q0) <| oc [500] [3] call36 (Ib hr2) ⟨q0, trivial⟩ <| ov [1] (Aa q0) <| oc [500] [] call37 (Jh hr3) ⟨q0, trivial⟩ <| oc [505, 503, 500] [502] call35 (JL hr4) ⟨q0, q1, q2, qi, qi, trivial⟩ <| ou [2, 501] 4 (Aq sizeOf33 q0 q1 (Al _)) .nil) fun _ a w h => ?_
 refine wp_ret ?_
 obtain rfl := Option.some.inj hF
 exact ⟨.inl rfl, BG h results7 (Bs 0 1 rfl rfl isAgg33 sizeOf33 rfl) [2] [(A5 p_0 r4.2)] rfl rfl rfl⟩

def El (a_0 : Int) : Option Ah := some (Ah.mk a_0 [])
theorem Fh {a_0 : Int} {r : Ah} (hF : El a_0 = some r) : Az prog KG 8 [(Ab .u32 a_0)] [] (fun _ => []) (AG (Ah.ck r)) := by
 refine Az.intro 5 func8 rfl ntmps8 (Nat.le_of_ble_eq_true rfl) ?_
 intro c a w hG hn h
 unfold El at hF
 change Ar c [.slot 0 (Ab .u32 a_0)] a w at h
 refine Ao mixed hn hG h [0, 501, 500] (ob [] (AJ zeroValue43 Qx) .nil) fun b1 a w h => ?_
 refine Ao mixed hn hG h [1, 500] (ov [0] (Aa q0) <| ov [500] (Dc [(0, .tmp 3)] rfl RB Qx ⟨[], [one (Ab .u32 (0 : Int))], [one (As [])], [one (Ab .u32 a_0)], _, rfl, rfl, rfl, q0, (Ap (AK _ _)), rfl⟩) <| ou [1, 500] 2 (Aq sizeOf43 q0 q1 (Al _)) .nil) fun _ a w h => ?_
 refine wp_ret ?_
 obtain rfl := Option.some.inj hF
 exact ⟨.inl rfl, BG h results8 (Bs 0 1 rfl rfl isAgg43 sizeOf43 rfl) [] [] rfl rfl rfl⟩

def DP (a_0 : List UInt8) : Option (List UInt8) := some (a_0.take ((32 : Int).toNat - (0 : Int).toNat))
theorem Ey {a_0 : List UInt8} {r : (List UInt8)} (hF : DP a_0 = some r) : Az prog KG 79 [(AG [Af 32 a_0])] [] (fun _ => []) (As r) := by
 refine Az.intro 5 func79 rfl ntmps79 (Nat.le_of_ble_eq_true rfl) ?_
 intro c a w hG hn h
 unfold DP at hF
 change Ar c [.slot 0 (AG [Af 32 a_0])] a w at h
 refine Ao mixed hn hG h [502, 501] (ob [0] (BF q0 (Al _)) <| ov [] (Ad (DZ (sc _ (by decide)))) .nil) fun b1 a w h => ?_
 refine Ao mixed hn hG h [500] (ov [0] (Eb (a := 0) (b := 32) underlying33 sizeOf5 q0 rfl rfl (by decide)) <| ov [500, 1] (FV [] [] 1 underlying207 underlying5 underlying9 q0 rfl rfl (by decide) (by decide)) <| ov [500] (Ad q0) .nil) fun _ a w h => ?_
 refine wp_ret ?_
 obtain rfl := Option.some.inj hF
 exact ⟨.inl rfl, BG h results79 (Bc 0 rfl) [] [] rfl rfl rfl⟩

def Ei.b1 (a_0 : Int) (a_1 : Int) (x4 : Int) (x5 : List UInt8) : Option (CR (List UInt8) (Int × (List UInt8))) := (if (decide (x4 < a_1)) = true then (if (0 : Int) ≤ IntKind.wrap .i64 (8 * (IntKind.wrap .i64 ((IntKind.wrap .i64 (a_1 - 1)) - x4))) then (if (0 : Int) ≤ x4 ∧ x4 < 8 then some (.cont (IntKind.wrap .i64 (x4 + 1), x5.set x4.toNat (BA (IntKind.wrap .u8 (shr .u64 a_0 (IntKind.wrap .i64 (8 * (IntKind.wrap .i64 ((IntKind.wrap .i64 (a_1 - 1)) - x4))))))))) else none) else none) else some (.brk (x4, x5)))
def Ei (a_0 : Int) (a_1 : Int) : Option (List UInt8) := ((Bf (fun s : Int × (List UInt8) => Ei.b1 a_0 a_1 s.1 s.2) ((a_1 - 0 : Int).toNat + 2) (0, (List.replicate 8 0))).bind fun cr => match cr with | .ret r => some r | .next (y18, y19) => (if (0 : Int) ≤ 0 ∧ (0 : Int) ≤ a_1 ∧ a_1 ≤ 8 ∧ (0 : Int) < 8 then (if (a_1 : Int).toNat - (0 : Int).toNat ≤ 8 then some (y19.take ((a_1 : Int).toNat - (0 : Int).toNat)) else none) else none))
theorem GO {a_0 : Int} {a_1 : Int} {r : (List UInt8)} (hF : Ei a_0 a_1 = some r) : Az prog KG 114 [(Ab .u64 a_0), (Ab .i64 a_1)] [] (fun _ => []) (As r) := by
 refine Az.intro 25 func114 rfl ntmps114 (Nat.le_of_ble_eq_true rfl) ?_
 intro c a w hG hn h
 unfold Ei at hF
 change Ar c [.slot 0 (Ab .u64 a_0), .slot 1 (Ab .i64 a_1)] a w at h
 refine Ao mixed hn hG h [0, 1] (ov [] (Ad (DZ (sc _ (by decide)))) .nil) fun _ a w h => ?_
 refine Ao mixed hn hG h [0, 1, 501, 500] (ob [] (AJ zeroValue216 PJ) .nil) fun b1 a w h => ?_
 refine wp_seq ?_
 refine Ao mixed hn hG h [0, 1, 2, 501, 500, 3] (ov [1] (Aa q0) <| ov [] (Aa qi) .nil) fun _ a w h => ?_
 refine wp_block ?_
 obtain ⟨cr14, hl15, hF⟩ := bind_some hF
 refine wp_mono (Bw (R := (List UInt8)) (S := Int × (List UInt8)) (fun s a w => Ar c [.slot 0 (Ab .u64 a_0), .slot 1 (Ab .i64 a_1), .slot 5 (Au (b1 0) 0), .slot 7 (Ab .i64 a_1), .slot 8 (Ab .i64 s.1), .res (lb (b1 0) 216 [Af 8 s.2])] a w) (fun res e a w => match res with | .next s => e = .exit 0 ∧ Ar c [.slot 1 (Ab .i64 a_1), .slot 5 (Au (b1 0) 0), .res (lb (b1 0) 216 [Af 8 s.2])] a w | .ret r => e = .ret ∧ CO prog f114 c (As r) (fun _ => []) a w) ?_ _ (0, (List.replicate 8 0)) _ _ _ (h.sub [0, 1, 2, 3, 4, 5] (by rfl)) hl15) ?_
 ·clear hl15 hF h
  intro s a w o h hF
  obtain ⟨x4, x5⟩ := s
  change Ei.b1 a_0 a_1 x4 x5 = some o at hF
  unfold Ei.b1 at hF
  change Ar c [.slot 0 (Ab .u64 a_0), .slot 1 (Ab .i64 a_1), .slot 5 (Au (b1 0) 0), .slot 7 (Ab .i64 a_1), .slot 8 (Ab .i64 x4), .res (lb (b1 0) 216 [Af 8 x5])] a w at h
  refine Ao mixed hn hG h [0, 1, 2, 3, 4, 500, 5] (ov [4, 3] (Ak Bl q0 q1) .nil) fun _ a w h => ?_
  refine wp_seq ?_
  refine DL h hF 5 [0, 1, 2, 3, 4, 6] [0, 1, 2, 3, 4, 6] (fun hb11 hF h => ?_) (fun hb11 hF h => ?_)
  ·refine wp_skip ?_
   show Code.wp prog _ _ a w
   refine wp_seq ?_
   refine wp_block ?_
   refine Ao mixed hn hG h [0, 1, 2, 500, 3, 4, 5] (ov [4] (Aa q0) <| ov [500] (Ad q0) .nil) fun _ a w h => ?_
   obtain ⟨hv12, hF⟩ := Ay hF
   obtain ⟨hv13, hF⟩ := Ay hF
   refine CY mixed hn hG h [0, 1, 2, 4, 5, 500] (ov [3] (Aa q0) <| ov [0] (Aa q0) <| ov [1] (Aa q0) <| ov [500] (Ak CH q0 qi) <| ov [3] (Aa q0) <| ov [501, 500] (Ak CH q0 q1) <| ov [500] (Ak Db qi q0) <| ov [505, 500] (Ak (HZ hv12) q0 q1) <| ov [500] (AW underlying24 underlying5 q0) <| ov [2, 508] (Aw underlying216 sizeOf5 q0 q1 hv13) <| ou [500, 501] 6 (E4 (i := x4) [] [] sizeOf5 q0 q1 rfl hv13) .nil) fun _ a w h => ?_
   show Code.wp prog _ _ a w
   refine CY mixed hn hG h [0, 1, 2, 3, 500, 5] (ov [4] (Ak AY q0 qi) <| od [500] 4 (Aa q0) .nil) fun _ a w h => ?_
   obtain rfl := Option.some.inj hF
   exact ⟨rfl, h.sub [0, 1, 2, 3, 4, 5] (by rfl)⟩
  ·refine wp_exit ?_
   obtain rfl := Option.some.inj hF
   exact ⟨BQ _, rfl, h.sub [1, 2, 5] (by rfl)⟩
 ·clear hl15
  intro e a w hq
  cases cr14 with
  | ret r16 =>
   obtain ⟨rfl, hq⟩ := hq
   obtain rfl := Option.some.inj hF
   exact ⟨.inl rfl, hq⟩
  | next s17 =>
   obtain ⟨y18, y19⟩ := s17
   obtain ⟨rfl, h⟩ := hq
   change Ar c [.slot 1 (Ab .i64 a_1), .slot 5 (Au (b1 0) 0), .res (lb (b1 0) 216 [Af 8 y19])] a w at h
   refine Be ?_
   show Code.wp prog _ _ a w
   obtain ⟨hv20, hF⟩ := Ay hF
   obtain ⟨hv21, hF⟩ := Ay hF
   refine Ao mixed hn hG h [500] (ov [0] (Aa q0) <| ov [1, 500] (Eb (a := 0) (b := a_1) underlying216 sizeOf5 q0 rfl ⟨_, q1⟩ hv20) <| ov [500, 2] (FV [] [] 1 underlying207 underlying5 underlying9 q0 rfl rfl hv21 (by decide)) <| ov [500] (Ad q0) .nil) fun _ a w h => ?_
   refine wp_ret ?_
   obtain rfl := Option.some.inj hF
   exact ⟨.inl rfl, BG h results114 (Bc 0 rfl) [] [] rfl rfl rfl⟩

def DM (a_0 : Int) : Option (List UInt8) := ((Ei (IntKind.wrap .u64 a_0) 4).bind fun r1 => some r1)
theorem EX {a_0 : Int} {r : (List UInt8)} (hF : DM a_0 = some r) : Az prog KG 89 [(Ab .u32 a_0)] [] (fun _ => []) (As r) := by
 refine Az.intro 6 func89 rfl ntmps89 (Nat.le_of_ble_eq_true rfl) ?_
 intro c a w hG hn h
 unfold DM at hF
 change Ar c [.slot 0 (Ab .u32 a_0)] a w at h
 refine Ao mixed hn hG h [0] (ov [] (Ad (DZ (sc _ (by decide)))) .nil) fun _ a w h => ?_
 obtain ⟨r1, hr1, hF⟩ := bind_some hF
 refine Ao mixed hn hG h [500] (ov [0] (Aa q0) <| ov [500] (AW underlying29 underlying24 q0) <| oc [500] [] call114 (GO hr1) ⟨q0, qi, trivial⟩ <| ov [500] (Ad q0) .nil) fun _ a w h => ?_
 refine wp_ret ?_
 obtain rfl := Option.some.inj hF
 exact ⟨.inl rfl, BG h results89 (Bc 0 rfl) [] [] rfl rfl rfl⟩

def Gj (a_0 : Int) : Option (List UInt8) := ((Ei (IntKind.wrap .u64 a_0) 1).bind fun r1 => some r1)
theorem Kj {a_0 : Int} {r : (List UInt8)} (hF : Gj a_0 = some r) : Az prog KG 105 [(Ab .u8 a_0)] [] (fun _ => []) (As r) := by
 refine Az.intro 6 func105 rfl ntmps105 (Nat.le_of_ble_eq_true rfl) ?_
 intro c a w hG hn h
 unfold Gj at hF
 change Ar c [.slot 0 (Ab .u8 a_0)] a w at h
 refine Ao mixed hn hG h [0] (ov [] (Ad (DZ (sc _ (by decide)))) .nil) fun _ a w h => ?_
 obtain ⟨r1, hr1, hF⟩ := bind_some hF
 refine Ao mixed hn hG h [500] (ov [0] (Aa q0) <| ov [500] (AW underlying5 underlying24 q0) <| oc [500] [] call114 (GO hr1) ⟨q0, qi, trivial⟩ <| ov [500] (Ad q0) .nil) fun _ a w h => ?_
 refine wp_ret ?_
 obtain rfl := Option.some.inj hF
 exact ⟨.inl rfl, BG h results105 (Bc 0 rfl) [] [] rfl rfl rfl⟩

def FK (a_0 : Int) : Option (List UInt8) := ((Ei a_0 8).bind fun r1 => some r1)
theorem HE {a_0 : Int} {r : (List UInt8)} (hF : FK a_0 = some r) : Az prog KG 106 [(Ab .u64 a_0)] [] (fun _ => []) (As r) := by
 refine Az.intro 5 func106 rfl ntmps106 (Nat.le_of_ble_eq_true rfl) ?_
 intro c a w hG hn h
 unfold FK at hF
 change Ar c [.slot 0 (Ab .u64 a_0)] a w at h
 refine Ao mixed hn hG h [0] (ov [] (Ad (DZ (sc _ (by decide)))) .nil) fun _ a w h => ?_
 obtain ⟨r1, hr1, hF⟩ := bind_some hF
 refine Ao mixed hn hG h [500] (ov [0] (Aa q0) <| oc [500] [] call114 (GO hr1) ⟨q0, qi, trivial⟩ <| ov [500] (Ad q0) .nil) fun _ a w h => ?_
 refine wp_ret ?_
 obtain rfl := Option.some.inj hF
 exact ⟨.inl rfl, BG h results106 (Bc 0 rfl) [] [] rfl rfl rfl⟩

def Fw (a_0 : AD) : Option (List UInt8) := ((Gj a_0.DF).bind fun r2 => ((DM a_0.BE).bind fun r3 => (if r2.length + r3.length ≤ CG then ((FK a_0.Cl).bind fun r5 => (if (r2 ++ r3).length + r5.length ≤ CG then ((DP a_0.ED).bind fun r7 => (if ((r2 ++ r3) ++ r5).length + r7.length ≤ CG then ((DP a_0.Dq).bind fun r9 => (if (((r2 ++ r3) ++ r5) ++ r7).length + r9.length ≤ CG then ((FK a_0.CJ).bind fun r11 => (if ((((r2 ++ r3) ++ r5) ++ r7) ++ r9).length + r11.length ≤ CG then some (((((r2 ++ r3) ++ r5) ++ r7) ++ r9) ++ r11) else none)) else none)) else none)) else none)) else none)))
theorem Jr {a_0 : AD} {r : (List UInt8)} (hF : Fw a_0 = some r) : Az prog KG 78 [(AG (AD.ck a_0))] [] (fun _ => []) (As r) := by
 refine Az.intro 26 func78 rfl ntmps78 (Nat.le_of_ble_eq_true rfl) ?_
 intro c a w hG hn h
 unfold Fw at hF
 change Ar c [.slot 0 (AG (AD.ck a_0))] a w at h
 refine Ao mixed hn hG h [502, 501] (ob [0] (BF q0 (Al _)) <| ov [] (Ad (DZ (sc _ (by decide)))) .nil) fun b1 a w h => ?_
 obtain ⟨r2, hr2, hF⟩ := bind_some hF
 obtain ⟨r3, hr3, hF⟩ := bind_some hF
 obtain ⟨hv4, hF⟩ := Ay hF
 obtain ⟨r5, hr5, hF⟩ := bind_some hF
 obtain ⟨hv6, hF⟩ := Ay hF
 obtain ⟨r7, hr7, hF⟩ := bind_some hF
 obtain ⟨hv8, hF⟩ := Ay hF
 obtain ⟨r9, hr9, hF⟩ := bind_some hF
 obtain ⟨hv10, hF⟩ := Ay hF
 obtain ⟨r11, hr11, hF⟩ := bind_some hF
 obtain ⟨hv12, hF⟩ := Ay hF
 refine Ao mixed hn hG h [500] (ov [0] (Aj (p := (b1 0)) (n := 1) 0 0 underlying93 rfl sizeOf5 (by decide) q0 rfl) <| ov [500, 1] (AB [] ((AD.ck a_0).drop 1) 1 isAgg5 q0 rfl rfl) <| oc [500] [] call105 (Kj hr2) ⟨q0, trivial⟩ <| ov [0] (Aj (p := (b1 0)) (n := 1) 0 1 underlying93 rfl sizeOf29 (by decide) q0 rfl) <| ov [500, 1] (AB [one (Ab .u8 a_0.DF)] ((AD.ck a_0).drop 2) 1 isAgg29 q0 rfl rfl) <| oc [500] [] call89 (EX hr3) ⟨q0, trivial⟩ <| ov [503, 500] (Ak (Cy hv4) q0 q1) <| ov [0] (Aj (p := (b1 0)) (n := 1) 0 2 underlying93 rfl sizeOf24 (by decide) q0 rfl) <| ov [500, 1] (AB ((AD.ck a_0).take 2) ((AD.ck a_0).drop 3) 1 isAgg24 q0 rfl rfl) <| oc [500] [] call106 (HE hr5) ⟨q0, trivial⟩ <| ov [503, 500] (Ak (Cy hv6) q0 q1) <| ov [0] (Aj (p := (b1 0)) (n := 32) 0 3 underlying93 rfl sizeOf33 (by decide) q0 rfl) <| ov [500, 1] (DB ((AD.ck a_0).take 3) [Af 32 a_0.ED] ((AD.ck a_0).drop 4) 1 isAgg33 sizeOf33 q0 rfl rfl rfl) <| oc [500] [] call79 (Ey hr7) ⟨q0, trivial⟩ <| ov [503, 500] (Ak (Cy hv8) q0 q1) <| ov [0] (Aj (p := (b1 0)) (n := 32) 0 35 underlying93 rfl sizeOf33 (by decide) q0 rfl) <| ov [500, 1] (DB ((AD.ck a_0).take 4) [Af 32 a_0.Dq] [one (Ab .u64 a_0.CJ)] 1 isAgg33 sizeOf33 q0 rfl rfl rfl) <| oc [500] [] call79 (Ey hr9) ⟨q0, trivial⟩ <| ov [503, 500] (Ak (Cy hv10) q0 q1) <| ov [0] (Aj (p := (b1 0)) (n := 1) 0 67 underlying93 rfl sizeOf24 (by decide) q0 rfl) <| ov [500, 1] (AB ((AD.ck a_0).take 5) [] 1 isAgg24 q0 rfl rfl) <| oc [500] [] call106 (HE hr11) ⟨q0, trivial⟩ <| ov [503, 500] (Ak (Cy hv12) q0 q1) <| ov [500] (Ad q0) .nil) fun _ a w h => ?_
 refine wp_ret ?_
 obtain rfl := Option.some.inj hF
 exact ⟨.inl rfl, BG h results78 (Bc 0 rfl) [] [] rfl rfl rfl⟩

def Dt (L_0 : EW) : Option (List UInt8) := (if L_0.Ej ≠ [] then some L_0.Ej else none)
theorem F4 {p_0 : Value} {L_0 : EW} {r : (List UInt8)} (hF : Dt L_0 = some r) : Az prog KG 111 [(Am p_0)] [(EK p_0 (some L_0))] (fun _ => []) (As r) := by
 refine Az.intro 14 func111 rfl ntmps111 (Nat.le_of_ble_eq_true rfl) ?_
 intro c a w hG hn h
 unfold Dt at hF
 change Ar c [.slot 0 (Am p_0), .res (EK p_0 (some L_0))] a w at h
 obtain ⟨h_0_1, h⟩ := h.ex 1 rfl
 change Ar c [.slot 0 (Am p_0), .res (LF p_0 h_0_1 (some L_0))] a w at h
 have hp := h.Hi 1 rfl (fun Φ f w q => L8 Φ f w q)
 replace h := h.B6 0 rfl (V' := Au p_0 0) (fun _ _ h => DG h hp)
 replace h := h.sep (R := lb p_0 222 [one (D2 p_0), one (Am h_0_1)]) (S := (acc h_0_1 5 1 bC L_0.Ej)) 1 rfl
 replace h := h.sub [0, 1, 2] (by rfl)
 change Ar c [.slot 0 (Au p_0 0), .res (lb p_0 222 [one (D2 p_0), one (Am h_0_1)]), .res (acc h_0_1 5 1 bC L_0.Ej)] a w at h
 refine Ao mixed hn hG h [0, 1, 2] (ov [] (Ad (DZ (sc _ (by decide)))) .nil) fun _ a w h => ?_
 obtain ⟨hv1, hF⟩ := Ay hF
 refine Ao mixed hn hG h [500, 1] (ov [0] (Aa q0) <| ov [500] (Bz q0 (DA _ _)) <| ov [500] (Aj (p := p_0) (n := 1) 0 1 underlying222 rfl sizeOf207 (by decide) q0 rfl) <| ov [500, 1] (AB [one (D2 p_0)] [] 1 isAgg207 q0 rfl rfl) <| ov [500, 2] (P6 1 q0 rfl hv1) <| ov [0] (Aa q0) <| ov [500] (Bz q0 (DA _ _)) <| ov [500] (Aj (p := p_0) (n := 1) 0 1 underlying222 rfl sizeOf207 (by decide) q0 rfl) <| ov [500, 1] (AB [one (D2 p_0)] [] 1 isAgg207 q0 rfl rfl) <| ov [500, 2] (A4 underlying207 (NO 0 1 rfl rfl)) <| oe [505, 500] [2] (AV.plain (OR underlying255 (by kernel_rfl) q0 q1 hv1) rfl) <| ov [500] (Ad q0) .nil) fun _ a w h => ?_
 refine wp_ret ?_
 obtain rfl := Option.some.inj hF
 exact ⟨.inl rfl, BG h results111 (Bc 0 rfl) [] [] rfl rfl rfl⟩

def ET (a_0 : List UInt8) : Option (List UInt8) := ((DM (IntKind.wrap .u32 (a_0.length : Int))).bind fun r1 => (if r1.length + a_0.length ≤ CG then some (r1 ++ a_0) else none))
theorem FG {a_0 : List UInt8} {r : (List UInt8)} (hF : ET a_0 = some r) : Az prog KG 117 [(As a_0)] [] (fun _ => []) (As r) := by
 refine Az.intro 9 func117 rfl ntmps117 (Nat.le_of_ble_eq_true rfl) ?_
 intro c a w hG hn h
 unfold ET at hF
 change Ar c [.slot 0 (As a_0)] a w at h
 refine Ao mixed hn hG h [0] (ov [] (Ad (DZ (sc _ (by decide)))) .nil) fun _ a w h => ?_
 obtain ⟨r1, hr1, hF⟩ := bind_some hF
 obtain ⟨hv2, hF⟩ := Ay hF
 refine Ao mixed hn hG h [500] (ov [0] (Aa q0) <| ov [500] (DU underlying9 q0) <| ov [500] (AW underlying3 underlying29 q0) <| oc [500] [] call89 (EX hr1) ⟨q0, trivial⟩ <| ov [0] (Aa q0) <| ov [501, 500] (Ak (Cy hv2) q0 q1) <| ov [500] (Ad q0) .nil) fun _ a w h => ?_
 refine wp_ret ?_
 obtain rfl := Option.some.inj hF
 exact ⟨.inl rfl, BG h results117 (Bc 0 rfl) [] [] rfl rfl rfl⟩

def Da (L_0 : EW) (a_1 : Int) : Option (Value × EW) := (if L_0.Ej.length + [BA a_1].length ≤ CG ∧ (L_0.Ej.length + [BA a_1].length) * 1 ≤ 140737488355328 then some (Value.nilIface, ⟨L_0.Ej ++ [BA a_1]⟩) else none)
theorem FA {p_0 : Value} {L_0 : EW} {a_1 : Int} {r : Value × EW} (hF : Da L_0 a_1 = some r) : Az prog KG 127 [(Am p_0), (Ab .u8 a_1)] [(EK p_0 (some L_0))] (fun _ => [EK p_0 (some r.2)]) (Am r.1) := by
 refine Az.intro 17 func127 rfl ntmps127 (Nat.le_of_ble_eq_true rfl) ?_
 intro c a w hG hn h
 unfold Da at hF
 change Ar c [.slot 0 (Am p_0), .slot 1 (Ab .u8 a_1), .res (EK p_0 (some L_0))] a w at h
 obtain ⟨h_0_1, h⟩ := h.ex 2 rfl
 change Ar c [.slot 0 (Am p_0), .slot 1 (Ab .u8 a_1), .res (LF p_0 h_0_1 (some L_0))] a w at h
 have hp := h.Hi 2 rfl (fun Φ f w q => L8 Φ f w q)
 replace h := h.B6 0 rfl (V' := Au p_0 0) (fun _ _ h => DG h hp)
 replace h := h.sep (R := lb p_0 222 [one (D2 p_0), one (Am h_0_1)]) (S := (acc h_0_1 5 1 bC L_0.Ej)) 2 rfl
 replace h := h.sub [0, 1, 2, 3] (by rfl)
 change Ar c [.slot 0 (Au p_0 0), .slot 1 (Ab .u8 a_1), .res (lb p_0 222 [one (D2 p_0), one (Am h_0_1)]), .res (acc h_0_1 5 1 bC L_0.Ej)] a w at h
 refine Ao mixed hn hG h [0, 1, 2, 3] (ov [] (Ad (DZ (ec _))) .nil) fun _ a w h => ?_
 refine Ao mixed hn hG h [0, 1, 3, 500] (ov [0] (Aa q0) <| oc [500] [2] call132 HX ⟨(Jt 0 rfl), trivial⟩ .nil) fun _ a w h => ?_
 obtain ⟨hv1, hF⟩ := Ay hF
 refine Ao mixed hn hG h [500, 503] (ov [0] (Aa q0) <| ov [0] (Aa q0) <| ov [500] (Bz q0 (DA _ _)) <| ov [500] (Aj (p := p_0) (n := 1) 0 1 underlying222 rfl sizeOf207 (by decide) q0 rfl) <| ov [500, 3] (AB [one (D2 p_0)] [] 1 isAgg207 q0 rfl rfl) <| ov [1] (Aa q0) <| ov [500] (Dn (xs := [.tmp 12]) (ys := [BA a_1]) _ rfl underlying207 sizeOf5 zeroValue5 rfl rfl (by decide) (by decide) ⟨⟨_, q0, (G5 _)⟩, trivial⟩ DQ) <| og [502, 500] [2] [.slot 14 7 100000 (fun v1_ _ => (Am v1_)), .res 7 100000 (fun v1_ _ => (acc (v1_) 5 1 bC (L_0.Ej ++ [BA a_1])))] (AV.plain (DO (i := t5) underlying207 type5 rfl DQ (by decide) rfl q0 q1 hv1) rfl) <| ov [508] (Bz q0 (DA _ _)) <| ov [500] (Aj (p := p_0) (n := 1) 0 1 underlying222 rfl sizeOf207 (by decide) q0 rfl) <| og [500, 503, 502] [3] [.res 7 100000 (fun v1_ _ => (lb p_0 222 [one (D2 p_0), one (Am (v1_))]))] (fun {β} => (AV.plain (B7 [one (D2 p_0)] [one (Am h_0_1)] [] [one (Am ((β 7)))] sizeOf207 q0 (IB 1 2 rfl rfl H0) (Gc _) rfl rfl rfl) rfl)) .nil) fun b2 a w h => ?_
 refine Ao mixed hn hG h [500, 0, 1] (ov [] (Ad (DZ (ec _))) .nil) fun _ a w h => ?_
 refine wp_ret ?_
 replace h := h.EY 1 2 rfl rfl (by decide)
 replace h := h.conv 1 rfl (R' := EK p_0 (some ⟨L_0.Ej ++ [BA a_1]⟩)) (Kh (v1 := (b2 7)) (o := (some ⟨L_0.Ej ++ [BA a_1]⟩)))
 replace h := h.sub [0, 1] (by rfl)
 change Ar c [.slot 4 (Am Value.nilIface), .res (EK p_0 (some ⟨L_0.Ej ++ [BA a_1]⟩))] a w at h
 obtain rfl := Option.some.inj hF
 exact ⟨.inl rfl, BG h results127 (Bc 0 rfl) [1] [(EK p_0 (some ⟨L_0.Ej ++ [BA a_1]⟩))] rfl rfl rfl⟩

def CP (L_0 : EW) (a_1 : List UInt8) : Option (Int × Value × EW) := (if L_0.Ej.length + a_1.length ≤ CG ∧ (L_0.Ej.length + a_1.length) * 1 ≤ 140737488355328 then some ((a_1.length : Int), Value.nilIface, ⟨L_0.Ej ++ a_1⟩) else none)
theorem Fe {p_0 : Value} {L_0 : EW} {a_1 : List UInt8} {r : Int × Value × EW} (hF : CP L_0 a_1 = some r) : Az prog KG 128 [(Am p_0), (As a_1)] [(EK p_0 (some L_0))] (fun _ => [EK p_0 (some r.2.2)]) (CV [(Ab .i64 r.1), (Am r.2.1)]) := by
 refine Az.intro 19 func128 rfl ntmps128 (Nat.le_of_ble_eq_true rfl) ?_
 intro c a w hG hn h
 unfold CP at hF
 change Ar c [.slot 0 (Am p_0), .slot 1 (As a_1), .res (EK p_0 (some L_0))] a w at h
 obtain ⟨h_0_1, h⟩ := h.ex 2 rfl
 change Ar c [.slot 0 (Am p_0), .slot 1 (As a_1), .res (LF p_0 h_0_1 (some L_0))] a w at h
 have hp := h.Hi 2 rfl (fun Φ f w q => L8 Φ f w q)
 replace h := h.B6 0 rfl (V' := Au p_0 0) (fun _ _ h => DG h hp)
 replace h := h.sep (R := lb p_0 222 [one (D2 p_0), one (Am h_0_1)]) (S := (acc h_0_1 5 1 bC L_0.Ej)) 2 rfl
 replace h := h.sub [0, 1, 2, 3] (by rfl)
 change Ar c [.slot 0 (Au p_0 0), .slot 1 (As a_1), .res (lb p_0 222 [one (D2 p_0), one (Am h_0_1)]), .res (acc h_0_1 5 1 bC L_0.Ej)] a w at h
 refine Ao mixed hn hG h [0, 1, 2, 3] (ov [] (Ad qi) <| ov [] (Ad (DZ (ec _))) .nil) fun _ a w h => ?_
 refine Ao mixed hn hG h [0, 1, 3, 500] (ov [0] (Aa q0) <| oc [500] [2] call132 HX ⟨(Jt 0 rfl), trivial⟩ .nil) fun _ a w h => ?_
 obtain ⟨hv1, hF⟩ := Ay hF
 refine Ao mixed hn hG h [1, 500, 503] (ov [0] (Aa q0) <| ov [0] (Aa q0) <| ov [500] (Bz q0 (DA _ _)) <| ov [500] (Aj (p := p_0) (n := 1) 0 1 underlying222 rfl sizeOf207 (by decide) q0 rfl) <| ov [500, 3] (AB [one (D2 p_0)] [] 1 isAgg207 q0 rfl rfl) <| ov [1] (Aa q0) <| og [501, 500] [2] [.slot 14 6 100000 (fun v1_ _ => (Am v1_)), .res 6 100000 (fun v1_ _ => (acc (v1_) 5 1 bC (L_0.Ej ++ a_1)))] (AV.plain (JP underlying207 underlying9 type5 rfl rfl rfl rfl q0 q1 hv1) rfl) <| ov [507] (Bz q0 (DA _ _)) <| ov [500] (Aj (p := p_0) (n := 1) 0 1 underlying222 rfl sizeOf207 (by decide) q0 rfl) <| og [500, 503, 502] [3] [.res 6 100000 (fun v1_ _ => (lb p_0 222 [one (D2 p_0), one (Am (v1_))]))] (fun {β} => (AV.plain (B7 [one (D2 p_0)] [one (Am h_0_1)] [] [one (Am ((β 6)))] sizeOf207 q0 (IB 1 2 rfl rfl H0) (Gc _) rfl rfl rfl) rfl)) .nil) fun b2 a w h => ?_
 refine Ao mixed hn hG h [501, 500, 1, 2] (ov [0] (Aa q0) <| ov [500] (DU underlying9 q0) <| ov [500] (Ad q0) <| ov [] (Ad (DZ (ec _))) .nil) fun _ a w h => ?_
 refine wp_ret ?_
 replace h := h.EY 2 3 rfl rfl (by decide)
 replace h := h.conv 2 rfl (R' := EK p_0 (some ⟨L_0.Ej ++ a_1⟩)) (Kh (v1 := (b2 6)) (o := (some ⟨L_0.Ej ++ a_1⟩)))
 replace h := h.sub [0, 1, 2] (by rfl)
 change Ar c [.slot 4 (Ab .i64 (a_1.length : Int)), .slot 5 (Am Value.nilIface), .res (EK p_0 (some ⟨L_0.Ej ++ a_1⟩))] a w at h
 obtain rfl := Option.some.inj hF
 exact ⟨.inl rfl, Es h (rs := [.tmp 4, .tmp 5]) (Vs := [(Ab .i64 (a_1.length : Int)), (Am Value.nilIface)]) results128 (by decide) ⟨(Bc 0 rfl), (Bc 1 rfl), trivial⟩ [2] [(EK p_0 (some ⟨L_0.Ej ++ a_1⟩))] rfl rfl rfl⟩

def Cn.b1 (a_1 : List (List UInt8)) (x7 : Int) (x8 : EW) : Option (CR (List UInt8) (Int × EW)) := (if (decide (x7 < (a_1.length : Int))) = true then (if (0 : Int) ≤ x7 ∧ x7 < a_1.length then ((ET (a_1.getD x7.toNat default)).bind fun r17 => ((CP x8 r17).bind fun r18 => some (.cont (IntKind.wrap .i64 (x7 + 1), r18.2.2)))) else none) else some (.brk (x7, x8)))
def Cn (a_0 : Int) (a_1 : List (List UInt8)) : Option (List UInt8) := ((Da ⟨[]⟩ a_0).bind fun r2 => ((Bf (fun s : Int × EW => Cn.b1 a_1 s.1 s.2) (((a_1.length : Int) - 0 : Int).toNat + 2) (0, r2.2)).bind fun cr => match cr with | .ret r => some r | .next (y23, y24) => ((Dt y24).bind fun r25 => some r25)))
theorem IW {a_0 : Int} {a_1 : List (List UInt8)} {r : (List UInt8)} (hF : Cn a_0 a_1 = some r) : Az prog KG 107 [(Ab .u8 a_0), (An C9 a_1)] [] (fun _ => []) (As r) := by
 refine Az.intro 21 func107 rfl ntmps107 (Nat.le_of_ble_eq_true rfl) ?_
 intro c a w hG hn h
 unfold Cn at hF
 change Ar c [.slot 0 (Ab .u8 a_0), .slot 1 (An C9 a_1)] a w at h
 refine Ao mixed hn hG h [0, 1] (ov [] (Ad (DZ (sc _ (by decide)))) .nil) fun _ a w h => ?_
 refine Ao mixed hn hG h [0, 1, 501, 500] (ob [] (AJ zeroValue222 QE) .nil) fun b1 a w h => ?_
 replace h := h.conv 3 rfl Pb
 replace h := h.B6 2 rfl (fun _ _ h => DD h)
 replace h := h.sub [0, 1, 2, 3] (by rfl)
 change Ar c [.slot 0 (Ab .u8 a_0), .slot 1 (An C9 a_1), .slot 5 (Am (b1 0)), .res (EK (b1 0) (some ⟨[]⟩))] a w at h
 obtain ⟨r2, hr2, hF⟩ := bind_some hF
 refine Ao mixed hn hG h [1, 2, 500] (ov [0] (Aa q0) <| oc [2, 500] [3] call127 (FA hr2) ⟨q0, q1, trivial⟩ .nil) fun _ a w h => ?_
 refine wp_seq ?_
 refine Ao mixed hn hG h [1, 502, 501, 500, 2] (ov [0] (Aa q0) <| ov [500] (A4 underlying22 q0) <| ov [] (Aa qi) .nil) fun _ a w h => ?_
 refine wp_block ?_
 obtain ⟨cr19, hl20, hF⟩ := bind_some hF
 refine wp_mono (Bw (R := (List UInt8)) (S := Int × EW) (fun s a w => Ar c [.slot 5 (Am (b1 0)), .slot 10 (An C9 a_1), .slot 11 (Ab .i64 (a_1.length : Int)), .slot 12 (Ab .i64 s.1), .res (EK (b1 0) (some s.2))] a w) (fun res e a w => match res with | .next s => e = .exit 0 ∧ Ar c [.slot 5 (Am (b1 0)), .res (EK (b1 0) (some s.2))] a w | .ret r => e = .ret ∧ CO prog f107 c (As r) (fun _ => []) a w) ?_ _ (0, r2.2) _ _ _ (h.sub [0, 1, 2, 3, 4] (by rfl)) hl20) ?_
 ·clear hl20 hF h
  intro s a w o h hF
  obtain ⟨x7, x8⟩ := s
  change Cn.b1 a_1 x7 x8 = some o at hF
  unfold Cn.b1 at hF
  change Ar c [.slot 5 (Am (b1 0)), .slot 10 (An C9 a_1), .slot 11 (Ab .i64 (a_1.length : Int)), .slot 12 (Ab .i64 x7), .res (EK (b1 0) (some x8))] a w at h
  refine Ao mixed hn hG h [0, 1, 2, 3, 500, 4] (ov [3, 2] (Ak Bl q0 q1) .nil) fun _ a w h => ?_
  refine wp_seq ?_
  refine DL h hF 4 [0, 1, 2, 3, 5] [0, 1, 2, 3, 5] (fun hb15 hF h => ?_) (fun hb15 hF h => ?_)
  ·refine wp_skip ?_
   show Code.wp prog _ _ a w
   refine wp_seq ?_
   refine wp_block ?_
   obtain ⟨hv16, hF⟩ := Ay hF
   refine Ao mixed hn hG h [0, 500, 1, 2, 3, 4] (ov [1, 3] (AL underlying22 sizeOf9 C5 q0 q1 hv16) <| ov [500] (BH [] isAgg9 q0) <| ov [500] (Ad q0) .nil) fun _ a w h => ?_
   obtain ⟨r17, hr17, hF⟩ := bind_some hF
   obtain ⟨r18, hr18, hF⟩ := bind_some hF
   refine CY mixed hn hG h [0, 2, 3, 4, 500] (ov [1] (Aa q0) <| oc [500] [] call117 (FG hr17) ⟨q0, trivial⟩ <| oc [0, 500] [5] call128 (Fe hr18) ⟨q0, q1, trivial⟩ .nil) fun _ a w h => ?_
   show Code.wp prog _ _ a w
   refine CY mixed hn hG h [0, 1, 2, 500, 4] (ov [3] (Ak AY q0 qi) <| od [500] 3 (Aa q0) .nil) fun _ a w h => ?_
   obtain rfl := Option.some.inj hF
   exact ⟨rfl, h.sub [0, 1, 2, 3, 4] (by rfl)⟩
  ·refine wp_exit ?_
   obtain rfl := Option.some.inj hF
   exact ⟨BQ _, rfl, h.sub [0, 4] (by rfl)⟩
 ·clear hl20
  intro e a w hq
  cases cr19 with
  | ret r21 =>
   obtain ⟨rfl, hq⟩ := hq
   obtain rfl := Option.some.inj hF
   exact ⟨.inl rfl, hq⟩
  | next s22 =>
   obtain ⟨y23, y24⟩ := s22
   obtain ⟨rfl, h⟩ := hq
   change Ar c [.slot 5 (Am (b1 0)), .res (EK (b1 0) (some y24))] a w at h
   refine Be ?_
   show Code.wp prog _ _ a w
   obtain ⟨r25, hr25, hF⟩ := bind_some hF
   refine Ao mixed hn hG h [500] (oc [0] [1] call111 (F4 hr25) ⟨q0, trivial⟩ <| ov [500] (Ad q0) .nil) fun _ a w h => ?_
   refine wp_ret ?_
   obtain rfl := Option.some.inj hF
   exact ⟨.inl rfl, BG h results107 (Bc 0 rfl) [] [] rfl rfl rfl⟩

def Gl : Option AF := some (AF.mk E7 [] (0 : Int))
theorem Km {r : AF} (hF : Gl = some r) : Az prog KG 129 [] [] (fun _ => []) (AG (AF.ck r)) := by
 refine Az.intro 3 func129 rfl ntmps129 (Nat.le_of_ble_eq_true rfl) ?_
 intro c a w hG hn h
 unfold Gl at hF
 change Ar c [] a w at h
 refine Ao mixed hn hG h [501, 500] (ob [] (AJ zeroValue247 Ot) .nil) fun b1 a w h => ?_
 refine Ao mixed hn hG h [0, 500] (ov [] (BM [AI .u32 8 E7] [] isAgg208 sizeOf208 (RM (fun Φ h => h.1)) rfl) <| ov [500] (Dc [(0, .tmp 1)] rfl Q6 Ot ⟨[], [AI .u32 8 (List.replicate 8 0)], [one (As []), one (Ab .u64 (0 : Int))], [AI .u32 8 E7], _, rfl, rfl, rfl, q0, (Al _), rfl⟩) <| ou [0, 500] 1 (Aq sizeOf247 q0 q1 (Al _)) .nil) fun _ a w h => ?_
 refine wp_ret ?_
 obtain rfl := Option.some.inj hF
 exact ⟨.inl rfl, BG h results129 (Bs 0 1 rfl rfl isAgg247 sizeOf247 rfl) [] [] rfl rfl rfl⟩

def A2 (a_0 : Int) (a_1 : Int) : Option Int := some (bits .or .u32 (shl .u32 a_0 (bits .and .u64 (IntKind.wrap .u64 a_1) 31)) (shr .u32 a_0 (IntKind.wrap .u64 (32 - (bits .and .u64 (IntKind.wrap .u64 a_1) 31)))))
theorem BJ {a_0 : Int} {a_1 : Int} {r : Int} (hF : A2 a_0 a_1 = some r) : Az prog KG 144 [(Ab .u32 a_0), (Ab .i64 a_1)] [] (fun _ => []) (Ab .u32 r) := by
 refine Az.intro 17 func144 rfl ntmps144 (Nat.le_of_ble_eq_true rfl) ?_
 intro c a w hG hn h
 unfold A2 at hF
 change Ar c [.slot 0 (Ab .u32 a_0), .slot 1 (Ab .i64 a_1)] a w at h
 refine Ao mixed hn hG h [0, 1] (ov [] (Ad qi) .nil) fun _ a w h => ?_
 refine Ao mixed hn hG h [0, 500] (ov [1] (Aa q0) <| ov [500] (AW underlying3 underlying67 q0) <| ov [500] (Ak ER q0 qi) <| ov [500] (Ad q0) .nil) fun _ a w h => ?_
 refine Ao mixed hn hG h [500] (ov [0] (Aa q0) <| ov [1] (Aa q0) <| ov [501, 500] (Ak (Gr rfl) q0 q1) <| ov [0] (Aa q0) <| ov [1] (Aa q0) <| ov [500] (Ak CH qi q0) <| ov [502, 500] (Ak (Fz rfl) q0 q1) <| ov [504, 500] (Ak It q0 q1) <| ov [500] (Ad q0) .nil) fun _ a w h => ?_
 refine wp_ret ?_
 obtain rfl := Option.some.inj hF
 exact ⟨.inl rfl, BG h results144 (Bc 0 rfl) [] [] rfl rfl rfl⟩

def Bp.b1 (a_0 : List UInt8) (x18 : Int) (x19 : List Int) : Option (CR (List Int) (Int × (List Int))) := (if (decide (x18 < (64 : Int))) = true then (if (decide (x18 < (16 : Int))) = true then (if (0 : Int) ≤ IntKind.wrap .i64 (4 * x18) ∧ IntKind.wrap .i64 (4 * x18) ≤ IntKind.wrap .i64 ((IntKind.wrap .i64 (4 * x18)) + 4) ∧ IntKind.wrap .i64 ((IntKind.wrap .i64 (4 * x18)) + 4) ≤ a_0.length then (if (0 : Int) ≤ 0 ∧ (0 : Int) < ((a_0.take (IntKind.wrap .i64 ((IntKind.wrap .i64 (4 * x18)) + 4)).toNat).drop (IntKind.wrap .i64 (4 * x18)).toNat).length then (if (0 : Int) ≤ 1 ∧ (1 : Int) < ((a_0.take (IntKind.wrap .i64 ((IntKind.wrap .i64 (4 * x18)) + 4)).toNat).drop (IntKind.wrap .i64 (4 * x18)).toNat).length then (if (0 : Int) ≤ 2 ∧ (2 : Int) < ((a_0.take (IntKind.wrap .i64 ((IntKind.wrap .i64 (4 * x18)) + 4)).toNat).drop (IntKind.wrap .i64 (4 * x18)).toNat).length then (if (0 : Int) ≤ 3 ∧ (3 : Int) < ((a_0.take (IntKind.wrap .i64 ((IntKind.wrap .i64 (4 * x18)) + 4)).toNat).drop (IntKind.wrap .i64 (4 * x18)).toNat).length then (if (0 : Int) ≤ x18 ∧ x18 < 64 then some (.cont (IntKind.wrap .i64 (x18 + 1), x19.set x18.toNat (bits .or .u32 (bits .or .u32 (bits .or .u32 (shl .u32 (IntKind.wrap .u32 ((((a_0.take (IntKind.wrap .i64 ((IntKind.wrap .i64 (4 * x18)) + 4)).toNat).drop (IntKind.wrap .i64 (4 * x18)).toNat).getD (0 : Int).toNat 0).toNat)) 24) (shl .u32 (IntKind.wrap .u32 ((((a_0.take (IntKind.wrap .i64 ((IntKind.wrap .i64 (4 * x18)) + 4)).toNat).drop (IntKind.wrap .i64 (4 * x18)).toNat).getD (1 : Int).toNat 0).toNat)) 16)) (shl .u32 (IntKind.wrap .u32 ((((a_0.take (IntKind.wrap .i64 ((IntKind.wrap .i64 (4 * x18)) + 4)).toNat).drop (IntKind.wrap .i64 (4 * x18)).toNat).getD (2 : Int).toNat 0).toNat)) 8)) (IntKind.wrap .u32 ((((a_0.take (IntKind.wrap .i64 ((IntKind.wrap .i64 (4 * x18)) + 4)).toNat).drop (IntKind.wrap .i64 (4 * x18)).toNat).getD (3 : Int).toNat 0).toNat))))) else none) else none) else none) else none) else none) else none) else (if (0 : Int) ≤ IntKind.wrap .i64 (x18 - 15) ∧ IntKind.wrap .i64 (x18 - 15) < 64 then (if (0 : Int) ≤ IntKind.wrap .i64 (x18 - 2) ∧ IntKind.wrap .i64 (x18 - 2) < 64 then ((A2 (x19.getD (IntKind.wrap .i64 (x18 - 15)).toNat 0) (-7 : Int)).bind fun r49 => ((A2 (x19.getD (IntKind.wrap .i64 (x18 - 15)).toNat 0) (-18 : Int)).bind fun r50 => ((A2 (x19.getD (IntKind.wrap .i64 (x18 - 2)).toNat 0) (-17 : Int)).bind fun r51 => ((A2 (x19.getD (IntKind.wrap .i64 (x18 - 2)).toNat 0) (-19 : Int)).bind fun r52 => (if (0 : Int) ≤ IntKind.wrap .i64 (x18 - 16) ∧ IntKind.wrap .i64 (x18 - 16) < 64 then (if (0 : Int) ≤ IntKind.wrap .i64 (x18 - 7) ∧ IntKind.wrap .i64 (x18 - 7) < 64 then (if (0 : Int) ≤ x18 ∧ x18 < 64 then some (.cont (IntKind.wrap .i64 (x18 + 1), x19.set x18.toNat (IntKind.wrap .u32 ((IntKind.wrap .u32 ((IntKind.wrap .u32 ((x19.getD (IntKind.wrap .i64 (x18 - 16)).toNat 0) + (bits .xor .u32 (bits .xor .u32 r49 r50) (shr .u32 (x19.getD (IntKind.wrap .i64 (x18 - 15)).toNat 0) 3)))) + (x19.getD (IntKind.wrap .i64 (x18 - 7)).toNat 0))) + (bits .xor .u32 (bits .xor .u32 r51 r52) (shr .u32 (x19.getD (IntKind.wrap .i64 (x18 - 2)).toNat 0) 10)))))) else none) else none) else none))))) else none) else none)) else some (.brk (x18, x19)))
def Bp (a_0 : List UInt8) : Option (List Int) := ((Bf (fun s : Int × (List Int) => Bp.b1 a_0 s.1 s.2) ((64 - 0 : Int).toNat + 2) (0, (List.replicate 64 0))).bind fun cr => match cr with | .ret r => some r | .next (y60, y61) => some y61)
theorem IJ {a_0 : List UInt8} {r : (List Int)} (hF : Bp a_0 = some r) : Az prog KG 143 [(As a_0)] [] (fun _ => []) (AG [AI .u32 64 r]) := by
 refine Az.intro 83 func143 rfl ntmps143 (Nat.le_of_ble_eq_true rfl) ?_
 intro c a w hG hn h
 unfold Bp at hF
 change Ar c [.slot 0 (As a_0)] a w at h
 refine Ao mixed hn hG h [0, 501, 500] (ob [] (AJ zeroValue262 MC) .nil) fun b1 a w h => ?_
 refine Ao mixed hn hG h [0, 1, 501, 2, 500] (ob [] (AJ zeroValue262 MC) .nil) fun b2 a w h => ?_
 refine wp_seq ?_
 refine Ao mixed hn hG h [0, 1, 2, 500, 3, 4] (ov [] (Aa qi) .nil) fun _ a w h => ?_
 refine wp_block ?_
 obtain ⟨cr56, hl57, hF⟩ := bind_some hF
 refine wp_mono (Bw (R := (List Int)) (S := Int × (List Int)) (fun s a w => Ar c [.slot 0 (As a_0), .slot 2 (Au (b1 0) 0), .slot 3 (Au (b2 0) 0), .slot 10 (Ab .i64 s.1), .res (lb (b1 0) 262 [AI .u32 64 (List.replicate 64 0)]), .res (lb (b2 0) 262 [AI .u32 64 s.2])] a w) (fun res e a w => match res with | .next s => e = .exit 0 ∧ Ar c [.slot 2 (Au (b1 0) 0), .slot 3 (Au (b2 0) 0), .res (lb (b1 0) 262 [AI .u32 64 (List.replicate 64 0)]), .res (lb (b2 0) 262 [AI .u32 64 s.2])] a w | .ret r => e = .ret ∧ CO prog f143 c (AG [AI .u32 64 r]) (fun _ => []) a w) ?_ _ (0, (List.replicate 64 0)) _ _ _ (h.sub [0, 1, 2, 3, 4, 5] (by rfl)) hl57) ?_
 ·clear hl57 hF h
  intro s a w o h hF
  obtain ⟨x18, x19⟩ := s
  change Bp.b1 a_0 x18 x19 = some o at hF
  unfold Bp.b1 at hF
  change Ar c [.slot 0 (As a_0), .slot 2 (Au (b1 0) 0), .slot 3 (Au (b2 0) 0), .slot 10 (Ab .i64 x18), .res (lb (b1 0) 262 [AI .u32 64 (List.replicate 64 0)]), .res (lb (b2 0) 262 [AI .u32 64 x19])] a w at h
  refine Ao mixed hn hG h [0, 1, 2, 3, 500, 4, 5] (ov [3] (Ak Bl q0 qi) .nil) fun _ a w h => ?_
  refine wp_seq ?_
  refine DL h hF 4 [0, 1, 2, 3, 5, 6] [0, 1, 2, 3, 5, 6] (fun hb39 hF h => ?_) (fun hb39 hF h => ?_)
  ·refine wp_skip ?_
   show Code.wp prog _ _ a w
   refine wp_seq ?_
   refine wp_block ?_
   refine Ao mixed hn hG h [0, 1, 2, 500, 3, 4, 5] (ov [3] (Aa q0) <| ov [500] (Ad q0) .nil) fun _ a w h => ?_
   refine wp_seq ?_
   refine Ao mixed hn hG h [0, 1, 2, 3, 4, 500, 5, 6] (ov [3] (Aa q0) <| ov [500] (Ak Bl q0 qi) .nil) fun _ a w h => ?_
   refine DL h hF 5 [0, 1, 2, 3, 4, 6, 7] [0, 1, 2, 3, 4, 6, 7] (fun hb40 hF h => ?_) (fun hb40 hF h => ?_)
   ·obtain ⟨hv41, hF⟩ := Ay hF
    refine Ao mixed hn hG h [0, 1, 2, 3, 500, 4, 5, 6] (ov [0] (Aa q0) <| ov [3] (Aa q0) <| ov [500] (Ak Db qi q0) <| ov [3] (Aa q0) <| ov [500] (Ak Db qi q0) <| ov [500] (Ak AY q0 qi) <| ov [505, 503, 500] (E5 (a := IntKind.wrap .i64 (4 * x18)) (b := IntKind.wrap .i64 ((IntKind.wrap .i64 (4 * x18)) + 4)) underlying9 q0 ⟨_, q1⟩ ⟨_, q2⟩ hv41) <| ov [500] (Ad q0) .nil) fun _ a w h => ?_
    obtain ⟨hv42, hF⟩ := Ay hF
    obtain ⟨hv43, hF⟩ := Ay hF
    obtain ⟨hv44, hF⟩ := Ay hF
    obtain ⟨hv45, hF⟩ := Ay hF
    obtain ⟨hv46, hF⟩ := Ay hF
    refine Ao mixed hn hG h [0, 1, 2, 5, 6, 500] (ov [3] (Aa q0) <| ov [4] (Aa q0) <| ov [500] (FI underlying9 q0 qi hv42) <| ov [500] (AW underlying5 underlying29 q0) <| ov [500] (Ak (Gr rfl) q0 qi) <| ov [4] (Aa q0) <| ov [500] (FI underlying9 q0 qi hv43) <| ov [500] (AW underlying5 underlying29 q0) <| ov [500] (Ak (Gr rfl) q0 qi) <| ov [504, 500] (Ak It q0 q1) <| ov [4] (Aa q0) <| ov [500] (FI underlying9 q0 qi hv44) <| ov [500] (AW underlying5 underlying29 q0) <| ov [500] (Ak (Gr rfl) q0 qi) <| ov [504, 500] (Ak It q0 q1) <| ov [4] (Aa q0) <| ov [500] (FI underlying9 q0 qi hv45) <| ov [500] (AW underlying5 underlying29 q0) <| ov [503, 500] (Ak It q0 q1) <| ov [2, 518] (Aw underlying262 sizeOf29 q0 q1 hv46) <| ou [500, 501] 7 (Eg (i := x18) [] [] sizeOf29 q0 q1 rfl hv46) .nil) fun _ a w h => ?_
    refine wp_exit ?_
    show Code.wp prog _ _ a w
    refine CY mixed hn hG h [0, 1, 2, 500, 4, 5] (ov [3] (Ak AY q0 qi) <| od [500] 3 (Aa q0) .nil) fun _ a w h => ?_
    obtain rfl := Option.some.inj hF
    exact ⟨rfl, h.sub [0, 1, 2, 3, 4, 5] (by rfl)⟩
   ·refine wp_skip ?_
    show Code.wp prog _ _ a w
    obtain ⟨hv47, hF⟩ := Ay hF
    obtain ⟨hv48, hF⟩ := Ay hF
    refine Ao mixed hn hG h [0, 1, 2, 3, 501, 500, 4, 5, 6] (ov [3] (Aa q0) <| ov [500] (Ak CH q0 qi) <| ov [2, 500] (Aw underlying262 sizeOf29 q0 q1 hv47) <| ov [500, 6] (AX (i := IntKind.wrap .i64 (x18 - 15)) [] [] 1 isAgg29 q0 rfl rfl hv47) <| ov [3] (Aa q0) <| ov [500] (Ak CH q0 qi) <| ov [2, 500] (Aw underlying262 sizeOf29 q0 q1 hv48) <| ov [500, 6] (AX (i := IntKind.wrap .i64 (x18 - 2)) [] [] 1 isAgg29 q0 rfl rfl hv48) <| ov [504] (Ad q0) <| ov [501] (Ad q0) .nil) fun _ a w h => ?_
    obtain ⟨r49, hr49, hF⟩ := bind_some hF
    obtain ⟨r50, hr50, hF⟩ := bind_some hF
    refine Ao mixed hn hG h [0, 1, 2, 3, 5, 500, 6, 7, 8] (ov [4] (Aa q0) <| oc [500] [] call144 (BJ hr49) ⟨q0, qi, trivial⟩ <| ov [4] (Aa q0) <| oc [500] [] call144 (BJ hr50) ⟨q0, qi, trivial⟩ <| ov [502, 500] (Ak CQ q0 q1) <| ov [4] (Aa q0) <| ov [500] (Ak (Fz rfl) q0 qi) <| ov [502, 500] (Ak CQ q0 q1) <| ov [500] (Ad q0) .nil) fun _ a w h => ?_
    obtain ⟨r51, hr51, hF⟩ := bind_some hF
    obtain ⟨r52, hr52, hF⟩ := bind_some hF
    refine Ao mixed hn hG h [0, 1, 2, 3, 5, 500, 6, 7, 8] (ov [4] (Aa q0) <| oc [500] [] call144 (BJ hr51) ⟨q0, qi, trivial⟩ <| ov [4] (Aa q0) <| oc [500] [] call144 (BJ hr52) ⟨q0, qi, trivial⟩ <| ov [502, 500] (Ak CQ q0 q1) <| ov [4] (Aa q0) <| ov [500] (Ak (Fz rfl) q0 qi) <| ov [502, 500] (Ak CQ q0 q1) <| ov [500] (Ad q0) .nil) fun _ a w h => ?_
    obtain ⟨hv53, hF⟩ := Ay hF
    obtain ⟨hv54, hF⟩ := Ay hF
    obtain ⟨hv55, hF⟩ := Ay hF
    refine CY mixed hn hG h [0, 1, 2, 6, 7, 500] (ov [3] (Aa q0) <| ov [3] (Aa q0) <| ov [500] (Ak CH q0 qi) <| ov [2, 500] (Aw underlying262 sizeOf29 q0 q1 hv53) <| ov [500, 8] (AX (i := IntKind.wrap .i64 (x18 - 16)) [] [] 1 isAgg29 q0 rfl rfl hv53) <| ov [4] (Aa q0) <| ov [501, 500] (Ak AY q0 q1) <| ov [3] (Aa q0) <| ov [500] (Ak CH q0 qi) <| ov [2, 500] (Aw underlying262 sizeOf29 q0 q1 hv54) <| ov [500, 8] (AX (i := IntKind.wrap .i64 (x18 - 7)) [] [] 1 isAgg29 q0 rfl rfl hv54) <| ov [504, 500] (Ak AY q0 q1) <| ov [5] (Aa q0) <| ov [501, 500] (Ak AY q0 q1) <| ov [2, 513] (Aw underlying262 sizeOf29 q0 q1 hv55) <| ou [500, 501] 8 (Eg (i := x18) [] [] sizeOf29 q0 q1 rfl hv55) .nil) fun _ a w h => ?_
    show Code.wp prog _ _ a w
    refine CY mixed hn hG h [0, 1, 2, 500, 4, 5] (ov [3] (Ak AY q0 qi) <| od [500] 3 (Aa q0) .nil) fun _ a w h => ?_
    obtain rfl := Option.some.inj hF
    exact ⟨rfl, h.sub [0, 1, 2, 3, 4, 5] (by rfl)⟩
  ·refine wp_exit ?_
   obtain rfl := Option.some.inj hF
   exact ⟨BQ _, rfl, h.sub [1, 2, 4, 5] (by rfl)⟩
 ·clear hl57
  intro e a w hq
  cases cr56 with
  | ret r58 =>
   obtain ⟨rfl, hq⟩ := hq
   obtain rfl := Option.some.inj hF
   exact ⟨.inl rfl, hq⟩
  | next s59 =>
   obtain ⟨y60, y61⟩ := s59
   obtain ⟨rfl, h⟩ := hq
   change Ar c [.slot 2 (Au (b1 0) 0), .slot 3 (Au (b2 0) 0), .res (lb (b1 0) 262 [AI .u32 64 (List.replicate 64 0)]), .res (lb (b2 0) 262 [AI .u32 64 y61])] a w at h
   refine Be ?_
   show Code.wp prog _ _ a w
   refine Ao mixed hn hG h [0, 500] (ov [1, 3] (AA 1 isAgg262 sizeOf262 q0) <| ou [0, 500] 2 (Aq sizeOf262 q0 q1 (Al _)) .nil) fun _ a w h => ?_
   refine wp_ret ?_
   obtain rfl := Option.some.inj hF
   exact ⟨.inl rfl, BG h results143 (Bs 0 1 rfl rfl isAgg262 sizeOf262 rfl) [] [] rfl rfl rfl⟩

def Bi.b1 (r4 : (List Int)) (x14 : Int) (x15 : List Int) : Option (CR (List Int) (Int × (List Int))) := (if (decide (x14 < (64 : Int))) = true then ((A2 (x15.getD (4 : Int).toNat 0) (-6 : Int)).bind fun r27 => ((A2 (x15.getD (4 : Int).toNat 0) (-11 : Int)).bind fun r28 => ((A2 (x15.getD (4 : Int).toNat 0) (-25 : Int)).bind fun r29 => (if (0 : Int) ≤ x14 ∧ x14 < 64 then ((A2 (x15.getD (0 : Int).toNat 0) (-2 : Int)).bind fun r31 => ((A2 (x15.getD (0 : Int).toNat 0) (-13 : Int)).bind fun r32 => ((A2 (x15.getD (0 : Int).toNat 0) (-22 : Int)).bind fun r33 => some (.cont (IntKind.wrap .i64 (x14 + 1), ((x15.take (1 : Int).toNat ++ (x15.drop (0 : Int).toNat).take (min ((7 : Int).toNat - (0 : Int).toNat) ((8 : Int).toNat - (1 : Int).toNat)) ++ x15.drop ((1 : Int).toNat + (min ((7 : Int).toNat - (0 : Int).toNat) ((8 : Int).toNat - (1 : Int).toNat)))).set (4 : Int).toNat (IntKind.wrap .u32 (((x15.take (1 : Int).toNat ++ (x15.drop (0 : Int).toNat).take (min ((7 : Int).toNat - (0 : Int).toNat) ((8 : Int).toNat - (1 : Int).toNat)) ++ x15.drop ((1 : Int).toNat + (min ((7 : Int).toNat - (0 : Int).toNat) ((8 : Int).toNat - (1 : Int).toNat)))).getD (4 : Int).toNat 0) + (IntKind.wrap .u32 ((IntKind.wrap .u32 ((IntKind.wrap .u32 ((IntKind.wrap .u32 ((x15.getD (7 : Int).toNat 0) + (bits .xor .u32 (bits .xor .u32 r27 r28) r29))) + (bits .xor .u32 (bits .and .u32 (x15.getD (4 : Int).toNat 0) (x15.getD (5 : Int).toNat 0)) (bits .and .u32 (NZ .u32 (x15.getD (4 : Int).toNat 0)) (x15.getD (6 : Int).toNat 0))))) + (F2.getD x14.toNat 0))) + (r4.getD x14.toNat 0)))))).set (0 : Int).toNat (IntKind.wrap .u32 ((IntKind.wrap .u32 ((IntKind.wrap .u32 ((IntKind.wrap .u32 ((IntKind.wrap .u32 ((IntKind.wrap .u32 ((x15.getD (7 : Int).toNat 0) + (bits .xor .u32 (bits .xor .u32 r27 r28) r29))) + (bits .xor .u32 (bits .and .u32 (x15.getD (4 : Int).toNat 0) (x15.getD (5 : Int).toNat 0)) (bits .and .u32 (NZ .u32 (x15.getD (4 : Int).toNat 0)) (x15.getD (6 : Int).toNat 0))))) + (F2.getD x14.toNat 0))) + (r4.getD x14.toNat 0))) + (bits .xor .u32 (bits .xor .u32 r31 r32) r33))) + (bits .xor .u32 (bits .xor .u32 (bits .and .u32 (x15.getD (0 : Int).toNat 0) (x15.getD (1 : Int).toNat 0)) (bits .and .u32 (x15.getD (0 : Int).toNat 0) (x15.getD (2 : Int).toNat 0))) (bits .and .u32 (x15.getD (1 : Int).toNat 0) (x15.getD (2 : Int).toNat 0)))))))))) else none)))) else some (.brk (x14, x15)))
def Bi.b2 (a_0 : List Int) (x41 : Int) (x42 : List Int) : Option (CR (List Int) (Int × (List Int))) := (if (decide (x41 < (8 : Int))) = true then (if (0 : Int) ≤ x41 ∧ x41 < 8 then some (.cont (IntKind.wrap .i64 (x41 + 1), x42.set x41.toNat (IntKind.wrap .u32 ((x42.getD x41.toNat 0) + (a_0.getD x41.toNat 0))))) else none) else some (.brk (x41, x42)))
def Bi (a_0 : List Int) (a_1 : List UInt8) : Option (List Int) := (if (!decide ((a_1.length : Int) = (64 : Int))) = true then some a_0 else ((Bp a_1).bind fun r4 => ((Bf (fun s : Int × (List Int) => Bi.b1 r4 s.1 s.2) ((64 - 0 : Int).toNat + 2) (0, a_0)).bind fun cr => match cr with | .ret r => some r | .next (y38, y39) => ((Bf (fun s : Int × (List Int) => Bi.b2 a_0 s.1 s.2) ((8 - 0 : Int).toNat + 2) (0, y39)).bind fun cr => match cr with | .ret r => some r | .next (y53, y54) => some y54))))
theorem Kl {a_0 : List Int} {a_1 : List UInt8} {r : (List Int)} (hF : Bi a_0 a_1 = some r) : Az prog KG 140 [(AG [AI .u32 8 a_0]), (As a_1)] [] (fun _ => []) (AG [AI .u32 8 r]) := by
 refine Az.intro 113 func140 rfl ntmps140 (Nat.le_of_ble_eq_true rfl) ?_
 intro c a w hG hn h
 unfold Bi at hF
 change Ar c [.slot 0 (AG [AI .u32 8 a_0]), .slot 1 (As a_1)] a w at h
 refine Ao mixed hn hG h [1, 503, 501, 502, 500] (ob [0] (BF q0 (Al _)) <| ob [] (AJ zeroValue208 z208) .nil) fun b1 a w h => ?_
 refine wp_seq ?_
 refine Ao mixed hn hG h [0, 1, 2, 500, 3, 4] (ov [0] (Aa q0) <| ov [500] (DU underlying9 q0) <| ov [500] (Ak C2 q0 qi) .nil) fun _ a w h => ?_
 refine DL h hF 3 [1, 2, 4, 5] [0, 1, 2, 4, 5] (fun hb3 hF h => ?_) (fun hb3 hF h => ?_)
 ·refine Ao mixed hn hG h [1, 500] (ov [0, 2] (AA 1 isAgg208 sizeOf208 q0) <| ou [1, 500] 3 (Aq sizeOf208 q0 q1 (Al _)) .nil) fun _ a w h => ?_
  refine wp_ret ?_
  obtain rfl := Option.some.inj hF
  exact ⟨.inl rfl, BG h results140 (Bs 0 1 rfl rfl isAgg208 sizeOf208 rfl) [] [] rfl rfl rfl⟩
 ·refine wp_skip ?_
  show Code.wp prog _ _ a w
  obtain ⟨r4, hr4, hF⟩ := bind_some hF
  refine Ao mixed hn hG h [1, 2, 502, 3, 4, 500] (ov [0] (Aa q0) <| oc [500] [] call143 (IJ hr4) ⟨q0, trivial⟩ <| ob [] (AJ zeroValue262 MC) <| og [501, 502] [500] [.res 2 100000 (fun v1_ _ => (lb (v1_) 262 [AI .u32 64 r4]))] (AV.plain (Aq sizeOf262 q0 q1 (Al _)) rfl) .nil) fun b5 a w h => ?_
  refine Ao mixed hn hG h [0, 1, 2, 502, 3, 4, 5, 500] (ov [0, 3] (AA 1 isAgg208 sizeOf208 q0) <| ob [] (AJ zeroValue208 z208) <| og [501, 502] [500] [.res 1 100000 (fun v1_ _ => (lb (v1_) 208 [AI .u32 8 a_0]))] (AV.plain (Aq sizeOf208 q0 q1 (Al _)) rfl) .nil) fun b6 a w h => ?_
  refine wp_seq ?_
  refine Ao mixed hn hG h [0, 1, 2, 3, 500, 4, 5, 6, 7] (ov [] (Aa qi) .nil) fun _ a w h => ?_
  refine wp_block ?_
  obtain ⟨cr34, hl35, hF⟩ := bind_some hF
  refine wp_mono (Bw (R := (List Int)) (S := Int × (List Int)) (fun s a w => Ar c [.slot 2 (Au (b1 0) 0), .slot 4 (Au (b1 1) 0), .slot 5 (Au (b5 2) 0), .slot 6 (Au (b6 1) 0), .slot 23 (Ab .i64 s.1), .res (lb (b1 0) 208 [AI .u32 8 a_0]), .res (lb (b1 1) 208 [AI .u32 8 (List.replicate 8 0)]), .res (lb (b5 2) 262 [AI .u32 64 r4]), .res (lb (b6 1) 208 [AI .u32 8 s.2])] a w) (fun res e a w => match res with | .next s => e = .exit 0 ∧ Ar c [.slot 2 (Au (b1 0) 0), .slot 4 (Au (b1 1) 0), .slot 6 (Au (b6 1) 0), .res (lb (b1 0) 208 [AI .u32 8 a_0]), .res (lb (b1 1) 208 [AI .u32 8 (List.replicate 8 0)]), .res (lb (b6 1) 208 [AI .u32 8 s.2])] a w | .ret r => e = .ret ∧ CO prog f140 c (AG [AI .u32 8 r]) (fun _ => []) a w) ?_ _ (0, a_0) _ _ _ (h.sub [0, 1, 2, 3, 4, 5, 6, 7, 8] (by rfl)) hl35) ?_
  ·clear hl35 hF h
   intro s a w o h hF
   obtain ⟨x14, x15⟩ := s
   change Bi.b1 r4 x14 x15 = some o at hF
   unfold Bi.b1 at hF
   change Ar c [.slot 2 (Au (b1 0) 0), .slot 4 (Au (b1 1) 0), .slot 5 (Au (b5 2) 0), .slot 6 (Au (b6 1) 0), .slot 23 (Ab .i64 x14), .res (lb (b1 0) 208 [AI .u32 8 a_0]), .res (lb (b1 1) 208 [AI .u32 8 (List.replicate 8 0)]), .res (lb (b5 2) 262 [AI .u32 64 r4]), .res (lb (b6 1) 208 [AI .u32 8 x15])] a w at h
   refine Ao mixed hn hG h [0, 1, 2, 3, 4, 500, 5, 6, 7, 8] (ov [4] (Ak Bl q0 qi) .nil) fun _ a w h => ?_
   refine wp_seq ?_
   refine DL h hF 5 [0, 1, 2, 3, 4, 6, 7, 8, 9] [0, 1, 2, 3, 4, 6, 7, 8, 9] (fun hb26 hF h => ?_) (fun hb26 hF h => ?_)
   ·refine wp_skip ?_
    show Code.wp prog _ _ a w
    refine wp_seq ?_
    refine wp_block ?_
    refine Ao mixed hn hG h [0, 1, 2, 3, 500, 4, 5, 6, 7, 8] (ov [4] (Aa q0) <| ov [500] (Ad q0) .nil) fun _ a w h => ?_
    refine Ao mixed hn hG h [0, 1, 2, 3, 4, 501, 500, 5, 6, 7, 8, 9] (ov [3] (Aw underlying208 sizeOf29 q0 qi (by decide)) <| ov [500, 9] (AX (i := 0) [] [] 1 isAgg29 q0 rfl rfl (by decide)) <| ov [3] (Aw underlying208 sizeOf29 q0 qi (by decide)) <| ov [500, 9] (AX (i := 4) [] [] 1 isAgg29 q0 rfl rfl (by decide)) <| ov [502] (Ad q0) <| ov [501] (Ad q0) .nil) fun _ a w h => ?_
    obtain ⟨r27, hr27, hF⟩ := bind_some hF
    obtain ⟨r28, hr28, hF⟩ := bind_some hF
    obtain ⟨r29, hr29, hF⟩ := bind_some hF
    refine Ao mixed hn hG h [0, 1, 2, 3, 4, 5, 6, 500, 7, 8, 9, 10, 11] (ov [6] (Aa q0) <| oc [500] [] call144 (BJ hr27) ⟨q0, qi, trivial⟩ <| ov [6] (Aa q0) <| oc [500] [] call144 (BJ hr28) ⟨q0, qi, trivial⟩ <| ov [502, 500] (Ak CQ q0 q1) <| ov [6] (Aa q0) <| oc [500] [] call144 (BJ hr29) ⟨q0, qi, trivial⟩ <| ov [502, 500] (Ak CQ q0 q1) <| ov [500] (Ad q0) .nil) fun _ a w h => ?_
    refine Ao mixed hn hG h [0, 1, 2, 3, 4, 5, 7, 500, 8, 9, 10, 11, 12] (ov [6] (Aa q0) <| ov [3] (Aw underlying208 sizeOf29 q0 qi (by decide)) <| ov [500, 12] (AX (i := 5) [] [] 1 isAgg29 q0 rfl rfl (by decide)) <| ov [502, 500] (Ak ER q0 q1) <| ov [6] (Aa q0) <| ov [500] (ID (PO _ _) q0) <| ov [3] (Aw underlying208 sizeOf29 q0 qi (by decide)) <| ov [500, 12] (AX (i := 6) [] [] 1 isAgg29 q0 rfl rfl (by decide)) <| ov [502, 500] (Ak ER q0 q1) <| ov [505, 500] (Ak CQ q0 q1) <| ov [500] (Ad q0) .nil) fun _ a w h => ?_
    obtain ⟨hv30, hF⟩ := Ay hF
    refine Ao mixed hn hG h [0, 1, 2, 3, 5, 500, 8, 9, 10, 11, 12] (ov [3] (Aw underlying208 sizeOf29 q0 qi (by decide)) <| ov [500, 12] (AX (i := 7) [] [] 1 isAgg29 q0 rfl rfl (by decide)) <| ov [6] (Aa q0) <| ov [501, 500] (Ak AY q0 q1) <| ov [7] (Aa q0) <| ov [501, 500] (Ak AY q0 q1) <| ov [4] (Aa q0) <| ov [500] (Ig underlying262 sizeOf29 (RM (fun Φ h => h.2)) q0 hv30) <| ov [500] (BH [] isAgg29 q0) <| ov [503, 500] (Ak AY q0 q1) <| ov [4] (Aa q0) <| ov [2, 500] (Aw underlying262 sizeOf29 q0 q1 hv30) <| ov [500, 11] (AX (i := x14) [] [] 1 isAgg29 q0 rfl rfl hv30) <| ov [503, 500] (Ak AY q0 q1) <| ov [500] (Ad q0) .nil) fun _ a w h => ?_
    obtain ⟨r31, hr31, hF⟩ := bind_some hF
    obtain ⟨r32, hr32, hF⟩ := bind_some hF
    obtain ⟨r33, hr33, hF⟩ := bind_some hF
    refine Ao mixed hn hG h [0, 1, 2, 3, 4, 5, 500, 6, 7, 8, 9, 10] (ov [4] (Aa q0) <| oc [500] [] call144 (BJ hr31) ⟨q0, qi, trivial⟩ <| ov [4] (Aa q0) <| oc [500] [] call144 (BJ hr32) ⟨q0, qi, trivial⟩ <| ov [502, 500] (Ak CQ q0 q1) <| ov [4] (Aa q0) <| oc [500] [] call144 (BJ hr33) ⟨q0, qi, trivial⟩ <| ov [502, 500] (Ak CQ q0 q1) <| ov [500] (Ad q0) .nil) fun _ a w h => ?_
    refine Ao mixed hn hG h [0, 1, 2, 3, 5, 6, 500, 7, 8, 9, 10, 11] (ov [4] (Aa q0) <| ov [3] (Aw underlying208 sizeOf29 q0 qi (by decide)) <| ov [500, 11] (AX (i := 1) [] [] 1 isAgg29 q0 rfl rfl (by decide)) <| ov [502, 500] (Ak ER q0 q1) <| ov [4] (Aa q0) <| ov [3] (Aw underlying208 sizeOf29 q0 qi (by decide)) <| ov [500, 11] (AX (i := 2) [] [] 1 isAgg29 q0 rfl rfl (by decide)) <| ov [502, 500] (Ak ER q0 q1) <| ov [504, 500] (Ak CQ q0 q1) <| ov [3] (Aw underlying208 sizeOf29 q0 qi (by decide)) <| ov [500, 11] (AX (i := 1) [] [] 1 isAgg29 q0 rfl rfl (by decide)) <| ov [3] (Aw underlying208 sizeOf29 q0 qi (by decide)) <| ov [500, 11] (AX (i := 2) [] [] 1 isAgg29 q0 rfl rfl (by decide)) <| ov [502, 500] (Ak ER q0 q1) <| ov [505, 500] (Ak CQ q0 q1) <| ov [500] (Ad q0) .nil) fun _ a w h => ?_
    refine Ao mixed hn hG h [0, 1, 2, 3, 4, 5, 6, 7, 8, 9, 10, 500] (ov [3] (Eb (a := 1) (b := 8) underlying208 sizeOf29 q0 ⟨_, qi⟩ rfl (by decide)) <| ov [3] (Eb (a := 0) (b := 7) underlying208 sizeOf29 q0 rfl ⟨_, qi⟩ (by decide)) <| oe [501, 500] [11] (AV.plain (LZ (i := (1 : Int).toNat) (j := (0 : Int).toNat) [] [] underlying271 rfl q0 q1 (by rfl) (by rfl) (by decide) (by decide)) rfl) .nil) fun _ a w h => ?_
    refine Ao mixed hn hG h [0, 1, 2, 3, 4, 5, 6, 7, 8, 9, 10, 500] (ov [3] (Aw underlying208 sizeOf29 q0 qi (by decide)) <| ov [500, 11] (AX (i := 4) [] [] 1 isAgg29 q0 rfl rfl (by decide)) <| ov [4] (Aa q0) <| ov [501, 500] (Ak AY q0 q1) <| ov [3] (Aw underlying208 sizeOf29 q0 qi (by decide)) <| ou [500, 501] 11 (Eg (i := 4) [] [] sizeOf29 q0 q1 rfl (by decide)) .nil) fun _ a w h => ?_
    refine CY mixed hn hG h [0, 1, 2, 3, 7, 8, 9, 10, 500] (ov [4] (Aa q0) <| ov [5] (Aa q0) <| ov [501, 500] (Ak AY q0 q1) <| ov [6] (Aa q0) <| ov [501, 500] (Ak AY q0 q1) <| ov [3] (Aw underlying208 sizeOf29 q0 qi (by decide)) <| ou [500, 501] 11 (Eg (i := 0) [] [] sizeOf29 q0 q1 rfl (by decide)) .nil) fun _ a w h => ?_
    show Code.wp prog _ _ a w
    refine CY mixed hn hG h [0, 1, 2, 3, 500, 5, 6, 7, 8] (ov [4] (Ak AY q0 qi) <| od [500] 4 (Aa q0) .nil) fun _ a w h => ?_
    obtain rfl := Option.some.inj hF
    exact ⟨rfl, h.sub [0, 1, 2, 3, 4, 5, 6, 7, 8] (by rfl)⟩
   ·refine wp_exit ?_
    obtain rfl := Option.some.inj hF
    exact ⟨BQ _, rfl, h.sub [0, 1, 3, 5, 6, 8] (by rfl)⟩
  ·clear hl35
   intro e a w hq
   cases cr34 with
   | ret r36 =>
    obtain ⟨rfl, hq⟩ := hq
    obtain rfl := Option.some.inj hF
    exact ⟨.inl rfl, hq⟩
   | next s37 =>
    obtain ⟨y38, y39⟩ := s37
    obtain ⟨rfl, h⟩ := hq
    change Ar c [.slot 2 (Au (b1 0) 0), .slot 4 (Au (b1 1) 0), .slot 6 (Au (b6 1) 0), .res (lb (b1 0) 208 [AI .u32 8 a_0]), .res (lb (b1 1) 208 [AI .u32 8 (List.replicate 8 0)]), .res (lb (b6 1) 208 [AI .u32 8 y39])] a w at h
    refine Be ?_
    show Code.wp prog _ _ a w
    refine wp_seq ?_
    refine Ao mixed hn hG h [0, 1, 2, 500, 3, 4, 5] (ov [] (Aa qi) .nil) fun _ a w h => ?_
    refine wp_block ?_
    obtain ⟨cr49, hl50, hF⟩ := bind_some hF
    refine wp_mono (Bw (R := (List Int)) (S := Int × (List Int)) (fun s a w => Ar c [.slot 2 (Au (b1 0) 0), .slot 4 (Au (b1 1) 0), .slot 6 (Au (b6 1) 0), .slot 100 (Ab .i64 s.1), .res (lb (b1 0) 208 [AI .u32 8 a_0]), .res (lb (b1 1) 208 [AI .u32 8 (List.replicate 8 0)]), .res (lb (b6 1) 208 [AI .u32 8 s.2])] a w) (fun res e a w => match res with | .next s => e = .exit 2 ∧ Ar c [.slot 4 (Au (b1 1) 0), .slot 6 (Au (b6 1) 0), .res (lb (b1 1) 208 [AI .u32 8 (List.replicate 8 0)]), .res (lb (b6 1) 208 [AI .u32 8 s.2])] a w | .ret r => e = .ret ∧ CO prog f140 c (AG [AI .u32 8 r]) (fun _ => []) a w) ?_ _ (0, y39) _ _ _ (h.sub [0, 1, 2, 3, 4, 5, 6] (by rfl)) hl50) ?_
    ·clear hl50 hF h
     intro s a w o h hF
     obtain ⟨x41, x42⟩ := s
     change Bi.b2 a_0 x41 x42 = some o at hF
     unfold Bi.b2 at hF
     change Ar c [.slot 2 (Au (b1 0) 0), .slot 4 (Au (b1 1) 0), .slot 6 (Au (b6 1) 0), .slot 100 (Ab .i64 x41), .res (lb (b1 0) 208 [AI .u32 8 a_0]), .res (lb (b1 1) 208 [AI .u32 8 (List.replicate 8 0)]), .res (lb (b6 1) 208 [AI .u32 8 x42])] a w at h
     refine Ao mixed hn hG h [0, 1, 2, 3, 500, 4, 5, 6] (ov [3] (Ak Bl q0 qi) .nil) fun _ a w h => ?_
     refine wp_seq ?_
     refine DL h hF 4 [0, 1, 2, 3, 5, 6, 7] [0, 1, 2, 3, 5, 6, 7] (fun hb47 hF h => ?_) (fun hb47 hF h => ?_)
     ·refine wp_skip ?_
      show Code.wp prog _ _ a w
      refine wp_seq ?_
      refine wp_block ?_
      refine Ao mixed hn hG h [0, 1, 2, 500, 3, 4, 5, 6] (ov [3] (Aa q0) <| ov [500] (Ad q0) .nil) fun _ a w h => ?_
      obtain ⟨hv48, hF⟩ := Ay hF
      refine CY mixed hn hG h [0, 1, 2, 4, 5, 6, 500] (ov [3] (Aa q0) <| ov [2, 500] (Aw underlying208 sizeOf29 q0 q1 hv48) <| ov [500, 7] (AX (i := x41) [] [] 1 isAgg29 q0 rfl rfl hv48) <| ov [3] (Aa q0) <| ov [0, 500] (Aw underlying208 sizeOf29 q0 q1 hv48) <| ov [500, 5] (AX (i := x41) [] [] 1 isAgg29 q0 rfl rfl hv48) <| ov [503, 500] (Ak AY q0 q1) <| ov [2, 506] (Aw underlying208 sizeOf29 q0 q1 hv48) <| ou [500, 501] 7 (Eg (i := x41) [] [] sizeOf29 q0 q1 rfl hv48) .nil) fun _ a w h => ?_
      show Code.wp prog _ _ a w
      refine CY mixed hn hG h [0, 1, 2, 500, 4, 5, 6] (ov [3] (Ak AY q0 qi) <| od [500] 3 (Aa q0) .nil) fun _ a w h => ?_
      obtain rfl := Option.some.inj hF
      exact ⟨rfl, h.sub [0, 1, 2, 3, 4, 5, 6] (by rfl)⟩
     ·refine wp_exit ?_
      obtain rfl := Option.some.inj hF
      exact ⟨BQ _, rfl, h.sub [1, 2, 5, 6] (by rfl)⟩
    ·clear hl50
     intro e a w hq
     cases cr49 with
     | ret r51 =>
      obtain ⟨rfl, hq⟩ := hq
      obtain rfl := Option.some.inj hF
      exact ⟨.inl rfl, hq⟩
     | next s52 =>
      obtain ⟨y53, y54⟩ := s52
      obtain ⟨rfl, h⟩ := hq
      change Ar c [.slot 4 (Au (b1 1) 0), .slot 6 (Au (b6 1) 0), .res (lb (b1 1) 208 [AI .u32 8 (List.replicate 8 0)]), .res (lb (b6 1) 208 [AI .u32 8 y54])] a w at h
      refine Be ?_
      show Code.wp prog _ _ a w
      refine Ao mixed hn hG h [0, 500] (ov [1, 3] (AA 1 isAgg208 sizeOf208 q0) <| ou [0, 500] 2 (Aq sizeOf208 q0 q1 (Al _)) .nil) fun _ a w h => ?_
      refine wp_ret ?_
      obtain rfl := Option.some.inj hF
      exact ⟨.inl rfl, BG h results140 (Bs 0 1 rfl rfl isAgg208 sizeOf208 rfl) [] [] rfl rfl rfl⟩

def Bo.b1 (x8 : List UInt8) (x9 : AF) : Option (CR AF ((List UInt8) × AF)) := (if (decide ((64 : Int) ≤ (x8.length : Int))) = true then (if (0 : Int) ≤ 0 ∧ (0 : Int) ≤ 64 ∧ (64 : Int) ≤ x8.length then ((Bi x9.BD ((x8.take 64).drop (0 : Int).toNat)).bind fun r18 => (if (0 : Int) ≤ 64 ∧ (64 : Int) ≤ (x8.length : Int) ∧ (x8.length : Int) ≤ x8.length then some (.cont ((x8.take (x8.length : Int).toNat).drop 64, (AF.mk r18 x9.Bx x9.Cc))) else none)) else none) else some (.brk (x8, x9)))
def Bo (a_0 : AF) (a_1 : List UInt8) : Option AF := (if a_0.Bx.length + a_1.length ≤ CG then ((Bf (fun s : (List UInt8) × AF => Bo.b1 s.1 s.2) ((((a_0.Bx ++ a_1).length : Int) - 64 : Int).toNat + 2) (a_0.Bx ++ a_1, (AF.mk a_0.BD a_0.Bx (IntKind.wrap .u64 (a_0.Cc + (IntKind.wrap .u64 (a_1.length : Int))))))).bind fun cr => match cr with | .ret r => some r | .next (y24, y25) => some (AF.mk y25.BD y24 y25.Cc)) else none)
theorem Gk {a_0 : AF} {a_1 : List UInt8} {r : AF} (hF : Bo a_0 a_1 = some r) : Az prog KG 130 [(AG (AF.ck a_0)), (As a_1)] [] (fun _ => []) (AG (AF.ck r)) := by
 refine Az.intro 31 func130 rfl ntmps130 (Nat.le_of_ble_eq_true rfl) ?_
 intro c a w hG hn h
 unfold Bo at hF
 change Ar c [.slot 0 (AG (AF.ck a_0)), .slot 1 (As a_1)] a w at h
 refine Ao mixed hn hG h [1, 503, 501, 502, 500] (ob [0] (BF q0 (Al _)) <| ob [] (AJ zeroValue247 Ot) .nil) fun b1 a w h => ?_
 refine Ao mixed hn hG h [0, 1, 2, 500, 4] (ov [1] (Aj (p := (b1 0)) (n := 1) 0 9 underlying247 rfl sizeOf24 (by decide) q0 rfl) <| ov [500, 3] (AB ((AF.ck a_0).take 2) [] 1 isAgg24 q0 rfl rfl) <| ov [0] (Aa q0) <| ov [500] (DU underlying9 q0) <| ov [500] (AW underlying3 underlying24 q0) <| ov [503, 500] (Ak AY q0 q1) <| ov [1] (Aj (p := (b1 0)) (n := 1) 0 9 underlying247 rfl sizeOf24 (by decide) q0 rfl) <| ou [500, 501] 3 (B7 ((AF.ck a_0).take 2) [one (Ab .u64 a_0.Cc)] [] [one (Ab .u64 (IntKind.wrap .u64 (a_0.Cc + (IntKind.wrap .u64 (a_1.length : Int)))))] sizeOf24 q0 q1 (Ap (AK _ _)) rfl rfl rfl) .nil) fun _ a w h => ?_
 obtain ⟨hv3, hF⟩ := Ay hF
 refine Ao mixed hn hG h [1, 2, 500, 3, 4] (ov [1] (Aj (p := (b1 0)) (n := 1) 0 8 underlying247 rfl sizeOf9 (by decide) q0 rfl) <| ov [500, 3] (AB [AI .u32 8 a_0.BD] [one (Ab .u64 (IntKind.wrap .u64 (a_0.Cc + (IntKind.wrap .u64 (a_1.length : Int)))))] 1 isAgg9 q0 rfl rfl) <| ov [0] (Aa q0) <| ov [501, 500] (Ak (Cy hv3) q0 q1) <| ov [500] (Ad q0) .nil) fun _ a w h => ?_
 refine wp_seq ?_
 refine wp_block ?_
 obtain ⟨cr20, hl21, hF⟩ := bind_some hF
 refine wp_mono (Bw (R := AF) (S := (List UInt8) × AF) (fun s a w => Ar c [.slot 2 (Au (b1 0) 0), .slot 4 (Au (b1 1) 0), .slot 5 (As s.1), .res (lb (b1 0) 247 (AF.ck s.2)), .res (lb (b1 1) 247 [AI .u32 8 (List.replicate 8 0), one (As []), one (Ab .u64 (0 : Int))])] a w) (fun res e a w => match res with | .next s => e = .exit 0 ∧ Ar c [.slot 2 (Au (b1 0) 0), .slot 4 (Au (b1 1) 0), .slot 5 (As s.1), .res (lb (b1 0) 247 (AF.ck s.2)), .res (lb (b1 1) 247 [AI .u32 8 (List.replicate 8 0), one (As []), one (Ab .u64 (0 : Int))])] a w | .ret r => e = .ret ∧ CO prog f130 c (AG (AF.ck r)) (fun _ => []) a w) ?_ _ (a_0.Bx ++ a_1, (AF.mk a_0.BD a_0.Bx (IntKind.wrap .u64 (a_0.Cc + (IntKind.wrap .u64 (a_1.length : Int)))))) _ _ _ (h.sub [0, 1, 2, 3, 4] (by rfl)) hl21) ?_
 ·clear hl21 hF h
  intro s a w o h hF
  obtain ⟨x8, x9⟩ := s
  change Bo.b1 x8 x9 = some o at hF
  unfold Bo.b1 at hF
  change Ar c [.slot 2 (Au (b1 0) 0), .slot 4 (Au (b1 1) 0), .slot 5 (As x8), .res (lb (b1 0) 247 (AF.ck x9)), .res (lb (b1 1) 247 [AI .u32 8 (List.replicate 8 0), one (As []), one (Ab .u64 (0 : Int))])] a w at h
  refine wp_seq ?_
  refine Ao mixed hn hG h [0, 1, 2, 500, 3, 4] (ov [2] (Aa q0) <| ov [500] (DU underlying9 q0) <| ov [500] (Ak DJ q0 qi) .nil) fun _ a w h => ?_
  refine DL h hF 3 [0, 1, 2, 4, 5] [0, 1, 2, 4, 5] (fun hb16 hF h => ?_) (fun hb16 hF h => ?_)
  ·refine wp_skip ?_
   show Code.wp prog _ _ a w
   refine wp_block ?_
   obtain ⟨hv17, hF⟩ := Ay hF
   obtain ⟨r18, hr18, hF⟩ := bind_some hF
   refine Ao mixed hn hG h [0, 1, 2, 500, 4] (ov [0] (Aj (p := (b1 0)) (n := 8) 0 0 underlying247 rfl sizeOf208 (by decide) q0 rfl) <| ov [500, 3] (DB [] [AI .u32 8 x9.BD] ((AF.ck x9).drop 1) 1 isAgg208 sizeOf208 q0 rfl rfl rfl) <| ov [2] (Aa q0) <| ov [500] (E5 (a := 0) (b := 64) underlying9 q0 rfl ⟨_, qi⟩ hv17) <| oc [502, 500] [] call140 (Kl hr18) ⟨q0, q1, trivial⟩ <| ov [0] (Aj (p := (b1 0)) (n := 8) 0 0 underlying247 rfl sizeOf208 (by decide) q0 rfl) <| ou [500, 501] 3 (B7 [] [AI .u32 8 x9.BD] ((AF.ck x9).drop 1) [AI .u32 8 r18] sizeOf208 q0 q1 (Al _) rfl rfl rfl) .nil) fun _ a w h => ?_
   obtain ⟨hv19, hF⟩ := Ay hF
   refine CY mixed hn hG h [0, 1, 500, 3, 4] (ov [2] (Aa q0) <| ov [500] (E5 (a := 64) (b := (x8.length : Int)) underlying9 q0 ⟨_, qi⟩ rfl hv19) <| od [500] 2 (Ad q0) .nil) fun _ a w h => ?_
   obtain rfl := Option.some.inj hF
   exact ⟨rfl, h.sub [0, 1, 2, 3, 4] (by rfl)⟩
  ·refine wp_exit ?_
   obtain rfl := Option.some.inj hF
   exact ⟨BQ _, rfl, h.sub [0, 1, 2, 3, 4] (by rfl)⟩
 ·clear hl21
  intro e a w hq
  cases cr20 with
  | ret r22 =>
   obtain ⟨rfl, hq⟩ := hq
   obtain rfl := Option.some.inj hF
   exact ⟨.inl rfl, hq⟩
  | next s23 =>
   obtain ⟨y24, y25⟩ := s23
   obtain ⟨rfl, h⟩ := hq
   change Ar c [.slot 2 (Au (b1 0) 0), .slot 4 (Au (b1 1) 0), .slot 5 (As y24), .res (lb (b1 0) 247 (AF.ck y25)), .res (lb (b1 1) 247 [AI .u32 8 (List.replicate 8 0), one (As []), one (Ab .u64 (0 : Int))])] a w at h
   refine Be ?_
   show Code.wp prog _ _ a w
   refine Ao mixed hn hG h [0, 1, 500, 4] (ov [2] (Aa q0) <| ov [0] (Aj (p := (b1 0)) (n := 1) 0 8 underlying247 rfl sizeOf9 (by decide) q0 rfl) <| ou [500, 501] 3 (B7 [AI .u32 8 y25.BD] [one (As y25.Bx)] [one (Ab .u64 y25.Cc)] [one (As y24)] sizeOf9 q0 q1 (Ap (Du _)) rfl rfl rfl) .nil) fun _ a w h => ?_
   refine Ao mixed hn hG h [1, 500] (ov [0, 2] (AA 1 isAgg247 sizeOf247 q0) <| ou [1, 500] 3 (Aq sizeOf247 q0 q1 (Al _)) .nil) fun _ a w h => ?_
   refine wp_ret ?_
   obtain rfl := Option.some.inj hF
   exact ⟨.inl rfl, BG h results130 (Bs 0 1 rfl rfl isAgg247 sizeOf247 rfl) [] [] rfl rfl rfl⟩

def AN.b1 (a_0 : AF) (x6 : Int) (x7 : List UInt8) : Option (CR (List UInt8) (Int × (List UInt8))) := (if (decide (x6 < (8 : Int))) = true then (if (0 : Int) ≤ IntKind.wrap .i64 (56 - (IntKind.wrap .i64 (8 * x6))) then (if (0 : Int) ≤ x6 ∧ x6 < 8 then some (.cont (IntKind.wrap .i64 (x6 + 1), x7.set x6.toNat (BA (IntKind.wrap .u8 (shr .u64 (IntKind.wrap .u64 (8 * a_0.Cc)) (IntKind.wrap .i64 (56 - (IntKind.wrap .i64 (8 * x6))))))))) else none) else none) else some (.brk (x6, x7)))
def AN.b3 (r25 : AF) (x38 : Int) (x59 : Int) (x60 : List UInt8) : Option (CR (List UInt8) (Int × (List UInt8))) := (if (decide (x59 < (4 : Int))) = true then (if (0 : Int) ≤ IntKind.wrap .i64 (24 - (IntKind.wrap .i64 (8 * x59))) then (if (0 : Int) ≤ IntKind.wrap .i64 ((IntKind.wrap .i64 (4 * x38)) + x59) ∧ IntKind.wrap .i64 ((IntKind.wrap .i64 (4 * x38)) + x59) < 32 then some (.cont (IntKind.wrap .i64 (x59 + 1), x60.set (IntKind.wrap .i64 ((IntKind.wrap .i64 (4 * x38)) + x59)).toNat (BA (IntKind.wrap .u8 (shr .u32 (r25.BD.getD x38.toNat 0) (IntKind.wrap .i64 (24 - (IntKind.wrap .i64 (8 * x59))))))))) else none) else none) else some (.brk (x59, x60)))
def AN.b2 (r25 : AF) (x38 : Int) (x39 : List UInt8) : Option (CR (List UInt8) (Int × (List UInt8))) := (if (decide (x38 < (8 : Int))) = true then (if (0 : Int) ≤ x38 ∧ x38 < 8 then ((Bf (fun s : Int × (List UInt8) => AN.b3 r25 x38 s.1 s.2) ((4 - 0 : Int).toNat + 2) (0, x39)).bind fun cr => match cr with | .ret r => some (.ret r) | .next (y73, y74) => some (.cont (IntKind.wrap .i64 (x38 + 1), y74))) else none) else some (.brk (x38, x39)))
def AN (a_0 : AF) : Option (List UInt8) := ((Bf (fun s : Int × (List UInt8) => AN.b1 a_0 s.1 s.2) ((8 - 0 : Int).toNat + 2) (0, (List.replicate 8 0))).bind fun cr => match cr with | .ret r => some r | .next (y20, y21) => (if (0 : Int) ≤ (IntKind.wrap .i64 (119 - ((a_0.Bx.length : Int).tmod 64))).tmod 64 ∧ [0].length * ((IntKind.wrap .i64 (119 - ((a_0.Bx.length : Int).tmod 64))).tmod 64 : Int).toNat ≤ 140737488355328 then (if [128].length + (Lib.repeatL [0] ((IntKind.wrap .i64 (119 - ((a_0.Bx.length : Int).tmod 64))).tmod 64 : Int).toNat).length ≤ CG then (if ([128] ++ (Lib.repeatL [0] ((IntKind.wrap .i64 (119 - ((a_0.Bx.length : Int).tmod 64))).tmod 64 : Int).toNat)).length + (y21.take ((8 : Int).toNat - (0 : Int).toNat)).length ≤ CG then ((Bo a_0 (([128] ++ (Lib.repeatL [0] ((IntKind.wrap .i64 (119 - ((a_0.Bx.length : Int).tmod 64))).tmod 64 : Int).toNat)) ++ (y21.take ((8 : Int).toNat - (0 : Int).toNat)))).bind fun r25 => ((Bf (fun s : Int × (List UInt8) => AN.b2 r25 s.1 s.2) ((8 - 0 : Int).toNat + 2) (0, (List.replicate 32 0))).bind fun cr => match cr with | .ret r => some r | .next (y79, y80) => some y80)) else none) else none) else none))
theorem H8 {a_0 : AF} {r : (List UInt8)} (hF : AN a_0 = some r) : Az prog KG 131 [(AG (AF.ck a_0))] [] (fun _ => []) (AG [Af 32 r]) := by
 refine Az.intro 63 func131 rfl ntmps131 (Nat.le_of_ble_eq_true rfl) ?_
 intro c a w hG hn h
 unfold AN at hF
 change Ar c [.slot 0 (AG (AF.ck a_0))] a w at h
 refine Ao mixed hn hG h [503, 501, 502, 500] (ob [0] (BF q0 (Al _)) <| ob [] (AJ zeroValue33 GN) .nil) fun b1 a w h => ?_
 refine Ao mixed hn hG h [0, 1, 500, 2, 3] (ov [0] (Aj (p := (b1 0)) (n := 1) 0 9 underlying247 rfl sizeOf24 (by decide) q0 rfl) <| ov [500, 2] (AB ((AF.ck a_0).take 2) [] 1 isAgg24 q0 rfl rfl) <| ov [500] (Ak Db qi q0) <| ov [500] (Ad q0) .nil) fun _ a w h => ?_
 refine Ao mixed hn hG h [0, 1, 2, 500, 3, 4] (ov [0] (Aj (p := (b1 0)) (n := 1) 0 8 underlying247 rfl sizeOf9 (by decide) q0 rfl) <| ov [500, 3] (AB [AI .u32 8 a_0.BD] [one (Ab .u64 a_0.Cc)] 1 isAgg9 q0 rfl rfl) <| ov [500] (DU underlying9 q0) <| ov [500] (Ak (GG (by decide)) q0 qi) <| ov [500] (Ak CH qi q0) <| ov [500] (Ak (GG (by decide)) q0 qi) <| ov [500] (Ad q0) .nil) fun _ a w h => ?_
 refine Ao mixed hn hG h [0, 1, 2, 3, 501, 4, 5, 500] (ob [] (AJ zeroValue216 PJ) .nil) fun b3 a w h => ?_
 refine wp_seq ?_
 refine Ao mixed hn hG h [0, 1, 2, 3, 4, 500, 5, 6, 7] (ov [] (Aa qi) .nil) fun _ a w h => ?_
 refine wp_block ?_
 obtain ⟨cr16, hl17, hF⟩ := bind_some hF
 refine wp_mono (Bw (R := (List UInt8)) (S := Int × (List UInt8)) (fun s a w => Ar c [.slot 1 (Au (b1 0) 0), .slot 2 (Au (b1 1) 0), .slot 3 (Ab .u64 (IntKind.wrap .u64 (8 * a_0.Cc))), .slot 4 (Ab .i64 ((IntKind.wrap .i64 (119 - ((a_0.Bx.length : Int).tmod 64))).tmod 64)), .slot 5 (Au (b3 0) 0), .slot 20 (Ab .i64 s.1), .res (lb (b1 0) 247 (AF.ck a_0)), .res (lb (b1 1) 33 [Af 32 (List.replicate 32 0)]), .res (lb (b3 0) 216 [Af 8 s.2])] a w) (fun res e a w => match res with | .next s => e = .exit 0 ∧ Ar c [.slot 1 (Au (b1 0) 0), .slot 2 (Au (b1 1) 0), .slot 4 (Ab .i64 ((IntKind.wrap .i64 (119 - ((a_0.Bx.length : Int).tmod 64))).tmod 64)), .slot 5 (Au (b3 0) 0), .res (lb (b1 0) 247 (AF.ck a_0)), .res (lb (b1 1) 33 [Af 32 (List.replicate 32 0)]), .res (lb (b3 0) 216 [Af 8 s.2])] a w | .ret r => e = .ret ∧ CO prog f131 c (AG [Af 32 r]) (fun _ => []) a w) ?_ _ (0, (List.replicate 8 0)) _ _ _ (h.sub [0, 1, 2, 3, 4, 5, 6, 7, 8] (by rfl)) hl17) ?_
 ·clear hl17 hF h
  intro s a w o h hF
  obtain ⟨x6, x7⟩ := s
  change AN.b1 a_0 x6 x7 = some o at hF
  unfold AN.b1 at hF
  change Ar c [.slot 1 (Au (b1 0) 0), .slot 2 (Au (b1 1) 0), .slot 3 (Ab .u64 (IntKind.wrap .u64 (8 * a_0.Cc))), .slot 4 (Ab .i64 ((IntKind.wrap .i64 (119 - ((a_0.Bx.length : Int).tmod 64))).tmod 64)), .slot 5 (Au (b3 0) 0), .slot 20 (Ab .i64 x6), .res (lb (b1 0) 247 (AF.ck a_0)), .res (lb (b1 1) 33 [Af 32 (List.replicate 32 0)]), .res (lb (b3 0) 216 [Af 8 x7])] a w at h
  refine Ao mixed hn hG h [0, 1, 2, 3, 4, 5, 500, 6, 7, 8] (ov [5] (Ak Bl q0 qi) .nil) fun _ a w h => ?_
  refine wp_seq ?_
  refine DL h hF 6 [0, 1, 2, 3, 4, 5, 7, 8, 9] [0, 1, 2, 3, 4, 5, 7, 8, 9] (fun hb13 hF h => ?_) (fun hb13 hF h => ?_)
  ·refine wp_skip ?_
   show Code.wp prog _ _ a w
   refine wp_seq ?_
   refine wp_block ?_
   refine Ao mixed hn hG h [0, 1, 2, 3, 4, 500, 5, 6, 7, 8] (ov [5] (Aa q0) <| ov [500] (Ad q0) .nil) fun _ a w h => ?_
   obtain ⟨hv14, hF⟩ := Ay hF
   obtain ⟨hv15, hF⟩ := Ay hF
   refine CY mixed hn hG h [0, 1, 2, 3, 4, 6, 7, 8, 500] (ov [5] (Aa q0) <| ov [2] (Aa q0) <| ov [5] (Aa q0) <| ov [500] (Ak Db qi q0) <| ov [500] (Ak CH qi q0) <| ov [503, 500] (Ak (HZ hv14) q0 q1) <| ov [500] (AW underlying24 underlying5 q0) <| ov [4, 506] (Aw underlying216 sizeOf5 q0 q1 hv15) <| ou [500, 501] 9 (E4 (i := x6) [] [] sizeOf5 q0 q1 rfl hv15) .nil) fun _ a w h => ?_
   show Code.wp prog _ _ a w
   refine CY mixed hn hG h [0, 1, 2, 3, 4, 500, 6, 7, 8] (ov [5] (Ak AY q0 qi) <| od [500] 5 (Aa q0) .nil) fun _ a w h => ?_
   obtain rfl := Option.some.inj hF
   exact ⟨rfl, h.sub [0, 1, 2, 3, 4, 5, 6, 7, 8] (by rfl)⟩
  ·refine wp_exit ?_
   obtain rfl := Option.some.inj hF
   exact ⟨BQ _, rfl, h.sub [0, 1, 3, 4, 6, 7, 8] (by rfl)⟩
 ·clear hl17
  intro e a w hq
  cases cr16 with
  | ret r18 =>
   obtain ⟨rfl, hq⟩ := hq
   obtain rfl := Option.some.inj hF
   exact ⟨.inl rfl, hq⟩
  | next s19 =>
   obtain ⟨y20, y21⟩ := s19
   obtain ⟨rfl, h⟩ := hq
   change Ar c [.slot 1 (Au (b1 0) 0), .slot 2 (Au (b1 1) 0), .slot 4 (Ab .i64 ((IntKind.wrap .i64 (119 - ((a_0.Bx.length : Int).tmod 64))).tmod 64)), .slot 5 (Au (b3 0) 0), .res (lb (b1 0) 247 (AF.ck a_0)), .res (lb (b1 1) 33 [Af 32 (List.replicate 32 0)]), .res (lb (b3 0) 216 [Af 8 y21])] a w at h
   refine Be ?_
   show Code.wp prog _ _ a w
   obtain ⟨hv22, hF⟩ := Ay hF
   obtain ⟨hv23, hF⟩ := Ay hF
   obtain ⟨hv24, hF⟩ := Ay hF
   obtain ⟨r25, hr25, hF⟩ := bind_some hF
   refine Ao mixed hn hG h [0, 1, 500, 5] (ov [0, 4] (AA 1 isAgg247 sizeOf247 q0) <| ov [2] (Aa q0) <| oc [500] [] call141 (MQ hv22) ⟨(DZ (sc _ (by decide))), q0, trivial⟩ <| ov [500] (Ak (Cy hv23) (DZ (sc _ (by decide))) q0) <| ov [3] (Eb (a := 0) (b := 8) underlying216 sizeOf5 q0 rfl rfl (by decide)) <| ov [500, 6] (FV [] [] 1 underlying207 underlying5 underlying9 q0 rfl rfl (by decide) (by decide)) <| ov [502, 500] (Ak (Cy hv24) q0 q1) <| oc [506, 500] [] call130 (Gk hr25) ⟨q0, q1, trivial⟩ <| ou [0, 500] 4 (Aq sizeOf247 q0 q1 (Al _)) .nil) fun _ a w h => ?_
   refine Ao mixed hn hG h [0, 1, 501, 2, 3, 500] (ob [] (AJ zeroValue33 GN) .nil) fun b26 a w h => ?_
   refine wp_seq ?_
   refine Ao mixed hn hG h [1, 2, 501, 500, 4, 5] (ov [0] (Aj (p := (b1 0)) (n := 8) 0 0 underlying247 rfl sizeOf208 (by decide) q0 rfl) <| ov [500, 3] (DB [] [AI .u32 8 r25.BD] ((AF.ck r25).drop 1) 1 isAgg208 sizeOf208 q0 rfl rfl rfl) <| ov [] (Aa qi) .nil) fun _ a w h => ?_
   refine wp_block ?_
   obtain ⟨cr75, hl76, hF⟩ := bind_some hF
   refine wp_mono (Bw (R := (List UInt8)) (S := Int × (List UInt8)) (fun s a w => Ar c [.slot 2 (Au (b1 1) 0), .slot 7 (Au (b26 0) 0), .slot 41 (AG [AI .u32 8 r25.BD]), .slot 42 (Ab .i64 s.1), .res (lb (b1 1) 33 [Af 32 (List.replicate 32 0)]), .res (lb (b26 0) 33 [Af 32 s.2])] a w) (fun res e a w => match res with | .next s => e = .exit 2 ∧ Ar c [.slot 2 (Au (b1 1) 0), .slot 7 (Au (b26 0) 0), .res (lb (b1 1) 33 [Af 32 (List.replicate 32 0)]), .res (lb (b26 0) 33 [Af 32 s.2])] a w | .ret r => e = .ret ∧ CO prog f131 c (AG [Af 32 r]) (fun _ => []) a w) ?_ _ (0, (List.replicate 32 0)) _ _ _ (h.sub [0, 1, 2, 3, 4, 5] (by rfl)) hl76) ?_
   ·clear hl76 hF h
    intro s a w o h hF
    obtain ⟨x38, x39⟩ := s
    change AN.b2 r25 x38 x39 = some o at hF
    unfold AN.b2 at hF
    change Ar c [.slot 2 (Au (b1 1) 0), .slot 7 (Au (b26 0) 0), .slot 41 (AG [AI .u32 8 r25.BD]), .slot 42 (Ab .i64 x38), .res (lb (b1 1) 33 [Af 32 (List.replicate 32 0)]), .res (lb (b26 0) 33 [Af 32 x39])] a w at h
    refine Ao mixed hn hG h [0, 1, 2, 3, 500, 4, 5] (ov [3] (Ak Bl q0 qi) .nil) fun _ a w h => ?_
    refine wp_seq ?_
    refine DL h hF 4 [0, 1, 2, 3, 5, 6] [0, 1, 2, 3, 5, 6] (fun hb54 hF h => ?_) (fun hb54 hF h => ?_)
    ·refine wp_skip ?_
     show Code.wp prog _ _ a w
     refine wp_seq ?_
     refine wp_block ?_
     obtain ⟨hv55, hF⟩ := Ay hF
     refine Ao mixed hn hG h [0, 1, 501, 500, 2, 3, 4, 5] (ov [3] (Aa q0) <| ov [2, 3] (JM underlying208 sizeOf29 isAgg29 q0 q1 hv55) <| ov [501] (Ad q0) <| ov [501] (Ad q0) .nil) fun _ a w h => ?_
     refine Ao mixed hn hG h [0, 1, 2, 3, 4, 5, 500, 6, 7] (ov [] (Aa qi) .nil) fun _ a w h => ?_
     refine wp_block ?_
     obtain ⟨cr69, hl70, hF⟩ := bind_some hF
     refine wp_mono (Bw (R := (List UInt8)) (S := Int × (List UInt8)) (fun s a w => Ar c [.slot 2 (Au (b1 1) 0), .slot 7 (Au (b26 0) 0), .slot 8 (Ab .i64 x38), .slot 9 (Ab .u32 (r25.BD.getD x38.toNat 0)), .slot 41 (AG [AI .u32 8 r25.BD]), .slot 42 (Ab .i64 x38), .slot 46 (Ab .i64 s.1), .res (lb (b1 1) 33 [Af 32 (List.replicate 32 0)]), .res (lb (b26 0) 33 [Af 32 s.2])] a w) (fun res e a w => match res with | .next s => e = .exit 4 ∧ Ar c [.slot 2 (Au (b1 1) 0), .slot 7 (Au (b26 0) 0), .slot 41 (AG [AI .u32 8 r25.BD]), .slot 42 (Ab .i64 x38), .res (lb (b1 1) 33 [Af 32 (List.replicate 32 0)]), .res (lb (b26 0) 33 [Af 32 s.2])] a w | .ret r => e = .ret ∧ CO prog f131 c (AG [Af 32 r]) (fun _ => []) a w) ?_ _ (0, x39) _ _ _ (h.sub [0, 1, 2, 3, 4, 5, 6, 7, 8] (by rfl)) hl70) ?_
     ·clear hl70 hF h
      intro s a w o h hF
      obtain ⟨x59, x60⟩ := s
      change AN.b3 r25 x38 x59 x60 = some o at hF
      unfold AN.b3 at hF
      change Ar c [.slot 2 (Au (b1 1) 0), .slot 7 (Au (b26 0) 0), .slot 8 (Ab .i64 x38), .slot 9 (Ab .u32 (r25.BD.getD x38.toNat 0)), .slot 41 (AG [AI .u32 8 r25.BD]), .slot 42 (Ab .i64 x38), .slot 46 (Ab .i64 x59), .res (lb (b1 1) 33 [Af 32 (List.replicate 32 0)]), .res (lb (b26 0) 33 [Af 32 x60])] a w at h
      refine Ao mixed hn hG h [0, 1, 2, 3, 4, 5, 6, 500, 7, 8] (ov [6] (Ak Bl q0 qi) .nil) fun _ a w h => ?_
      refine wp_seq ?_
      refine DL h hF 7 [0, 1, 2, 3, 4, 5, 6, 8, 9] [0, 1, 2, 3, 4, 5, 6, 8, 9] (fun hb66 hF h => ?_) (fun hb66 hF h => ?_)
      ·refine wp_skip ?_
       show Code.wp prog _ _ a w
       refine wp_seq ?_
       refine wp_block ?_
       refine Ao mixed hn hG h [0, 1, 2, 3, 500, 4, 5, 6, 7, 8] (ov [6] (Aa q0) <| ov [500] (Ad q0) .nil) fun _ a w h => ?_
       obtain ⟨hv67, hF⟩ := Ay hF
       obtain ⟨hv68, hF⟩ := Ay hF
       refine CY mixed hn hG h [0, 1, 2, 3, 5, 6, 7, 8, 500] (ov [2] (Aa q0) <| ov [500] (Ak Db qi q0) <| ov [4] (Aa q0) <| ov [501, 500] (Ak AY q0 q1) <| ov [3] (Aa q0) <| ov [4] (Aa q0) <| ov [500] (Ak Db qi q0) <| ov [500] (Ak CH qi q0) <| ov [503, 500] (Ak (HZ hv67) q0 q1) <| ov [500] (AW underlying29 underlying5 q0) <| ov [1, 506] (Aw underlying33 sizeOf5 q0 q1 hv68) <| ou [500, 501] 9 (E4 (i := IntKind.wrap .i64 ((IntKind.wrap .i64 (4 * x38)) + x59)) [] [] sizeOf5 q0 q1 rfl hv68) .nil) fun _ a w h => ?_
       show Code.wp prog _ _ a w
       refine CY mixed hn hG h [0, 1, 2, 3, 4, 5, 500, 7, 8] (ov [6] (Ak AY q0 qi) <| od [500] 6 (Aa q0) .nil) fun _ a w h => ?_
       obtain rfl := Option.some.inj hF
       exact ⟨rfl, h.sub [0, 1, 2, 3, 4, 5, 6, 7, 8] (by rfl)⟩
      ·refine wp_exit ?_
       obtain rfl := Option.some.inj hF
       exact ⟨BQ _, rfl, h.sub [0, 1, 4, 5, 7, 8] (by rfl)⟩
     ·clear hl70
      intro e a w hq
      cases cr69 with
      | ret r71 =>
       obtain ⟨rfl, hq⟩ := hq
       obtain rfl := Option.some.inj hF
       exact ⟨E2, rfl, hq⟩
      | next s72 =>
       obtain ⟨y73, y74⟩ := s72
       obtain ⟨rfl, h⟩ := hq
       change Ar c [.slot 2 (Au (b1 1) 0), .slot 7 (Au (b26 0) 0), .slot 41 (AG [AI .u32 8 r25.BD]), .slot 42 (Ab .i64 x38), .res (lb (b1 1) 33 [Af 32 (List.replicate 32 0)]), .res (lb (b26 0) 33 [Af 32 y74])] a w at h
       refine Be ?_
       show Code.wp prog _ _ a w
       refine CY mixed hn hG h [0, 1, 2, 500, 4, 5] (ov [3] (Ak AY q0 qi) <| od [500] 3 (Aa q0) .nil) fun _ a w h => ?_
       obtain rfl := Option.some.inj hF
       exact ⟨rfl, h.sub [0, 1, 2, 3, 4, 5] (by rfl)⟩
    ·refine wp_exit ?_
     obtain rfl := Option.some.inj hF
     exact ⟨BQ _, rfl, h.sub [0, 1, 4, 5] (by rfl)⟩
   ·clear hl76
    intro e a w hq
    cases cr75 with
    | ret r77 =>
     obtain ⟨rfl, hq⟩ := hq
     obtain rfl := Option.some.inj hF
     exact ⟨.inl rfl, hq⟩
    | next s78 =>
     obtain ⟨y79, y80⟩ := s78
     obtain ⟨rfl, h⟩ := hq
     change Ar c [.slot 2 (Au (b1 1) 0), .slot 7 (Au (b26 0) 0), .res (lb (b1 1) 33 [Af 32 (List.replicate 32 0)]), .res (lb (b26 0) 33 [Af 32 y80])] a w at h
     refine Be ?_
     show Code.wp prog _ _ a w
     refine Ao mixed hn hG h [0, 500] (ov [1, 3] (AA 1 isAgg33 sizeOf33 q0) <| ou [0, 500] 2 (Aq sizeOf33 q0 q1 (Al _)) .nil) fun _ a w h => ?_
     refine wp_ret ?_
     obtain rfl := Option.some.inj hF
     exact ⟨.inl rfl, BG h results131 (Bs 0 1 rfl rfl isAgg33 sizeOf33 rfl) [] [] rfl rfl rfl⟩

def CB.b1 (a_0 : List (List UInt8)) (x7 : Int) (x8 : AF) : Option (CR (List UInt8) (Int × AF)) := (if (decide (x7 < (a_0.length : Int))) = true then (if (0 : Int) ≤ x7 ∧ x7 < a_0.length then ((Bo x8 (a_0.getD x7.toNat default)).bind fun r16 => some (.cont (IntKind.wrap .i64 (x7 + 1), r16))) else none) else some (.brk (x7, x8)))
def CB (a_0 : List (List UInt8)) : Option (List UInt8) := ((Gl).bind fun r2 => ((Bf (fun s : Int × AF => CB.b1 a_0 s.1 s.2) (((a_0.length : Int) - 0 : Int).toNat + 2) (0, r2)).bind fun cr => match cr with | .ret r => some r | .next (y21, y22) => ((AN y22).bind fun r23 => some r23)))
theorem LN {a_0 : List (List UInt8)} {r : (List UInt8)} (hF : CB a_0 = some r) : Az prog KG 108 [(An C9 a_0)] [] (fun _ => []) (AG [Af 32 r]) := by
 refine Az.intro 19 func108 rfl ntmps108 (Nat.le_of_ble_eq_true rfl) ?_
 intro c a w hG hn h
 unfold CB at hF
 change Ar c [.slot 0 (An C9 a_0)] a w at h
 refine Ao mixed hn hG h [0, 501, 500] (ob [] (AJ zeroValue33 GN) .nil) fun b1 a w h => ?_
 obtain ⟨r2, hr2, hF⟩ := bind_some hF
 refine Ao mixed hn hG h [0, 1, 502, 2, 500] (oc [] [] call129 (Km hr2) trivial <| ob [] (AJ zeroValue247 Ot) <| og [501, 502] [500] [.res 1 100000 (fun v1_ _ => (lb (v1_) 247 (AF.ck r2)))] (AV.plain (Aq sizeOf247 q0 q1 (Al _)) rfl) .nil) fun b3 a w h => ?_
 refine wp_seq ?_
 refine Ao mixed hn hG h [1, 2, 502, 501, 500, 3, 4] (ov [0] (Aa q0) <| ov [500] (A4 underlying22 q0) <| ov [] (Aa qi) .nil) fun _ a w h => ?_
 refine wp_block ?_
 obtain ⟨cr17, hl18, hF⟩ := bind_some hF
 refine wp_mono (Bw (R := (List UInt8)) (S := Int × AF) (fun s a w => Ar c [.slot 2 (Au (b1 0) 0), .slot 3 (Au (b3 1) 0), .slot 7 (An C9 a_0), .slot 8 (Ab .i64 (a_0.length : Int)), .slot 9 (Ab .i64 s.1), .res (lb (b1 0) 33 [Af 32 (List.replicate 32 0)]), .res (lb (b3 1) 247 (AF.ck s.2))] a w) (fun res e a w => match res with | .next s => e = .exit 0 ∧ Ar c [.slot 2 (Au (b1 0) 0), .slot 3 (Au (b3 1) 0), .res (lb (b1 0) 33 [Af 32 (List.replicate 32 0)]), .res (lb (b3 1) 247 (AF.ck s.2))] a w | .ret r => e = .ret ∧ CO prog f108 c (AG [Af 32 r]) (fun _ => []) a w) ?_ _ (0, r2) _ _ _ (h.sub [0, 1, 2, 3, 4, 5, 6] (by rfl)) hl18) ?_
 ·clear hl18 hF h
  intro s a w o h hF
  obtain ⟨x7, x8⟩ := s
  change CB.b1 a_0 x7 x8 = some o at hF
  unfold CB.b1 at hF
  change Ar c [.slot 2 (Au (b1 0) 0), .slot 3 (Au (b3 1) 0), .slot 7 (An C9 a_0), .slot 8 (Ab .i64 (a_0.length : Int)), .slot 9 (Ab .i64 x7), .res (lb (b1 0) 33 [Af 32 (List.replicate 32 0)]), .res (lb (b3 1) 247 (AF.ck x8))] a w at h
  refine Ao mixed hn hG h [0, 1, 2, 3, 4, 500, 5, 6] (ov [4, 3] (Ak Bl q0 q1) .nil) fun _ a w h => ?_
  refine wp_seq ?_
  refine DL h hF 5 [0, 1, 2, 3, 4, 6, 7] [0, 1, 2, 3, 4, 6, 7] (fun hb14 hF h => ?_) (fun hb14 hF h => ?_)
  ·refine wp_skip ?_
   show Code.wp prog _ _ a w
   refine wp_seq ?_
   refine wp_block ?_
   obtain ⟨hv15, hF⟩ := Ay hF
   refine Ao mixed hn hG h [0, 1, 500, 2, 3, 4, 5, 6] (ov [2, 4] (AL underlying22 sizeOf9 C5 q0 q1 hv15) <| ov [500] (BH [] isAgg9 q0) <| ov [500] (Ad q0) .nil) fun _ a w h => ?_
   obtain ⟨r16, hr16, hF⟩ := bind_some hF
   refine CY mixed hn hG h [0, 1, 3, 4, 5, 6, 500] (ov [1, 7] (AA 1 isAgg247 sizeOf247 q0) <| ov [2] (Aa q0) <| oc [501, 500] [] call130 (Gk hr16) ⟨q0, q1, trivial⟩ <| ou [1, 500] 7 (Aq sizeOf247 q0 q1 (Al _)) .nil) fun _ a w h => ?_
   show Code.wp prog _ _ a w
   refine CY mixed hn hG h [0, 1, 2, 3, 500, 5, 6] (ov [4] (Ak AY q0 qi) <| od [500] 4 (Aa q0) .nil) fun _ a w h => ?_
   obtain rfl := Option.some.inj hF
   exact ⟨rfl, h.sub [0, 1, 2, 3, 4, 5, 6] (by rfl)⟩
  ·refine wp_exit ?_
   obtain rfl := Option.some.inj hF
   exact ⟨BQ _, rfl, h.sub [0, 1, 5, 6] (by rfl)⟩
 ·clear hl18
  intro e a w hq
  cases cr17 with
  | ret r19 =>
   obtain ⟨rfl, hq⟩ := hq
   obtain rfl := Option.some.inj hF
   exact ⟨.inl rfl, hq⟩
  | next s20 =>
   obtain ⟨y21, y22⟩ := s20
   obtain ⟨rfl, h⟩ := hq
   change Ar c [.slot 2 (Au (b1 0) 0), .slot 3 (Au (b3 1) 0), .res (lb (b1 0) 33 [Af 32 (List.replicate 32 0)]), .res (lb (b3 1) 247 (AF.ck y22))] a w at h
   refine Be ?_
   show Code.wp prog _ _ a w
   obtain ⟨r23, hr23, hF⟩ := bind_some hF
   refine Ao mixed hn hG h [0, 500] (ov [1, 3] (AA 1 isAgg247 sizeOf247 q0) <| oc [500] [] call131 (H8 hr23) ⟨q0, trivial⟩ <| ou [0, 500] 2 (Aq sizeOf33 q0 q1 (Al _)) .nil) fun _ a w h => ?_
   refine wp_ret ?_
   obtain rfl := Option.some.inj hF
   exact ⟨.inl rfl, BG h results108 (Bs 0 1 rfl rfl isAgg33 sizeOf33 rfl) [] [] rfl rfl rfl⟩

def A6.n (a_1 : List UInt8) (a_2 : List UInt8) : Option (Option AP) := some none
def A6.j2 (x6 : List ((List UInt8) × (List UInt8))) (x7 : List ((List UInt8) × Bool)) : Option (Option AP) := some (some ⟨x6, x7⟩)
def A6.j1 (s_0 : AP) (a_1 : List UInt8) (a_2 : List UInt8) (x5 : Bool) : Option (Option AP) := (if x5 = true then A6.j2 s_0.D4 (Gw a_2 true s_0.E9) else A6.j2 (Gw a_1 a_2 s_0.D4) s_0.E9)
def A6.s (s_0 : AP) (a_1 : List UInt8) (a_2 : List UInt8) : Option (Option AP) := (if ((GM a_1 s_0.D4).isSome) = true then A6.j1 s_0 a_1 a_2 (!decide (((GM a_1 s_0.D4).getD []) = a_2)) else A6.j1 s_0 a_1 a_2 false)
def A6 (L_0 : Option AP) (a_1 : List UInt8) (a_2 : List UInt8) : Option (Option AP) := match L_0 with | none => A6.n a_1 a_2 | some s_0 => A6.s s_0 a_1 a_2
theorem HA {p_0 : Value} {L_0 : Option AP} {a_1 : List UInt8} {a_2 : List UInt8} {r : (Option AP)} (hF : A6 L_0 a_1 a_2 = some r) : Az prog KG 109 [(Am p_0), (AG [Af 32 a_1]), (As a_2)] [(AO p_0 L_0)] (fun _ => [AO p_0 r]) (CV []) := by
 refine Az.intro 36 func109 rfl ntmps109 (Nat.le_of_ble_eq_true rfl) ?_
 intro c a w hG hn h
 unfold A6 at hF
 change Ar c [.slot 0 (Am p_0), .slot 1 (AG [Af 32 a_1]), .slot 2 (As a_2), .res (AO p_0 L_0)] a w at h
 obtain ⟨h_0_0, h⟩ := h.ex 3 rfl
 obtain ⟨h_0_1, h⟩ := h.ex 3 rfl
 change Ar c [.slot 0 (Am p_0), .slot 1 (AG [Af 32 a_1]), .slot 2 (As a_2), .res (MA p_0 h_0_0 h_0_1 L_0)] a w at h
 cases L_0 with
 | none =>
  change A6.n a_1 a_2 = some r at hF
  unfold A6.n at hF
  obtain rfl := h.Hi 3 rfl (fun _ _ _ q => q.2)
  replace h := h.B6 0 rfl (V' := J0 (.pointer none) false) (fun _ _ h => ⟨h, rfl⟩)
  change Ar c [.slot 0 (J0 (.pointer none) false), .slot 1 (AG [Af 32 a_1]), .slot 2 (As a_2), .res (MA (.pointer none) h_0_0 h_0_1 none)] a w at h
  refine Ao mixed hn hG h [0, 2, 501, 3, 500] (ob [1] (BF q0 (Al _)) .nil) fun b1 a w h => ?_
  refine wp_seq ?_
  refine Ao mixed hn hG h [0, 1, 2, 500, 3, 4] (ov [0] (Aa q0) <| ov [500] (Ak (Gt underlying101) q0 (DZ (ec _))) .nil) fun _ a w h => ?_
  refine D6 h 3 rfl (fun hb2 => ?_) (fun hb2 => ?_)
  ·skip
   replace h := h.LO [4]
   refine wp_ret ?_
   replace h := h.conv 0 rfl Ke
   change Ar c [.res (AO (.pointer none) none)] a w at h
   obtain rfl := Option.some.inj hF
   exact ⟨.inl rfl, Es h (rs := []) (Vs := []) results109 (by decide) trivial [0] [(AO (.pointer none) none)] rfl rfl rfl⟩
  ·cases hb2
 | some s_0 =>
  change A6.s s_0 a_1 a_2 = some r at hF
  unfold A6.s at hF
  have hp := h.Hi 3 rfl (fun Φ f w q => Qv Φ f w q)
  replace h := h.B6 0 rfl (V' := Au p_0 0) (fun _ _ h => DG h hp)
  replace h := h.sep (R := lb p_0 254 [one (Am h_0_0), one (Am h_0_1)]) (S := (RP.sep (Et h_0_0 Ex (fun l => l.length = 32) (fun u y => RP.val (As y) u) s_0.D4) (Et h_0_1 HF (fun _ => True) (fun u y => RP.val (AE y) u) s_0.E9))) 3 rfl
  replace h := h.sep (R := Et h_0_0 Ex (fun l => l.length = 32) (fun u y => RP.val (As y) u) s_0.D4) (S := (Et h_0_1 HF (fun _ => True) (fun u y => RP.val (AE y) u) s_0.E9)) 4 rfl
  replace h := h.sub [0, 1, 2, 3, 4, 5] (by rfl)
  change Ar c [.slot 0 (Au p_0 0), .slot 1 (AG [Af 32 a_1]), .slot 2 (As a_2), .res (lb p_0 254 [one (Am h_0_0), one (Am h_0_1)]), .res (Et h_0_0 Ex (fun l => l.length = 32) (fun u y => RP.val (As y) u) s_0.D4), .res (Et h_0_1 HF (fun _ => True) (fun u y => RP.val (AE y) u) s_0.E9)] a w at h
  refine Ao mixed hn hG h [0, 2, 501, 3, 4, 5, 500] (ob [1] (BF q0 (Al _)) .nil) fun b3 a w h => ?_
  refine wp_seq ?_
  refine Ao mixed hn hG h [0, 1, 2, 500, 3, 4, 5, 6] (ov [0] (Aa q0) <| ov [500] (Ak (Gt underlying101) (KE q0) (DZ (ec _))) .nil) fun _ a w h => ?_
  refine D6 h 3 rfl (fun hb4 => ?_) (fun hb4 => ?_)
  ·cases hb4
  ·skip
   replace h := h.LO [0, 1, 2, 4, 5, 6, 7]
   refine wp_skip ?_
   show Code.wp prog _ _ a w
   refine Ao mixed hn hG h [0, 1, 2, 501, 500, 3, 4, 5, 6] (ov [0] (Aa q0) <| ov [500] (Bz q0 (DA _ _)) <| ov [500] (Aj (p := p_0) (n := 1) 0 0 underlying254 rfl sizeOf251 (by decide) q0 rfl) <| ov [500, 3] (AB [] [one (Am h_0_1)] 1 isAgg251 q0 rfl rfl) <| ov [2, 6] (AA 1 isAgg33 sizeOf33 q0) <| ov [501, 500, 4] (Ie As [] 2 underlying251 (Il underlying33 underlying5 type5 sizeOf5 isAgg5) zeroValue9 q0 q1 Im rfl LP (fun _ _ _ _ _ h => h.2) (fun _ => ⟨rfl, by decide⟩)) <| ov [500] (Aa q0) <| ov [500] (AQ q0 rfl) <| ov [501] (AQ q0 rfl) <| ov [501] (Ad q0) <| ov [501] (Ad q0) .nil) fun _ a w h => ?_
   refine wp_seq ?_
   refine wp_cut (fun a w => ∃ (x5 : Bool), A6.j1 s_0 a_1 a_2 x5 = some r ∧ Ar c [.slot 0 (Au p_0 0), .slot 2 (As a_2), .slot 4 (Au (b3 0) 0), .slot 24 (AE x5), .res (lb p_0 254 [one (Am h_0_0), one (Am h_0_1)]), .res (Et h_0_0 Ex (fun l => l.length = 32) (fun u y => RP.val (As y) u) s_0.D4), .res (Et h_0_1 HF (fun _ => True) (fun u y => RP.val (AE y) u) s_0.E9), .res (lb (b3 0) 33 [Af 32 a_1])] a w) ?_ ?_
   ·rcases Bool.eq_false_or_eq_true ((GM a_1 s_0.D4).isSome) with hb9 | hb9
    ·replace hF := EM hb9 hF
     refine CY mixed hn hG h [0, 1, 2, 500, 5, 6, 7, 8] (ov [4] (Aa q0) <| ov [500] (Aa q0) <| oe [500, 3] [] (AV.AT hb9 rfl rfl rfl (Aa q0)) <| oe [501, 1] [] (AV.AT hb9 rfl rfl rfl (Aa q0)) <| oe [502, 501, 500] [] (AV.AT hb9 rfl rfl rfl (Ak Lu q0 q1)) <| ov [503, 500] (Bu hb9 q0 q1) .nil) fun _ a w h => ?_
     exact ⟨!decide (((GM a_1 s_0.D4).getD []) = a_2), hF, h.sub [0, 1, 2, 3, 4, 5, 6, 7] (by rfl)⟩
    ·replace hF := EO hb9 hF
     refine CY mixed hn hG h [0, 1, 2, 500, 5, 6, 7, 8] (ov [4] (Aa q0) <| ov [500] (Aa q0) <| oe [500] [] (AV.AZ (want := true) hb9 rfl rfl rfl rfl) <| oe [501] [] (AV.AZ (want := true) hb9 rfl rfl rfl rfl) <| oe [502] [] (AV.AZ (want := true) hb9 rfl rfl rfl rfl) <| ov [503] (Bq hb9 q0 qb) .nil) fun _ a w h => ?_
     exact ⟨false, hF, h.sub [0, 1, 2, 3, 4, 5, 6, 7] (by rfl)⟩
   ·clear h hF
    rintro a w ⟨x5, hF, h⟩
    unfold A6.j1 at hF
    show Code.wp prog _ _ a w
    refine wp_cut (fun a w => ∃ (x6 : List ((List UInt8) × (List UInt8))), ∃ (x7 : List ((List UInt8) × Bool)), A6.j2 x6 x7 = some r ∧ Ar c [.res (lb p_0 254 [one (Am h_0_0), one (Am h_0_1)]), .res (Et h_0_0 Ex (fun l => l.length = 32) (fun u y => RP.val (As y) u) x6), .res (Et h_0_1 HF (fun _ => True) (fun u y => RP.val (AE y) u) x7)] a w) ?_ ?_
    ·refine DL h hF 3 [0, 1, 4, 5, 6] [0, 1, 2, 4, 5, 6, 7] (fun hb8 hF h => ?_) (fun hb8 hF h => ?_)
     ·refine CY mixed hn hG h [2, 3, 500] (ov [0] (Aa q0) <| ov [500] (Bz q0 (DA _ _)) <| ov [500] (Aj (p := p_0) (n := 1) 0 1 underlying254 rfl sizeOf252 (by decide) q0 rfl) <| ov [500, 2] (AB [one (Am h_0_0)] [] 1 isAgg252 q0 rfl rfl) <| ov [1] (Aa q0) <| ou [501, 500] 4 (GC underlying252 (Qc underlying9) q0 q1 Qf qb) .nil) fun _ a w h => ?_
      exact ⟨s_0.D4, Gw a_2 true s_0.E9, hF, h.sub [0, 1, 2] (by rfl)⟩
     ·refine CY mixed hn hG h [3, 500, 5] (ov [0] (Aa q0) <| ov [500] (Bz q0 (DA _ _)) <| ov [500] (Aj (p := p_0) (n := 1) 0 0 underlying254 rfl sizeOf251 (by decide) q0 rfl) <| ov [500, 3] (AB [] [one (Am h_0_1)] 1 isAgg251 q0 rfl rfl) <| ov [2, 6] (AA 1 isAgg33 sizeOf33 q0) <| ov [1] (Aa q0) <| ou [502, 501, 500] 4 (GC underlying251 (Il underlying33 underlying5 type5 sizeOf5 isAgg5) q0 q1 Im q2) .nil) fun _ a w h => ?_
      exact ⟨Gw a_1 a_2 s_0.D4, s_0.E9, hF, h.sub [0, 1, 2] (by rfl)⟩
    ·clear h hF
     rintro a w ⟨x6, x7, hF, h⟩
     unfold A6.j2 at hF
     replace h := h.EY 1 2 rfl rfl (by decide)
     replace h := h.EY 0 1 rfl rfl (by decide)
     replace h := h.conv 0 rfl (R' := AO p_0 (some ⟨x6, x7⟩)) (Ke (v0 := h_0_0) (v1 := h_0_1) (o := (some ⟨x6, x7⟩)))
     replace h := h.sub [0] (by rfl)
     change Ar c [.res (AO p_0 (some ⟨x6, x7⟩))] a w at h
     obtain rfl := Option.some.inj hF
     exact ⟨.inr rfl, Es h (rs := []) (Vs := []) results109 (by decide) trivial [0] [(AO p_0 (some ⟨x6, x7⟩))] rfl rfl rfl⟩

def DV (L_0 : Option AP) (a_1 : Int) (a_2 : List (List UInt8)) : Option ((List UInt8) × (Option AP)) := ((Cn a_1 a_2).bind fun r2 => ((CB [r2]).bind fun r3 => ((A6 L_0 r3 r2).bind fun r5 => some (r3, r5))))
theorem Fm {p_0 : Value} {L_0 : Option AP} {a_1 : Int} {a_2 : List (List UInt8)} {r : (List UInt8) × (Option AP)} (hF : DV L_0 a_1 a_2 = some r) : Az prog KG 80 [(Am p_0), (Ab .u8 a_1), (An C9 a_2)] [(AO p_0 L_0)] (fun _ => [AO p_0 r.2]) (AG [Af 32 r.1]) := by
 refine Az.intro 20 func80 rfl ntmps80 (Nat.le_of_ble_eq_true rfl) ?_
 intro c a w hG hn h
 unfold DV at hF
 change Ar c [.slot 0 (Am p_0), .slot 1 (Ab .u8 a_1), .slot 2 (An C9 a_2), .res (AO p_0 L_0)] a w at h
 refine Ao mixed hn hG h [0, 1, 2, 501, 3, 500] (ob [] (AJ zeroValue33 GN) .nil) fun b1 a w h => ?_
 obtain ⟨r2, hr2, hF⟩ := bind_some hF
 refine Ao mixed hn hG h [0, 3, 500, 4, 5] (ov [1] (Aa q0) <| ov [2] (Aa q0) <| oc [501, 500] [] call107 (IW hr2) ⟨q0, q1, trivial⟩ <| ov [500] (Ad q0) .nil) fun _ a w h => ?_
 obtain ⟨r3, hr3, hF⟩ := bind_some hF
 refine Ao mixed hn hG h [0, 1, 2, 502, 3, 4, 500] (ov [2] (Aa q0) <| ov [500] (Dn (xs := [.tmp 12]) (ys := [r2]) _ rfl underlying22 sizeOf9 zeroValue9 rfl rfl (by decide) (by decide) ⟨⟨_, q0, (Ap (Du _))⟩, trivial⟩ C5) <| oc [500] [] call108 (LN hr3) ⟨q0, trivial⟩ <| ob [] (AJ zeroValue33 GN) <| og [501, 502] [500] [.res 3 100000 (fun v1_ _ => (lb (v1_) 33 [Af 32 r3]))] (AV.plain (Aq sizeOf33 q0 q1 (Al _)) rfl) .nil) fun b4 a w h => ?_
 obtain ⟨r5, hr5, hF⟩ := bind_some hF
 refine Ao mixed hn hG h [1, 3, 5, 6, 500] (ov [0] (Aa q0) <| ov [3, 6] (AA 1 isAgg33 sizeOf33 q0) <| ov [2] (Aa q0) <| oc [502, 501, 500] [4] call109 (HA hr5) ⟨q0, q1, q2, trivial⟩ .nil) fun _ a w h => ?_
 refine Ao mixed hn hG h [0, 500, 4] (ov [1, 3] (AA 1 isAgg33 sizeOf33 q0) <| ou [0, 500] 2 (Aq sizeOf33 q0 q1 (Al _)) .nil) fun _ a w h => ?_
 refine wp_ret ?_
 obtain rfl := Option.some.inj hF
 exact ⟨.inl rfl, BG h results80 (Bs 0 1 rfl rfl isAgg33 sizeOf33 rfl) [2] [(AO p_0 r5)] rfl rfl rfl⟩

def Ec (a_0 : AD) : Option (List UInt8) := ((Fw a_0).bind fun r2 => ((DV none 200 [r2]).bind fun r3 => ((DP r3.1).bind fun r4 => (if r2.length + r4.length ≤ CG then some (r2 ++ r4) else none))))
theorem G0 {a_0 : AD} {r : (List UInt8)} (hF : Ec a_0 = some r) : Az prog KG 39 [(AG (AD.ck a_0))] [] (fun _ => []) (As r) := by
 refine Az.intro 14 func39 rfl ntmps39 (Nat.le_of_ble_eq_true rfl) ?_
 intro c a w hG hn h
 unfold Ec at hF
 change Ar c [.slot 0 (AG (AD.ck a_0))] a w at h
 refine Ao mixed hn hG h [502, 501] (ob [0] (BF q0 (Al _)) <| ov [] (Ad (DZ (sc _ (by decide)))) .nil) fun b1 a w h => ?_
 obtain ⟨r2, hr2, hF⟩ := bind_some hF
 refine Ao mixed hn hG h [500] (ov [0, 1] (AA 1 isAgg93 sizeOf93 q0) <| oc [500] [] call78 (Jr hr2) ⟨q0, trivial⟩ <| ov [500] (Ad q0) .nil) fun _ a w h => ?_
 refine Ao mixed hn hG h [0, 500] (ov [] (Ad (DZ (ec _))) .nil) fun _ a w h => ?_
 replace h := h.snoc Hf
 replace h := h.sub [0, 1, 2] (by rfl)
 change Ar c [.slot 3 (As r2), .slot 4 (Am (.pointer none)), .res (AO (.pointer none) none)] a w at h
 obtain ⟨r3, hr3, hF⟩ := bind_some hF
 obtain ⟨r4, hr4, hF⟩ := bind_some hF
 obtain ⟨hv5, hF⟩ := Ay hF
 refine Ao mixed hn hG h [500, 503] (ov [0] (Aa q0) <| ov [1] (Aa q0) <| ov [0] (Aa q0) <| ov [500] (Dn (xs := [.tmp 9]) (ys := [r2]) _ rfl underlying22 sizeOf9 zeroValue9 rfl rfl (by decide) (by decide) ⟨⟨_, q0, (Ap (Du _))⟩, trivial⟩ C5) <| oc [502, 500] [2] call80 (Fm hr3) ⟨q0, qi, q1, trivial⟩ <| oc [501] [] call79 (Ey hr4) ⟨q0, trivial⟩ <| ov [506, 500] (Ak (Cy hv5) q0 q1) <| ov [500] (Ad q0) .nil) fun _ a w h => ?_
 refine wp_ret ?_
 obtain rfl := Option.some.inj hF
 exact ⟨.inl rfl, BG h results39 (Bc 0 rfl) [] [] rfl rfl rfl⟩

def H7 (a_0 : List UInt8) : Option Cg := some ⟨a_0, (0 : Int)⟩
theorem Ki {a_0 : List UInt8} {r : Cg} (hF : H7 a_0 = some r) : Az prog KG 120 [(As a_0)] [] (fun v => [BS v (some r)]) Mz := by
 refine Az.intro 6 func120 rfl ntmps120 (Nat.le_of_ble_eq_true rfl) ?_
 intro c a w hG hn h
 unfold H7 at hF
 change Ar c [.slot 0 (As a_0)] a w at h
 refine Ao mixed hn hG h [0] (ov [] (Ad (DZ (ec _))) .nil) fun _ a w h => ?_
 refine Ao mixed hn hG h [500, 501] (ov [0] (Aa q0) <| ov [500] (Dc [(0, .tmp 3)] rfl Q5 QD ⟨[], [one (As [])], [one (Ab .i64 (0 : Int))], [one (As a_0)], _, rfl, rfl, rfl, q0, (Ap (Du _)), rfl⟩) <| ob [500] (BF q0 (Al _)) <| og [501] [] [.slot 2 2 100000 (fun v1_ _ => (Au v1_ 0))] (fun {β} => (AV.plain (Ad (V := (Au (β 2) 0)) q0) rfl)) .nil) fun b1 a w h => ?_
 refine wp_ret ?_
 replace h := h.conv 1 rfl (R' := BS (b1 2) (some ⟨a_0, (0 : Int)⟩)) (Eo (o := (some ⟨a_0, (0 : Int)⟩)))
 replace h := h.B6 0 rfl (fun _ _ h => DD h)
 replace h := h.sub [0, 1] (by rfl)
 change Ar c [.slot 2 (Am (b1 2)), .res (BS (b1 2) (some ⟨a_0, (0 : Int)⟩))] a w at h
 obtain rfl := Option.some.inj hF
 exact ⟨.inl rfl, K4 (p := (b1 2)) h results120 (Bc 0 rfl) [1] _ rfl rfl rfl⟩

def Dy (L_0 : Cg) (a_1 : Int) : Option ((List UInt8) × Cg) := (if (!decide (L_0.H4 = (0 : Int))) = true then some ([], L_0) else (if (decide ((L_0.FM.length : Int) < a_1)) = true then some ([], ⟨L_0.FM, 3⟩) else (if (0 : Int) ≤ 0 ∧ (0 : Int) ≤ a_1 ∧ a_1 ≤ L_0.FM.length then (if (0 : Int) ≤ a_1 ∧ a_1 ≤ (L_0.FM.length : Int) ∧ (L_0.FM.length : Int) ≤ L_0.FM.length then some ((L_0.FM.take a_1.toNat).drop (0 : Int).toNat, ⟨(L_0.FM.take (L_0.FM.length : Int).toNat).drop a_1.toNat, L_0.H4⟩) else none) else none)))
theorem FC {p_0 : Value} {L_0 : Cg} {a_1 : Int} {r : (List UInt8) × Cg} (hF : Dy L_0 a_1 = some r) : Az prog KG 137 [(Am p_0), (Ab .i64 a_1)] [(BS p_0 (some L_0))] (fun _ => [BS p_0 (some r.2)]) (As r.1) := by
 refine Az.intro 43 func137 rfl ntmps137 (Nat.le_of_ble_eq_true rfl) ?_
 intro c a w hG hn h
 unfold Dy at hF
 change Ar c [.slot 0 (Am p_0), .slot 1 (Ab .i64 a_1), .res (BS p_0 (some L_0))] a w at h
 refine Ao mixed hn hG h [0, 1, 2] (ov [] (Ad (DZ (sc _ (by decide)))) .nil) fun _ a w h => ?_
 refine wp_seq ?_
 refine wp_block ?_
 have hp := h.Hi 2 rfl (fun Φ f w q => G6 Φ f w q)
 replace h := h.B6 0 rfl (V' := Au p_0 0) (fun _ _ h => DG h hp)
 replace h := h.sub [0, 1, 2] (by rfl)
 change Ar c [.slot 0 (Au p_0 0), .slot 1 (Ab .i64 a_1), .res (lb p_0 259 [one (As L_0.FM), one (Ab .i64 L_0.H4)])] a w at h
 refine wp_seq ?_
 refine CY mixed hn hG h [0, 1, 500, 2] (ov [0] (Aa q0) <| ov [500] (Ak (Gt underlying236) (KE q0) (DZ (ec _))) <| ov [500] (Aa q0) <| oe [500, 0] [] (AV.AT rfl rfl rfl rfl (Aa q0)) <| oe [501, 500] [] (AV.AT rfl rfl rfl rfl (Bz q0 (DA _ _))) <| oe [502, 500] [] (AV.AT rfl rfl rfl rfl (Aj (p := p_0) (n := 1) 0 1 underlying259 rfl sizeOf48 (by decide) q0 rfl)) <| oe [503, 500, 2] [] (AV.AT rfl rfl rfl rfl (AB [one (As L_0.FM)] [] 1 isAgg48 q0 rfl rfl)) <| oe [504, 500] [] (AV.AT rfl rfl rfl rfl (Ak C2 q0 qi)) <| ov [505, 500] (Bq rfl q0 q1) <| ov [500] (Ad q0) .nil) fun _ a w h => ?_
 replace h := h.conv 3 rfl (R' := BS p_0 (some L_0)) (Eo (o := (some L_0)))
 replace h := h.B6 0 rfl (fun _ _ h => DD h)
 replace h := h.sub [0, 1, 2, 3] (by rfl)
 change Ar c [.slot 0 (Am p_0), .slot 1 (Ab .i64 a_1), .slot 6 (AE (!decide (L_0.H4 = (0 : Int)))), .res (BS p_0 (some L_0))] a w at h
 show Code.wp prog _ _ a w
 refine DL h hF 2 [3] [0, 1, 3] (fun hb1 hF h => ?_) (fun hb1 hF h => ?_)
 ·refine Ao mixed hn hG h [500, 0] (ov [] (Ad (DZ (sc _ (by decide)))) .nil) fun _ a w h => ?_
  refine wp_ret ?_
  obtain rfl := Option.some.inj hF
  exact ⟨.inl rfl, BG h results137 (Bc 0 rfl) [1] [(BS p_0 (some L_0))] rfl rfl rfl⟩
 ·have hp := h.Hi 2 rfl (fun Φ f w q => G6 Φ f w q)
  replace h := h.B6 0 rfl (V' := Au p_0 0) (fun _ _ h => DG h hp)
  replace h := h.sub [0, 1, 2] (by rfl)
  change Ar c [.slot 0 (Au p_0 0), .slot 1 (Ab .i64 a_1), .res (lb p_0 259 [one (As L_0.FM), one (Ab .i64 L_0.H4)])] a w at h
  refine wp_seq ?_
  refine CY mixed hn hG h [0, 1, 500, 2] (ov [1] (Aa q0) <| ov [0] (Aa q0) <| ov [500] (Bz q0 (DA _ _)) <| ov [500] (Aj (p := p_0) (n := 1) 0 0 underlying259 rfl sizeOf9 (by decide) q0 rfl) <| ov [500, 2] (AB [] [one (Ab .i64 L_0.H4)] 1 isAgg9 q0 rfl rfl) <| ov [500] (DU underlying9 q0) <| ov [505, 500] (Ak Gd q0 q1) <| ov [500] (Ad q0) .nil) fun _ a w h => ?_
  replace h := h.conv 3 rfl (R' := BS p_0 (some L_0)) (Eo (o := (some L_0)))
  replace h := h.B6 0 rfl (fun _ _ h => DD h)
  replace h := h.sub [0, 1, 2, 3] (by rfl)
  change Ar c [.slot 0 (Am p_0), .slot 1 (Ab .i64 a_1), .slot 16 (AE (decide ((L_0.FM.length : Int) < a_1))), .res (BS p_0 (some L_0))] a w at h
  show Code.wp prog _ _ a w
  refine DL h hF 2 [0, 3] [0, 1, 3] (fun hb2 hF h => ?_) (fun hb2 hF h => ?_)
  ·have hp := h.Hi 1 rfl (fun Φ f w q => G6 Φ f w q)
   replace h := h.B6 0 rfl (V' := Au p_0 0) (fun _ _ h => DG h hp)
   replace h := h.sub [0, 1] (by rfl)
   change Ar c [.slot 0 (Au p_0 0), .res (lb p_0 259 [one (As L_0.FM), one (Ab .i64 L_0.H4)])] a w at h
   refine wp_seq ?_
   refine CY mixed hn hG h [500] (ov [0] (Aa q0) <| ov [500] (Bz q0 (DA _ _)) <| ov [500] (Aj (p := p_0) (n := 1) 0 1 underlying259 rfl sizeOf48 (by decide) q0 rfl) <| ou [500] 1 (B7 [one (As L_0.FM)] [one (Ab .i64 L_0.H4)] [] [one (Ab .i64 3)] sizeOf48 q0 qi (Ap (AK _ _)) rfl rfl rfl) .nil) fun _ a w h => ?_
   replace h := h.conv 0 rfl (R' := BS p_0 (some ⟨L_0.FM, 3⟩)) (Eo (o := (some ⟨L_0.FM, 3⟩)))
   replace h := h.sub [0] (by rfl)
   change Ar c [.res (BS p_0 (some ⟨L_0.FM, 3⟩))] a w at h
   show Code.wp prog _ _ a w
   refine Ao mixed hn hG h [500, 0] (ov [] (Ad (DZ (sc _ (by decide)))) .nil) fun _ a w h => ?_
   refine wp_ret ?_
   obtain rfl := Option.some.inj hF
   exact ⟨.inl rfl, BG h results137 (Bc 0 rfl) [1] [(BS p_0 (some ⟨L_0.FM, 3⟩))] rfl rfl rfl⟩
  ·refine wp_skip ?_
   show Code.wp prog _ _ a w
   have hp := h.Hi 2 rfl (fun Φ f w q => G6 Φ f w q)
   replace h := h.B6 0 rfl (V' := Au p_0 0) (fun _ _ h => DG h hp)
   replace h := h.sub [0, 1, 2] (by rfl)
   change Ar c [.slot 0 (Au p_0 0), .slot 1 (Ab .i64 a_1), .res (lb p_0 259 [one (As L_0.FM), one (Ab .i64 L_0.H4)])] a w at h
   obtain ⟨hv3, hF⟩ := Ay hF
   refine wp_seq ?_
   refine CY mixed hn hG h [0, 1, 500, 2] (ov [0] (Aa q0) <| ov [500] (Bz q0 (DA _ _)) <| ov [500] (Aj (p := p_0) (n := 1) 0 0 underlying259 rfl sizeOf9 (by decide) q0 rfl) <| ov [500, 2] (AB [] [one (Ab .i64 L_0.H4)] 1 isAgg9 q0 rfl rfl) <| ov [1] (Aa q0) <| ov [501, 500] (E5 (a := 0) (b := a_1) underlying9 q0 rfl ⟨_, q1⟩ hv3) <| ov [500] (Ad q0) .nil) fun _ a w h => ?_
   replace h := h.conv 3 rfl (R' := BS p_0 (some L_0)) (Eo (o := (some L_0)))
   replace h := h.B6 0 rfl (fun _ _ h => DD h)
   replace h := h.sub [0, 1, 2, 3] (by rfl)
   change Ar c [.slot 0 (Am p_0), .slot 1 (Ab .i64 a_1), .slot 5 (As ((L_0.FM.take a_1.toNat).drop (0 : Int).toNat)), .res (BS p_0 (some L_0))] a w at h
   show Code.wp prog _ _ a w
   have hp := h.Hi 3 rfl (fun Φ f w q => G6 Φ f w q)
   replace h := h.B6 0 rfl (V' := Au p_0 0) (fun _ _ h => DG h hp)
   replace h := h.sub [0, 1, 2, 3] (by rfl)
   change Ar c [.slot 0 (Au p_0 0), .slot 1 (Ab .i64 a_1), .slot 5 (As ((L_0.FM.take a_1.toNat).drop (0 : Int).toNat)), .res (lb p_0 259 [one (As L_0.FM), one (Ab .i64 L_0.H4)])] a w at h
   obtain ⟨hv4, hF⟩ := Ay hF
   refine wp_seq ?_
   refine CY mixed hn hG h [2, 500] (ov [0] (Aa q0) <| ov [0] (Aa q0) <| ov [500] (Bz q0 (DA _ _)) <| ov [500] (Aj (p := p_0) (n := 1) 0 0 underlying259 rfl sizeOf9 (by decide) q0 rfl) <| ov [500, 3] (AB [] [one (Ab .i64 L_0.H4)] 1 isAgg9 q0 rfl rfl) <| ov [1] (Aa q0) <| ov [501, 500] (E5 (a := a_1) (b := (L_0.FM.length : Int)) underlying9 q0 ⟨_, q1⟩ rfl hv4) <| ov [506] (Bz q0 (DA _ _)) <| ov [500] (Aj (p := p_0) (n := 1) 0 0 underlying259 rfl sizeOf9 (by decide) q0 rfl) <| ou [500, 502] 3 (B7 [] [one (As L_0.FM)] [one (Ab .i64 L_0.H4)] [one (As ((L_0.FM.take (L_0.FM.length : Int).toNat).drop a_1.toNat))] sizeOf9 q0 q1 (Ap (Du _)) rfl rfl rfl) .nil) fun _ a w h => ?_
   replace h := h.conv 1 rfl (R' := BS p_0 (some ⟨(L_0.FM.take (L_0.FM.length : Int).toNat).drop a_1.toNat, L_0.H4⟩)) (Eo (o := (some ⟨(L_0.FM.take (L_0.FM.length : Int).toNat).drop a_1.toNat, L_0.H4⟩)))
   replace h := h.sub [0, 1] (by rfl)
   change Ar c [.slot 5 (As ((L_0.FM.take a_1.toNat).drop (0 : Int).toNat)), .res (BS p_0 (some ⟨(L_0.FM.take (L_0.FM.length : Int).toNat).drop a_1.toNat, L_0.H4⟩))] a w at h
   show Code.wp prog _ _ a w
   refine Ao mixed hn hG h [500, 1] (ov [0] (Aa q0) <| ov [500] (Ad q0) .nil) fun _ a w h => ?_
   refine wp_ret ?_
   obtain rfl := Option.some.inj hF
   exact ⟨.inl rfl, BG h results137 (Bc 0 rfl) [1] [(BS p_0 (some ⟨(L_0.FM.take (L_0.FM.length : Int).toNat).drop a_1.toNat, L_0.H4⟩))] rfl rfl rfl⟩
end Go.Proofs.YteboiefnflipjaaGreatDoor
