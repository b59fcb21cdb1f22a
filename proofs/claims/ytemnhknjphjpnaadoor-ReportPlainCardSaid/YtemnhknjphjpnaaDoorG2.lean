/- The functions' Lean twins and contracts, printed by this session's own program: part 2. -/
import Derived.Test.YtemnhknjphjpnaaDoorG1
namespace Go.Proofs.YtemnhknjphjpnaaDoor
open Go Go.RowKit Go.Proofs
set_option maxRecDepth 100000
set_option maxHeartbeats 4000000
set_option linter.unusedVariables false
set_option linter.unusedSimpArgs false
def C1 (a_0 : Int) : Option (List UInt8) := (if (decide (a_0 < (10 : Int))) = true then (if (0 : Int) ≤ a_0 ∧ a_0 ≤ IntKind.wrap .i64 (a_0 + 1) ∧ IntKind.wrap .i64 (a_0 + 1) ≤ ([48, 49, 50, 51, 52, 53, 54, 55, 56, 57, 97, 98, 99, 100, 101, 102, 103, 104, 105, 106, 107, 108, 109, 110, 111, 112, 113, 114, 115, 116, 117, 118, 119, 120, 121, 122] : List UInt8).length then some ((([48, 49, 50, 51, 52, 53, 54, 55, 56, 57, 97, 98, 99, 100, 101, 102, 103, 104, 105, 106, 107, 108, 109, 110, 111, 112, 113, 114, 115, 116, 117, 118, 119, 120, 121, 122] : List UInt8).take (IntKind.wrap .i64 (a_0 + 1)).toNat).drop a_0.toNat) else none) else (if (0 : Int) ≤ IntKind.wrap .i64 (a_0 * 2) ∧ IntKind.wrap .i64 (a_0 * 2) ≤ IntKind.wrap .i64 ((IntKind.wrap .i64 (a_0 * 2)) + 2) ∧ IntKind.wrap .i64 ((IntKind.wrap .i64 (a_0 * 2)) + 2) ≤ ([48, 48, 48, 49, 48, 50, 48, 51, 48, 52, 48, 53, 48, 54, 48, 55, 48, 56, 48, 57, 49, 48, 49, 49, 49, 50, 49, 51, 49, 52, 49, 53, 49, 54, 49, 55, 49, 56, 49, 57, 50, 48, 50, 49, 50, 50, 50, 51, 50, 52, 50, 53, 50, 54, 50, 55, 50, 56, 50, 57, 51, 48, 51, 49, 51, 50, 51, 51, 51, 52, 51, 53, 51, 54, 51, 55, 51, 56, 51, 57, 52, 48, 52, 49, 52, 50, 52, 51, 52, 52, 52, 53, 52, 54, 52, 55, 52, 56, 52, 57, 53, 48, 53, 49, 53, 50, 53, 51, 53, 52, 53, 53, 53, 54, 53, 55, 53, 56, 53, 57, 54, 48, 54, 49, 54, 50, 54, 51, 54, 52, 54, 53, 54, 54, 54, 55, 54, 56, 54, 57, 55, 48, 55, 49, 55, 50, 55, 51, 55, 52, 55, 53, 55, 54, 55, 55, 55, 56, 55, 57, 56, 48, 56, 49, 56, 50, 56, 51, 56, 52, 56, 53, 56, 54, 56, 55, 56, 56, 56, 57, 57, 48, 57, 49, 57, 50, 57, 51, 57, 52, 57, 53, 57, 54, 57, 55, 57, 56, 57, 57] : List UInt8).length then some ((([48, 48, 48, 49, 48, 50, 48, 51, 48, 52, 48, 53, 48, 54, 48, 55, 48, 56, 48, 57, 49, 48, 49, 49, 49, 50, 49, 51, 49, 52, 49, 53, 49, 54, 49, 55, 49, 56, 49, 57, 50, 48, 50, 49, 50, 50, 50, 51, 50, 52, 50, 53, 50, 54, 50, 55, 50, 56, 50, 57, 51, 48, 51, 49, 51, 50, 51, 51, 51, 52, 51, 53, 51, 54, 51, 55, 51, 56, 51, 57, 52, 48, 52, 49, 52, 50, 52, 51, 52, 52, 52, 53, 52, 54, 52, 55, 52, 56, 52, 57, 53, 48, 53, 49, 53, 50, 53, 51, 53, 52, 53, 53, 53, 54, 53, 55, 53, 56, 53, 57, 54, 48, 54, 49, 54, 50, 54, 51, 54, 52, 54, 53, 54, 54, 54, 55, 54, 56, 54, 57, 55, 48, 55, 49, 55, 50, 55, 51, 55, 52, 55, 53, 55, 54, 55, 55, 55, 56, 55, 57, 56, 48, 56, 49, 56, 50, 56, 51, 56, 52, 56, 53, 56, 54, 56, 55, 56, 56, 56, 57, 57, 48, 57, 49, 57, 50, 57, 51, 57, 52, 57, 53, 57, 54, 57, 55, 57, 56, 57, 57] : List UInt8).take (IntKind.wrap .i64 ((IntKind.wrap .i64 (a_0 * 2)) + 2)).toNat).drop (IntKind.wrap .i64 (a_0 * 2)).toNat) else none))
theorem Eu {a_0 : Int} {r : (List UInt8)} (hF : C1 a_0 = some r) : AR Tryd.prog KG 63 [(Ab .i64 a_0)] [] (fun _ => []) (AJ r) := by
  refine AR.intro 15 Tryd.func63 rfl Tryd.ntmps63 (Nat.le_of_ble_eq_true rfl) ?_
  intro c a w hG hn h
  unfold C1 at hF
  change AX c [.slot 0 (Ab .i64 a_0)] a w at h
  refine AU mixed hn hG h [0] (ov [] (Al (C4 (sc _ (by decide)))) .nil) fun _ a w h => ?_
  refine wp_seq ?_
  refine AU mixed hn hG h [0, 500] (ov [0] (Aj q0) <| ov [500] (AG Cg q0 qi) .nil) fun _ a w h => ?_
  refine Ea h hF 1 [0] [0] (fun hb1 hF h => ?_) (fun hb1 hF h => ?_)
  · obtain ⟨hv2, hF⟩ := A1 hF
    refine AU mixed hn hG h [500] (ov [0] (Aj q0) <| ov [0] (Aj q0) <| ov [500] (AG BQ q0 qi) <| ov [502, 500] (Ec (a := a_0) (b := IntKind.wrap .i64 (a_0 + 1)) Tryd.underlying9 (C4 (sc _ (by decide))) ⟨_, q0⟩ ⟨_, q1⟩ hv2) <| ov [500] (Al q0) .nil) fun _ a w h => ?_
    refine wp_ret ?_
    obtain rfl := Option.some.inj hF
    exact ⟨.inl rfl, Ci h Tryd.results63 (By 0 rfl) [] [] rfl rfl rfl⟩
  · refine wp_skip ?_
    show Code.wp Tryd.prog _ _ a w
    obtain ⟨hv3, hF⟩ := A1 hF
    refine AU mixed hn hG h [500] (ov [0] (Aj q0) <| ov [500] (AG FN q0 qi) <| ov [0] (Aj q0) <| ov [500] (AG FN q0 qi) <| ov [500] (AG BQ q0 qi) <| ov [503, 500] (Ec (a := IntKind.wrap .i64 (a_0 * 2)) (b := IntKind.wrap .i64 ((IntKind.wrap .i64 (a_0 * 2)) + 2)) Tryd.underlying9 (C4 (sc _ (by decide))) ⟨_, q0⟩ ⟨_, q1⟩ hv3) <| ov [500] (Al q0) .nil) fun _ a w h => ?_
    refine wp_ret ?_
    obtain rfl := Option.some.inj hF
    exact ⟨.inl rfl, Ci h Tryd.results63 (By 0 rfl) [] [] rfl rfl rfl⟩

def Dk (a_0 : Int) : Option Int := some (shr .i64 (IntKind.wrap .i64 (a_0 * 78913)) 18)
theorem ET {a_0 : Int} {r : Int} (hF : Dk a_0 = some r) : AR Tryd.prog KG 76 [(Ab .i64 a_0)] [] (fun _ => []) (Ab .i64 r) := by
  refine AR.intro 6 Tryd.func76 rfl Tryd.ntmps76 (Nat.le_of_ble_eq_true rfl) ?_
  intro c a w hG hn h
  unfold Dk at hF
  change AX c [.slot 0 (Ab .i64 a_0)] a w at h
  refine AU mixed hn hG h [0] (ov [] (Al qi) .nil) fun _ a w h => ?_
  refine AU mixed hn hG h [500] (ov [0] (Aj q0) <| ov [500] (AG FN q0 qi) <| ov [500] (AG (El rfl) q0 qi) <| ov [500] (Al q0) .nil) fun _ a w h => ?_
  refine wp_ret ?_
  obtain rfl := Option.some.inj hF
  exact ⟨.inl rfl, Ci h Tryd.results76 (By 0 rfl) [] [] rfl rfl rfl⟩

def bits_Len64.j3 (x5 : Int) (x6 : Int) : Option Int := (if (0 : Int) ≤ IntKind.wrap .u8 x5 ∧ IntKind.wrap .u8 x5 < ([0, 1, 2, 2, 3, 3, 3, 3, 4, 4, 4, 4, 4, 4, 4, 4, 5, 5, 5, 5, 5, 5, 5, 5, 5, 5, 5, 5, 5, 5, 5, 5, 6, 6, 6, 6, 6, 6, 6, 6, 6, 6, 6, 6, 6, 6, 6, 6, 6, 6, 6, 6, 6, 6, 6, 6, 6, 6, 6, 6, 6, 6, 6, 6, 7, 7, 7, 7, 7, 7, 7, 7, 7, 7, 7, 7, 7, 7, 7, 7, 7, 7, 7, 7, 7, 7, 7, 7, 7, 7, 7, 7, 7, 7, 7, 7, 7, 7, 7, 7, 7, 7, 7, 7, 7, 7, 7, 7, 7, 7, 7, 7, 7, 7, 7, 7, 7, 7, 7, 7, 7, 7, 7, 7, 7, 7, 7, 7, 8, 8, 8, 8, 8, 8, 8, 8, 8, 8, 8, 8, 8, 8, 8, 8, 8, 8, 8, 8, 8, 8, 8, 8, 8, 8, 8, 8, 8, 8, 8, 8, 8, 8, 8, 8, 8, 8, 8, 8, 8, 8, 8, 8, 8, 8, 8, 8, 8, 8, 8, 8, 8, 8, 8, 8, 8, 8, 8, 8, 8, 8, 8, 8, 8, 8, 8, 8, 8, 8, 8, 8, 8, 8, 8, 8, 8, 8, 8, 8, 8, 8, 8, 8, 8, 8, 8, 8, 8, 8, 8, 8, 8, 8, 8, 8, 8, 8, 8, 8, 8, 8, 8, 8, 8, 8, 8, 8, 8, 8, 8, 8, 8, 8, 8, 8, 8, 8, 8, 8, 8, 8, 8, 8, 8, 8, 8, 8] : List UInt8).length then some (IntKind.wrap .i64 (x6 + (IntKind.wrap .i64 ((([0, 1, 2, 2, 3, 3, 3, 3, 4, 4, 4, 4, 4, 4, 4, 4, 5, 5, 5, 5, 5, 5, 5, 5, 5, 5, 5, 5, 5, 5, 5, 5, 6, 6, 6, 6, 6, 6, 6, 6, 6, 6, 6, 6, 6, 6, 6, 6, 6, 6, 6, 6, 6, 6, 6, 6, 6, 6, 6, 6, 6, 6, 6, 6, 7, 7, 7, 7, 7, 7, 7, 7, 7, 7, 7, 7, 7, 7, 7, 7, 7, 7, 7, 7, 7, 7, 7, 7, 7, 7, 7, 7, 7, 7, 7, 7, 7, 7, 7, 7, 7, 7, 7, 7, 7, 7, 7, 7, 7, 7, 7, 7, 7, 7, 7, 7, 7, 7, 7, 7, 7, 7, 7, 7, 7, 7, 7, 7, 8, 8, 8, 8, 8, 8, 8, 8, 8, 8, 8, 8, 8, 8, 8, 8, 8, 8, 8, 8, 8, 8, 8, 8, 8, 8, 8, 8, 8, 8, 8, 8, 8, 8, 8, 8, 8, 8, 8, 8, 8, 8, 8, 8, 8, 8, 8, 8, 8, 8, 8, 8, 8, 8, 8, 8, 8, 8, 8, 8, 8, 8, 8, 8, 8, 8, 8, 8, 8, 8, 8, 8, 8, 8, 8, 8, 8, 8, 8, 8, 8, 8, 8, 8, 8, 8, 8, 8, 8, 8, 8, 8, 8, 8, 8, 8, 8, 8, 8, 8, 8, 8, 8, 8, 8, 8, 8, 8, 8, 8, 8, 8, 8, 8, 8, 8, 8, 8, 8, 8, 8, 8, 8, 8, 8, 8, 8, 8] : List UInt8).getD (IntKind.wrap .u8 x5).toNat 0).toNat : Int)))) else none)
def bits_Len64.j2 (x3 : Int) (x4 : Int) : Option Int := (if (decide ((256 : Int) ≤ x3)) = true then bits_Len64.j3 (shr .u64 x3 8) (IntKind.wrap .i64 (x4 + 8)) else bits_Len64.j3 x3 x4)
def bits_Len64.j1 (x1 : Int) (x2 : Int) : Option Int := (if (decide ((65536 : Int) ≤ x1)) = true then bits_Len64.j2 (shr .u64 x1 16) (IntKind.wrap .i64 (x2 + 16)) else bits_Len64.j2 x1 x2)
def bits_Len64 (a_0 : Int) : Option Int := (if (decide ((4294967296 : Int) ≤ a_0)) = true then bits_Len64.j1 (shr .u64 a_0 32) 32 else bits_Len64.j1 a_0 0)
theorem GX {a_0 : Int} {r : Int} (hF : bits_Len64 a_0 = some r) : AR Tryd.prog KG 77 [(Ab .u64 a_0)] [] (fun _ => []) (Ab .i64 r) := by
  refine AR.intro 25 Tryd.func77 rfl Tryd.ntmps77 (Nat.le_of_ble_eq_true rfl) ?_
  intro c a w hG hn h
  unfold bits_Len64 at hF
  change AX c [.slot 0 (Ab .u64 a_0)] a w at h
  refine AU mixed hn hG h [0, 500] (ov [] (Al qi) .nil) fun _ a w h => ?_
  refine wp_seq ?_
  refine AU mixed hn hG h [0, 1, 500] (ov [0] (Aj q0) <| ov [500] (AG D3 q0 qi) .nil) fun _ a w h => ?_
  refine CD (fun a w => ∃ (x1 : Int), ∃ (x2 : Int), bits_Len64.j1 x1 x2 = some r ∧ AX c [.slot 0 (Ab .u64 x1), .slot 2 (Ab .i64 x2)] a w) ?_ ?_
  · refine Ea h hF 2 [0] [0, 1] (fun hb10 hF h => ?_) (fun hb10 hF h => ?_)
    · refine AU mixed hn hG h [500] (ov [0] (Aj q0) <| ov [500] (AG (El rfl) q0 qi) <| od [500] 0 (Al q0) .nil) fun _ a w h => ?_
      refine Dm mixed hn hG h [0, 500] (ov [] (Al qi) .nil) fun _ a w h => ?_
      exact ⟨shr .u64 a_0 32, 32, hF, h.sub [0, 1] (by rfl)⟩
    · refine wp_skip ?_
      exact ⟨a_0, 0, hF, h.sub [0, 1] (by rfl)⟩
  · clear h hF
    rintro a w ⟨x1, x2, hF, h⟩
    unfold bits_Len64.j1 at hF
    show Code.wp Tryd.prog _ _ a w
    refine wp_seq ?_
    refine AU mixed hn hG h [0, 1, 500] (ov [0] (Aj q0) <| ov [500] (AG D3 q0 qi) .nil) fun _ a w h => ?_
    refine CD (fun a w => ∃ (x3 : Int), ∃ (x4 : Int), bits_Len64.j2 x3 x4 = some r ∧ AX c [.slot 0 (Ab .u64 x3), .slot 2 (Ab .i64 x4)] a w) ?_ ?_
    · refine Ea h hF 2 [0, 1] [0, 1] (fun hb9 hF h => ?_) (fun hb9 hF h => ?_)
      · refine AU mixed hn hG h [500, 1] (ov [0] (Aj q0) <| ov [500] (AG (El rfl) q0 qi) <| od [500] 0 (Al q0) .nil) fun _ a w h => ?_
        refine Dm mixed hn hG h [0, 500] (ov [1] (Aj q0) <| ov [500] (AG BQ q0 qi) <| od [500] 1 (Al q0) .nil) fun _ a w h => ?_
        exact ⟨shr .u64 x1 16, IntKind.wrap .i64 (x2 + 16), hF, h.sub [0, 1] (by rfl)⟩
      · refine wp_skip ?_
        exact ⟨x1, x2, hF, h.sub [0, 1] (by rfl)⟩
    · clear h hF
      rintro a w ⟨x3, x4, hF, h⟩
      unfold bits_Len64.j2 at hF
      show Code.wp Tryd.prog _ _ a w
      refine wp_seq ?_
      refine AU mixed hn hG h [0, 1, 500] (ov [0] (Aj q0) <| ov [500] (AG D3 q0 qi) .nil) fun _ a w h => ?_
      refine CD (fun a w => ∃ (x5 : Int), ∃ (x6 : Int), bits_Len64.j3 x5 x6 = some r ∧ AX c [.slot 0 (Ab .u64 x5), .slot 2 (Ab .i64 x6)] a w) ?_ ?_
      · refine Ea h hF 2 [0, 1] [0, 1] (fun hb8 hF h => ?_) (fun hb8 hF h => ?_)
        · refine AU mixed hn hG h [500, 1] (ov [0] (Aj q0) <| ov [500] (AG (El rfl) q0 qi) <| od [500] 0 (Al q0) .nil) fun _ a w h => ?_
          refine Dm mixed hn hG h [0, 500] (ov [1] (Aj q0) <| ov [500] (AG BQ q0 qi) <| od [500] 1 (Al q0) .nil) fun _ a w h => ?_
          exact ⟨shr .u64 x3 8, IntKind.wrap .i64 (x4 + 8), hF, h.sub [0, 1] (by rfl)⟩
        · refine wp_skip ?_
          exact ⟨x3, x4, hF, h.sub [0, 1] (by rfl)⟩
      · clear h hF
        rintro a w ⟨x5, x6, hF, h⟩
        unfold bits_Len64.j3 at hF
        show Code.wp Tryd.prog _ _ a w
        obtain ⟨hv7, hF⟩ := A1 hF
        refine AU mixed hn hG h [500] (ov [1] (Aj q0) <| ov [0] (Aj q0) <| ov [500] (Bz Tryd.underlying23 Tryd.underlying5 q0) <| ov [500] (BM Tryd.underlying9 (C4 (sc _ (by decide))) q0 hv7) <| ov [500] (Bz Tryd.underlying5 Tryd.underlying3 q0) <| ov [504, 500] (AG BQ q0 q1) <| od [500] 1 (Al q0) .nil) fun _ a w h => ?_
        refine wp_ret ?_
        obtain rfl := Option.some.inj hF
        exact ⟨.inl rfl, Ci h Tryd.results77 (By 0 rfl) [] [] rfl rfl rfl⟩

def Dl (a_0 : Bool) : Option Int := (if a_0 = true then some 1 else some 0)
theorem EU {a_0 : Bool} {r : Int} (hF : Dl a_0 = some r) : AR Tryd.prog KG 78 [(Ak a_0)] [] (fun _ => []) (Ab .i64 r) := by
  refine AR.intro 4 Tryd.func78 rfl Tryd.ntmps78 (Nat.le_of_ble_eq_true rfl) ?_
  intro c a w hG hn h
  unfold Dl at hF
  change AX c [.slot 0 (Ak a_0)] a w at h
  refine AU mixed hn hG h [0] (ov [] (Al qi) .nil) fun _ a w h => ?_
  refine wp_seq ?_
  refine AU mixed hn hG h [500] (ov [0] (Aj q0) .nil) fun _ a w h => ?_
  refine Ea h hF 0 [] [] (fun hb1 hF h => ?_) (fun hb1 hF h => ?_)
  · refine AU mixed hn hG h [500] (ov [] (Al qi) .nil) fun _ a w h => ?_
    refine wp_ret ?_
    obtain rfl := Option.some.inj hF
    exact ⟨.inl rfl, Ci h Tryd.results78 (By 0 rfl) [] [] rfl rfl rfl⟩
  · refine wp_skip ?_
    show Code.wp Tryd.prog _ _ a w
    refine AU mixed hn hG h [500] (ov [] (Al qi) .nil) fun _ a w h => ?_
    refine wp_ret ?_
    obtain rfl := Option.some.inj hF
    exact ⟨.inl rfl, Ci h Tryd.results78 (By 0 rfl) [] [] rfl rfl rfl⟩

def Cz (a_0 : Int) : Option Int := ((bits_Len64 a_0).bind fun r1 => ((Dk r1).bind fun r2 => (if (0 : Int) ≤ r2 ∧ r2 < 20 then ((Dl (decide ((JH.getD r2.toNat 0) ≤ a_0))).bind fun r4 => some (IntKind.wrap .i64 (r2 + r4))) else none)))
theorem D4 {a_0 : Int} {r : Int} (hF : Cz a_0 = some r) : AR Tryd.prog KG 64 [(Ab .u64 a_0)] [] (fun _ => []) (Ab .i64 r) := by
  refine AR.intro 15 Tryd.func64 rfl Tryd.ntmps64 (Nat.le_of_ble_eq_true rfl) ?_
  intro c a w hG hn h
  unfold Cz at hF
  change AX c [.slot 0 (Ab .u64 a_0)] a w at h
  refine AU mixed hn hG h [0] (ov [] (Al qi) .nil) fun _ a w h => ?_
  obtain ⟨r1, hr1, hF⟩ := bind_some hF
  obtain ⟨r2, hr2, hF⟩ := bind_some hF
  refine AU mixed hn hG h [0, 500] (ov [0] (Aj q0) <| oc [500] [] Tryd.call77 (GX hr1) ⟨q0, trivial⟩ <| oc [500] [] Tryd.call76 (ET hr2) ⟨q0, trivial⟩ <| ov [500] (Al q0) .nil) fun _ a w h => ?_
  obtain ⟨hv3, hF⟩ := A1 hF
  obtain ⟨r4, hr4, hF⟩ := bind_some hF
  refine AU mixed hn hG h [500] (ov [1] (Aj q0) <| ov [0] (Aj q0) <| ov [1] (Aj q0) <| ov [500] (FW Tryd.underlying159 Tryd.sizeOf23 (Mb (fun Φ h => h.1)) q0 hv3) <| ov [500] (Er [] Tryd.isAgg23 q0) <| ov [503, 500] (AG D3 q0 q1) <| oc [500] [] Tryd.call78 (EU hr4) ⟨q0, trivial⟩ <| ov [506, 500] (AG BQ q0 q1) <| ov [500] (Al q0) .nil) fun _ a w h => ?_
  refine wp_ret ?_
  obtain rfl := Option.some.inj hF
  exact ⟨.inl rfl, Ci h Tryd.results64 (By 0 rfl) [] [] rfl rfl rfl⟩

def CW (a_0 : Int) : Option Bool := some (decide ((bits .and .i64 a_0 (IntKind.wrap .i64 (a_0 - 1))) = (0 : Int)))
theorem Ev {a_0 : Int} {r : Bool} (hF : CW a_0 = some r) : AR Tryd.prog KG 79 [(Ab .i64 a_0)] [] (fun _ => []) (Ak r) := by
  refine AR.intro 8 Tryd.func79 rfl Tryd.ntmps79 (Nat.le_of_ble_eq_true rfl) ?_
  intro c a w hG hn h
  unfold CW at hF
  change AX c [.slot 0 (Ab .i64 a_0)] a w at h
  refine AU mixed hn hG h [0] (ov [] (Al qb) .nil) fun _ a w h => ?_
  refine AU mixed hn hG h [500] (ov [0] (Aj q0) <| ov [0] (Aj q0) <| ov [500] (AG DI q0 qi) <| ov [502, 500] (AG Gq q0 q1) <| ov [500] (AG C0 q0 qi) <| ov [500] (Al q0) .nil) fun _ a w h => ?_
  refine wp_ret ?_
  obtain rfl := Option.some.inj hF
  exact ⟨.inl rfl, Ci h Tryd.results79 (By 0 rfl) [] [] rfl rfl rfl⟩

def Ds (a_0 : Int) : Option Int := (if (decide (a_0 = (0 : Int))) = true then some 64 else (if (0 : Int) ≤ shr .u64 (IntKind.wrap .u64 ((bits .and .u64 a_0 (IntKind.wrap .u64 (0 - a_0))) * 285870213051353865)) 58 ∧ shr .u64 (IntKind.wrap .u64 ((bits .and .u64 a_0 (IntKind.wrap .u64 (0 - a_0))) * 285870213051353865)) 58 < 64 then some (IntKind.wrap .i64 ((Kq.getD (shr .u64 (IntKind.wrap .u64 ((bits .and .u64 a_0 (IntKind.wrap .u64 (0 - a_0))) * 285870213051353865)) 58).toNat default).toNat : Int)) else none))
theorem Ez {a_0 : Int} {r : Int} (hF : Ds a_0 = some r) : AR Tryd.prog KG 85 [(Ab .u64 a_0)] [] (fun _ => []) (Ab .i64 r) := by
  refine AR.intro 14 Tryd.func85 rfl Tryd.ntmps85 (Nat.le_of_ble_eq_true rfl) ?_
  intro c a w hG hn h
  unfold Ds at hF
  change AX c [.slot 0 (Ab .u64 a_0)] a w at h
  refine AU mixed hn hG h [0] (ov [] (Al qi) .nil) fun _ a w h => ?_
  refine wp_seq ?_
  refine AU mixed hn hG h [0, 500] (ov [0] (Aj q0) <| ov [500] (AG C0 q0 qi) .nil) fun _ a w h => ?_
  refine Ea h hF 1 [] [0] (fun hb1 hF h => ?_) (fun hb1 hF h => ?_)
  · refine AU mixed hn hG h [500] (ov [] (Al qi) .nil) fun _ a w h => ?_
    refine wp_ret ?_
    obtain rfl := Option.some.inj hF
    exact ⟨.inl rfl, Ci h Tryd.results85 (By 0 rfl) [] [] rfl rfl rfl⟩
  · refine wp_skip ?_
    show Code.wp Tryd.prog _ _ a w
    obtain ⟨hv2, hF⟩ := A1 hF
    refine AU mixed hn hG h [500] (ov [0] (Aj q0) <| ov [0] (Aj q0) <| ov [500] (HI (H7 _ _) q0) <| ov [502, 500] (AG Gq q0 q1) <| ov [500] (AG FN q0 qi) <| ov [500] (AG (El rfl) q0 qi) <| ov [500] (FX Tryd.underlying171 Tryd.sizeOf5 (Mb (fun Φ h => h.2.1)) q0 hv2) <| ov [500] (Er [] Tryd.isAgg5 q0) <| ov [500] (Bz Tryd.underlying5 Tryd.underlying3 q0) <| ov [500] (Al q0) .nil) fun _ a w h => ?_
    refine wp_ret ?_
    obtain rfl := Option.some.inj hF
    exact ⟨.inl rfl, Ci h Tryd.results85 (By 0 rfl) [] [] rfl rfl rfl⟩

def De (a_0 : Int) : Option Int := ((Ds a_0).bind fun r1 => some r1)
theorem ER {a_0 : Int} {r : Int} (hF : De a_0 = some r) : AR Tryd.prog KG 80 [(Ab .u64 a_0)] [] (fun _ => []) (Ab .i64 r) := by
  refine AR.intro 8 Tryd.func80 rfl Tryd.ntmps80 (Nat.le_of_ble_eq_true rfl) ?_
  intro c a w hG hn h
  unfold De at hF
  change AX c [.slot 0 (Ab .u64 a_0)] a w at h
  refine AU mixed hn hG h [0] (ov [] (Al qi) .nil) fun _ a w h => ?_
  refine wp_seq ?_
  refine Jf ?_
  refine wp_skip ?_
  show Code.wp Tryd.prog _ _ a w
  obtain ⟨r1, hr1, hF⟩ := bind_some hF
  refine AU mixed hn hG h [500] (ov [0] (Aj q0) <| oc [500] [] Tryd.call85 (Ez hr1) ⟨q0, trivial⟩ <| ov [500] (Al q0) .nil) fun _ a w h => ?_
  refine wp_ret ?_
  obtain rfl := Option.some.inj hF
  exact ⟨.inl rfl, Ci h Tryd.results80 (By 0 rfl) [] [] rfl rfl rfl⟩

def AE.j4 (a_4 : Bool) (x40 : Int) (x41 : List UInt8) : Option ((List (UInt8)) × (List UInt8)) := (if a_4 = true then none else (if (0 : Int) ≤ x40 ∧ (x40 : Int) ≤ 65 ∧ (65 : Int) ≤ 65 ∧ 65 ≤ Cp then some ([], (x41.take (65 : Int).toNat).drop (x40 : Int).toNat) else none))
def AE.j3 (a_3 : Bool) (a_4 : Bool) (x37 : Int) (x38 : List UInt8) : Option ((List (UInt8)) × (List UInt8)) := (if a_3 = true then (if (0 : Int) ≤ IntKind.wrap .i64 (x37 - 1) ∧ IntKind.wrap .i64 (x37 - 1) < 65 then AE.j4 a_4 (IntKind.wrap .i64 (x37 - 1)) (x38.set (IntKind.wrap .i64 (x37 - 1)).toNat (Dz 45)) else none) else AE.j4 a_4 x37 x38)
def AE.b1 (a_2 : Int) (r48 : Int) (x52 : Int) (x53 : Int) (x54 : List UInt8) : Option (D2 ((List (UInt8)) × (List UInt8)) (Int × Int × (List UInt8))) := (if (decide ((IntKind.wrap .u64 a_2) ≤ x52)) = true then (if (0 : Int) ≤ bits .and .u64 x52 (IntKind.wrap .u64 ((IntKind.wrap .u64 a_2) - 1)) ∧ bits .and .u64 x52 (IntKind.wrap .u64 ((IntKind.wrap .u64 a_2) - 1)) < ([48, 49, 50, 51, 52, 53, 54, 55, 56, 57, 97, 98, 99, 100, 101, 102, 103, 104, 105, 106, 107, 108, 109, 110, 111, 112, 113, 114, 115, 116, 117, 118, 119, 120, 121, 122] : List UInt8).length then (if (0 : Int) ≤ IntKind.wrap .i64 (x53 - 1) ∧ IntKind.wrap .i64 (x53 - 1) < 65 then some (.cont (shr .u64 x52 (IntKind.wrap .u64 r48), IntKind.wrap .i64 (x53 - 1), x54.set (IntKind.wrap .i64 (x53 - 1)).toNat (Dz ((([48, 49, 50, 51, 52, 53, 54, 55, 56, 57, 97, 98, 99, 100, 101, 102, 103, 104, 105, 106, 107, 108, 109, 110, 111, 112, 113, 114, 115, 116, 117, 118, 119, 120, 121, 122] : List UInt8).getD (bits .and .u64 x52 (IntKind.wrap .u64 ((IntKind.wrap .u64 a_2) - 1))).toNat 0).toNat : Int)))) else none) else none) else some (.brk (x52, x53, x54)))
def AE.b2 (a_2 : Int) (x77 : Int) (x78 : Int) (x79 : List UInt8) : Option (D2 ((List (UInt8)) × (List UInt8)) (Int × Int × (List UInt8))) := (if (decide ((IntKind.wrap .u64 a_2) ≤ x77)) = true then (if IntKind.wrap .u64 a_2 ≠ 0 then (if (0 : Int) ≤ IntKind.wrap .u64 (x77 - (IntKind.wrap .u64 ((IntKind.wrap .u64 (x77.tdiv (IntKind.wrap .u64 a_2))) * (IntKind.wrap .u64 a_2)))) ∧ IntKind.wrap .u64 (x77 - (IntKind.wrap .u64 ((IntKind.wrap .u64 (x77.tdiv (IntKind.wrap .u64 a_2))) * (IntKind.wrap .u64 a_2)))) < ([48, 49, 50, 51, 52, 53, 54, 55, 56, 57, 97, 98, 99, 100, 101, 102, 103, 104, 105, 106, 107, 108, 109, 110, 111, 112, 113, 114, 115, 116, 117, 118, 119, 120, 121, 122] : List UInt8).length then (if (0 : Int) ≤ IntKind.wrap .i64 (x78 - 1) ∧ IntKind.wrap .i64 (x78 - 1) < 65 then some (.cont (IntKind.wrap .u64 (x77.tdiv (IntKind.wrap .u64 a_2)), IntKind.wrap .i64 (x78 - 1), x79.set (IntKind.wrap .i64 (x78 - 1)).toNat (Dz ((([48, 49, 50, 51, 52, 53, 54, 55, 56, 57, 97, 98, 99, 100, 101, 102, 103, 104, 105, 106, 107, 108, 109, 110, 111, 112, 113, 114, 115, 116, 117, 118, 119, 120, 121, 122] : List UInt8).getD (IntKind.wrap .u64 (x77 - (IntKind.wrap .u64 ((IntKind.wrap .u64 (x77.tdiv (IntKind.wrap .u64 a_2))) * (IntKind.wrap .u64 a_2))))).toNat 0).toNat : Int)))) else none) else none) else none) else some (.brk (x77, x78, x79)))
def AE.j2 (a_2 : Int) (a_3 : Bool) (a_4 : Bool) (x4 : Int) : Option ((List (UInt8)) × (List UInt8)) := ((CW a_2).bind fun r5 => (if r5 = true then ((De (IntKind.wrap .u64 a_2)).bind fun r48 => ((Cr (fun s : Int × Int × (List UInt8) => AE.b1 a_2 r48 s.1 s.2.1 s.2.2) ((x4 - (IntKind.wrap .u64 a_2) : Int).toNat + 2) (x4, 65, (List.replicate 65 0))).bind fun cr => match cr with | .ret r => some r | .next (y68, y69, y70) => (if (0 : Int) ≤ y68 ∧ y68 < ([48, 49, 50, 51, 52, 53, 54, 55, 56, 57, 97, 98, 99, 100, 101, 102, 103, 104, 105, 106, 107, 108, 109, 110, 111, 112, 113, 114, 115, 116, 117, 118, 119, 120, 121, 122] : List UInt8).length then (if (0 : Int) ≤ IntKind.wrap .i64 (y69 - 1) ∧ IntKind.wrap .i64 (y69 - 1) < 65 then AE.j3 a_3 a_4 (IntKind.wrap .i64 (y69 - 1)) (y70.set (IntKind.wrap .i64 (y69 - 1)).toNat (Dz ((([48, 49, 50, 51, 52, 53, 54, 55, 56, 57, 97, 98, 99, 100, 101, 102, 103, 104, 105, 106, 107, 108, 109, 110, 111, 112, 113, 114, 115, 116, 117, 118, 119, 120, 121, 122] : List UInt8).getD y68.toNat 0).toNat : Int))) else none) else none))) else ((Cr (fun s : Int × Int × (List UInt8) => AE.b2 a_2 s.1 s.2.1 s.2.2) ((x4 - (IntKind.wrap .u64 a_2) : Int).toNat + 2) (x4, 65, (List.replicate 65 0))).bind fun cr => match cr with | .ret r => some r | .next (y95, y96, y97) => (if (0 : Int) ≤ y95 ∧ y95 < ([48, 49, 50, 51, 52, 53, 54, 55, 56, 57, 97, 98, 99, 100, 101, 102, 103, 104, 105, 106, 107, 108, 109, 110, 111, 112, 113, 114, 115, 116, 117, 118, 119, 120, 121, 122] : List UInt8).length then (if (0 : Int) ≤ IntKind.wrap .i64 (y96 - 1) ∧ IntKind.wrap .i64 (y96 - 1) < 65 then AE.j3 a_3 a_4 (IntKind.wrap .i64 (y96 - 1)) (y97.set (IntKind.wrap .i64 (y96 - 1)).toNat (Dz ((([48, 49, 50, 51, 52, 53, 54, 55, 56, 57, 97, 98, 99, 100, 101, 102, 103, 104, 105, 106, 107, 108, 109, 110, 111, 112, 113, 114, 115, 116, 117, 118, 119, 120, 121, 122] : List UInt8).getD y95.toNat 0).toNat : Int))) else none) else none))))
def AE.j1 (a_1 : Int) (a_2 : Int) (a_3 : Bool) (a_4 : Bool) (x1 : Bool) : Option ((List (UInt8)) × (List UInt8)) := (if x1 = true then none else (if a_3 = true then AE.j2 a_2 a_3 a_4 (IntKind.wrap .u64 (0 - a_1)) else AE.j2 a_2 a_3 a_4 a_1))
def AE (a_0 : List (UInt8)) (a_1 : Int) (a_2 : Int) (a_3 : Bool) (a_4 : Bool) : Option ((List (UInt8)) × (List UInt8)) := (if (decide (a_2 < (2 : Int))) = true then AE.j1 a_1 a_2 a_3 a_4 true else (if (decide (a_2 = (10 : Int))) = true then AE.j1 a_1 a_2 a_3 a_4 true else AE.j1 a_1 a_2 a_3 a_4 (decide ((36 : Int) < a_2))))
theorem DV {a_0 : List (UInt8)} {a_1 : Int} {a_2 : Int} {a_3 : Bool} {a_4 : Bool} {r : (List (UInt8)) × (List UInt8)} (hF : AE a_0 a_1 a_2 a_3 a_4 = some r) : AR Tryd.prog KG 66 [(Ah bC a_0), (Ab .u64 a_1), (Ab .i64 a_2), (Ak a_3), (Ak a_4)] [] (fun _ => []) (Di [(Ah bC r.1), (AJ r.2)]) := by
  refine AR.intro 102 Tryd.func66 rfl Tryd.ntmps66 (Nat.le_of_ble_eq_true rfl) ?_
  intro c a w hG hn h
  unfold AE at hF
  change AX c [.slot 0 (Ah bC a_0), .slot 1 (Ab .u64 a_1), .slot 2 (Ab .i64 a_2), .slot 3 (Ak a_3), .slot 4 (Ak a_4)] a w at h
  refine AU mixed hn hG h [0, 1, 2, 3, 4, 501, 500] (ov [] (Al (C4 (ec _))) <| ov [] (Al (C4 (sc _ (by decide)))) .nil) fun _ a w h => ?_
  refine wp_seq ?_
  refine wp_seq ?_
  refine CD (fun a w => ∃ (x1 : Bool), AE.j1 a_1 a_2 a_3 a_4 x1 = some r ∧ AX c [.slot 0 (Ah bC a_0), .slot 1 (Ab .u64 a_1), .slot 2 (Ab .i64 a_2), .slot 3 (Ak a_3), .slot 4 (Ak a_4), .slot 10 (A4 (.slice none 0 0)), .slot 11 (AJ []), .slot 28 (Ak x1)] a w) ?_ ?_
  · rcases Bool.eq_false_or_eq_true (decide (a_2 < (2 : Int))) with hb101 | hb101
    · replace hF := Dj hb101 hF
      refine Dm mixed hn hG h [0, 1, 2, 3, 4, 5, 6, 500] (ov [2] (Aj q0) <| ov [500] (AG Cg q0 qi) <| ov [500] (Aj q0) <| oe [500] [] (Bh.Bb (want := false) hb101 rfl rfl rfl rfl) <| oe [501] [] (Bh.Bb (want := false) hb101 rfl rfl rfl rfl) <| ov [502] (Br hb101 q0 qb) <| ov [500] (Aj q0) <| oe [500] [] (Bh.Bb (want := false) rfl rfl rfl rfl rfl) <| oe [501] [] (Bh.Bb (want := false) rfl rfl rfl rfl rfl) <| ov [502] (Br rfl q0 qb) .nil) fun _ a w h => ?_
      exact ⟨true, hF, h.sub [0, 1, 2, 3, 4, 5, 6, 7] (by rfl)⟩
    · replace hF := Dn hb101 hF
      rcases Bool.eq_false_or_eq_true (decide (a_2 = (10 : Int))) with hb102 | hb102
      · replace hF := Dj hb102 hF
        refine Dm mixed hn hG h [0, 1, 2, 3, 4, 5, 6, 500] (ov [2] (Aj q0) <| ov [500] (AG Cg q0 qi) <| ov [500] (Aj q0) <| oe [500, 2] [] (Bh.A2 hb101 rfl rfl rfl (Aj q0)) <| oe [501, 500] [] (Bh.A2 hb101 rfl rfl rfl (AG C0 q0 qi)) <| ov [502, 500] (Bs hb101 q0 q1) <| ov [500] (Aj q0) <| oe [500] [] (Bh.Bb (want := false) hb102 rfl rfl rfl rfl) <| oe [501] [] (Bh.Bb (want := false) hb102 rfl rfl rfl rfl) <| ov [502] (Br hb102 q0 qb) .nil) fun _ a w h => ?_
        exact ⟨true, hF, h.sub [0, 1, 2, 3, 4, 5, 6, 7] (by rfl)⟩
      · replace hF := Dn hb102 hF
        refine Dm mixed hn hG h [0, 1, 2, 3, 4, 5, 6, 500] (ov [2] (Aj q0) <| ov [500] (AG Cg q0 qi) <| ov [500] (Aj q0) <| oe [500, 2] [] (Bh.A2 hb101 rfl rfl rfl (Aj q0)) <| oe [501, 500] [] (Bh.A2 hb101 rfl rfl rfl (AG C0 q0 qi)) <| ov [502, 500] (Bs hb101 q0 q1) <| ov [500] (Aj q0) <| oe [500, 2] [] (Bh.A2 hb102 rfl rfl rfl (Aj q0)) <| oe [501, 500] [] (Bh.A2 hb102 rfl rfl rfl (AG C5 q0 qi)) <| ov [502, 500] (Bs hb102 q0 q1) .nil) fun _ a w h => ?_
        exact ⟨decide ((36 : Int) < a_2), hF, h.sub [0, 1, 2, 3, 4, 5, 6, 7] (by rfl)⟩
  · clear h hF
    rintro a w ⟨x1, hF, h⟩
    unfold AE.j1 at hF
    show Code.wp Tryd.prog _ _ a w
    refine Ea h hF 7 [0, 1, 2, 3, 4, 5, 6] [0, 1, 2, 3, 4, 5, 6] (fun hb2 hF h => ?_) (fun hb2 hF h => ?_)
    · cases hF
    · refine wp_skip ?_
      show Code.wp Tryd.prog _ _ a w
      refine AU mixed hn hG h [0, 1, 2, 3, 4, 5, 6, 501, 500] (ob [] (CF Tryd.zeroValue160 z160) .nil) fun b3 a w h => ?_
      refine AU mixed hn hG h [0, 1, 2, 3, 4, 5, 6, 7, 500, 8] (ov [] (Al qi) .nil) fun _ a w h => ?_
      refine wp_seq ?_
      refine AU mixed hn hG h [0, 1, 2, 3, 4, 5, 6, 7, 8, 500, 9] (ov [3] (Aj q0) .nil) fun _ a w h => ?_
      refine CD (fun a w => ∃ (x4 : Int), AE.j2 a_2 a_3 a_4 x4 = some r ∧ AX c [.slot 0 (Ah bC a_0), .slot 1 (Ab .u64 x4), .slot 2 (Ab .i64 a_2), .slot 3 (Ak a_3), .slot 4 (Ak a_4), .slot 10 (A4 (.slice none 0 0)), .slot 11 (AJ []), .slot 12 (BH (b3 0) 0), .slot 13 (Ab .i64 65), .res (lb (b3 0) 160 [Af 65 (List.replicate 65 0)])] a w) ?_ ?_
      · refine Ea h hF 9 [0, 1, 2, 3, 4, 5, 6, 7, 8, 10] [0, 1, 2, 3, 4, 5, 6, 7, 8, 10] (fun hb100 hF h => ?_) (fun hb100 hF h => ?_)
        · refine Dm mixed hn hG h [0, 500, 2, 3, 4, 5, 6, 7, 8, 9] (ov [1] (Aj q0) <| ov [500] (HI (H7 _ _) q0) <| od [500] 1 (Al q0) .nil) fun _ a w h => ?_
          exact ⟨IntKind.wrap .u64 (0 - a_1), hF, h.sub [0, 1, 2, 3, 4, 5, 6, 7, 8, 9] (by rfl)⟩
        · refine wp_skip ?_
          exact ⟨a_1, hF, h.sub [0, 1, 2, 3, 4, 5, 6, 7, 8, 9] (by rfl)⟩
      · clear h hF
        rintro a w ⟨x4, hF, h⟩
        unfold AE.j2 at hF
        show Code.wp Tryd.prog _ _ a w
        refine wp_seq ?_
        obtain ⟨r5, hr5, hF⟩ := bind_some hF
        refine AU mixed hn hG h [0, 1, 2, 3, 4, 5, 6, 7, 8, 500, 9] (ov [2] (Aj q0) <| oc [500] [] Tryd.call79 (Ev hr5) ⟨q0, trivial⟩ .nil) fun _ a w h => ?_
        refine CD (fun a w => ∃ (x37 : Int), ∃ (x38 : List UInt8), AE.j3 a_3 a_4 x37 x38 = some r ∧ AX c [.slot 0 (Ah bC a_0), .slot 3 (Ak a_3), .slot 4 (Ak a_4), .slot 10 (A4 (.slice none 0 0)), .slot 11 (AJ []), .slot 12 (BH (b3 0) 0), .slot 13 (Ab .i64 x37), .res (lb (b3 0) 160 [Af 65 x38])] a w) ?_ ?_
        · refine Ea h hF 9 [0, 1, 2, 3, 4, 5, 6, 7, 8, 10] [0, 1, 2, 3, 4, 5, 6, 7, 8, 10] (fun hb47 hF h => ?_) (fun hb47 hF h => ?_)
          · obtain ⟨r48, hr48, hF⟩ := bind_some hF
            refine AU mixed hn hG h [0, 1, 2, 3, 4, 5, 6, 7, 8, 500, 9] (ov [2] (Aj q0) <| ov [500] (Bz Tryd.underlying3 Tryd.underlying152 q0) <| oc [500] [] Tryd.call80 (ER hr48) ⟨q0, trivial⟩ <| ov [500] (Bz Tryd.underlying3 Tryd.underlying152 q0) <| ov [500] (Al q0) .nil) fun _ a w h => ?_
            refine AU mixed hn hG h [0, 1, 2, 3, 4, 5, 6, 7, 8, 9, 500, 10] (ov [2] (Aj q0) <| ov [500] (Bz Tryd.underlying3 Tryd.underlying23 q0) <| ov [500] (Al q0) .nil) fun _ a w h => ?_
            refine AU mixed hn hG h [0, 1, 3, 4, 5, 6, 7, 8, 9, 10, 500, 11] (ov [2] (Aj q0) <| ov [500] (Bz Tryd.underlying3 Tryd.underlying152 q0) <| ov [500] (AG DI q0 qi) <| ov [500] (Al q0) .nil) fun _ a w h => ?_
            refine wp_seq ?_
            refine wp_block ?_
            obtain ⟨cr64, hl65, hF⟩ := bind_some hF
            refine wp_mono (CV (R := (List (UInt8)) × (List UInt8)) (S := Int × Int × (List UInt8)) (fun s a w => AX c [.slot 0 (Ah bC a_0), .slot 1 (Ab .u64 s.1), .slot 3 (Ak a_3), .slot 4 (Ak a_4), .slot 10 (A4 (.slice none 0 0)), .slot 11 (AJ []), .slot 12 (BH (b3 0) 0), .slot 13 (Ab .i64 s.2.1), .slot 14 (Ab .u64 (IntKind.wrap .u64 r48)), .slot 15 (Ab .u64 (IntKind.wrap .u64 a_2)), .slot 16 (Ab .u64 (IntKind.wrap .u64 ((IntKind.wrap .u64 a_2) - 1))), .res (lb (b3 0) 160 [Af 65 s.2.2])] a w) (fun res e a w => match res with | .next s => e = .exit 0 ∧ AX c [.slot 0 (Ah bC a_0), .slot 1 (Ab .u64 s.1), .slot 3 (Ak a_3), .slot 4 (Ak a_4), .slot 10 (A4 (.slice none 0 0)), .slot 11 (AJ []), .slot 12 (BH (b3 0) 0), .slot 13 (Ab .i64 s.2.1), .res (lb (b3 0) 160 [Af 65 s.2.2])] a w | .ret r => e = .ret ∧ DW Tryd.prog Tryd.f66 c (Di [(Ah bC r.1), (AJ r.2)]) (fun _ => []) a w) ?_ _ (x4, 65, (List.replicate 65 0)) _ _ _ (h.sub [0, 1, 2, 3, 4, 5, 6, 7, 8, 9, 10, 11] (by rfl)) hl65) ?_
            · clear hl65 hF h
              intro s a w o h hF
              obtain ⟨x52, x53, x54⟩ := s
              change AE.b1 a_2 r48 x52 x53 x54 = some o at hF
              unfold AE.b1 at hF
              change AX c [.slot 0 (Ah bC a_0), .slot 1 (Ab .u64 x52), .slot 3 (Ak a_3), .slot 4 (Ak a_4), .slot 10 (A4 (.slice none 0 0)), .slot 11 (AJ []), .slot 12 (BH (b3 0) 0), .slot 13 (Ab .i64 x53), .slot 14 (Ab .u64 (IntKind.wrap .u64 r48)), .slot 15 (Ab .u64 (IntKind.wrap .u64 a_2)), .slot 16 (Ab .u64 (IntKind.wrap .u64 ((IntKind.wrap .u64 a_2) - 1))), .res (lb (b3 0) 160 [Af 65 x54])] a w at h
              refine wp_seq ?_
              refine AU mixed hn hG h [0, 1, 2, 3, 4, 5, 6, 7, 8, 9, 10, 500, 11] (ov [1] (Aj q0) <| ov [9] (Aj q0) <| ov [501, 500] (AG D3 q0 q1) .nil) fun _ a w h => ?_
              refine Ea h hF 11 [0, 1, 2, 3, 4, 5, 6, 7, 8, 9, 10, 12] [0, 1, 2, 3, 4, 5, 6, 7, 8, 9, 10, 12] (fun hb61 hF h => ?_) (fun hb61 hF h => ?_)
              · refine wp_skip ?_
                show Code.wp Tryd.prog _ _ a w
                refine wp_block ?_
                refine AU mixed hn hG h [0, 1, 2, 3, 4, 5, 6, 500, 8, 9, 10, 11] (ov [7] (Aj q0) <| ov [500] (AG DI q0 qi) <| od [500] 7 (Al q0) .nil) fun _ a w h => ?_
                obtain ⟨hv62, hF⟩ := A1 hF
                obtain ⟨hv63, hF⟩ := A1 hF
                refine AU mixed hn hG h [0, 1, 2, 3, 4, 5, 6, 7, 8, 9, 10, 500] (ov [7] (Aj q0) <| ov [1] (Aj q0) <| ov [10] (Aj q0) <| ov [501, 500] (AG Gq q0 q1) <| ov [500] (BM Tryd.underlying9 (C4 (sc _ (by decide))) q0 hv62) <| ov [6, 504] (CS Tryd.underlying160 Tryd.sizeOf5 q0 q1 hv63) <| ou [500, 501] 11 (Du (i := IntKind.wrap .i64 (x53 - 1)) [] [] Tryd.sizeOf5 q0 q1 rfl hv63) .nil) fun _ a w h => ?_
                refine Dm mixed hn hG h [0, 500, 2, 3, 4, 5, 6, 7, 8, 9, 10, 11] (ov [1] (Aj q0) <| ov [8] (Aj q0) <| ov [501, 500] (AG (El rfl) q0 q1) <| od [500] 1 (Al q0) .nil) fun _ a w h => ?_
                obtain rfl := Option.some.inj hF
                exact ⟨rfl, h.sub [0, 1, 2, 3, 4, 5, 6, 7, 8, 9, 10, 11] (by rfl)⟩
              · refine wp_exit ?_
                obtain rfl := Option.some.inj hF
                exact ⟨Dp _, rfl, h.sub [0, 1, 2, 3, 4, 5, 6, 7, 11] (by rfl)⟩
            · clear hl65
              intro e a w hq
              cases cr64 with
              | ret r66 =>
                obtain ⟨rfl, hq⟩ := hq
                obtain rfl := Option.some.inj hF
                exact ⟨.inl rfl, hq⟩
              | next s67 =>
                obtain ⟨y68, y69, y70⟩ := s67
                obtain ⟨rfl, h⟩ := hq
                change AX c [.slot 0 (Ah bC a_0), .slot 1 (Ab .u64 y68), .slot 3 (Ak a_3), .slot 4 (Ak a_4), .slot 10 (A4 (.slice none 0 0)), .slot 11 (AJ []), .slot 12 (BH (b3 0) 0), .slot 13 (Ab .i64 y69), .res (lb (b3 0) 160 [Af 65 y70])] a w at h
                refine Cf ?_
                show Code.wp Tryd.prog _ _ a w
                refine AU mixed hn hG h [0, 1, 2, 3, 4, 5, 6, 500, 8] (ov [7] (Aj q0) <| ov [500] (AG DI q0 qi) <| od [500] 7 (Al q0) .nil) fun _ a w h => ?_
                obtain ⟨hv71, hF⟩ := A1 hF
                obtain ⟨hv72, hF⟩ := A1 hF
                refine Dm mixed hn hG h [0, 2, 3, 4, 5, 6, 7, 500] (ov [7] (Aj q0) <| ov [1] (Aj q0) <| ov [500] (BM Tryd.underlying9 (C4 (sc _ (by decide))) q0 hv71) <| ov [6, 502] (CS Tryd.underlying160 Tryd.sizeOf5 q0 q1 hv72) <| ou [500, 501] 8 (Du (i := IntKind.wrap .i64 (y69 - 1)) [] [] Tryd.sizeOf5 q0 q1 rfl hv72) .nil) fun _ a w h => ?_
                exact ⟨IntKind.wrap .i64 (y69 - 1), y70.set (IntKind.wrap .i64 (y69 - 1)).toNat (Dz ((([48, 49, 50, 51, 52, 53, 54, 55, 56, 57, 97, 98, 99, 100, 101, 102, 103, 104, 105, 106, 107, 108, 109, 110, 111, 112, 113, 114, 115, 116, 117, 118, 119, 120, 121, 122] : List UInt8).getD y68.toNat 0).toNat : Int)), hF, h.sub [0, 1, 2, 3, 4, 5, 6, 7] (by rfl)⟩
          · refine AU mixed hn hG h [0, 1, 3, 4, 5, 6, 7, 8, 500, 9] (ov [2] (Aj q0) <| ov [500] (Bz Tryd.underlying3 Tryd.underlying23 q0) <| ov [500] (Al q0) .nil) fun _ a w h => ?_
            refine wp_seq ?_
            refine wp_block ?_
            obtain ⟨cr91, hl92, hF⟩ := bind_some hF
            refine wp_mono (CV (R := (List (UInt8)) × (List UInt8)) (S := Int × Int × (List UInt8)) (fun s a w => AX c [.slot 0 (Ah bC a_0), .slot 1 (Ab .u64 s.1), .slot 3 (Ak a_3), .slot 4 (Ak a_4), .slot 10 (A4 (.slice none 0 0)), .slot 11 (AJ []), .slot 12 (BH (b3 0) 0), .slot 13 (Ab .i64 s.2.1), .slot 17 (Ab .u64 (IntKind.wrap .u64 a_2)), .res (lb (b3 0) 160 [Af 65 s.2.2])] a w) (fun res e a w => match res with | .next s => e = .exit 2 ∧ AX c [.slot 0 (Ah bC a_0), .slot 1 (Ab .u64 s.1), .slot 3 (Ak a_3), .slot 4 (Ak a_4), .slot 10 (A4 (.slice none 0 0)), .slot 11 (AJ []), .slot 12 (BH (b3 0) 0), .slot 13 (Ab .i64 s.2.1), .res (lb (b3 0) 160 [Af 65 s.2.2])] a w | .ret r => e = .ret ∧ DW Tryd.prog Tryd.f66 c (Di [(Ah bC r.1), (AJ r.2)]) (fun _ => []) a w) ?_ _ (x4, 65, (List.replicate 65 0)) _ _ _ (h.sub [0, 1, 2, 3, 4, 5, 6, 7, 8, 9] (by rfl)) hl92) ?_
            · clear hl92 hF h
              intro s a w o h hF
              obtain ⟨x77, x78, x79⟩ := s
              change AE.b2 a_2 x77 x78 x79 = some o at hF
              unfold AE.b2 at hF
              change AX c [.slot 0 (Ah bC a_0), .slot 1 (Ab .u64 x77), .slot 3 (Ak a_3), .slot 4 (Ak a_4), .slot 10 (A4 (.slice none 0 0)), .slot 11 (AJ []), .slot 12 (BH (b3 0) 0), .slot 13 (Ab .i64 x78), .slot 17 (Ab .u64 (IntKind.wrap .u64 a_2)), .res (lb (b3 0) 160 [Af 65 x79])] a w at h
              refine wp_seq ?_
              refine AU mixed hn hG h [0, 1, 2, 3, 4, 5, 6, 7, 8, 500, 9] (ov [1] (Aj q0) <| ov [8] (Aj q0) <| ov [501, 500] (AG D3 q0 q1) .nil) fun _ a w h => ?_
              refine Ea h hF 9 [0, 1, 2, 3, 4, 5, 6, 7, 8, 10] [0, 1, 2, 3, 4, 5, 6, 7, 8, 10] (fun hb87 hF h => ?_) (fun hb87 hF h => ?_)
              · refine wp_skip ?_
                show Code.wp Tryd.prog _ _ a w
                refine wp_block ?_
                refine AU mixed hn hG h [0, 1, 2, 3, 4, 5, 6, 500, 8, 9] (ov [7] (Aj q0) <| ov [500] (AG DI q0 qi) <| od [500] 7 (Al q0) .nil) fun _ a w h => ?_
                obtain ⟨hv88, hF⟩ := A1 hF
                refine AU mixed hn hG h [0, 1, 2, 3, 4, 5, 6, 7, 8, 500, 9] (ov [1] (Aj q0) <| ov [8] (Aj q0) <| ov [501, 500] (AG (Kx hv88) q0 q1) <| ov [500] (Al q0) .nil) fun _ a w h => ?_
                obtain ⟨hv89, hF⟩ := A1 hF
                obtain ⟨hv90, hF⟩ := A1 hF
                refine AU mixed hn hG h [0, 2, 3, 4, 5, 6, 7, 8, 9, 500] (ov [7] (Aj q0) <| ov [1] (Aj q0) <| ov [9] (Aj q0) <| ov [8] (Aj q0) <| ov [501, 500] (AG FN q0 q1) <| ov [503, 500] (AG DI q0 q1) <| ov [500] (BM Tryd.underlying9 (C4 (sc _ (by decide))) q0 hv89) <| ov [6, 506] (CS Tryd.underlying160 Tryd.sizeOf5 q0 q1 hv90) <| ou [500, 501] 10 (Du (i := IntKind.wrap .i64 (x78 - 1)) [] [] Tryd.sizeOf5 q0 q1 rfl hv90) .nil) fun _ a w h => ?_
                refine Dm mixed hn hG h [0, 500, 1, 2, 3, 4, 5, 6, 7, 9] (ov [8] (Aj q0) <| ov [500] (Al q0) .nil) fun _ a w h => ?_
                obtain rfl := Option.some.inj hF
                exact ⟨rfl, h.sub [0, 1, 2, 3, 4, 5, 6, 7, 8, 9] (by rfl)⟩
              · refine wp_exit ?_
                obtain rfl := Option.some.inj hF
                exact ⟨Dp _, rfl, h.sub [0, 1, 2, 3, 4, 5, 6, 7, 9] (by rfl)⟩
            · clear hl92
              intro e a w hq
              cases cr91 with
              | ret r93 =>
                obtain ⟨rfl, hq⟩ := hq
                obtain rfl := Option.some.inj hF
                exact ⟨.inl rfl, hq⟩
              | next s94 =>
                obtain ⟨y95, y96, y97⟩ := s94
                obtain ⟨rfl, h⟩ := hq
                change AX c [.slot 0 (Ah bC a_0), .slot 1 (Ab .u64 y95), .slot 3 (Ak a_3), .slot 4 (Ak a_4), .slot 10 (A4 (.slice none 0 0)), .slot 11 (AJ []), .slot 12 (BH (b3 0) 0), .slot 13 (Ab .i64 y96), .res (lb (b3 0) 160 [Af 65 y97])] a w at h
                refine Cf ?_
                show Code.wp Tryd.prog _ _ a w
                refine AU mixed hn hG h [0, 1, 2, 3, 4, 5, 6, 500, 8] (ov [7] (Aj q0) <| ov [500] (AG DI q0 qi) <| od [500] 7 (Al q0) .nil) fun _ a w h => ?_
                obtain ⟨hv98, hF⟩ := A1 hF
                obtain ⟨hv99, hF⟩ := A1 hF
                refine Dm mixed hn hG h [0, 2, 3, 4, 5, 6, 7, 500] (ov [7] (Aj q0) <| ov [1] (Aj q0) <| ov [500] (BM Tryd.underlying9 (C4 (sc _ (by decide))) q0 hv98) <| ov [6, 502] (CS Tryd.underlying160 Tryd.sizeOf5 q0 q1 hv99) <| ou [500, 501] 8 (Du (i := IntKind.wrap .i64 (y96 - 1)) [] [] Tryd.sizeOf5 q0 q1 rfl hv99) .nil) fun _ a w h => ?_
                exact ⟨IntKind.wrap .i64 (y96 - 1), y97.set (IntKind.wrap .i64 (y96 - 1)).toNat (Dz ((([48, 49, 50, 51, 52, 53, 54, 55, 56, 57, 97, 98, 99, 100, 101, 102, 103, 104, 105, 106, 107, 108, 109, 110, 111, 112, 113, 114, 115, 116, 117, 118, 119, 120, 121, 122] : List UInt8).getD y95.toNat 0).toNat : Int)), hF, h.sub [0, 1, 2, 3, 4, 5, 6, 7] (by rfl)⟩
        · clear h hF
          rintro a w ⟨x37, x38, hF, h⟩
          unfold AE.j3 at hF
          show Code.wp Tryd.prog _ _ a w
          refine wp_seq ?_
          refine AU mixed hn hG h [0, 2, 3, 4, 5, 6, 500, 7] (ov [1] (Aj q0) .nil) fun _ a w h => ?_
          refine CD (fun a w => ∃ (x40 : Int), ∃ (x41 : List UInt8), AE.j4 a_4 x40 x41 = some r ∧ AX c [.slot 0 (Ah bC a_0), .slot 4 (Ak a_4), .slot 10 (A4 (.slice none 0 0)), .slot 11 (AJ []), .slot 12 (BH (b3 0) 0), .slot 13 (Ab .i64 x40), .res (lb (b3 0) 160 [Af 65 x41])] a w) ?_ ?_
          · refine Ea h hF 6 [0, 1, 2, 3, 4, 5, 7] [0, 1, 2, 3, 4, 5, 7] (fun hb45 hF h => ?_) (fun hb45 hF h => ?_)
            · refine AU mixed hn hG h [0, 1, 2, 3, 4, 500, 6] (ov [5] (Aj q0) <| ov [500] (AG DI q0 qi) <| od [500] 5 (Al q0) .nil) fun _ a w h => ?_
              obtain ⟨hv46, hF⟩ := A1 hF
              refine Dm mixed hn hG h [0, 1, 2, 3, 4, 5, 500] (ov [5] (Aj q0) <| ov [4, 500] (CS Tryd.underlying160 Tryd.sizeOf5 q0 q1 hv46) <| ou [500] 6 (Du (i := IntKind.wrap .i64 (x37 - 1)) [] [] Tryd.sizeOf5 q0 qi rfl hv46) .nil) fun _ a w h => ?_
              exact ⟨IntKind.wrap .i64 (x37 - 1), x38.set (IntKind.wrap .i64 (x37 - 1)).toNat (Dz 45), hF, h.sub [0, 1, 2, 3, 4, 5, 6] (by rfl)⟩
            · refine wp_skip ?_
              exact ⟨x37, x38, hF, h.sub [0, 1, 2, 3, 4, 5, 6] (by rfl)⟩
          · clear h hF
            rintro a w ⟨x40, x41, hF, h⟩
            unfold AE.j4 at hF
            show Code.wp Tryd.prog _ _ a w
            refine wp_seq ?_
            refine AU mixed hn hG h [0, 2, 3, 4, 5, 500, 6] (ov [1] (Aj q0) .nil) fun _ a w h => ?_
            refine Ea h hF 5 [0, 2, 3, 4, 6] [1, 3, 4, 6] (fun hb42 hF h => ?_) (fun hb42 hF h => ?_)
            · cases hF
            · refine wp_skip ?_
              show Code.wp Tryd.prog _ _ a w
              replace h := h.IC 3 rfl
              replace h := h.HV 1 3 rfl rfl
              replace h := h.sub [0, 1, 2] (by rfl)
              change AX c [.slot 10 (A4 (.slice none 0 0)), .slot 12 (Eb [Af 65 x41]), .slot 13 (Ab .i64 x40)] a w at h
              obtain ⟨hv44, hF⟩ := A1 hF
              refine AU mixed hn hG h [0, 500] (ov [2] (Aj q0) <| ov [1, 500] (FC (a := x40) (b := 65) Tryd.underlying160 Tryd.sizeOf5 q0 ⟨_, q1⟩ rfl hv44) <| ov [500] (E0 Tryd.underlying62 Tryd.underlying5 Tryd.underlying9 q0) <| ov [500] (Al q0) .nil) fun _ a w h => ?_
              refine wp_ret ?_
              obtain rfl := Option.some.inj hF
              exact ⟨.inl rfl, GR h (rs := [.tmp 10, .tmp 11]) (Vs := [(Ah bC []), (AJ ((x41.take (65 : Int).toNat).drop (x40 : Int).toNat))]) Tryd.results66 (by decide) ⟨(KF 0 rfl), (By 1 rfl), trivial⟩ [] [] rfl rfl rfl⟩

def Cq (a_0 : Int) (a_1 : Int) : Option (List UInt8) := (if (decide (a_1 = (10 : Int))) = true then (if (decide (a_0 < (100 : Int))) = true then ((C1 (IntKind.wrap .i64 a_0)).bind fun r3 => some r3) else ((Cz a_0).bind fun r5 => (if (0 : Int) ≤ 0 ∧ (0 : Int) ≤ r5 ∧ r5 ≤ 24 ∧ (0 : Int) < 24 then (if (0 : Int) ≤ a_0 ∧ (0 : Int).toNat ≤ (r5 : Int).toNat ∧ (r5 : Int).toNat ≤ (List.replicate 24 0).length ∧ Lib.nDigits a_0.toNat = (r5 : Int).toNat - (0 : Int).toNat ∧ a_0 < 18446744073709551616 ∧ (List.replicate 24 0).length < 1000 then (if (0 : Int) ≤ 0 ∧ (0 : Int) ≤ r5 ∧ r5 ≤ 24 ∧ (0 : Int) < 24 then (if (r5 : Int).toNat - (0 : Int).toNat ≤ 24 then some ((GK (List.replicate 24 0) ((0 : Int).toNat) ((r5 : Int).toNat) a_0).take ((r5 : Int).toNat - (0 : Int).toNat)) else none) else none) else none) else none))) else ((AE [] a_0 a_1 false false).bind fun r10 => some r10.2))
theorem EP {a_0 : Int} {a_1 : Int} {r : (List UInt8)} (hF : Cq a_0 a_1 = some r) : AR Tryd.prog KG 52 [(Ab .u64 a_0), (Ab .i64 a_1)] [] (fun _ => []) (AJ r) := by
  refine AR.intro 32 Tryd.func52 rfl Tryd.ntmps52 (Nat.le_of_ble_eq_true rfl) ?_
  intro c a w hG hn h
  unfold Cq at hF
  change AX c [.slot 0 (Ab .u64 a_0), .slot 1 (Ab .i64 a_1)] a w at h
  refine AU mixed hn hG h [0, 1] (ov [] (Al (C4 (sc _ (by decide)))) .nil) fun _ a w h => ?_
  refine wp_seq ?_
  refine AU mixed hn hG h [0, 1, 500] (ov [1] (Aj q0) <| ov [500] (AG C0 q0 qi) .nil) fun _ a w h => ?_
  refine Ea h hF 2 [0] [0, 1] (fun hb1 hF h => ?_) (fun hb1 hF h => ?_)
  · refine wp_seq ?_
    refine AU mixed hn hG h [0, 500] (ov [0] (Aj q0) <| ov [500] (AG Cg q0 qi) .nil) fun _ a w h => ?_
    refine Ea h hF 1 [0] [0] (fun hb2 hF h => ?_) (fun hb2 hF h => ?_)
    · obtain ⟨r3, hr3, hF⟩ := bind_some hF
      refine AU mixed hn hG h [500] (ov [0] (Aj q0) <| ov [500] (Bz Tryd.underlying23 Tryd.underlying3 q0) <| oc [500] [] Tryd.call63 (Eu hr3) ⟨q0, trivial⟩ <| ov [500] (Al q0) .nil) fun _ a w h => ?_
      refine wp_ret ?_
      obtain rfl := Option.some.inj hF
      exact ⟨.inl rfl, Ci h Tryd.results52 (By 0 rfl) [] [] rfl rfl rfl⟩
    · refine wp_skip ?_
      show Code.wp Tryd.prog _ _ a w
      refine AU mixed hn hG h [0, 501, 500] (ob [] (CF Tryd.zeroValue147 LA) .nil) fun b4 a w h => ?_
      obtain ⟨r5, hr5, hF⟩ := bind_some hF
      refine AU mixed hn hG h [0, 1, 500, 2] (ov [0] (Aj q0) <| oc [500] [] Tryd.call64 (D4 hr5) ⟨q0, trivial⟩ <| ov [500] (Al q0) .nil) fun _ a w h => ?_
      obtain ⟨hv6, hF⟩ := A1 hF
      obtain ⟨hv7, hF⟩ := A1 hF
      refine AU mixed hn hG h [1, 2, 500] (ov [2] (Aj q0) <| ov [1, 500] (Ep (a := 0) (b := r5) Tryd.underlying147 Tryd.sizeOf5 q0 rfl ⟨_, q1⟩ hv6) <| ov [0] (Aj q0) <| oc [501, 500] [3] Tryd.call65 (IP (a := (0 : Int).toNat) (b := (r5 : Int).toNat) hv7 (by omega) (by omega)) ⟨q0, q1, trivial⟩ .nil) fun _ a w h => ?_
      obtain ⟨hv8, hF⟩ := A1 hF
      obtain ⟨hv9, hF⟩ := A1 hF
      refine AU mixed hn hG h [500] (ov [1] (Aj q0) <| ov [0, 500] (Ep (a := 0) (b := r5) Tryd.underlying147 Tryd.sizeOf5 q0 rfl ⟨_, q1⟩ hv8) <| ov [500, 2] (GC [] [] 1 Tryd.underlying62 Tryd.underlying5 Tryd.underlying9 q0 rfl rfl hv9 (by decide)) <| ov [500] (Al q0) .nil) fun _ a w h => ?_
      refine wp_ret ?_
      obtain rfl := Option.some.inj hF
      exact ⟨.inl rfl, Ci h Tryd.results52 (By 0 rfl) [] [] rfl rfl rfl⟩
  · refine wp_skip ?_
    show Code.wp Tryd.prog _ _ a w
    obtain ⟨r10, hr10, hF⟩ := bind_some hF
    refine AU mixed hn hG h [500] (ov [0] (Aj q0) <| ov [1] (Aj q0) <| oc [501, 500] [] Tryd.call66 (DV hr10) ⟨II, q0, q1, qb, qb, trivial⟩ <| ov [500] (Aj q0) <| ov [500] (CE q0 rfl) <| ov [501] (CE q0 rfl) <| ov [501] (Al q0) <| ov [501] (Al q0) .nil) fun _ a w h => ?_
    refine AU mixed hn hG h [500] (ov [0] (Aj q0) <| ov [500] (Al q0) .nil) fun _ a w h => ?_
    refine wp_ret ?_
    obtain rfl := Option.some.inj hF
    exact ⟨.inl rfl, Ci h Tryd.results52 (By 0 rfl) [] [] rfl rfl rfl⟩

def BT (a_0 : Int) (a_1 : Int) : Option (List UInt8) := ((Cq a_0 a_1).bind fun r1 => some r1)
theorem C2 {a_0 : Int} {a_1 : Int} {r : (List UInt8)} (hF : BT a_0 a_1 = some r) : AR Tryd.prog KG 34 [(Ab .u64 a_0), (Ab .i64 a_1)] [] (fun _ => []) (AJ r) := by
  refine AR.intro 8 Tryd.func34 rfl Tryd.ntmps34 (Nat.le_of_ble_eq_true rfl) ?_
  intro c a w hG hn h
  unfold BT at hF
  change AX c [.slot 0 (Ab .u64 a_0), .slot 1 (Ab .i64 a_1)] a w at h
  refine AU mixed hn hG h [0, 1] (ov [] (Al (C4 (sc _ (by decide)))) .nil) fun _ a w h => ?_
  obtain ⟨r1, hr1, hF⟩ := bind_some hF
  refine AU mixed hn hG h [500] (ov [0] (Aj q0) <| ov [1] (Aj q0) <| oc [501, 500] [] Tryd.call52 (EP hr1) ⟨q0, q1, trivial⟩ <| ov [500] (Al q0) .nil) fun _ a w h => ?_
  refine wp_ret ?_
  obtain rfl := Option.some.inj hF
  exact ⟨.inl rfl, Ci h Tryd.results34 (By 0 rfl) [] [] rfl rfl rfl⟩

def BS (a_0 : Int) : Option (List UInt8) := ((BT a_0 10).bind fun r1 => some r1)
theorem BP {a_0 : Int} {r : (List UInt8)} (hF : BS a_0 = some r) : AR Tryd.prog KG 19 [(Ab .u64 a_0)] [] (fun _ => []) (AJ r) := by
  refine AR.intro 5 Tryd.func19 rfl Tryd.ntmps19 (Nat.le_of_ble_eq_true rfl) ?_
  intro c a w hG hn h
  unfold BS at hF
  change AX c [.slot 0 (Ab .u64 a_0)] a w at h
  refine AU mixed hn hG h [0] (ov [] (Al (C4 (sc _ (by decide)))) .nil) fun _ a w h => ?_
  obtain ⟨r1, hr1, hF⟩ := bind_some hF
  refine AU mixed hn hG h [500] (ov [0] (Aj q0) <| oc [500] [] Tryd.call34 (C2 hr1) ⟨q0, qi, trivial⟩ <| ov [500] (Al q0) .nil) fun _ a w h => ?_
  refine wp_ret ?_
  obtain rfl := Option.some.inj hF
  exact ⟨.inl rfl, Ci h Tryd.results19 (By 0 rfl) [] [] rfl rfl rfl⟩

def Ed (L_0 : BJ) : Option (List UInt8) := (if L_0.BN ≠ [] then some L_0.BN else none)
theorem Gj {p_0 : Value} {L_0 : BJ} {r : (List UInt8)} (hF : Ed L_0 = some r) : AR Tryd.prog KG 23 [(A4 p_0)] [(BV p_0 (some L_0))] (fun _ => []) (AJ r) := by
  refine AR.intro 14 Tryd.func23 rfl Tryd.ntmps23 (Nat.le_of_ble_eq_true rfl) ?_
  intro c a w hG hn h
  unfold Ed at hF
  change AX c [.slot 0 (A4 p_0), .res (BV p_0 (some L_0))] a w at h
  obtain ⟨h_0_1, h⟩ := h.ex 1 rfl
  change AX c [.slot 0 (A4 p_0), .res (IT p_0 h_0_1 (some L_0))] a w at h
  have hp := h.Lt 1 rfl (fun Φ f w q => F4 Φ f w q)
  replace h := h.Fz 0 rfl (V' := BH p_0 0) (fun _ _ h => G7 h hp)
  replace h := h.sep (R := lb p_0 66 [one (BK p_0), one (A4 h_0_1)]) (S := (acc h_0_1 5 1 bC L_0.BN)) 1 rfl
  replace h := h.sub [0, 1, 2] (by rfl)
  change AX c [.slot 0 (BH p_0 0), .res (lb p_0 66 [one (BK p_0), one (A4 h_0_1)]), .res (acc h_0_1 5 1 bC L_0.BN)] a w at h
  refine AU mixed hn hG h [0, 1, 2] (ov [] (Al (C4 (sc _ (by decide)))) .nil) fun _ a w h => ?_
  obtain ⟨hv1, hF⟩ := A1 hF
  refine AU mixed hn hG h [500, 1] (ov [0] (Aj q0) <| ov [500] (B7 q0 (DQ _ _)) <| ov [500] (Ag (p := p_0) (n := 1) 0 1 Tryd.underlying64 rfl Tryd.sizeOf62 (by decide) q0 rfl) <| ov [500, 1] (AA [one (BK p_0)] [] 1 Tryd.isAgg62 q0 rfl rfl) <| ov [500, 2] (Jw 1 q0 rfl hv1) <| ov [0] (Aj q0) <| ov [500] (B7 q0 (DQ _ _)) <| ov [500] (Ag (p := p_0) (n := 1) 0 1 Tryd.underlying64 rfl Tryd.sizeOf62 (by decide) q0 rfl) <| ov [500, 1] (AA [one (BK p_0)] [] 1 Tryd.isAgg62 q0 rfl rfl) <| ov [500, 2] (Ba Tryd.underlying62 (IE 0 1 rfl rfl)) <| oe [505, 500] [2] (Bh.plain (IF Tryd.underlying130 (by kernel_rfl) q0 q1 hv1) rfl) <| ov [500] (Al q0) .nil) fun _ a w h => ?_
  refine wp_ret ?_
  obtain rfl := Option.some.inj hF
  exact ⟨.inl rfl, Ci h Tryd.results23 (By 0 rfl) [] [] rfl rfl rfl⟩

def BZ (L_0 : Co) : Option (List UInt8) := (if L_0.BN ≠ [] then some L_0.BN else none)
theorem Dy {p_0 : Value} {L_0 : Co} {r : (List UInt8)} (hF : BZ L_0 = some r) : AR Tryd.prog KG 23 [(A4 p_0)] [(Ct p_0 (some L_0))] (fun _ => []) (AJ r) := by
  refine AR.intro 14 Tryd.func23 rfl Tryd.ntmps23 (Nat.le_of_ble_eq_true rfl) ?_
  intro c a w hG hn h
  unfold BZ at hF
  change AX c [.slot 0 (A4 p_0), .res (Ct p_0 (some L_0))] a w at h
  obtain ⟨h_0_1, h⟩ := h.ex 1 rfl
  change AX c [.slot 0 (A4 p_0), .res (Hc p_0 h_0_1 (some L_0))] a w at h
  have hp := h.Lt 1 rfl (fun Φ f w q => Hx Φ f w q)
  replace h := h.Fz 0 rfl (V' := BH p_0 0) (fun _ _ h => G7 h hp)
  replace h := h.sep (R := lb p_0 64 [one (BK p_0), one (A4 h_0_1)]) (S := (acc h_0_1 5 1 bC L_0.BN)) 1 rfl
  replace h := h.sub [0, 1, 2] (by rfl)
  change AX c [.slot 0 (BH p_0 0), .res (lb p_0 64 [one (BK p_0), one (A4 h_0_1)]), .res (acc h_0_1 5 1 bC L_0.BN)] a w at h
  refine AU mixed hn hG h [0, 1, 2] (ov [] (Al (C4 (sc _ (by decide)))) .nil) fun _ a w h => ?_
  obtain ⟨hv1, hF⟩ := A1 hF
  refine AU mixed hn hG h [500, 1] (ov [0] (Aj q0) <| ov [500] (B7 q0 (DQ _ _)) <| ov [500] (Ag (p := p_0) (n := 1) 0 1 Tryd.underlying64 rfl Tryd.sizeOf62 (by decide) q0 rfl) <| ov [500, 1] (AA [one (BK p_0)] [] 1 Tryd.isAgg62 q0 rfl rfl) <| ov [500, 2] (Jw 1 q0 rfl hv1) <| ov [0] (Aj q0) <| ov [500] (B7 q0 (DQ _ _)) <| ov [500] (Ag (p := p_0) (n := 1) 0 1 Tryd.underlying64 rfl Tryd.sizeOf62 (by decide) q0 rfl) <| ov [500, 1] (AA [one (BK p_0)] [] 1 Tryd.isAgg62 q0 rfl rfl) <| ov [500, 2] (Ba Tryd.underlying62 (IE 0 1 rfl rfl)) <| oe [505, 500] [2] (Bh.plain (IF Tryd.underlying130 (by kernel_rfl) q0 q1 hv1) rfl) <| ov [500] (Al q0) .nil) fun _ a w h => ?_
  refine wp_ret ?_
  obtain rfl := Option.some.inj hF
  exact ⟨.inl rfl, Ci h Tryd.results23 (By 0 rfl) [] [] rfl rfl rfl⟩

def CZ (L_0 : BJ) (a_1 : List UInt8) : Option (Int × Value × BJ) := (if L_0.BN.length + a_1.length ≤ Cp ∧ (L_0.BN.length + a_1.length) * 1 ≤ 140737488355328 then some ((a_1.length : Int), Value.nilIface, ⟨L_0.BN ++ a_1⟩) else none)
theorem E1 {p_0 : Value} {L_0 : BJ} {a_1 : List UInt8} {r : Int × Value × BJ} (hF : CZ L_0 a_1 = some r) : AR Tryd.prog KG 31 [(A4 p_0), (AJ a_1)] [(BV p_0 (some L_0))] (fun _ => [BV p_0 (some r.2.2)]) (Di [(Ab .i64 r.1), (A4 r.2.1)]) := by
  refine AR.intro 19 Tryd.func31 rfl Tryd.ntmps31 (Nat.le_of_ble_eq_true rfl) ?_
  intro c a w hG hn h
  unfold CZ at hF
  change AX c [.slot 0 (A4 p_0), .slot 1 (AJ a_1), .res (BV p_0 (some L_0))] a w at h
  obtain ⟨h_0_1, h⟩ := h.ex 2 rfl
  change AX c [.slot 0 (A4 p_0), .slot 1 (AJ a_1), .res (IT p_0 h_0_1 (some L_0))] a w at h
  have hp := h.Lt 2 rfl (fun Φ f w q => F4 Φ f w q)
  replace h := h.Fz 0 rfl (V' := BH p_0 0) (fun _ _ h => G7 h hp)
  replace h := h.sep (R := lb p_0 66 [one (BK p_0), one (A4 h_0_1)]) (S := (acc h_0_1 5 1 bC L_0.BN)) 2 rfl
  replace h := h.sub [0, 1, 2, 3] (by rfl)
  change AX c [.slot 0 (BH p_0 0), .slot 1 (AJ a_1), .res (lb p_0 66 [one (BK p_0), one (A4 h_0_1)]), .res (acc h_0_1 5 1 bC L_0.BN)] a w at h
  refine AU mixed hn hG h [0, 1, 2, 3] (ov [] (Al qi) <| ov [] (Al (C4 (ec _))) .nil) fun _ a w h => ?_
  refine AU mixed hn hG h [0, 1, 3, 500] (ov [0] (Aj q0) <| oc [500] [2] Tryd.call49 GW ⟨(Hl 0 rfl), trivial⟩ .nil) fun _ a w h => ?_
  obtain ⟨hv1, hF⟩ := A1 hF
  refine AU mixed hn hG h [1, 500, 503] (ov [0] (Aj q0) <| ov [0] (Aj q0) <| ov [500] (B7 q0 (DQ _ _)) <| ov [500] (Ag (p := p_0) (n := 1) 0 1 Tryd.underlying64 rfl Tryd.sizeOf62 (by decide) q0 rfl) <| ov [500, 3] (AA [one (BK p_0)] [] 1 Tryd.isAgg62 q0 rfl rfl) <| ov [1] (Aj q0) <| og [501, 500] [2] [.slot 14 6 100000 (fun v1_ _ => (A4 v1_)), .res 6 100000 (fun v1_ _ => (acc (v1_) 5 1 bC (L_0.BN ++ a_1)))] (Bh.plain (Fe Tryd.underlying62 Tryd.underlying9 Tryd.type5 rfl rfl rfl rfl q0 q1 hv1) rfl) <| ov [507] (B7 q0 (DQ _ _)) <| ov [500] (Ag (p := p_0) (n := 1) 0 1 Tryd.underlying64 rfl Tryd.sizeOf62 (by decide) q0 rfl) <| og [500, 503, 502] [3] [.res 6 100000 (fun v1_ _ => (lb p_0 66 [one (BK p_0), one (A4 (v1_))]))] (fun {β} => (Bh.plain (D6 [one (BK p_0)] [one (A4 h_0_1)] [] [one (A4 ((β 6)))] Tryd.sizeOf62 q0 (ID 1 2 rfl rfl Gt) (Gn _) rfl rfl rfl) rfl)) .nil) fun b2 a w h => ?_
  refine AU mixed hn hG h [501, 500, 1, 2] (ov [0] (Aj q0) <| ov [500] (CN Tryd.underlying9 q0) <| ov [500] (Al q0) <| ov [] (Al (C4 (ec _))) .nil) fun _ a w h => ?_
  refine wp_ret ?_
  replace h := h.Iw 2 3 rfl rfl (by decide)
  replace h := h.conv 2 rfl (R' := BV p_0 (some ⟨L_0.BN ++ a_1⟩)) (Jd (v1 := (b2 6)) (o := (some ⟨L_0.BN ++ a_1⟩)))
  replace h := h.sub [0, 1, 2] (by rfl)
  change AX c [.slot 4 (Ab .i64 (a_1.length : Int)), .slot 5 (A4 Value.nilIface), .res (BV p_0 (some ⟨L_0.BN ++ a_1⟩))] a w at h
  obtain rfl := Option.some.inj hF
  exact ⟨.inl rfl, GR h (rs := [.tmp 4, .tmp 5]) (Vs := [(Ab .i64 (a_1.length : Int)), (A4 Value.nilIface)]) Tryd.results31 (by decide) ⟨(By 0 rfl), (By 1 rfl), trivial⟩ [2] [(BV p_0 (some ⟨L_0.BN ++ a_1⟩))] rfl rfl rfl⟩

def BG (L_0 : Co) (a_1 : List UInt8) : Option (Int × Value × Co) := (if L_0.BN.length + a_1.length ≤ Cp ∧ (L_0.BN.length + a_1.length) * 1 ≤ 140737488355328 then some ((a_1.length : Int), Value.nilIface, ⟨L_0.BN ++ a_1⟩) else none)
theorem C7 {p_0 : Value} {L_0 : Co} {a_1 : List UInt8} {r : Int × Value × Co} (hF : BG L_0 a_1 = some r) : AR Tryd.prog KG 31 [(A4 p_0), (AJ a_1)] [(Ct p_0 (some L_0))] (fun _ => [Ct p_0 (some r.2.2)]) (Di [(Ab .i64 r.1), (A4 r.2.1)]) := by
  refine AR.intro 19 Tryd.func31 rfl Tryd.ntmps31 (Nat.le_of_ble_eq_true rfl) ?_
  intro c a w hG hn h
  unfold BG at hF
  change AX c [.slot 0 (A4 p_0), .slot 1 (AJ a_1), .res (Ct p_0 (some L_0))] a w at h
  obtain ⟨h_0_1, h⟩ := h.ex 2 rfl
  change AX c [.slot 0 (A4 p_0), .slot 1 (AJ a_1), .res (Hc p_0 h_0_1 (some L_0))] a w at h
  have hp := h.Lt 2 rfl (fun Φ f w q => Hx Φ f w q)
  replace h := h.Fz 0 rfl (V' := BH p_0 0) (fun _ _ h => G7 h hp)
  replace h := h.sep (R := lb p_0 64 [one (BK p_0), one (A4 h_0_1)]) (S := (acc h_0_1 5 1 bC L_0.BN)) 2 rfl
  replace h := h.sub [0, 1, 2, 3] (by rfl)
  change AX c [.slot 0 (BH p_0 0), .slot 1 (AJ a_1), .res (lb p_0 64 [one (BK p_0), one (A4 h_0_1)]), .res (acc h_0_1 5 1 bC L_0.BN)] a w at h
  refine AU mixed hn hG h [0, 1, 2, 3] (ov [] (Al qi) <| ov [] (Al (C4 (ec _))) .nil) fun _ a w h => ?_
  refine AU mixed hn hG h [0, 1, 3, 500] (ov [0] (Aj q0) <| oc [500] [2] Tryd.call49 EJ ⟨(Hl 0 rfl), trivial⟩ .nil) fun _ a w h => ?_
  obtain ⟨hv1, hF⟩ := A1 hF
  refine AU mixed hn hG h [1, 500, 503] (ov [0] (Aj q0) <| ov [0] (Aj q0) <| ov [500] (B7 q0 (DQ _ _)) <| ov [500] (Ag (p := p_0) (n := 1) 0 1 Tryd.underlying64 rfl Tryd.sizeOf62 (by decide) q0 rfl) <| ov [500, 3] (AA [one (BK p_0)] [] 1 Tryd.isAgg62 q0 rfl rfl) <| ov [1] (Aj q0) <| og [501, 500] [2] [.slot 14 6 100000 (fun v1_ _ => (A4 v1_)), .res 6 100000 (fun v1_ _ => (acc (v1_) 5 1 bC (L_0.BN ++ a_1)))] (Bh.plain (Fe Tryd.underlying62 Tryd.underlying9 Tryd.type5 rfl rfl rfl rfl q0 q1 hv1) rfl) <| ov [507] (B7 q0 (DQ _ _)) <| ov [500] (Ag (p := p_0) (n := 1) 0 1 Tryd.underlying64 rfl Tryd.sizeOf62 (by decide) q0 rfl) <| og [500, 503, 502] [3] [.res 6 100000 (fun v1_ _ => (lb p_0 64 [one (BK p_0), one (A4 (v1_))]))] (fun {β} => (Bh.plain (D6 [one (BK p_0)] [one (A4 h_0_1)] [] [one (A4 ((β 6)))] Tryd.sizeOf62 q0 (ID 1 2 rfl rfl Gt) (Gn _) rfl rfl rfl) rfl)) .nil) fun b2 a w h => ?_
  refine AU mixed hn hG h [501, 500, 1, 2] (ov [0] (Aj q0) <| ov [500] (CN Tryd.underlying9 q0) <| ov [500] (Al q0) <| ov [] (Al (C4 (ec _))) .nil) fun _ a w h => ?_
  refine wp_ret ?_
  replace h := h.Iw 2 3 rfl rfl (by decide)
  replace h := h.conv 2 rfl (R' := Ct p_0 (some ⟨L_0.BN ++ a_1⟩)) (F6 (v1 := (b2 6)) (o := (some ⟨L_0.BN ++ a_1⟩)))
  replace h := h.sub [0, 1, 2] (by rfl)
  change AX c [.slot 4 (Ab .i64 (a_1.length : Int)), .slot 5 (A4 Value.nilIface), .res (Ct p_0 (some ⟨L_0.BN ++ a_1⟩))] a w at h
  obtain rfl := Option.some.inj hF
  exact ⟨.inl rfl, GR h (rs := [.tmp 4, .tmp 5]) (Vs := [(Ab .i64 (a_1.length : Int)), (A4 Value.nilIface)]) Tryd.results31 (by decide) ⟨(By 0 rfl), (By 1 rfl), trivial⟩ [2] [(Ct p_0 (some ⟨L_0.BN ++ a_1⟩))] rfl rfl rfl⟩

def Bt (L_0 : Co) (a_1 : Int) : Option (Value × Co) := (if L_0.BN.length + [Dz a_1].length ≤ Cp ∧ (L_0.BN.length + [Dz a_1].length) * 1 ≤ 140737488355328 then some (Value.nilIface, ⟨L_0.BN ++ [Dz a_1]⟩) else none)
theorem BO {p_0 : Value} {L_0 : Co} {a_1 : Int} {r : Value × Co} (hF : Bt L_0 a_1 = some r) : AR Tryd.prog KG 43 [(A4 p_0), (Ab .u8 a_1)] [(Ct p_0 (some L_0))] (fun _ => [Ct p_0 (some r.2)]) (A4 r.1) := by
  refine AR.intro 17 Tryd.func43 rfl Tryd.ntmps43 (Nat.le_of_ble_eq_true rfl) ?_
  intro c a w hG hn h
  unfold Bt at hF
  change AX c [.slot 0 (A4 p_0), .slot 1 (Ab .u8 a_1), .res (Ct p_0 (some L_0))] a w at h
  obtain ⟨h_0_1, h⟩ := h.ex 2 rfl
  change AX c [.slot 0 (A4 p_0), .slot 1 (Ab .u8 a_1), .res (Hc p_0 h_0_1 (some L_0))] a w at h
  have hp := h.Lt 2 rfl (fun Φ f w q => Hx Φ f w q)
  replace h := h.Fz 0 rfl (V' := BH p_0 0) (fun _ _ h => G7 h hp)
  replace h := h.sep (R := lb p_0 64 [one (BK p_0), one (A4 h_0_1)]) (S := (acc h_0_1 5 1 bC L_0.BN)) 2 rfl
  replace h := h.sub [0, 1, 2, 3] (by rfl)
  change AX c [.slot 0 (BH p_0 0), .slot 1 (Ab .u8 a_1), .res (lb p_0 64 [one (BK p_0), one (A4 h_0_1)]), .res (acc h_0_1 5 1 bC L_0.BN)] a w at h
  refine AU mixed hn hG h [0, 1, 2, 3] (ov [] (Al (C4 (ec _))) .nil) fun _ a w h => ?_
  refine AU mixed hn hG h [0, 1, 3, 500] (ov [0] (Aj q0) <| oc [500] [2] Tryd.call49 EJ ⟨(Hl 0 rfl), trivial⟩ .nil) fun _ a w h => ?_
  obtain ⟨hv1, hF⟩ := A1 hF
  refine AU mixed hn hG h [500, 503] (ov [0] (Aj q0) <| ov [0] (Aj q0) <| ov [500] (B7 q0 (DQ _ _)) <| ov [500] (Ag (p := p_0) (n := 1) 0 1 Tryd.underlying64 rfl Tryd.sizeOf62 (by decide) q0 rfl) <| ov [500, 3] (AA [one (BK p_0)] [] 1 Tryd.isAgg62 q0 rfl rfl) <| ov [1] (Aj q0) <| ov [500] (EE (xs := [.tmp 12]) (ys := [Dz a_1]) _ rfl Tryd.underlying62 Tryd.sizeOf5 Tryd.zeroValue5 rfl rfl (by decide) (by decide) ⟨⟨_, q0, (GO _)⟩, trivial⟩ Gm) <| og [502, 500] [2] [.slot 14 7 100000 (fun v1_ _ => (A4 v1_)), .res 7 100000 (fun v1_ _ => (acc (v1_) 5 1 bC (L_0.BN ++ [Dz a_1])))] (Bh.plain (G1 (i := Tryd.t5) Tryd.underlying62 Tryd.type5 rfl Gm (by decide) rfl q0 q1 hv1) rfl) <| ov [508] (B7 q0 (DQ _ _)) <| ov [500] (Ag (p := p_0) (n := 1) 0 1 Tryd.underlying64 rfl Tryd.sizeOf62 (by decide) q0 rfl) <| og [500, 503, 502] [3] [.res 7 100000 (fun v1_ _ => (lb p_0 64 [one (BK p_0), one (A4 (v1_))]))] (fun {β} => (Bh.plain (D6 [one (BK p_0)] [one (A4 h_0_1)] [] [one (A4 ((β 7)))] Tryd.sizeOf62 q0 (ID 1 2 rfl rfl Gt) (Gn _) rfl rfl rfl) rfl)) .nil) fun b2 a w h => ?_
  refine AU mixed hn hG h [500, 0, 1] (ov [] (Al (C4 (ec _))) .nil) fun _ a w h => ?_
  refine wp_ret ?_
  replace h := h.Iw 1 2 rfl rfl (by decide)
  replace h := h.conv 1 rfl (R' := Ct p_0 (some ⟨L_0.BN ++ [Dz a_1]⟩)) (F6 (v1 := (b2 7)) (o := (some ⟨L_0.BN ++ [Dz a_1]⟩)))
  replace h := h.sub [0, 1] (by rfl)
  change AX c [.slot 4 (A4 Value.nilIface), .res (Ct p_0 (some ⟨L_0.BN ++ [Dz a_1]⟩))] a w at h
  obtain rfl := Option.some.inj hF
  exact ⟨.inl rfl, Ci h Tryd.results43 (By 0 rfl) [1] [(Ct p_0 (some ⟨L_0.BN ++ [Dz a_1]⟩))] rfl rfl rfl⟩

def DE (a_0 : List (UInt8)) (a_1 : Int) : Option (List (UInt8)) := (if (decide ((IntKind.wrap .u32 a_1) ≤ (127 : Int))) = true then (if a_0.length + [Dz (IntKind.wrap .u8 a_1)].length ≤ Cp ∧ (a_0.length + [Dz (IntKind.wrap .u8 a_1)].length) * 1 ≤ 140737488355328 then some (a_0 ++ [Dz (IntKind.wrap .u8 a_1)]) else none) else none)
theorem Fi {p_0 : Value} {a_0 : List (UInt8)} {a_1 : Int} {r : (List (UInt8))} (hF : DE a_0 a_1 = some r) : AR Tryd.prog KG 57 [(A4 p_0), (Ab .i32 a_1)] [(acc p_0 5 1 bC a_0)] (fun v => [acc v 5 1 bC r]) KO := by
  refine AR.intro 16 Tryd.func57 rfl Tryd.ntmps57 (Nat.le_of_ble_eq_true rfl) ?_
  intro c a w hG hn h
  unfold DE at hF
  change AX c [.slot 0 (A4 p_0), .slot 1 (Ab .i32 a_1), .res (acc p_0 5 1 bC a_0)] a w at h
  refine AU mixed hn hG h [0, 1, 2] (ov [] (Al (C4 (ec _))) .nil) fun _ a w h => ?_
  refine wp_seq ?_
  refine AU mixed hn hG h [0, 1, 500, 2] (ov [1] (Aj q0) <| ov [500] (Bz Tryd.underlying21 Tryd.underlying22 q0) <| ov [500] (AG Cu q0 qi) .nil) fun _ a w h => ?_
  refine Ea h hF 2 [0, 1, 3] [0, 1, 3] (fun hb1 hF h => ?_) (fun hb1 hF h => ?_)
  · obtain ⟨hv2, hF⟩ := A1 hF
    refine AU mixed hn hG h [500, 501] (ov [0] (Aj q0) <| ov [1] (Aj q0) <| ov [500] (Bz Tryd.underlying21 Tryd.underlying5 q0) <| ov [500] (EE (xs := [.tmp 10]) (ys := [Dz (IntKind.wrap .u8 a_1)]) _ rfl Tryd.underlying62 Tryd.sizeOf5 Tryd.zeroValue5 rfl rfl (by decide) (by decide) ⟨⟨_, q0, (GO _)⟩, trivial⟩ Gm) <| og [503, 500] [2] [.slot 12 4 100000 (fun v1_ _ => (A4 v1_)), .res 4 100000 (fun v1_ _ => (acc (v1_) 5 1 bC (a_0 ++ [Dz (IntKind.wrap .u8 a_1)])))] (Bh.plain (G1 (i := Tryd.t5) Tryd.underlying62 Tryd.type5 rfl Gm (by decide) rfl q0 q1 hv2) rfl) <| og [501] [] [.slot 4 4 100000 (fun v1_ _ => (A4 v1_))] (fun {β} => (Bh.plain (Al (V := (A4 (β 4))) q0) rfl)) .nil) fun b3 a w h => ?_
    refine wp_ret ?_
    obtain rfl := Option.some.inj hF
    exact ⟨.inl rfl, LF (p := (b3 4)) h Tryd.results57 (By 0 rfl) [1] _ rfl rfl rfl⟩
  · cases hF

def B2 (L_0 : Co) (a_1 : Int) : Option (Int × Value × Co) := ((DE L_0.BN a_1).bind fun r1 => some (IntKind.wrap .i64 ((r1.length : Int) - (L_0.BN.length : Int)), Value.nilIface, ⟨r1⟩))
theorem Df {p_0 : Value} {L_0 : Co} {a_1 : Int} {r : Int × Value × Co} (hF : B2 L_0 a_1 = some r) : AR Tryd.prog KG 44 [(A4 p_0), (Ab .i32 a_1)] [(Ct p_0 (some L_0))] (fun _ => [Ct p_0 (some r.2.2)]) (Di [(Ab .i64 r.1), (A4 r.2.1)]) := by
  refine AR.intro 30 Tryd.func44 rfl Tryd.ntmps44 (Nat.le_of_ble_eq_true rfl) ?_
  intro c a w hG hn h
  unfold B2 at hF
  change AX c [.slot 0 (A4 p_0), .slot 1 (Ab .i32 a_1), .res (Ct p_0 (some L_0))] a w at h
  obtain ⟨h_0_1, h⟩ := h.ex 2 rfl
  change AX c [.slot 0 (A4 p_0), .slot 1 (Ab .i32 a_1), .res (Hc p_0 h_0_1 (some L_0))] a w at h
  have hp := h.Lt 2 rfl (fun Φ f w q => Hx Φ f w q)
  replace h := h.Fz 0 rfl (V' := BH p_0 0) (fun _ _ h => G7 h hp)
  replace h := h.sep (R := lb p_0 64 [one (BK p_0), one (A4 h_0_1)]) (S := (acc h_0_1 5 1 bC L_0.BN)) 2 rfl
  replace h := h.sub [0, 1, 2, 3] (by rfl)
  change AX c [.slot 0 (BH p_0 0), .slot 1 (Ab .i32 a_1), .res (lb p_0 64 [one (BK p_0), one (A4 h_0_1)]), .res (acc h_0_1 5 1 bC L_0.BN)] a w at h
  refine AU mixed hn hG h [0, 1, 2, 3] (ov [] (Al qi) <| ov [] (Al (C4 (ec _))) .nil) fun _ a w h => ?_
  refine AU mixed hn hG h [0, 1, 3, 500] (ov [0] (Aj q0) <| oc [500] [2] Tryd.call49 EJ ⟨(Hl 0 rfl), trivial⟩ .nil) fun _ a w h => ?_
  refine AU mixed hn hG h [0, 1, 500, 2, 3] (ov [0] (Aj q0) <| ov [500] (B7 q0 (DQ _ _)) <| ov [500] (Ag (p := p_0) (n := 1) 0 1 Tryd.underlying64 rfl Tryd.sizeOf62 (by decide) q0 rfl) <| ov [500, 3] (AA [one (BK p_0)] [] 1 Tryd.isAgg62 q0 rfl rfl) <| ov [500, 2] (Ba Tryd.underlying62 (IE 0 1 rfl rfl)) <| ov [500] (Al q0) .nil) fun _ a w h => ?_
  obtain ⟨r1, hr1, hF⟩ := bind_some hF
  refine AU mixed hn hG h [0, 2, 500, 503] (ov [0] (Aj q0) <| ov [0] (Aj q0) <| ov [500] (B7 q0 (DQ _ _)) <| ov [500] (Ag (p := p_0) (n := 1) 0 1 Tryd.underlying64 rfl Tryd.sizeOf62 (by decide) q0 rfl) <| ov [500, 4] (AA [one (BK p_0)] [] 1 Tryd.isAgg62 q0 rfl rfl) <| ov [1] (Aj q0) <| og [501, 500] [3] [.slot 20 6 100000 (fun v1_ _ => (A4 v1_)), .res 6 100000 (fun v1_ _ => (acc (v1_) 5 1 bC r1))] (Bh.plain (Jz Tryd.call57 (Fi hr1) ⟨q0, q1, trivial⟩) rfl) <| ov [507] (B7 q0 (DQ _ _)) <| ov [500] (Ag (p := p_0) (n := 1) 0 1 Tryd.underlying64 rfl Tryd.sizeOf62 (by decide) q0 rfl) <| og [500, 503, 502] [4] [.res 6 100000 (fun v1_ _ => (lb p_0 64 [one (BK p_0), one (A4 (v1_))]))] (fun {β} => (Bh.plain (D6 [one (BK p_0)] [one (A4 h_0_1)] [] [one (A4 ((β 6)))] Tryd.sizeOf62 q0 (ID 1 2 rfl rfl Gt) (Gn _) rfl rfl rfl) rfl)) .nil) fun b2 a w h => ?_
  refine AU mixed hn hG h [501, 500, 2, 3] (ov [0] (Aj q0) <| ov [500] (B7 q0 (DQ _ _)) <| ov [500] (Ag (p := p_0) (n := 1) 0 1 Tryd.underlying64 rfl Tryd.sizeOf62 (by decide) q0 rfl) <| ov [500, 2] (AA [one (BK p_0)] [] 1 Tryd.isAgg62 q0 rfl rfl) <| ov [500, 3] (Ba Tryd.underlying62 (IE 0 1 rfl rfl)) <| ov [1] (Aj q0) <| ov [501, 500] (AG DI q0 q1) <| ov [500] (Al q0) <| ov [] (Al (C4 (ec _))) .nil) fun _ a w h => ?_
  refine wp_ret ?_
  replace h := h.Iw 2 3 rfl rfl (by decide)
  replace h := h.conv 2 rfl (R' := Ct p_0 (some ⟨r1⟩)) (F6 (v1 := (b2 6)) (o := (some ⟨r1⟩)))
  replace h := h.sub [0, 1, 2] (by rfl)
  change AX c [.slot 4 (Ab .i64 (IntKind.wrap .i64 ((r1.length : Int) - (L_0.BN.length : Int)))), .slot 5 (A4 Value.nilIface), .res (Ct p_0 (some ⟨r1⟩))] a w at h
  obtain rfl := Option.some.inj hF
  exact ⟨.inl rfl, GR h (rs := [.tmp 4, .tmp 5]) (Vs := [(Ab .i64 (IntKind.wrap .i64 ((r1.length : Int) - (L_0.BN.length : Int)))), (A4 Value.nilIface)]) Tryd.results44 (by decide) ⟨(By 0 rfl), (By 1 rfl), trivial⟩ [2] [(Ct p_0 (some ⟨r1⟩))] rfl rfl rfl⟩

def D7 (a_0 : List UInt8) (a_1 : Int) (a_2 : Int) : Option Bool := (if (!decide (a_2 = (65533 : Int))) = true then some false else (if (0 : Int) ≤ a_1 ∧ a_1 ≤ (a_0.length : Int) ∧ (a_0.length : Int) ≤ a_0.length then some (decide ((Lu ((a_0.take (a_0.length : Int).toNat).drop a_1.toNat) : Int) = (1 : Int))) else none))
theorem GG {a_0 : List UInt8} {a_1 : Int} {a_2 : Int} {r : Bool} (hF : D7 a_0 a_1 a_2 = some r) : AR Tryd.prog KG 45 [(AJ a_0), (Ab .i64 a_1), (Ab .i32 a_2)] [] (fun _ => []) (Ak r) := by
  refine AR.intro 20 Tryd.func45 rfl Tryd.ntmps45 (Nat.le_of_ble_eq_true rfl) ?_
  intro c a w hG hn h
  unfold D7 at hF
  change AX c [.slot 0 (AJ a_0), .slot 1 (Ab .i64 a_1), .slot 2 (Ab .i32 a_2)] a w at h
  refine AU mixed hn hG h [0, 1, 2] (ov [] (Al qb) .nil) fun _ a w h => ?_
  refine wp_seq ?_
  refine AU mixed hn hG h [0, 1, 500] (ov [2] (Aj q0) <| ov [500] (AG Gp q0 qi) .nil) fun _ a w h => ?_
  refine Ea h hF 2 [] [0, 1] (fun hb1 hF h => ?_) (fun hb1 hF h => ?_)
  · refine AU mixed hn hG h [500] (ov [] (Al qb) .nil) fun _ a w h => ?_
    refine wp_ret ?_
    obtain rfl := Option.some.inj hF
    exact ⟨.inl rfl, Ci h Tryd.results45 (By 0 rfl) [] [] rfl rfl rfl⟩
  · refine wp_skip ?_
    show Code.wp Tryd.prog _ _ a w
    obtain ⟨hv2, hF⟩ := A1 hF
    refine AU mixed hn hG h [500] (ov [0] (Aj q0) <| ov [1] (Aj q0) <| ov [501, 500] (Ec (a := a_1) (b := (a_0.length : Int)) Tryd.underlying9 q0 ⟨_, q1⟩ rfl hv2) <| oc [500] [] Tryd.call58 (Lj (G := KG) (fun _ h => h.2.2.2)) ⟨q0, trivial⟩ <| ov [500] (Aj q0) <| ov [500] (CE q0 rfl) <| ov [501] (CE q0 rfl) <| ov [501] (Al q0) <| ov [501] (Al q0) .nil) fun _ a w h => ?_
    refine AU mixed hn hG h [500] (ov [0] (Aj q0) <| ov [500] (AG C0 q0 qi) <| ov [500] (Al q0) .nil) fun _ a w h => ?_
    refine wp_ret ?_
    obtain rfl := Option.some.inj hF
    exact ⟨.inl rfl, Ci h Tryd.results45 (By 0 rfl) [] [] rfl rfl rfl⟩

def A8.j2 (a_0 : List UInt8) (x25 : Nat) (x67 : Co) : Option (D2 (List UInt8) (Co × Nat)) := some (.cont (x67, Eh a_0 x25))
def A8.j3 (a_0 : List UInt8) (x24 : Co) (x25 : Nat) (x71 : Bool) : Option (D2 (List UInt8) (Co × Nat)) := (if x71 = true then ((B2 x24 (Ej a_0 x25)).bind fun r73 => A8.j2 a_0 x25 r73.2.2) else ((D7 a_0 (x25 : Int) (Ej a_0 x25)).bind fun r74 => (if r74 = true then (if (0 : Int) ≤ (x25 : Int) ∧ (x25 : Int) < a_0.length then ((BT (IntKind.wrap .u64 ((a_0.getD (x25 : Int).toNat 0).toNat : Int)) 16).bind fun r77 => (if [92, 120].length + r77.length ≤ Cp then (if ([92, 120] ++ r77).length + [59].length ≤ Cp then ((BG x24 (([92, 120] ++ r77) ++ [59])).bind fun r80 => A8.j2 a_0 x25 r80.2.2) else none) else none)) else none) else ((BT (IntKind.wrap .u64 (Ej a_0 x25)) 16).bind fun r81 => (if [92, 117].length + r81.length ≤ Cp then (if ([92, 117] ++ r81).length + [59].length ≤ Cp then ((BG x24 (([92, 117] ++ r81) ++ [59])).bind fun r84 => A8.j2 a_0 x25 r84.2.2) else none) else none)))))
def A8.j1 (a_0 : List UInt8) (x24 : Co) (x25 : Nat) (x50 : Bool) : Option (D2 (List UInt8) (Co × Nat)) := (if x50 = true then ((Bt x24 92).bind fun r69 => ((B2 r69.2 (Ej a_0 x25)).bind fun r70 => A8.j2 a_0 x25 r70.2.2)) else (if (decide ((32 : Int) ≤ (Ej a_0 x25))) = true then A8.j3 a_0 x24 x25 (decide ((Ej a_0 x25) ≤ (126 : Int))) else A8.j3 a_0 x24 x25 false))
def A8.b1 (a_0 : List UInt8) (x24 : Co) (x25 : Nat) : Option (D2 (List UInt8) (Co × Nat)) := (if (decide (x25 < a_0.length)) = true then (if x25 < a_0.length then (if (decide ((Ej a_0 x25) = (34 : Int))) = true then A8.j1 a_0 x24 x25 true else A8.j1 a_0 x24 x25 (decide ((Ej a_0 x25) = (92 : Int)))) else none) else some (.brk (x24, Eh a_0 x25)))
def A8 (a_0 : List UInt8) : Option (List UInt8) := ((Bt ⟨[]⟩ 34).bind fun r2 => ((Cr (fun s : Co × Nat => A8.b1 a_0 s.1 s.2) (a_0.length + 2) (r2.2, 0)).bind fun cr => match cr with | .ret r => some r | .next (y91, y92) => ((Bt y91 34).bind fun r93 => ((BZ r93.2).bind fun r94 => some r94))))
theorem DB {a_0 : List UInt8} {r : (List UInt8)} (hF : A8 a_0 = some r) : AR Tryd.prog KG 29 [(AJ a_0)] [] (fun _ => []) (AJ r) := by
  refine AR.intro 53 Tryd.func29 rfl Tryd.ntmps29 (Nat.le_of_ble_eq_true rfl) ?_
  intro c a w hG hn h
  unfold A8 at hF
  change AX c [.slot 0 (AJ a_0)] a w at h
  refine AU mixed hn hG h [0] (ov [] (Al (C4 (sc _ (by decide)))) .nil) fun _ a w h => ?_
  refine AU mixed hn hG h [0, 501, 500] (ob [] (CF Tryd.zeroValue64 Lz) .nil) fun b1 a w h => ?_
  replace h := h.conv 2 rfl IV
  replace h := h.Fz 1 rfl (fun _ _ h => Il h)
  replace h := h.sub [0, 1, 2] (by rfl)
  change AX c [.slot 0 (AJ a_0), .slot 3 (A4 (b1 0)), .res (Ct (b1 0) (some ⟨[]⟩))] a w at h
  obtain ⟨r2, hr2, hF⟩ := bind_some hF
  refine AU mixed hn hG h [0, 1, 500] (oc [1] [2] Tryd.call43 (BO hr2) ⟨q0, qi, trivial⟩ .nil) fun _ a w h => ?_
  refine wp_seq ?_
  refine AU mixed hn hG h [0, 1, 501, 2, 500] (ov [0] (Aj q0) <| og [500] [] [.slot 8 1 100000 (fun v1_ _ => (A4 v1_)), .res 1 100000 (fun v1_ _ => (Fy (v1_) a_0 0))] (Bh.plain (Hi Tryd.underlying9 q0) rfl) .nil) fun b3 a w h => ?_
  refine wp_block ?_
  obtain ⟨cr87, hl88, hF⟩ := bind_some hF
  refine wp_mono (CV (R := (List UInt8)) (S := Co × Nat) (fun s a w => AX c [.slot 0 (AJ a_0), .slot 3 (A4 (b1 0)), .slot 8 (A4 (b3 1)), .res (Ct (b1 0) (some s.1)), .res (Fy (b3 1) a_0 s.2)] a w) (fun res e a w => match res with | .next s => e = .exit 0 ∧ AX c [.slot 3 (A4 (b1 0)), .res (Ct (b1 0) (some s.1))] a w | .ret r => e = .ret ∧ DW Tryd.prog Tryd.f29 c (AJ r) (fun _ => []) a w) ?_ _ (r2.2, 0) _ _ _ (h.sub [0, 1, 2, 3, 4] (by rfl)) hl88) ?_
  · clear hl88 hF h
    intro s a w o h hF
    obtain ⟨x24, x25⟩ := s
    change A8.b1 a_0 x24 x25 = some o at hF
    unfold A8.b1 at hF
    change AX c [.slot 0 (AJ a_0), .slot 3 (A4 (b1 0)), .slot 8 (A4 (b3 1)), .res (Ct (b1 0) (some x24)), .res (Fy (b3 1) a_0 x25)] a w at h
    refine AU mixed hn hG h [0, 1, 2, 502, 500, 3, 501] (oe [2] [4] (Bh.plain (HK 0 rfl) rfl) <| ov [501] (Kg q0) .nil) fun _ a w h => ?_
    refine wp_seq ?_
    refine Ea h hF 4 [0, 1, 2, 3, 5, 6] [0, 1, 2, 5, 6] (fun hb48 hF h => ?_) (fun hb48 hF h => ?_)
    · refine wp_skip ?_
      show Code.wp Tryd.prog _ _ a w
      refine wp_block ?_
      obtain ⟨hv49, hF⟩ := A1 hF
      refine AU mixed hn hG h [0, 1, 501, 500, 2, 4, 5] (ov [3] (Kf q0 hv49) <| ov [3] (Ke q0 hv49) <| ov [501] (Al q0) <| ov [501] (Al q0) .nil) fun _ a w h => ?_
      refine wp_block ?_
      refine wp_seq ?_
      refine CD (fun a w => ∃ (x50 : Bool), A8.j1 a_0 x24 x25 x50 = some o ∧ AX c [.slot 0 (AJ a_0), .slot 3 (A4 (b1 0)), .slot 4 (Ab .i64 (x25 : Int)), .slot 5 (Ab .i32 (Ej a_0 x25)), .slot 8 (A4 (b3 1)), .slot 19 (Ak x50), .res (Ct (b1 0) (some x24)), .res (Fy (b3 1) a_0 (Eh a_0 x25))] a w) ?_ ?_
      · rcases Bool.eq_false_or_eq_true (decide ((Ej a_0 x25) = (34 : Int))) with hb86 | hb86
        · replace hF := Dj hb86 hF
          refine Dm mixed hn hG h [0, 1, 2, 3, 4, 500, 5, 6] (ov [3] (Aj q0) <| ov [500] (AG C0 q0 qi) <| ov [500] (Aj q0) <| oe [500] [] (Bh.Bb (want := false) hb86 rfl rfl rfl rfl) <| oe [501] [] (Bh.Bb (want := false) hb86 rfl rfl rfl rfl) <| ov [502] (Br hb86 q0 qb) <| ov [500] (Al q0) .nil) fun _ a w h => ?_
          exact ⟨true, hF, h.sub [0, 1, 2, 3, 4, 5, 6, 7] (by rfl)⟩
        · replace hF := Dn hb86 hF
          refine Dm mixed hn hG h [0, 1, 2, 3, 4, 500, 5, 6] (ov [3] (Aj q0) <| ov [500] (AG C0 q0 qi) <| ov [500] (Aj q0) <| oe [500, 3] [] (Bh.A2 hb86 rfl rfl rfl (Aj q0)) <| oe [501, 500] [] (Bh.A2 hb86 rfl rfl rfl (AG C0 q0 qi)) <| ov [502, 500] (Bs hb86 q0 q1) <| ov [500] (Al q0) .nil) fun _ a w h => ?_
          exact ⟨decide ((Ej a_0 x25) = (92 : Int)), hF, h.sub [0, 1, 2, 3, 4, 5, 6, 7] (by rfl)⟩
      · clear h hF
        rintro a w ⟨x50, hF, h⟩
        unfold A8.j1 at hF
        show Code.wp Tryd.prog _ _ a w
        refine CD (fun a w => ∃ (x67 : Co), A8.j2 a_0 x25 x67 = some o ∧ AX c [.slot 0 (AJ a_0), .slot 3 (A4 (b1 0)), .slot 8 (A4 (b3 1)), .res (Fy (b3 1) a_0 (Eh a_0 x25)), .res (Ct (b1 0) (some x67))] a w) ?_ ?_
        · refine Ea h hF 5 [0, 1, 3, 4, 6, 7] [0, 1, 2, 3, 4, 6, 7] (fun hb68 hF h => ?_) (fun hb68 hF h => ?_)
          · obtain ⟨r69, hr69, hF⟩ := bind_some hF
            refine AU mixed hn hG h [0, 1, 2, 3, 5, 500] (oc [1] [4] Tryd.call43 (BO hr69) ⟨q0, qi, trivial⟩ .nil) fun _ a w h => ?_
            obtain ⟨r70, hr70, hF⟩ := bind_some hF
            refine Dm mixed hn hG h [0, 1, 3, 4, 500] (ov [2] (Aj q0) <| oc [1, 500] [5] Tryd.call44 (Df hr70) ⟨q0, q1, trivial⟩ .nil) fun _ a w h => ?_
            exact ⟨r70.2.2, hF, h.sub [0, 1, 2, 3, 4] (by rfl)⟩
          · refine wp_seq ?_
            refine CD (fun a w => ∃ (x71 : Bool), A8.j3 a_0 x24 x25 x71 = some o ∧ AX c [.slot 0 (AJ a_0), .slot 3 (A4 (b1 0)), .slot 4 (Ab .i64 (x25 : Int)), .slot 5 (Ab .i32 (Ej a_0 x25)), .slot 8 (A4 (b3 1)), .slot 29 (Ak x71), .res (Ct (b1 0) (some x24)), .res (Fy (b3 1) a_0 (Eh a_0 x25))] a w) ?_ ?_
            · rcases Bool.eq_false_or_eq_true (decide ((32 : Int) ≤ (Ej a_0 x25))) with hb85 | hb85
              · replace hF := Dj hb85 hF
                refine Dm mixed hn hG h [0, 1, 2, 3, 4, 500, 5, 6] (ov [3] (Aj q0) <| ov [500] (AG D3 q0 qi) <| ov [500] (Aj q0) <| oe [500, 3] [] (Bh.A2 hb85 rfl rfl rfl (Aj q0)) <| oe [501, 500] [] (Bh.A2 hb85 rfl rfl rfl (AG Cu q0 qi)) <| ov [502, 500] (Br hb85 q0 q1) <| ov [500] (Al q0) .nil) fun _ a w h => ?_
                exact ⟨decide ((Ej a_0 x25) ≤ (126 : Int)), hF, h.sub [0, 1, 2, 3, 4, 5, 6, 7] (by rfl)⟩
              · replace hF := Dn hb85 hF
                refine Dm mixed hn hG h [0, 1, 2, 3, 4, 500, 5, 6] (ov [3] (Aj q0) <| ov [500] (AG D3 q0 qi) <| ov [500] (Aj q0) <| oe [500] [] (Bh.Bb (want := true) hb85 rfl rfl rfl rfl) <| oe [501] [] (Bh.Bb (want := true) hb85 rfl rfl rfl rfl) <| ov [502] (Bs hb85 q0 qb) <| ov [500] (Al q0) .nil) fun _ a w h => ?_
                exact ⟨false, hF, h.sub [0, 1, 2, 3, 4, 5, 6, 7] (by rfl)⟩
            · clear h hF
              rintro a w ⟨x71, hF, h⟩
              unfold A8.j3 at hF
              show Code.wp Tryd.prog _ _ a w
              refine Ea h hF 5 [0, 1, 3, 4, 6, 7] [0, 1, 2, 3, 4, 6, 7] (fun hb72 hF h => ?_) (fun hb72 hF h => ?_)
              · obtain ⟨r73, hr73, hF⟩ := bind_some hF
                refine Dm mixed hn hG h [0, 1, 3, 5, 500] (ov [2] (Aj q0) <| oc [1, 500] [4] Tryd.call44 (Df hr73) ⟨q0, q1, trivial⟩ .nil) fun _ a w h => ?_
                exact ⟨r73.2.2, hF, h.sub [0, 1, 2, 3, 4] (by rfl)⟩
              · obtain ⟨r74, hr74, hF⟩ := bind_some hF
                refine AU mixed hn hG h [0, 1, 2, 3, 4, 500, 5, 6] (ov [0] (Aj q0) <| ov [2] (Aj q0) <| ov [3] (Aj q0) <| oc [502, 501, 500] [] Tryd.call45 (GG hr74) ⟨q0, q1, q2, trivial⟩ <| ov [500] (Al q0) .nil) fun _ a w h => ?_
                refine Ea h hF 5 [0, 1, 2, 4, 6, 7] [0, 1, 3, 4, 6, 7] (fun hb75 hF h => ?_) (fun hb75 hF h => ?_)
                · obtain ⟨hv76, hF⟩ := A1 hF
                  obtain ⟨r77, hr77, hF⟩ := bind_some hF
                  obtain ⟨hv78, hF⟩ := A1 hF
                  obtain ⟨hv79, hF⟩ := A1 hF
                  obtain ⟨r80, hr80, hF⟩ := bind_some hF
                  refine Dm mixed hn hG h [0, 1, 3, 5, 500] (ov [0] (Aj q0) <| ov [2] (Aj q0) <| ov [501, 500] (BM Tryd.underlying9 q0 q1 hv76) <| ov [500] (Bz Tryd.underlying5 Tryd.underlying23 q0) <| oc [500] [] Tryd.call34 (C2 hr77) ⟨q0, qi, trivial⟩ <| ov [500] (AG (DC hv78) (C4 (sc _ (by decide))) q0) <| ov [500] (AG (DC hv79) q0 (C4 (sc _ (by decide)))) <| oc [1, 500] [4] Tryd.call31 (C7 hr80) ⟨q0, q1, trivial⟩ .nil) fun _ a w h => ?_
                  exact ⟨r80.2.2, hF, h.sub [0, 1, 2, 3, 4] (by rfl)⟩
                · obtain ⟨r81, hr81, hF⟩ := bind_some hF
                  obtain ⟨hv82, hF⟩ := A1 hF
                  obtain ⟨hv83, hF⟩ := A1 hF
                  obtain ⟨r84, hr84, hF⟩ := bind_some hF
                  refine Dm mixed hn hG h [0, 1, 3, 5, 500] (ov [2] (Aj q0) <| ov [500] (Bz Tryd.underlying21 Tryd.underlying23 q0) <| oc [500] [] Tryd.call34 (C2 hr81) ⟨q0, qi, trivial⟩ <| ov [500] (AG (DC hv82) (C4 (sc _ (by decide))) q0) <| ov [500] (AG (DC hv83) q0 (C4 (sc _ (by decide)))) <| oc [1, 500] [4] Tryd.call31 (C7 hr84) ⟨q0, q1, trivial⟩ .nil) fun _ a w h => ?_
                  exact ⟨r84.2.2, hF, h.sub [0, 1, 2, 3, 4] (by rfl)⟩
        · clear h hF
          rintro a w ⟨x67, hF, h⟩
          unfold A8.j2 at hF
          obtain rfl := Option.some.inj hF
          exact ⟨rfl, h.sub [0, 1, 2, 4, 3] (by rfl)⟩
    · refine wp_exit ?_
      obtain rfl := Option.some.inj hF
      exact ⟨Dp _, rfl, h.sub [1, 3] (by rfl)⟩
  · clear hl88
    intro e a w hq
    cases cr87 with
    | ret r89 =>
      obtain ⟨rfl, hq⟩ := hq
      obtain rfl := Option.some.inj hF
      exact ⟨.inl rfl, hq⟩
    | next s90 =>
      obtain ⟨y91, y92⟩ := s90
      obtain ⟨rfl, h⟩ := hq
      change AX c [.slot 3 (A4 (b1 0)), .res (Ct (b1 0) (some y91))] a w at h
      refine Cf ?_
      show Code.wp Tryd.prog _ _ a w
      obtain ⟨r93, hr93, hF⟩ := bind_some hF
      refine AU mixed hn hG h [0, 500] (oc [0] [1] Tryd.call43 (BO hr93) ⟨q0, qi, trivial⟩ .nil) fun _ a w h => ?_
      obtain ⟨r94, hr94, hF⟩ := bind_some hF
      refine AU mixed hn hG h [500] (oc [0] [1] Tryd.call23 (Dy hr94) ⟨q0, trivial⟩ <| ov [500] (Al q0) .nil) fun _ a w h => ?_
      refine wp_ret ?_
      obtain rfl := Option.some.inj hF
      exact ⟨.inl rfl, Ci h Tryd.results29 (By 0 rfl) [] [] rfl rfl rfl⟩

def BA.j2 (a_0 : An) (x4 : List UInt8) : Option (List UInt8) := (if [101, 118, 101, 110, 116, 32].length + x4.length ≤ Cp then (if ([101, 118, 101, 110, 116, 32] ++ x4).length + [32].length ≤ Cp then ((A8 a_0.Bk).bind fun r7 => (if (([101, 118, 101, 110, 116, 32] ++ x4) ++ [32]).length + r7.length ≤ Cp then (if ((([101, 118, 101, 110, 116, 32] ++ x4) ++ [32]) ++ r7).length + [32].length ≤ Cp then ((BS a_0.B3).bind fun r10 => (if (((([101, 118, 101, 110, 116, 32] ++ x4) ++ [32]) ++ r7) ++ [32]).length + r10.length ≤ Cp then some ((((([101, 118, 101, 110, 116, 32] ++ x4) ++ [32]) ++ r7) ++ [32]) ++ r10) else none)) else none) else none)) else none) else none)
def BA.j1 (a_0 : An) (x2 : Bool) : Option (List UInt8) := (if x2 = true then (if (0 : Int) ≤ a_0.B6 ∧ a_0.B6 < 11 then BA.j2 a_0 (DK.getD a_0.B6.toNat default) else none) else BA.j2 a_0 (DK.getD (0 : Int).toNat default))
def BA (a_0 : An) : Option (List UInt8) := (if (decide ((0 : Int) < a_0.B6)) = true then BA.j1 a_0 (decide (a_0.B6 < (11 : Int))) else BA.j1 a_0 false)
theorem Gh {a_0 : An} {r : (List UInt8)} (hF : BA a_0 = some r) : AR Tryd.prog KG 9 [(Cs [one (Ab .i64 a_0.B6), one (AJ a_0.Bk), one (Ab .u64 a_0.B3), Af 32 a_0.Cm])] [] (fun _ => []) (AJ r) := by
  refine AR.intro 30 Tryd.func9 rfl Tryd.ntmps9 (Nat.le_of_ble_eq_true rfl) ?_
  intro c a w hG hn h
  unfold BA at hF
  change AX c [.slot 0 (Cs [one (Ab .i64 a_0.B6), one (AJ a_0.Bk), one (Ab .u64 a_0.B3), Af 32 a_0.Cm])] a w at h
  refine AU mixed hn hG h [502, 501] (ob [0] (DR q0 (BF _)) <| ov [] (Al (C4 (sc _ (by decide)))) .nil) fun b1 a w h => ?_
  refine AU mixed hn hG h [0, 500, 1] (ov [] (Ey Tryd.underlying86 Tryd.sizeOf9 (Mb (fun Φ h => h.2.2.1)) qi (by decide)) <| ov [500] (Er [] Tryd.isAgg9 q0) <| ov [500] (Al q0) .nil) fun _ a w h => ?_
  refine wp_seq ?_
  refine wp_seq ?_
  refine CD (fun a w => ∃ (x2 : Bool), BA.j1 a_0 x2 = some r ∧ AX c [.slot 1 (BH (b1 0) 0), .slot 3 (AJ (DK.getD (0 : Int).toNat default)), .slot 13 (Ak x2), .res (lb (b1 0) 48 [one (Ab .i64 a_0.B6), one (AJ a_0.Bk), one (Ab .u64 a_0.B3), Af 32 a_0.Cm])] a w) ?_ ?_
  · rcases Bool.eq_false_or_eq_true (decide ((0 : Int) < a_0.B6)) with hb14 | hb14
    · replace hF := Dj hb14 hF
      refine Dm mixed hn hG h [0, 1, 500, 2] (ov [0] (Ag (p := (b1 0)) (n := 1) 0 0 Tryd.underlying48 rfl Tryd.sizeOf3 (by decide) q0 rfl) <| ov [500, 2] (AA [] [one (AJ a_0.Bk), one (Ab .u64 a_0.B3), Af 32 a_0.Cm] 1 Tryd.isAgg3 q0 rfl rfl) <| ov [500] (AG C5 q0 qi) <| ov [500] (Aj q0) <| oe [500, 0] [] (Bh.A2 hb14 rfl rfl rfl (Ag (p := (b1 0)) (n := 1) 0 0 Tryd.underlying48 rfl Tryd.sizeOf3 (by decide) q0 rfl)) <| oe [501, 500, 2] [] (Bh.A2 hb14 rfl rfl rfl (AA [] [one (AJ a_0.Bk), one (Ab .u64 a_0.B3), Af 32 a_0.Cm] 1 Tryd.isAgg3 q0 rfl rfl)) <| oe [502, 500] [] (Bh.A2 hb14 rfl rfl rfl (AG Cg q0 qi)) <| ov [503, 500] (Br hb14 q0 q1) .nil) fun _ a w h => ?_
      exact ⟨decide (a_0.B6 < (11 : Int)), hF, h.sub [0, 1, 2, 3] (by rfl)⟩
    · replace hF := Dn hb14 hF
      refine Dm mixed hn hG h [0, 1, 500, 2] (ov [0] (Ag (p := (b1 0)) (n := 1) 0 0 Tryd.underlying48 rfl Tryd.sizeOf3 (by decide) q0 rfl) <| ov [500, 2] (AA [] [one (AJ a_0.Bk), one (Ab .u64 a_0.B3), Af 32 a_0.Cm] 1 Tryd.isAgg3 q0 rfl rfl) <| ov [500] (AG C5 q0 qi) <| ov [500] (Aj q0) <| oe [500] [] (Bh.Bb (want := true) hb14 rfl rfl rfl rfl) <| oe [501] [] (Bh.Bb (want := true) hb14 rfl rfl rfl rfl) <| oe [502] [] (Bh.Bb (want := true) hb14 rfl rfl rfl rfl) <| ov [503] (Bs hb14 q0 qb) .nil) fun _ a w h => ?_
      exact ⟨false, hF, h.sub [0, 1, 2, 3] (by rfl)⟩
  · clear h hF
    rintro a w ⟨x2, hF, h⟩
    unfold BA.j1 at hF
    show Code.wp Tryd.prog _ _ a w
    refine CD (fun a w => ∃ (x4 : List UInt8), BA.j2 a_0 x4 = some r ∧ AX c [.slot 1 (BH (b1 0) 0), .slot 3 (AJ x4), .res (lb (b1 0) 48 [one (Ab .i64 a_0.B6), one (AJ a_0.Bk), one (Ab .u64 a_0.B3), Af 32 a_0.Cm])] a w) ?_ ?_
    · refine Ea h hF 2 [0, 3] [0, 1, 3] (fun hb12 hF h => ?_) (fun hb12 hF h => ?_)
      · obtain ⟨hv13, hF⟩ := A1 hF
        refine Dm mixed hn hG h [0, 500, 1] (ov [0] (Ag (p := (b1 0)) (n := 1) 0 0 Tryd.underlying48 rfl Tryd.sizeOf3 (by decide) q0 rfl) <| ov [500, 1] (AA [] [one (AJ a_0.Bk), one (Ab .u64 a_0.B3), Af 32 a_0.Cm] 1 Tryd.isAgg3 q0 rfl rfl) <| ov [500] (Ey Tryd.underlying86 Tryd.sizeOf9 (Mb (fun Φ h => h.2.2.1)) q0 hv13) <| ov [500] (Er [] Tryd.isAgg9 q0) <| ov [500] (Al q0) .nil) fun _ a w h => ?_
        exact ⟨DK.getD a_0.B6.toNat default, hF, h.sub [0, 1, 2] (by rfl)⟩
      · refine wp_skip ?_
        exact ⟨DK.getD (0 : Int).toNat default, hF, h.sub [0, 1, 2] (by rfl)⟩
    · clear h hF
      rintro a w ⟨x4, hF, h⟩
      unfold BA.j2 at hF
      show Code.wp Tryd.prog _ _ a w
      obtain ⟨hv5, hF⟩ := A1 hF
      obtain ⟨hv6, hF⟩ := A1 hF
      obtain ⟨r7, hr7, hF⟩ := bind_some hF
      obtain ⟨hv8, hF⟩ := A1 hF
      obtain ⟨hv9, hF⟩ := A1 hF
      obtain ⟨r10, hr10, hF⟩ := bind_some hF
      obtain ⟨hv11, hF⟩ := A1 hF
      refine AU mixed hn hG h [500] (ov [1] (Aj q0) <| ov [500] (AG (DC hv5) (C4 (sc _ (by decide))) q0) <| ov [500] (AG (DC hv6) q0 (C4 (sc _ (by decide)))) <| ov [0] (Ag (p := (b1 0)) (n := 1) 0 1 Tryd.underlying48 rfl Tryd.sizeOf9 (by decide) q0 rfl) <| ov [500, 2] (AA [one (Ab .i64 a_0.B6)] [one (Ab .u64 a_0.B3), Af 32 a_0.Cm] 1 Tryd.isAgg9 q0 rfl rfl) <| oc [500] [] Tryd.call29 (DB hr7) ⟨q0, trivial⟩ <| ov [503, 500] (AG (DC hv8) q0 q1) <| ov [500] (AG (DC hv9) q0 (C4 (sc _ (by decide)))) <| ov [0] (Ag (p := (b1 0)) (n := 1) 0 2 Tryd.underlying48 rfl Tryd.sizeOf23 (by decide) q0 rfl) <| ov [500, 2] (AA [one (Ab .i64 a_0.B6), one (AJ a_0.Bk)] [Af 32 a_0.Cm] 1 Tryd.isAgg23 q0 rfl rfl) <| oc [500] [] Tryd.call19 (BP hr10) ⟨q0, trivial⟩ <| ov [503, 500] (AG (DC hv11) q0 q1) <| ov [500] (Al q0) .nil) fun _ a w h => ?_
      refine wp_ret ?_
      obtain rfl := Option.some.inj hF
      exact ⟨.inl rfl, Ci h Tryd.results9 (By 0 rfl) [] [] rfl rfl rfl⟩

def BE (L_0 : BJ) (a_1 : List (List UInt8)) : Option BJ := (if (Lib.join a_1 [32]).length ≤ 140737488355328 ∧ a_1.length ≤ 140737488355328 then (if (Lib.join a_1 [32]).length + [10].length ≤ Cp then ((CZ L_0 ((Lib.join a_1 [32]) ++ [10])).bind fun r3 => some r3.2.2) else none) else none)
theorem B5 {p_0 : Value} {L_0 : BJ} {a_1 : List (List UInt8)} {r : BJ} (hF : BE L_0 a_1 = some r) : AR Tryd.prog KG 17 [(A4 p_0), (Ah Fk a_1)] [(BV p_0 (some L_0))] (fun _ => [BV p_0 (some r)]) (Di []) := by
  refine AR.intro 11 Tryd.func17 rfl Tryd.ntmps17 (Nat.le_of_ble_eq_true rfl) ?_
  intro c a w hG hn h
  unfold BE at hF
  change AX c [.slot 0 (A4 p_0), .slot 1 (Ah Fk a_1), .res (BV p_0 (some L_0))] a w at h
  obtain ⟨hv1, hF⟩ := A1 hF
  obtain ⟨hv2, hF⟩ := A1 hF
  obtain ⟨r3, hr3, hF⟩ := bind_some hF
  refine Dm mixed hn hG h [500] (ov [0] (Aj q0) <| ov [500, 2] (FD 1 q0 rfl (fun Φ f w ⟨_, q⟩ => F4 Φ f w q)) <| ov [500, 2] (Fc (n := 2) 1 Tryd.underlying66 rfl rfl Tryd.sizeOf64 (by decide) q0 rfl (fun Φ f w ⟨_, q⟩ => F4 Φ f w q)) <| ov [1] (Aj q0) <| oc [500] [] Tryd.call33 (Ko hv1) ⟨q0, (C4 (sc _ (by decide))), trivial⟩ <| ov [500] (AG (DC hv2) q0 (C4 (sc _ (by decide)))) <| oc [503, 500] [2] Tryd.call31 (E1 hr3) ⟨q0, q1, trivial⟩ .nil) fun _ a w h => ?_
  obtain rfl := Option.some.inj hF
  exact ⟨.inr rfl, GR h (rs := []) (Vs := []) Tryd.results17 (by decide) trivial [0] [(BV p_0 (some r3.2.2))] rfl rfl rfl⟩

def CJ (a_0 : Int) : Option (List UInt8) := ((BS (IntKind.wrap .u64 a_0)).bind fun r1 => some r1)
theorem Dt {a_0 : Int} {r : (List UInt8)} (hF : CJ a_0 = some r) : AR Tryd.prog KG 18 [(Ab .u32 a_0)] [] (fun _ => []) (AJ r) := by
  refine AR.intro 6 Tryd.func18 rfl Tryd.ntmps18 (Nat.le_of_ble_eq_true rfl) ?_
  intro c a w hG hn h
  unfold CJ at hF
  change AX c [.slot 0 (Ab .u32 a_0)] a w at h
  refine AU mixed hn hG h [0] (ov [] (Al (C4 (sc _ (by decide)))) .nil) fun _ a w h => ?_
  obtain ⟨r1, hr1, hF⟩ := bind_some hF
  refine AU mixed hn hG h [500] (ov [0] (Aj q0) <| ov [500] (Bz Tryd.underlying22 Tryd.underlying23 q0) <| oc [500] [] Tryd.call19 (BP hr1) ⟨q0, trivial⟩ <| ov [500] (Al q0) .nil) fun _ a w h => ?_
  refine wp_ret ?_
  obtain rfl := Option.some.inj hF
  exact ⟨.inl rfl, Ci h Tryd.results18 (By 0 rfl) [] [] rfl rfl rfl⟩

def D1 (a_0 : Int) (a_1 : Int) : Option (Int × Int) := (if (decide (a_0 < a_1)) = true then some (0, 11) else some (IntKind.wrap .u64 (a_0 - a_1), 0))
theorem Fh {a_0 : Int} {a_1 : Int} {r : Int × Int} (hF : D1 a_0 a_1 = some r) : AR Tryd.prog KG 53 [(Ab .u64 a_0), (Ab .u64 a_1)] [] (fun _ => []) (Di [(Ab .u64 r.1), (Ab .i64 r.2)]) := by
  refine AR.intro 12 Tryd.func53 rfl Tryd.ntmps53 (Nat.le_of_ble_eq_true rfl) ?_
  intro c a w hG hn h
  unfold D1 at hF
  change AX c [.slot 0 (Ab .u64 a_0), .slot 1 (Ab .u64 a_1)] a w at h
  refine AU mixed hn hG h [0, 1] (ov [] (Al qi) <| ov [] (Al qi) .nil) fun _ a w h => ?_
  refine wp_seq ?_
  refine AU mixed hn hG h [0, 1, 500] (ov [1] (Aj q0) <| ov [0] (Aj q0) <| ov [501, 500] (AG C5 q0 q1) .nil) fun _ a w h => ?_
  refine Ea h hF 2 [] [0, 1] (fun hb1 hF h => ?_) (fun hb1 hF h => ?_)
  · refine AU mixed hn hG h [501, 500] (ov [] (Al qi) <| ov [] (Al qi) .nil) fun _ a w h => ?_
    refine wp_ret ?_
    obtain rfl := Option.some.inj hF
    exact ⟨.inl rfl, GR h (rs := [.tmp 4, .tmp 5]) (Vs := [(Ab .u64 0), (Ab .i64 11)]) Tryd.results53 (by decide) ⟨(By 0 rfl), (By 1 rfl), trivial⟩ [] [] rfl rfl rfl⟩
  · refine wp_skip ?_
    show Code.wp Tryd.prog _ _ a w
    refine AU mixed hn hG h [501, 500] (ov [0] (Aj q0) <| ov [1] (Aj q0) <| ov [501, 500] (AG DI q0 q1) <| ov [500] (Al q0) <| ov [] (Al qi) .nil) fun _ a w h => ?_
    refine wp_ret ?_
    obtain rfl := Option.some.inj hF
    exact ⟨.inl rfl, GR h (rs := [.tmp 4, .tmp 5]) (Vs := [(Ab .u64 (IntKind.wrap .u64 (a_0 - a_1))), (Ab .i64 0)]) Tryd.results53 (by decide) ⟨(By 0 rfl), (By 1 rfl), trivial⟩ [] [] rfl rfl rfl⟩

def E9 (a_0 : Av) : Option (Int × Int) := ((D1 a_0.Cb a_0.Cd).bind fun r2 => ((D1 a_0.Cc a_0.BI).bind fun r3 => some (r2.1, r3.1)))
theorem Hg {a_0 : Av} {r : Int × Int} (hF : E9 a_0 = some r) : AR Tryd.prog KG 35 [(Cs [one (Ab .u32 a_0.Bw), one (AJ a_0.Bk), one (Ab .u64 a_0.DU), one (Ab .u64 a_0.Cc), one (Ab .u64 a_0.BI), one (Ab .u64 a_0.Cb), one (Ab .u64 a_0.Cd)])] [] (fun _ => []) (Di [(Ab .u64 r.1), (Ab .u64 r.2)]) := by
  refine AR.intro 26 Tryd.func35 rfl Tryd.ntmps35 (Nat.le_of_ble_eq_true rfl) ?_
  intro c a w hG hn h
  unfold E9 at hF
  change AX c [.slot 0 (Cs [one (Ab .u32 a_0.Bw), one (AJ a_0.Bk), one (Ab .u64 a_0.DU), one (Ab .u64 a_0.Cc), one (Ab .u64 a_0.BI), one (Ab .u64 a_0.Cb), one (Ab .u64 a_0.Cd)])] a w at h
  refine AU mixed hn hG h [503, 502] (ob [0] (DR q0 (BF _)) <| ov [] (Al qi) <| ov [] (Al qi) .nil) fun b1 a w h => ?_
  obtain ⟨r2, hr2, hF⟩ := bind_some hF
  refine AU mixed hn hG h [0, 501, 1] (ov [0] (Ag (p := (b1 0)) (n := 1) 0 5 Tryd.underlying77 rfl Tryd.sizeOf23 (by decide) q0 rfl) <| ov [500, 1] (AA [one (Ab .u32 a_0.Bw), one (AJ a_0.Bk), one (Ab .u64 a_0.DU), one (Ab .u64 a_0.Cc), one (Ab .u64 a_0.BI)] [one (Ab .u64 a_0.Cd)] 1 Tryd.isAgg23 q0 rfl rfl) <| ov [0] (Ag (p := (b1 0)) (n := 1) 0 6 Tryd.underlying77 rfl Tryd.sizeOf23 (by decide) q0 rfl) <| ov [500, 1] (AA [one (Ab .u32 a_0.Bw), one (AJ a_0.Bk), one (Ab .u64 a_0.DU), one (Ab .u64 a_0.Cc), one (Ab .u64 a_0.BI), one (Ab .u64 a_0.Cb)] [] 1 Tryd.isAgg23 q0 rfl rfl) <| oc [502, 500] [] Tryd.call53 (Fh hr2) ⟨q0, q1, trivial⟩ <| ov [500] (Aj q0) <| ov [500] (CE q0 rfl) <| ov [501] (CE q0 rfl) <| ov [501] (Al q0) <| ov [501] (Al q0) .nil) fun _ a w h => ?_
  obtain ⟨r3, hr3, hF⟩ := bind_some hF
  refine AU mixed hn hG h [1, 501] (ov [0] (Ag (p := (b1 0)) (n := 1) 0 3 Tryd.underlying77 rfl Tryd.sizeOf23 (by decide) q0 rfl) <| ov [500, 2] (AA [one (Ab .u32 a_0.Bw), one (AJ a_0.Bk), one (Ab .u64 a_0.DU)] [one (Ab .u64 a_0.BI), one (Ab .u64 a_0.Cb), one (Ab .u64 a_0.Cd)] 1 Tryd.isAgg23 q0 rfl rfl) <| ov [0] (Ag (p := (b1 0)) (n := 1) 0 4 Tryd.underlying77 rfl Tryd.sizeOf23 (by decide) q0 rfl) <| ov [500, 2] (AA [one (Ab .u32 a_0.Bw), one (AJ a_0.Bk), one (Ab .u64 a_0.DU), one (Ab .u64 a_0.Cc)] [one (Ab .u64 a_0.Cb), one (Ab .u64 a_0.Cd)] 1 Tryd.isAgg23 q0 rfl rfl) <| oc [502, 500] [] Tryd.call53 (Fh hr3) ⟨q0, q1, trivial⟩ <| ov [500] (Aj q0) <| ov [500] (CE q0 rfl) <| ov [501] (CE q0 rfl) <| ov [501] (Al q0) <| ov [501] (Al q0) .nil) fun _ a w h => ?_
  refine AU mixed hn hG h [501, 500] (ov [0] (Aj q0) <| ov [1] (Aj q0) <| ov [501] (Al q0) <| ov [501] (Al q0) .nil) fun _ a w h => ?_
  refine wp_ret ?_
  obtain rfl := Option.some.inj hF
  exact ⟨.inl rfl, GR h (rs := [.tmp 2, .tmp 3]) (Vs := [(Ab .u64 r2.1), (Ab .u64 r3.1)]) Tryd.results35 (by decide) ⟨(By 0 rfl), (By 1 rfl), trivial⟩ [] [] rfl rfl rfl⟩

def AS.b1 (a_1 : AK) (x9 : Int) (x10 : BJ) : Option (D2 BJ (Int × BJ)) := (if (decide (x9 < (a_1.Ae.Ap.length : Int))) = true then (if (0 : Int) ≤ x9 ∧ x9 < a_1.Ae.Ap.length then ((A8 ((a_1.Ae.Ap.getD x9.toNat default).Bk)).bind fun r23 => ((BS ((a_1.Ae.Ap.getD x9.toNat default).Dx)).bind fun r24 => ((BS ((a_1.Ae.Ap.getD x9.toNat default).Dw)).bind fun r25 => ((BE x10 [[97, 99, 99, 111, 117, 110, 116], r23, [99, 111, 105, 110, 115], r24, [110, 111, 110, 99, 101], r25]).bind fun r26 => some (.cont (IntKind.wrap .i64 (x9 + 1), r26)))))) else none) else some (.brk (x9, x10)))
def AS.b2 (a_1 : AK) (x43 : Int) (x44 : BJ) : Option (D2 BJ (Int × BJ)) := (if (decide (x43 < (a_1.As.Au.length : Int))) = true then (if (0 : Int) ≤ x43 ∧ x43 < a_1.As.Au.length then ((E9 (a_1.As.Au.getD x43.toNat default)).bind fun r60 => ((CJ ((a_1.As.Au.getD x43.toNat default).Bw)).bind fun r61 => ((A8 ((a_1.As.Au.getD x43.toNat default).Bk)).bind fun r62 => ((BS ((a_1.As.Au.getD x43.toNat default).DU)).bind fun r63 => ((BS r60.2).bind fun r64 => ((BS r60.1).bind fun r65 => ((BE x44 [[116, 111, 107, 101, 110], r61, r62, [99, 97, 112], r63, [108, 111, 99, 107, 101, 100], r64, [109, 105, 110, 116, 101, 100], r65]).bind fun r66 => some (.cont (IntKind.wrap .i64 (x43 + 1), r66))))))))) else none) else some (.brk (x43, x44)))
def AS.b3 (a_1 : AK) (x81 : Int) (x82 : BJ) : Option (D2 BJ (Int × BJ)) := (if (decide (x81 < (a_1.As.Am.length : Int))) = true then (if (0 : Int) ≤ x81 ∧ x81 < a_1.As.Am.length then ((A8 ((a_1.As.Am.getD x81.toNat default).CC)).bind fun r96 => ((CJ ((a_1.As.Am.getD x81.toNat default).Bw)).bind fun r97 => ((A8 ((a_1.As.Am.getD x81.toNat default).CB)).bind fun r98 => ((BS ((a_1.As.Am.getD x81.toNat default).CG)).bind fun r99 => ((BE x82 [[104, 111, 108, 100, 115], r96, r97, r98, r99]).bind fun r100 => some (.cont (IntKind.wrap .i64 (x81 + 1), r100))))))) else none) else some (.brk (x81, x82)))
def AS (L_0 : BJ) (a_1 : AK) : Option BJ := ((Cr (fun s : Int × BJ => AS.b1 a_1 s.1 s.2) (((a_1.Ae.Ap.length : Int) - 0 : Int).toNat + 2) (0, L_0)).bind fun cr => match cr with | .ret r => some r | .next (y31, y32) => ((Cr (fun s : Int × BJ => AS.b2 a_1 s.1 s.2) (((a_1.As.Au.length : Int) - 0 : Int).toNat + 2) (0, y32)).bind fun cr => match cr with | .ret r => some r | .next (y71, y72) => ((Cr (fun s : Int × BJ => AS.b3 a_1 s.1 s.2) (((a_1.As.Am.length : Int) - 0 : Int).toNat + 2) (0, y72)).bind fun cr => match cr with | .ret r => some r | .next (y105, y106) => some y106)))
theorem EB {p_0 : Value} {L_0 : BJ} {a_1 : AK} {r : BJ} (hF : AS L_0 a_1 = some r) : AR Tryd.prog KG 20 [(A4 p_0), (Cs [one (Ab .u32 a_1.B4), one (Ab .u64 a_1.Ae.AO), one (Ab .u64 a_1.Ae.Bc), one (Ab .u64 a_1.Ae.Bq), one (Ah Ao.ck a_1.Ae.Ap), one (Ah An.ck a_1.Ae.AD), one (Ah Av.ck a_1.As.Au), one (Ah Aq.ck a_1.As.Am), one (Ab .u32 a_1.Ad.Az), Af 32 a_1.Ad.Ar, one (Ab .u32 a_1.Ad.AI.AY), Bd 32 32 (dC 32) (AV 32) a_1.Ad.AI.AH, one (Ah (dC 32) a_1.Ad.AP), one (Ah (dC 32) a_1.Ad.AW), Af 32 a_1.Ad.Ai, one (Ah Ay.ck a_1.Ad.AQ), one (Ab .u64 a_1.Ad.Be), one (Ak a_1.Ad.Aw), one (Ab .u32 a_1.Aa.Az), one (Ab .u32 a_1.Aa.A9), Af 32 a_1.Aa.Ar, one (Ah (dC 32) a_1.Aa.AF), one (Ab .u64 a_1.Aa.AN), Af 32 a_1.Aa.Ai, one (Ah Ax.ck a_1.Aa.AT), one (Ah At.ck a_1.Aa.AB), one (Ak a_1.Aa.Aw), one (Ak a_1.Aa.Bn), one (AJ a_1.AZ)])] [(BV p_0 (some L_0))] (fun _ => [BV p_0 (some r)]) (Di []) := by
  refine AR.intro 87 Tryd.func20 rfl Tryd.ntmps20 (Nat.le_of_ble_eq_true rfl) ?_
  intro c a w hG hn h
  unfold AS at hF
  change AX c [.slot 0 (A4 p_0), .slot 1 (Cs [one (Ab .u32 a_1.B4), one (Ab .u64 a_1.Ae.AO), one (Ab .u64 a_1.Ae.Bc), one (Ab .u64 a_1.Ae.Bq), one (Ah Ao.ck a_1.Ae.Ap), one (Ah An.ck a_1.Ae.AD), one (Ah Av.ck a_1.As.Au), one (Ah Aq.ck a_1.As.Am), one (Ab .u32 a_1.Ad.Az), Af 32 a_1.Ad.Ar, one (Ab .u32 a_1.Ad.AI.AY), Bd 32 32 (dC 32) (AV 32) a_1.Ad.AI.AH, one (Ah (dC 32) a_1.Ad.AP), one (Ah (dC 32) a_1.Ad.AW), Af 32 a_1.Ad.Ai, one (Ah Ay.ck a_1.Ad.AQ), one (Ab .u64 a_1.Ad.Be), one (Ak a_1.Ad.Aw), one (Ab .u32 a_1.Aa.Az), one (Ab .u32 a_1.Aa.A9), Af 32 a_1.Aa.Ar, one (Ah (dC 32) a_1.Aa.AF), one (Ab .u64 a_1.Aa.AN), Af 32 a_1.Aa.Ai, one (Ah Ax.ck a_1.Aa.AT), one (Ah At.ck a_1.Aa.AB), one (Ak a_1.Aa.Aw), one (Ak a_1.Aa.Bn), one (AJ a_1.AZ)]), .res (BV p_0 (some L_0))] a w at h
  refine AU mixed hn hG h [0, 501, 2, 500] (ob [1] (DR q0 (BF _)) .nil) fun b1 a w h => ?_
  refine wp_seq ?_
  refine AU mixed hn hG h [0, 1, 502, 501, 500, 2, 3] (ov [1] (Ag (p := (b1 0)) (n := 5) 0 1 Tryd.underlying46 rfl Tryd.sizeOf27 (by decide) q0 rfl) <| ov [500] (Ag (p := (b1 0)) (n := 1) 1 4 Tryd.underlying27 rfl Tryd.sizeOf24 (by decide) q0 rfl) <| ov [500, 3] (AA [one (Ab .u32 a_1.B4), one (Ab .u64 a_1.Ae.AO), one (Ab .u64 a_1.Ae.Bc), one (Ab .u64 a_1.Ae.Bq)] [one (Ah An.ck a_1.Ae.AD), one (Ah Av.ck a_1.As.Au), one (Ah Aq.ck a_1.As.Am), one (Ab .u32 a_1.Ad.Az), Af 32 a_1.Ad.Ar, one (Ab .u32 a_1.Ad.AI.AY), Bd 32 32 (dC 32) (AV 32) a_1.Ad.AI.AH, one (Ah (dC 32) a_1.Ad.AP), one (Ah (dC 32) a_1.Ad.AW), Af 32 a_1.Ad.Ai, one (Ah Ay.ck a_1.Ad.AQ), one (Ab .u64 a_1.Ad.Be), one (Ak a_1.Ad.Aw), one (Ab .u32 a_1.Aa.Az), one (Ab .u32 a_1.Aa.A9), Af 32 a_1.Aa.Ar, one (Ah (dC 32) a_1.Aa.AF), one (Ab .u64 a_1.Aa.AN), Af 32 a_1.Aa.Ai, one (Ah Ax.ck a_1.Aa.AT), one (Ah At.ck a_1.Aa.AB), one (Ak a_1.Aa.Aw), one (Ak a_1.Aa.Bn), one (AJ a_1.AZ)] 1 Tryd.isAgg24 q0 rfl rfl) <| ov [500] (Ba Tryd.underlying24 q0) <| ov [] (Aj qi) .nil) fun _ a w h => ?_
  refine wp_block ?_
  obtain ⟨cr27, hl28, hF⟩ := bind_some hF
  refine wp_mono (CV (R := BJ) (S := Int × BJ) (fun s a w => AX c [.slot 0 (A4 p_0), .slot 3 (BH (b1 0) 0), .slot 14 (Ah Ao.ck a_1.Ae.Ap), .slot 15 (Ab .i64 (a_1.Ae.Ap.length : Int)), .slot 16 (Ab .i64 s.1), .res (BV p_0 (some s.2)), .res (lb (b1 0) 46 [one (Ab .u32 a_1.B4), one (Ab .u64 a_1.Ae.AO), one (Ab .u64 a_1.Ae.Bc), one (Ab .u64 a_1.Ae.Bq), one (Ah Ao.ck a_1.Ae.Ap), one (Ah An.ck a_1.Ae.AD), one (Ah Av.ck a_1.As.Au), one (Ah Aq.ck a_1.As.Am), one (Ab .u32 a_1.Ad.Az), Af 32 a_1.Ad.Ar, one (Ab .u32 a_1.Ad.AI.AY), Bd 32 32 (dC 32) (AV 32) a_1.Ad.AI.AH, one (Ah (dC 32) a_1.Ad.AP), one (Ah (dC 32) a_1.Ad.AW), Af 32 a_1.Ad.Ai, one (Ah Ay.ck a_1.Ad.AQ), one (Ab .u64 a_1.Ad.Be), one (Ak a_1.Ad.Aw), one (Ab .u32 a_1.Aa.Az), one (Ab .u32 a_1.Aa.A9), Af 32 a_1.Aa.Ar, one (Ah (dC 32) a_1.Aa.AF), one (Ab .u64 a_1.Aa.AN), Af 32 a_1.Aa.Ai, one (Ah Ax.ck a_1.Aa.AT), one (Ah At.ck a_1.Aa.AB), one (Ak a_1.Aa.Aw), one (Ak a_1.Aa.Bn), one (AJ a_1.AZ)])] a w) (fun res e a w => match res with | .next s => e = .exit 0 ∧ AX c [.slot 0 (A4 p_0), .slot 3 (BH (b1 0) 0), .res (BV p_0 (some s.2)), .res (lb (b1 0) 46 [one (Ab .u32 a_1.B4), one (Ab .u64 a_1.Ae.AO), one (Ab .u64 a_1.Ae.Bc), one (Ab .u64 a_1.Ae.Bq), one (Ah Ao.ck a_1.Ae.Ap), one (Ah An.ck a_1.Ae.AD), one (Ah Av.ck a_1.As.Au), one (Ah Aq.ck a_1.As.Am), one (Ab .u32 a_1.Ad.Az), Af 32 a_1.Ad.Ar, one (Ab .u32 a_1.Ad.AI.AY), Bd 32 32 (dC 32) (AV 32) a_1.Ad.AI.AH, one (Ah (dC 32) a_1.Ad.AP), one (Ah (dC 32) a_1.Ad.AW), Af 32 a_1.Ad.Ai, one (Ah Ay.ck a_1.Ad.AQ), one (Ab .u64 a_1.Ad.Be), one (Ak a_1.Ad.Aw), one (Ab .u32 a_1.Aa.Az), one (Ab .u32 a_1.Aa.A9), Af 32 a_1.Aa.Ar, one (Ah (dC 32) a_1.Aa.AF), one (Ab .u64 a_1.Aa.AN), Af 32 a_1.Aa.Ai, one (Ah Ax.ck a_1.Aa.AT), one (Ah At.ck a_1.Aa.AB), one (Ak a_1.Aa.Aw), one (Ak a_1.Aa.Bn), one (AJ a_1.AZ)])] a w | .ret r => e = .ret ∧ DW Tryd.prog Tryd.f20 c (Di []) (fun _ => [BV p_0 (some r)]) a w) ?_ _ (0, L_0) _ _ _ (h.sub [0, 1, 2, 3, 4, 5, 6] (by rfl)) hl28) ?_
  · clear hl28 hF h
    intro s a w o h hF
    obtain ⟨x9, x10⟩ := s
    change AS.b1 a_1 x9 x10 = some o at hF
    unfold AS.b1 at hF
    change AX c [.slot 0 (A4 p_0), .slot 3 (BH (b1 0) 0), .slot 14 (Ah Ao.ck a_1.Ae.Ap), .slot 15 (Ab .i64 (a_1.Ae.Ap.length : Int)), .slot 16 (Ab .i64 x9), .res (BV p_0 (some x10)), .res (lb (b1 0) 46 [one (Ab .u32 a_1.B4), one (Ab .u64 a_1.Ae.AO), one (Ab .u64 a_1.Ae.Bc), one (Ab .u64 a_1.Ae.Bq), one (Ah Ao.ck a_1.Ae.Ap), one (Ah An.ck a_1.Ae.AD), one (Ah Av.ck a_1.As.Au), one (Ah Aq.ck a_1.As.Am), one (Ab .u32 a_1.Ad.Az), Af 32 a_1.Ad.Ar, one (Ab .u32 a_1.Ad.AI.AY), Bd 32 32 (dC 32) (AV 32) a_1.Ad.AI.AH, one (Ah (dC 32) a_1.Ad.AP), one (Ah (dC 32) a_1.Ad.AW), Af 32 a_1.Ad.Ai, one (Ah Ay.ck a_1.Ad.AQ), one (Ab .u64 a_1.Ad.Be), one (Ak a_1.Ad.Aw), one (Ab .u32 a_1.Aa.Az), one (Ab .u32 a_1.Aa.A9), Af 32 a_1.Aa.Ar, one (Ah (dC 32) a_1.Aa.AF), one (Ab .u64 a_1.Aa.AN), Af 32 a_1.Aa.Ai, one (Ah Ax.ck a_1.Aa.AT), one (Ah At.ck a_1.Aa.AB), one (Ak a_1.Aa.Aw), one (Ak a_1.Aa.Bn), one (AJ a_1.AZ)])] a w at h
    refine AU mixed hn hG h [0, 1, 2, 3, 4, 500, 5, 6] (ov [4, 3] (AG Cg q0 q1) .nil) fun _ a w h => ?_
    refine wp_seq ?_
    refine Ea h hF 5 [0, 1, 2, 3, 4, 6, 7] [0, 1, 2, 3, 4, 6, 7] (fun hb20 hF h => ?_) (fun hb20 hF h => ?_)
    · refine wp_skip ?_
      show Code.wp Tryd.prog _ _ a w
      refine wp_seq ?_
      refine wp_block ?_
      obtain ⟨hv21, hF⟩ := A1 hF
      refine AU mixed hn hG h [0, 1, 502, 2, 3, 4, 5, 6, 500] (ov [2, 4] (B9 Tryd.underlying24 Tryd.sizeOf74 Ao.lens q0 q1 hv21) <| ov [500] (Dd [one (AJ ((a_1.Ae.Ap.getD x9.toNat default).Bk)), Af 32 ((a_1.Ae.Ap.getD x9.toNat default).E6), one (Ab .u64 ((a_1.Ae.Ap.getD x9.toNat default).Dw)), one (Ab .u64 ((a_1.Ae.Ap.getD x9.toNat default).Dx))] [] Tryd.isAgg74 Tryd.sizeOf74 q0 rfl) <| ob [] (CF Tryd.zeroValue74 MQ) <| og [501, 502] [500] [.res 2 100000 (fun v1_ _ => (lb (v1_) 74 [one (AJ ((a_1.Ae.Ap.getD x9.toNat default).Bk)), Af 32 ((a_1.Ae.Ap.getD x9.toNat default).E6), one (Ab .u64 ((a_1.Ae.Ap.getD x9.toNat default).Dw)), one (Ab .u64 ((a_1.Ae.Ap.getD x9.toNat default).Dx))]))] (Bh.plain (CM Tryd.sizeOf74 q0 q1 (BF _)) rfl) .nil) fun b22 a w h => ?_
      obtain ⟨r23, hr23, hF⟩ := bind_some hF
      obtain ⟨r24, hr24, hF⟩ := bind_some hF
      obtain ⟨r25, hr25, hF⟩ := bind_some hF
      obtain ⟨r26, hr26, hF⟩ := bind_some hF
      refine Dm mixed hn hG h [0, 1, 3, 4, 5, 7, 500] (ov [0] (Aj q0) <| ov [2] (Ag (p := (b22 2)) (n := 1) 0 0 Tryd.underlying74 rfl Tryd.sizeOf9 (by decide) q0 rfl) <| ov [500, 8] (AA [] [Af 32 ((a_1.Ae.Ap.getD x9.toNat default).E6), one (Ab .u64 ((a_1.Ae.Ap.getD x9.toNat default).Dw)), one (Ab .u64 ((a_1.Ae.Ap.getD x9.toNat default).Dx))] 1 Tryd.isAgg9 q0 rfl rfl) <| oc [500] [] Tryd.call29 (DB hr23) ⟨q0, trivial⟩ <| ov [2] (Ag (p := (b22 2)) (n := 1) 0 34 Tryd.underlying74 rfl Tryd.sizeOf23 (by decide) q0 rfl) <| ov [500, 8] (AA [one (AJ ((a_1.Ae.Ap.getD x9.toNat default).Bk)), Af 32 ((a_1.Ae.Ap.getD x9.toNat default).E6), one (Ab .u64 ((a_1.Ae.Ap.getD x9.toNat default).Dw))] [] 1 Tryd.isAgg23 q0 rfl rfl) <| oc [500] [] Tryd.call19 (BP hr24) ⟨q0, trivial⟩ <| ov [2] (Ag (p := (b22 2)) (n := 1) 0 33 Tryd.underlying74 rfl Tryd.sizeOf23 (by decide) q0 rfl) <| ov [500, 8] (AA [one (AJ ((a_1.Ae.Ap.getD x9.toNat default).Bk)), Af 32 ((a_1.Ae.Ap.getD x9.toNat default).E6)] [one (Ab .u64 ((a_1.Ae.Ap.getD x9.toNat default).Dx))] 1 Tryd.isAgg23 q0 rfl rfl) <| oc [500] [] Tryd.call19 (BP hr25) ⟨q0, trivial⟩ <| ov [506, 503, 500] (EE (xs := [.const (.string ⟨#[97, 99, 99, 111, 117, 110, 116]⟩), .tmp 23, .const (.string ⟨#[99, 111, 105, 110, 115]⟩), .tmp 26, .const (.string ⟨#[110, 111, 110, 99, 101]⟩), .tmp 29]) (ys := [[97, 99, 99, 111, 117, 110, 116], r23, [99, 111, 105, 110, 115], r24, [110, 111, 110, 99, 101], r25]) _ rfl Tryd.underlying87 Tryd.sizeOf9 Tryd.zeroValue9 rfl rfl (by decide) (by decide) ⟨⟨_, (C4 (sc _ (by decide))), (A5 (Bm _))⟩, ⟨_, q0, (A5 (Bm _))⟩, ⟨_, (C4 (sc _ (by decide))), (A5 (Bm _))⟩, ⟨_, q1, (A5 (Bm _))⟩, ⟨_, (C4 (sc _ (by decide))), (A5 (Bm _))⟩, ⟨_, q2, (A5 (Bm _))⟩, trivial⟩ DM) <| oc [510, 500] [6] Tryd.call17 (B5 hr26) ⟨q0, q1, trivial⟩ .nil) fun _ a w h => ?_
      show Code.wp Tryd.prog _ _ a w
      refine Dm mixed hn hG h [0, 1, 2, 3, 500, 5, 6] (ov [4] (AG BQ q0 qi) <| od [500] 4 (Aj q0) .nil) fun _ a w h => ?_
      obtain rfl := Option.some.inj hF
      exact ⟨rfl, h.sub [0, 1, 2, 3, 4, 6, 5] (by rfl)⟩
    · refine wp_exit ?_
      obtain rfl := Option.some.inj hF
      exact ⟨Dp _, rfl, h.sub [0, 1, 5, 6] (by rfl)⟩
  · clear hl28
    intro e a w hq
    cases cr27 with
    | ret r29 =>
      obtain ⟨rfl, hq⟩ := hq
      obtain rfl := Option.some.inj hF
      exact ⟨.inl rfl, hq⟩
    | next s30 =>
      obtain ⟨y31, y32⟩ := s30
      obtain ⟨rfl, h⟩ := hq
      change AX c [.slot 0 (A4 p_0), .slot 3 (BH (b1 0) 0), .res (BV p_0 (some y32)), .res (lb (b1 0) 46 [one (Ab .u32 a_1.B4), one (Ab .u64 a_1.Ae.AO), one (Ab .u64 a_1.Ae.Bc), one (Ab .u64 a_1.Ae.Bq), one (Ah Ao.ck a_1.Ae.Ap), one (Ah An.ck a_1.Ae.AD), one (Ah Av.ck a_1.As.Au), one (Ah Aq.ck a_1.As.Am), one (Ab .u32 a_1.Ad.Az), Af 32 a_1.Ad.Ar, one (Ab .u32 a_1.Ad.AI.AY), Bd 32 32 (dC 32) (AV 32) a_1.Ad.AI.AH, one (Ah (dC 32) a_1.Ad.AP), one (Ah (dC 32) a_1.Ad.AW), Af 32 a_1.Ad.Ai, one (Ah Ay.ck a_1.Ad.AQ), one (Ab .u64 a_1.Ad.Be), one (Ak a_1.Ad.Aw), one (Ab .u32 a_1.Aa.Az), one (Ab .u32 a_1.Aa.A9), Af 32 a_1.Aa.Ar, one (Ah (dC 32) a_1.Aa.AF), one (Ab .u64 a_1.Aa.AN), Af 32 a_1.Aa.Ai, one (Ah Ax.ck a_1.Aa.AT), one (Ah At.ck a_1.Aa.AB), one (Ak a_1.Aa.Aw), one (Ak a_1.Aa.Bn), one (AJ a_1.AZ)])] a w at h
      refine Cf ?_
      show Code.wp Tryd.prog _ _ a w
      refine wp_seq ?_
      refine AU mixed hn hG h [0, 1, 502, 501, 500, 2, 3] (ov [1] (Ag (p := (b1 0)) (n := 2) 0 6 Tryd.underlying46 rfl Tryd.sizeOf31 (by decide) q0 rfl) <| ov [500] (Ag (p := (b1 0)) (n := 1) 6 6 Tryd.underlying31 rfl Tryd.sizeOf28 (by decide) q0 rfl) <| ov [500, 3] (AA [one (Ab .u32 a_1.B4), one (Ab .u64 a_1.Ae.AO), one (Ab .u64 a_1.Ae.Bc), one (Ab .u64 a_1.Ae.Bq), one (Ah Ao.ck a_1.Ae.Ap), one (Ah An.ck a_1.Ae.AD)] [one (Ah Aq.ck a_1.As.Am), one (Ab .u32 a_1.Ad.Az), Af 32 a_1.Ad.Ar, one (Ab .u32 a_1.Ad.AI.AY), Bd 32 32 (dC 32) (AV 32) a_1.Ad.AI.AH, one (Ah (dC 32) a_1.Ad.AP), one (Ah (dC 32) a_1.Ad.AW), Af 32 a_1.Ad.Ai, one (Ah Ay.ck a_1.Ad.AQ), one (Ab .u64 a_1.Ad.Be), one (Ak a_1.Ad.Aw), one (Ab .u32 a_1.Aa.Az), one (Ab .u32 a_1.Aa.A9), Af 32 a_1.Aa.Ar, one (Ah (dC 32) a_1.Aa.AF), one (Ab .u64 a_1.Aa.AN), Af 32 a_1.Aa.Ai, one (Ah Ax.ck a_1.Aa.AT), one (Ah At.ck a_1.Aa.AB), one (Ak a_1.Aa.Aw), one (Ak a_1.Aa.Bn), one (AJ a_1.AZ)] 1 Tryd.isAgg28 q0 rfl rfl) <| ov [500] (Ba Tryd.underlying28 q0) <| ov [] (Aj qi) .nil) fun _ a w h => ?_
      refine wp_block ?_
      obtain ⟨cr67, hl68, hF⟩ := bind_some hF
      refine wp_mono (CV (R := BJ) (S := Int × BJ) (fun s a w => AX c [.slot 0 (A4 p_0), .slot 3 (BH (b1 0) 0), .slot 35 (Ah Av.ck a_1.As.Au), .slot 36 (Ab .i64 (a_1.As.Au.length : Int)), .slot 37 (Ab .i64 s.1), .res (BV p_0 (some s.2)), .res (lb (b1 0) 46 [one (Ab .u32 a_1.B4), one (Ab .u64 a_1.Ae.AO), one (Ab .u64 a_1.Ae.Bc), one (Ab .u64 a_1.Ae.Bq), one (Ah Ao.ck a_1.Ae.Ap), one (Ah An.ck a_1.Ae.AD), one (Ah Av.ck a_1.As.Au), one (Ah Aq.ck a_1.As.Am), one (Ab .u32 a_1.Ad.Az), Af 32 a_1.Ad.Ar, one (Ab .u32 a_1.Ad.AI.AY), Bd 32 32 (dC 32) (AV 32) a_1.Ad.AI.AH, one (Ah (dC 32) a_1.Ad.AP), one (Ah (dC 32) a_1.Ad.AW), Af 32 a_1.Ad.Ai, one (Ah Ay.ck a_1.Ad.AQ), one (Ab .u64 a_1.Ad.Be), one (Ak a_1.Ad.Aw), one (Ab .u32 a_1.Aa.Az), one (Ab .u32 a_1.Aa.A9), Af 32 a_1.Aa.Ar, one (Ah (dC 32) a_1.Aa.AF), one (Ab .u64 a_1.Aa.AN), Af 32 a_1.Aa.Ai, one (Ah Ax.ck a_1.Aa.AT), one (Ah At.ck a_1.Aa.AB), one (Ak a_1.Aa.Aw), one (Ak a_1.Aa.Bn), one (AJ a_1.AZ)])] a w) (fun res e a w => match res with | .next s => e = .exit 2 ∧ AX c [.slot 0 (A4 p_0), .slot 3 (BH (b1 0) 0), .res (BV p_0 (some s.2)), .res (lb (b1 0) 46 [one (Ab .u32 a_1.B4), one (Ab .u64 a_1.Ae.AO), one (Ab .u64 a_1.Ae.Bc), one (Ab .u64 a_1.Ae.Bq), one (Ah Ao.ck a_1.Ae.Ap), one (Ah An.ck a_1.Ae.AD), one (Ah Av.ck a_1.As.Au), one (Ah Aq.ck a_1.As.Am), one (Ab .u32 a_1.Ad.Az), Af 32 a_1.Ad.Ar, one (Ab .u32 a_1.Ad.AI.AY), Bd 32 32 (dC 32) (AV 32) a_1.Ad.AI.AH, one (Ah (dC 32) a_1.Ad.AP), one (Ah (dC 32) a_1.Ad.AW), Af 32 a_1.Ad.Ai, one (Ah Ay.ck a_1.Ad.AQ), one (Ab .u64 a_1.Ad.Be), one (Ak a_1.Ad.Aw), one (Ab .u32 a_1.Aa.Az), one (Ab .u32 a_1.Aa.A9), Af 32 a_1.Aa.Ar, one (Ah (dC 32) a_1.Aa.AF), one (Ab .u64 a_1.Aa.AN), Af 32 a_1.Aa.Ai, one (Ah Ax.ck a_1.Aa.AT), one (Ah At.ck a_1.Aa.AB), one (Ak a_1.Aa.Aw), one (Ak a_1.Aa.Bn), one (AJ a_1.AZ)])] a w | .ret r => e = .ret ∧ DW Tryd.prog Tryd.f20 c (Di []) (fun _ => [BV p_0 (some r)]) a w) ?_ _ (0, y32) _ _ _ (h.sub [0, 1, 2, 3, 4, 5, 6] (by rfl)) hl68) ?_
      · clear hl68 hF h
        intro s a w o h hF
        obtain ⟨x43, x44⟩ := s
        change AS.b2 a_1 x43 x44 = some o at hF
        unfold AS.b2 at hF
        change AX c [.slot 0 (A4 p_0), .slot 3 (BH (b1 0) 0), .slot 35 (Ah Av.ck a_1.As.Au), .slot 36 (Ab .i64 (a_1.As.Au.length : Int)), .slot 37 (Ab .i64 x43), .res (BV p_0 (some x44)), .res (lb (b1 0) 46 [one (Ab .u32 a_1.B4), one (Ab .u64 a_1.Ae.AO), one (Ab .u64 a_1.Ae.Bc), one (Ab .u64 a_1.Ae.Bq), one (Ah Ao.ck a_1.Ae.Ap), one (Ah An.ck a_1.Ae.AD), one (Ah Av.ck a_1.As.Au), one (Ah Aq.ck a_1.As.Am), one (Ab .u32 a_1.Ad.Az), Af 32 a_1.Ad.Ar, one (Ab .u32 a_1.Ad.AI.AY), Bd 32 32 (dC 32) (AV 32) a_1.Ad.AI.AH, one (Ah (dC 32) a_1.Ad.AP), one (Ah (dC 32) a_1.Ad.AW), Af 32 a_1.Ad.Ai, one (Ah Ay.ck a_1.Ad.AQ), one (Ab .u64 a_1.Ad.Be), one (Ak a_1.Ad.Aw), one (Ab .u32 a_1.Aa.Az), one (Ab .u32 a_1.Aa.A9), Af 32 a_1.Aa.Ar, one (Ah (dC 32) a_1.Aa.AF), one (Ab .u64 a_1.Aa.AN), Af 32 a_1.Aa.Ai, one (Ah Ax.ck a_1.Aa.AT), one (Ah At.ck a_1.Aa.AB), one (Ak a_1.Aa.Aw), one (Ak a_1.Aa.Bn), one (AJ a_1.AZ)])] a w at h
        refine AU mixed hn hG h [0, 1, 2, 3, 4, 500, 5, 6] (ov [4, 3] (AG Cg q0 q1) .nil) fun _ a w h => ?_
        refine wp_seq ?_
        refine Ea h hF 5 [0, 1, 2, 3, 4, 6, 7] [0, 1, 2, 3, 4, 6, 7] (fun hb57 hF h => ?_) (fun hb57 hF h => ?_)
        · refine wp_skip ?_
          show Code.wp Tryd.prog _ _ a w
          refine wp_seq ?_
          refine wp_block ?_
          obtain ⟨hv58, hF⟩ := A1 hF
          refine AU mixed hn hG h [0, 1, 502, 2, 3, 4, 5, 6, 500] (ov [2, 4] (B9 Tryd.underlying28 Tryd.sizeOf77 Av.lens q0 q1 hv58) <| ov [500] (Dd [one (Ab .u32 ((a_1.As.Au.getD x43.toNat default).Bw)), one (AJ ((a_1.As.Au.getD x43.toNat default).Bk)), one (Ab .u64 ((a_1.As.Au.getD x43.toNat default).DU)), one (Ab .u64 ((a_1.As.Au.getD x43.toNat default).Cc)), one (Ab .u64 ((a_1.As.Au.getD x43.toNat default).BI)), one (Ab .u64 ((a_1.As.Au.getD x43.toNat default).Cb)), one (Ab .u64 ((a_1.As.Au.getD x43.toNat default).Cd))] [] Tryd.isAgg77 Tryd.sizeOf77 q0 rfl) <| ob [] (CF Tryd.zeroValue77 MP) <| og [501, 502] [500] [.res 2 100000 (fun v1_ _ => (lb (v1_) 77 [one (Ab .u32 ((a_1.As.Au.getD x43.toNat default).Bw)), one (AJ ((a_1.As.Au.getD x43.toNat default).Bk)), one (Ab .u64 ((a_1.As.Au.getD x43.toNat default).DU)), one (Ab .u64 ((a_1.As.Au.getD x43.toNat default).Cc)), one (Ab .u64 ((a_1.As.Au.getD x43.toNat default).BI)), one (Ab .u64 ((a_1.As.Au.getD x43.toNat default).Cb)), one (Ab .u64 ((a_1.As.Au.getD x43.toNat default).Cd))]))] (Bh.plain (CM Tryd.sizeOf77 q0 q1 (BF _)) rfl) .nil) fun b59 a w h => ?_
          obtain ⟨r60, hr60, hF⟩ := bind_some hF
          refine AU mixed hn hG h [0, 1, 2, 501, 500, 3, 4, 5, 6, 7, 8] (ov [2, 8] (DL 1 Tryd.isAgg77 Tryd.sizeOf77 q0) <| oc [500] [] Tryd.call35 (Hg hr60) ⟨q0, trivial⟩ <| ov [500] (Aj q0) <| ov [500] (CE q0 rfl) <| ov [501] (CE q0 rfl) <| ov [501] (Al q0) <| ov [501] (Al q0) .nil) fun _ a w h => ?_
          obtain ⟨r61, hr61, hF⟩ := bind_some hF
          obtain ⟨r62, hr62, hF⟩ := bind_some hF
          obtain ⟨r63, hr63, hF⟩ := bind_some hF
          obtain ⟨r64, hr64, hF⟩ := bind_some hF
          obtain ⟨r65, hr65, hF⟩ := bind_some hF
          obtain ⟨r66, hr66, hF⟩ := bind_some hF
          refine Dm mixed hn hG h [0, 1, 5, 6, 7, 9, 500] (ov [0] (Aj q0) <| ov [2] (Ag (p := (b59 2)) (n := 1) 0 0 Tryd.underlying77 rfl Tryd.sizeOf22 (by decide) q0 rfl) <| ov [500, 10] (AA [] [one (AJ ((a_1.As.Au.getD x43.toNat default).Bk)), one (Ab .u64 ((a_1.As.Au.getD x43.toNat default).DU)), one (Ab .u64 ((a_1.As.Au.getD x43.toNat default).Cc)), one (Ab .u64 ((a_1.As.Au.getD x43.toNat default).BI)), one (Ab .u64 ((a_1.As.Au.getD x43.toNat default).Cb)), one (Ab .u64 ((a_1.As.Au.getD x43.toNat default).Cd))] 1 Tryd.isAgg22 q0 rfl rfl) <| oc [500] [] Tryd.call18 (Dt hr61) ⟨q0, trivial⟩ <| ov [2] (Ag (p := (b59 2)) (n := 1) 0 1 Tryd.underlying77 rfl Tryd.sizeOf9 (by decide) q0 rfl) <| ov [500, 10] (AA [one (Ab .u32 ((a_1.As.Au.getD x43.toNat default).Bw))] [one (Ab .u64 ((a_1.As.Au.getD x43.toNat default).DU)), one (Ab .u64 ((a_1.As.Au.getD x43.toNat default).Cc)), one (Ab .u64 ((a_1.As.Au.getD x43.toNat default).BI)), one (Ab .u64 ((a_1.As.Au.getD x43.toNat default).Cb)), one (Ab .u64 ((a_1.As.Au.getD x43.toNat default).Cd))] 1 Tryd.isAgg9 q0 rfl rfl) <| oc [500] [] Tryd.call29 (DB hr62) ⟨q0, trivial⟩ <| ov [2] (Ag (p := (b59 2)) (n := 1) 0 2 Tryd.underlying77 rfl Tryd.sizeOf23 (by decide) q0 rfl) <| ov [500, 10] (AA [one (Ab .u32 ((a_1.As.Au.getD x43.toNat default).Bw)), one (AJ ((a_1.As.Au.getD x43.toNat default).Bk))] [one (Ab .u64 ((a_1.As.Au.getD x43.toNat default).Cc)), one (Ab .u64 ((a_1.As.Au.getD x43.toNat default).BI)), one (Ab .u64 ((a_1.As.Au.getD x43.toNat default).Cb)), one (Ab .u64 ((a_1.As.Au.getD x43.toNat default).Cd))] 1 Tryd.isAgg23 q0 rfl rfl) <| oc [500] [] Tryd.call19 (BP hr63) ⟨q0, trivial⟩ <| ov [4] (Aj q0) <| oc [500] [] Tryd.call19 (BP hr64) ⟨q0, trivial⟩ <| ov [3] (Aj q0) <| oc [500] [] Tryd.call19 (BP hr65) ⟨q0, trivial⟩ <| ov [510, 507, 504, 502, 500] (EE (xs := [.const (.string ⟨#[116, 111, 107, 101, 110]⟩), .tmp 49, .tmp 52, .const (.string ⟨#[99, 97, 112]⟩), .tmp 55, .const (.string ⟨#[108, 111, 99, 107, 101, 100]⟩), .tmp 57, .const (.string ⟨#[109, 105, 110, 116, 101, 100]⟩), .tmp 59]) (ys := [[116, 111, 107, 101, 110], r61, r62, [99, 97, 112], r63, [108, 111, 99, 107, 101, 100], r64, [109, 105, 110, 116, 101, 100], r65]) _ rfl Tryd.underlying87 Tryd.sizeOf9 Tryd.zeroValue9 rfl rfl (by decide) (by decide) ⟨⟨_, (C4 (sc _ (by decide))), (A5 (Bm _))⟩, ⟨_, q0, (A5 (Bm _))⟩, ⟨_, q1, (A5 (Bm _))⟩, ⟨_, (C4 (sc _ (by decide))), (A5 (Bm _))⟩, ⟨_, q2, (A5 (Bm _))⟩, ⟨_, (C4 (sc _ (by decide))), (A5 (Bm _))⟩, ⟨_, q3, (A5 (Bm _))⟩, ⟨_, (C4 (sc _ (by decide))), (A5 (Bm _))⟩, ⟨_, (opt 4 rfl), (A5 (Bm _))⟩, trivial⟩ DM) <| oc [514, 500] [8] Tryd.call17 (B5 hr66) ⟨q0, q1, trivial⟩ .nil) fun _ a w h => ?_
          show Code.wp Tryd.prog _ _ a w
          refine Dm mixed hn hG h [0, 1, 2, 3, 500, 5, 6] (ov [4] (AG BQ q0 qi) <| od [500] 4 (Aj q0) .nil) fun _ a w h => ?_
          obtain rfl := Option.some.inj hF
          exact ⟨rfl, h.sub [0, 1, 2, 3, 4, 6, 5] (by rfl)⟩
        · refine wp_exit ?_
          obtain rfl := Option.some.inj hF
          exact ⟨Dp _, rfl, h.sub [0, 1, 5, 6] (by rfl)⟩
      · clear hl68
        intro e a w hq
        cases cr67 with
        | ret r69 =>
          obtain ⟨rfl, hq⟩ := hq
          obtain rfl := Option.some.inj hF
          exact ⟨.inl rfl, hq⟩
        | next s70 =>
          obtain ⟨y71, y72⟩ := s70
          obtain ⟨rfl, h⟩ := hq
          change AX c [.slot 0 (A4 p_0), .slot 3 (BH (b1 0) 0), .res (BV p_0 (some y72)), .res (lb (b1 0) 46 [one (Ab .u32 a_1.B4), one (Ab .u64 a_1.Ae.AO), one (Ab .u64 a_1.Ae.Bc), one (Ab .u64 a_1.Ae.Bq), one (Ah Ao.ck a_1.Ae.Ap), one (Ah An.ck a_1.Ae.AD), one (Ah Av.ck a_1.As.Au), one (Ah Aq.ck a_1.As.Am), one (Ab .u32 a_1.Ad.Az), Af 32 a_1.Ad.Ar, one (Ab .u32 a_1.Ad.AI.AY), Bd 32 32 (dC 32) (AV 32) a_1.Ad.AI.AH, one (Ah (dC 32) a_1.Ad.AP), one (Ah (dC 32) a_1.Ad.AW), Af 32 a_1.Ad.Ai, one (Ah Ay.ck a_1.Ad.AQ), one (Ab .u64 a_1.Ad.Be), one (Ak a_1.Ad.Aw), one (Ab .u32 a_1.Aa.Az), one (Ab .u32 a_1.Aa.A9), Af 32 a_1.Aa.Ar, one (Ah (dC 32) a_1.Aa.AF), one (Ab .u64 a_1.Aa.AN), Af 32 a_1.Aa.Ai, one (Ah Ax.ck a_1.Aa.AT), one (Ah At.ck a_1.Aa.AB), one (Ak a_1.Aa.Aw), one (Ak a_1.Aa.Bn), one (AJ a_1.AZ)])] a w at h
          refine Cf ?_
          show Code.wp Tryd.prog _ _ a w
          refine AU mixed hn hG h [0, 502, 501, 500, 2] (ov [1] (Ag (p := (b1 0)) (n := 2) 0 6 Tryd.underlying46 rfl Tryd.sizeOf31 (by decide) q0 rfl) <| ov [500] (Ag (p := (b1 0)) (n := 1) 6 7 Tryd.underlying31 rfl Tryd.sizeOf29 (by decide) q0 rfl) <| ov [500, 3] (AA [one (Ab .u32 a_1.B4), one (Ab .u64 a_1.Ae.AO), one (Ab .u64 a_1.Ae.Bc), one (Ab .u64 a_1.Ae.Bq), one (Ah Ao.ck a_1.Ae.Ap), one (Ah An.ck a_1.Ae.AD), one (Ah Av.ck a_1.As.Au)] [one (Ab .u32 a_1.Ad.Az), Af 32 a_1.Ad.Ar, one (Ab .u32 a_1.Ad.AI.AY), Bd 32 32 (dC 32) (AV 32) a_1.Ad.AI.AH, one (Ah (dC 32) a_1.Ad.AP), one (Ah (dC 32) a_1.Ad.AW), Af 32 a_1.Ad.Ai, one (Ah Ay.ck a_1.Ad.AQ), one (Ab .u64 a_1.Ad.Be), one (Ak a_1.Ad.Aw), one (Ab .u32 a_1.Aa.Az), one (Ab .u32 a_1.Aa.A9), Af 32 a_1.Aa.Ar, one (Ah (dC 32) a_1.Aa.AF), one (Ab .u64 a_1.Aa.AN), Af 32 a_1.Aa.Ai, one (Ah Ax.ck a_1.Aa.AT), one (Ah At.ck a_1.Aa.AB), one (Ak a_1.Aa.Aw), one (Ak a_1.Aa.Bn), one (AJ a_1.AZ)] 1 Tryd.isAgg29 q0 rfl rfl) <| ov [500] (Ba Tryd.underlying29 q0) <| ov [] (Aj qi) .nil) fun _ a w h => ?_
          refine wp_block ?_
          obtain ⟨cr101, hl102, hF⟩ := bind_some hF
          refine wp_mono (CV (R := BJ) (S := Int × BJ) (fun s a w => AX c [.slot 0 (A4 p_0), .slot 65 (Ah Aq.ck a_1.As.Am), .slot 66 (Ab .i64 (a_1.As.Am.length : Int)), .slot 67 (Ab .i64 s.1), .res (BV p_0 (some s.2))] a w) (fun res e a w => match res with | .next s => e = .exit 4 ∧ AX c [.res (BV p_0 (some s.2))] a w | .ret r => e = .ret ∧ DW Tryd.prog Tryd.f20 c (Di []) (fun _ => [BV p_0 (some r)]) a w) ?_ _ (0, y72) _ _ _ (h.sub [0, 1, 2, 3, 4] (by rfl)) hl102) ?_
          · clear hl102 hF h
            intro s a w o h hF
            obtain ⟨x81, x82⟩ := s
            change AS.b3 a_1 x81 x82 = some o at hF
            unfold AS.b3 at hF
            change AX c [.slot 0 (A4 p_0), .slot 65 (Ah Aq.ck a_1.As.Am), .slot 66 (Ab .i64 (a_1.As.Am.length : Int)), .slot 67 (Ab .i64 x81), .res (BV p_0 (some x82))] a w at h
            refine AU mixed hn hG h [0, 1, 2, 3, 500, 4] (ov [3, 2] (AG Cg q0 q1) .nil) fun _ a w h => ?_
            refine wp_seq ?_
            refine Ea h hF 4 [0, 1, 2, 3, 5] [0, 1, 2, 3, 5] (fun hb93 hF h => ?_) (fun hb93 hF h => ?_)
            · refine wp_skip ?_
              show Code.wp Tryd.prog _ _ a w
              refine wp_seq ?_
              refine wp_block ?_
              obtain ⟨hv94, hF⟩ := A1 hF
              refine AU mixed hn hG h [0, 502, 1, 2, 3, 4, 500] (ov [1, 3] (B9 Tryd.underlying29 Tryd.sizeOf81 Aq.lens q0 q1 hv94) <| ov [500] (Dd [one (Ab .u32 ((a_1.As.Am.getD x81.toNat default).Bw)), one (AJ ((a_1.As.Am.getD x81.toNat default).CB)), one (AJ ((a_1.As.Am.getD x81.toNat default).CC)), one (Ab .u64 ((a_1.As.Am.getD x81.toNat default).CG))] [] Tryd.isAgg81 Tryd.sizeOf81 q0 rfl) <| ob [] (CF Tryd.zeroValue81 MO) <| og [501, 502] [500] [.res 2 100000 (fun v1_ _ => (lb (v1_) 81 [one (Ab .u32 ((a_1.As.Am.getD x81.toNat default).Bw)), one (AJ ((a_1.As.Am.getD x81.toNat default).CB)), one (AJ ((a_1.As.Am.getD x81.toNat default).CC)), one (Ab .u64 ((a_1.As.Am.getD x81.toNat default).CG))]))] (Bh.plain (CM Tryd.sizeOf81 q0 q1 (BF _)) rfl) .nil) fun b95 a w h => ?_
              obtain ⟨r96, hr96, hF⟩ := bind_some hF
              obtain ⟨r97, hr97, hF⟩ := bind_some hF
              obtain ⟨r98, hr98, hF⟩ := bind_some hF
              obtain ⟨r99, hr99, hF⟩ := bind_some hF
              obtain ⟨r100, hr100, hF⟩ := bind_some hF
              refine Dm mixed hn hG h [0, 2, 3, 4, 500] (ov [0] (Aj q0) <| ov [1] (Ag (p := (b95 2)) (n := 1) 0 2 Tryd.underlying81 rfl Tryd.sizeOf9 (by decide) q0 rfl) <| ov [500, 6] (AA [one (Ab .u32 ((a_1.As.Am.getD x81.toNat default).Bw)), one (AJ ((a_1.As.Am.getD x81.toNat default).CB))] [one (Ab .u64 ((a_1.As.Am.getD x81.toNat default).CG))] 1 Tryd.isAgg9 q0 rfl rfl) <| oc [500] [] Tryd.call29 (DB hr96) ⟨q0, trivial⟩ <| ov [1] (Ag (p := (b95 2)) (n := 1) 0 0 Tryd.underlying81 rfl Tryd.sizeOf22 (by decide) q0 rfl) <| ov [500, 6] (AA [] [one (AJ ((a_1.As.Am.getD x81.toNat default).CB)), one (AJ ((a_1.As.Am.getD x81.toNat default).CC)), one (Ab .u64 ((a_1.As.Am.getD x81.toNat default).CG))] 1 Tryd.isAgg22 q0 rfl rfl) <| oc [500] [] Tryd.call18 (Dt hr97) ⟨q0, trivial⟩ <| ov [1] (Ag (p := (b95 2)) (n := 1) 0 1 Tryd.underlying81 rfl Tryd.sizeOf9 (by decide) q0 rfl) <| ov [500, 6] (AA [one (Ab .u32 ((a_1.As.Am.getD x81.toNat default).Bw))] [one (AJ ((a_1.As.Am.getD x81.toNat default).CC)), one (Ab .u64 ((a_1.As.Am.getD x81.toNat default).CG))] 1 Tryd.isAgg9 q0 rfl rfl) <| oc [500] [] Tryd.call29 (DB hr98) ⟨q0, trivial⟩ <| ov [1] (Ag (p := (b95 2)) (n := 1) 0 3 Tryd.underlying81 rfl Tryd.sizeOf23 (by decide) q0 rfl) <| ov [500, 6] (AA [one (Ab .u32 ((a_1.As.Am.getD x81.toNat default).Bw)), one (AJ ((a_1.As.Am.getD x81.toNat default).CB)), one (AJ ((a_1.As.Am.getD x81.toNat default).CC))] [] 1 Tryd.isAgg23 q0 rfl rfl) <| oc [500] [] Tryd.call19 (BP hr99) ⟨q0, trivial⟩ <| ov [509, 506, 503, 500] (EE (xs := [.const (.string ⟨#[104, 111, 108, 100, 115]⟩), .tmp 74, .tmp 77, .tmp 80, .tmp 83]) (ys := [[104, 111, 108, 100, 115], r96, r97, r98, r99]) _ rfl Tryd.underlying87 Tryd.sizeOf9 Tryd.zeroValue9 rfl rfl (by decide) (by decide) ⟨⟨_, (C4 (sc _ (by decide))), (A5 (Bm _))⟩, ⟨_, q0, (A5 (Bm _))⟩, ⟨_, q1, (A5 (Bm _))⟩, ⟨_, q2, (A5 (Bm _))⟩, ⟨_, q3, (A5 (Bm _))⟩, trivial⟩ DM) <| oc [513, 500] [5] Tryd.call17 (B5 hr100) ⟨q0, q1, trivial⟩ .nil) fun _ a w h => ?_
              show Code.wp Tryd.prog _ _ a w
              refine Dm mixed hn hG h [0, 1, 2, 500, 4] (ov [3] (AG BQ q0 qi) <| od [500] 3 (Aj q0) .nil) fun _ a w h => ?_
              obtain rfl := Option.some.inj hF
              exact ⟨rfl, h.sub [0, 1, 2, 3, 4] (by rfl)⟩
            · refine wp_exit ?_
              obtain rfl := Option.some.inj hF
              exact ⟨Dp _, rfl, h.sub [4] (by rfl)⟩
          · clear hl102
            intro e a w hq
            cases cr101 with
            | ret r103 =>
              obtain ⟨rfl, hq⟩ := hq
              obtain rfl := Option.some.inj hF
              exact ⟨.inl rfl, hq⟩
            | next s104 =>
              obtain ⟨y105, y106⟩ := s104
              obtain ⟨rfl, h⟩ := hq
              change AX c [.res (BV p_0 (some y106))] a w at h
              refine Cf ?_
              obtain rfl := Option.some.inj hF
              exact ⟨.inr rfl, GR h (rs := []) (Vs := []) Tryd.results20 (by decide) trivial [0] [(BV p_0 (some y106))] rfl rfl rfl⟩

def Bp.j2 (a_0 : Int) (x6 : Int) : Option (List UInt8) := ((Cz x6).bind fun r7 => (if (0 : Int) ≤ 1 ∧ (1 : Int) ≤ IntKind.wrap .i64 (1 + r7) ∧ IntKind.wrap .i64 (1 + r7) ≤ 24 ∧ (1 : Int) < 24 then (if (0 : Int) ≤ x6 ∧ (1 : Int).toNat ≤ (IntKind.wrap .i64 (1 + r7) : Int).toNat ∧ (IntKind.wrap .i64 (1 + r7) : Int).toNat ≤ (List.replicate 24 0).length ∧ Lib.nDigits x6.toNat = (IntKind.wrap .i64 (1 + r7) : Int).toNat - (1 : Int).toNat ∧ x6 < 18446744073709551616 ∧ (List.replicate 24 0).length < 1000 then (if (decide (a_0 < (0 : Int))) = true then (if (0 : Int) ≤ 0 ∧ (0 : Int) ≤ IntKind.wrap .i64 (1 + r7) ∧ IntKind.wrap .i64 (1 + r7) ≤ 24 ∧ (0 : Int) < 24 then (if (IntKind.wrap .i64 (1 + r7) : Int).toNat - (0 : Int).toNat ≤ 24 then some (((GK (List.replicate 24 0) ((1 : Int).toNat) ((IntKind.wrap .i64 (1 + r7) : Int).toNat) x6).set (0 : Int).toNat (Dz 45)).take ((IntKind.wrap .i64 (1 + r7) : Int).toNat - (0 : Int).toNat)) else none) else none) else (if (0 : Int) ≤ 1 ∧ (1 : Int) ≤ IntKind.wrap .i64 (1 + r7) ∧ (IntKind.wrap .i64 (1 + r7) : Int) ≤ 24 ∧ 24 ≤ Cp then some (((GK (List.replicate 24 0) ((1 : Int).toNat) ((IntKind.wrap .i64 (1 + r7) : Int).toNat) x6).take (IntKind.wrap .i64 (1 + r7) : Int).toNat).drop (1 : Int).toNat) else none)) else none) else none))
def Bp.j1 (a_0 : Int) (x2 : Bool) : Option (List UInt8) := (if x2 = true then ((C1 a_0).bind fun r4 => some r4) else (if (decide (a_0 < (0 : Int))) = true then Bp.j2 a_0 (IntKind.wrap .u64 (0 - (IntKind.wrap .u64 a_0))) else Bp.j2 a_0 (IntKind.wrap .u64 a_0)))
def Bp (a_0 : Int) (a_1 : Int) : Option (List UInt8) := (if (decide (a_1 = (10 : Int))) = true then (if (decide ((0 : Int) ≤ a_0)) = true then Bp.j1 a_0 (decide (a_0 < (100 : Int))) else Bp.j1 a_0 false) else ((AE [] (IntKind.wrap .u64 a_0) a_1 (decide (a_0 < (0 : Int))) false).bind fun r16 => some r16.2))
theorem EV {a_0 : Int} {a_1 : Int} {r : (List UInt8)} (hF : Bp a_0 a_1 = some r) : AR Tryd.prog KG 74 [(Ab .i64 a_0), (Ab .i64 a_1)] [] (fun _ => []) (AJ r) := by
  refine AR.intro 54 Tryd.func74 rfl Tryd.ntmps74 (Nat.le_of_ble_eq_true rfl) ?_
  intro c a w hG hn h
  unfold Bp at hF
  change AX c [.slot 0 (Ab .i64 a_0), .slot 1 (Ab .i64 a_1)] a w at h
  refine AU mixed hn hG h [0, 1] (ov [] (Al (C4 (sc _ (by decide)))) .nil) fun _ a w h => ?_
  refine wp_seq ?_
  refine AU mixed hn hG h [0, 1, 500] (ov [1] (Aj q0) <| ov [500] (AG C0 q0 qi) .nil) fun _ a w h => ?_
  refine Ea h hF 2 [0] [0, 1] (fun hb1 hF h => ?_) (fun hb1 hF h => ?_)
  · refine wp_seq ?_
    refine wp_seq ?_
    refine CD (fun a w => ∃ (x2 : Bool), Bp.j1 a_0 x2 = some r ∧ AX c [.slot 0 (Ab .i64 a_0), .slot 17 (Ak x2)] a w) ?_ ?_
    · rcases Bool.eq_false_or_eq_true (decide ((0 : Int) ≤ a_0)) with hb15 | hb15
      · replace hF := Dj hb15 hF
        refine Dm mixed hn hG h [0, 500] (ov [0] (Aj q0) <| ov [500] (AG Cu qi q0) <| ov [500] (Aj q0) <| oe [500, 0] [] (Bh.A2 hb15 rfl rfl rfl (Aj q0)) <| oe [501, 500] [] (Bh.A2 hb15 rfl rfl rfl (AG Cg q0 qi)) <| ov [502, 500] (Br hb15 q0 q1) .nil) fun _ a w h => ?_
        exact ⟨decide (a_0 < (100 : Int)), hF, h.sub [0, 1] (by rfl)⟩
      · replace hF := Dn hb15 hF
        refine Dm mixed hn hG h [0, 500] (ov [0] (Aj q0) <| ov [500] (AG Cu qi q0) <| ov [500] (Aj q0) <| oe [500] [] (Bh.Bb (want := true) hb15 rfl rfl rfl rfl) <| oe [501] [] (Bh.Bb (want := true) hb15 rfl rfl rfl rfl) <| ov [502] (Bs hb15 q0 qb) .nil) fun _ a w h => ?_
        exact ⟨false, hF, h.sub [0, 1] (by rfl)⟩
    · clear h hF
      rintro a w ⟨x2, hF, h⟩
      unfold Bp.j1 at hF
      show Code.wp Tryd.prog _ _ a w
      refine Ea h hF 1 [0] [0] (fun hb3 hF h => ?_) (fun hb3 hF h => ?_)
      · obtain ⟨r4, hr4, hF⟩ := bind_some hF
        refine AU mixed hn hG h [500] (ov [0] (Aj q0) <| oc [500] [] Tryd.call63 (Eu hr4) ⟨q0, trivial⟩ <| ov [500] (Al q0) .nil) fun _ a w h => ?_
        refine wp_ret ?_
        obtain rfl := Option.some.inj hF
        exact ⟨.inl rfl, Ci h Tryd.results74 (By 0 rfl) [] [] rfl rfl rfl⟩
      · refine wp_skip ?_
        show Code.wp Tryd.prog _ _ a w
        refine AU mixed hn hG h [0, 501, 500] (ob [] (CF Tryd.zeroValue147 LA) .nil) fun b5 a w h => ?_
        refine AU mixed hn hG h [0, 1, 500, 2] (ov [0] (Aj q0) <| ov [500] (Bz Tryd.underlying2 Tryd.underlying23 q0) <| ov [500] (Al q0) .nil) fun _ a w h => ?_
        refine wp_seq ?_
        refine AU mixed hn hG h [0, 1, 2, 500, 3] (ov [0] (Aj q0) <| ov [500] (AG Cg q0 qi) .nil) fun _ a w h => ?_
        refine CD (fun a w => ∃ (x6 : Int), Bp.j2 a_0 x6 = some r ∧ AX c [.slot 0 (Ab .i64 a_0), .slot 5 (BH (b5 0) 0), .slot 6 (Ab .u64 x6), .res (lb (b5 0) 147 [Af 24 (List.replicate 24 0)])] a w) ?_ ?_
        · refine Ea h hF 3 [0, 1, 2, 4] [0, 1, 2, 4] (fun hb14 hF h => ?_) (fun hb14 hF h => ?_)
          · refine Dm mixed hn hG h [0, 1, 500, 3] (ov [2] (Aj q0) <| ov [500] (HI (H7 _ _) q0) <| od [500] 2 (Al q0) .nil) fun _ a w h => ?_
            exact ⟨IntKind.wrap .u64 (0 - (IntKind.wrap .u64 a_0)), hF, h.sub [0, 1, 2, 3] (by rfl)⟩
          · refine wp_skip ?_
            exact ⟨IntKind.wrap .u64 a_0, hF, h.sub [0, 1, 2, 3] (by rfl)⟩
        · clear h hF
          rintro a w ⟨x6, hF, h⟩
          unfold Bp.j2 at hF
          show Code.wp Tryd.prog _ _ a w
          obtain ⟨r7, hr7, hF⟩ := bind_some hF
          refine AU mixed hn hG h [0, 1, 2, 500, 3] (ov [2] (Aj q0) <| oc [500] [] Tryd.call64 (D4 hr7) ⟨q0, trivial⟩ <| ov [500] (Al q0) .nil) fun _ a w h => ?_
          obtain ⟨hv8, hF⟩ := A1 hF
          obtain ⟨hv9, hF⟩ := A1 hF
          refine AU mixed hn hG h [0, 1, 3, 500] (ov [3] (Aj q0) <| ov [500] (AG BQ qi q0) <| ov [1, 500] (Ep (a := 1) (b := IntKind.wrap .i64 (1 + r7)) Tryd.underlying147 Tryd.sizeOf5 q0 ⟨_, qi⟩ ⟨_, q1⟩ hv8) <| ov [2] (Aj q0) <| oc [501, 500] [4] Tryd.call65 (IP (a := (1 : Int).toNat) (b := (IntKind.wrap .i64 (1 + r7) : Int).toNat) hv9 (by omega) (by omega)) ⟨q0, q1, trivial⟩ .nil) fun _ a w h => ?_
          refine wp_seq ?_
          refine AU mixed hn hG h [1, 2, 500, 3] (ov [0] (Aj q0) <| ov [500] (AG Cg q0 qi) .nil) fun _ a w h => ?_
          refine Ea h hF 2 [0, 1, 3] [0, 1, 3] (fun hb10 hF h => ?_) (fun hb10 hF h => ?_)
          · refine AU mixed hn hG h [0, 1, 500] (ov [0] (CS Tryd.underlying147 Tryd.sizeOf5 q0 qi (by decide)) <| ou [500] 2 (Du (i := 0) [] [] Tryd.sizeOf5 q0 qi rfl (by decide)) .nil) fun _ a w h => ?_
            obtain ⟨hv11, hF⟩ := A1 hF
            obtain ⟨hv12, hF⟩ := A1 hF
            refine AU mixed hn hG h [500] (ov [1] (Aj q0) <| ov [500] (AG BQ qi q0) <| ov [0, 500] (Ep (a := 0) (b := IntKind.wrap .i64 (1 + r7)) Tryd.underlying147 Tryd.sizeOf5 q0 rfl ⟨_, q1⟩ hv11) <| ov [500, 2] (GC [] [] 1 Tryd.underlying62 Tryd.underlying5 Tryd.underlying9 q0 rfl rfl hv12 (by decide)) <| ov [500] (Al q0) .nil) fun _ a w h => ?_
            refine wp_ret ?_
            obtain rfl := Option.some.inj hF
            exact ⟨.inl rfl, Ci h Tryd.results74 (By 0 rfl) [] [] rfl rfl rfl⟩
          · refine wp_skip ?_
            show Code.wp Tryd.prog _ _ a w
            replace h := h.IC 2 rfl
            replace h := h.HV 0 2 rfl rfl
            replace h := h.sub [0, 1] (by rfl)
            change AX c [.slot 5 (Eb [Af 24 (GK (List.replicate 24 0) ((1 : Int).toNat) ((IntKind.wrap .i64 (1 + r7) : Int).toNat) x6)]), .slot 7 (Ab .i64 r7)] a w at h
            obtain ⟨hv13, hF⟩ := A1 hF
            refine AU mixed hn hG h [500] (ov [1] (Aj q0) <| ov [500] (AG BQ qi q0) <| ov [0, 500] (FC (a := 1) (b := IntKind.wrap .i64 (1 + r7)) Tryd.underlying147 Tryd.sizeOf5 q0 ⟨_, qi⟩ ⟨_, q1⟩ hv13) <| ov [500] (E0 Tryd.underlying62 Tryd.underlying5 Tryd.underlying9 q0) <| ov [500] (Al q0) .nil) fun _ a w h => ?_
            refine wp_ret ?_
            obtain rfl := Option.some.inj hF
            exact ⟨.inl rfl, Ci h Tryd.results74 (By 0 rfl) [] [] rfl rfl rfl⟩
  · refine wp_skip ?_
    show Code.wp Tryd.prog _ _ a w
    obtain ⟨r16, hr16, hF⟩ := bind_some hF
    refine AU mixed hn hG h [500] (ov [0] (Aj q0) <| ov [500] (Bz Tryd.underlying2 Tryd.underlying23 q0) <| ov [1] (Aj q0) <| ov [0] (Aj q0) <| ov [500] (AG Cg q0 qi) <| oc [503, 502, 500] [] Tryd.call66 (DV hr16) ⟨II, q0, q1, q2, qb, trivial⟩ <| ov [500] (Aj q0) <| ov [500] (CE q0 rfl) <| ov [501] (CE q0 rfl) <| ov [501] (Al q0) <| ov [501] (Al q0) .nil) fun _ a w h => ?_
    refine AU mixed hn hG h [500] (ov [0] (Aj q0) <| ov [500] (Al q0) .nil) fun _ a w h => ?_
    refine wp_ret ?_
    obtain rfl := Option.some.inj hF
    exact ⟨.inl rfl, Ci h Tryd.results74 (By 0 rfl) [] [] rfl rfl rfl⟩

def strconv_Itoa (a_0 : Int) : Option (List UInt8) := ((Bp a_0 10).bind fun r1 => some r1)
theorem Ge {a_0 : Int} {r : (List UInt8)} (hF : strconv_Itoa a_0 = some r) : AR Tryd.prog KG 61 [(Ab .i64 a_0)] [] (fun _ => []) (AJ r) := by
  refine AR.intro 5 Tryd.func61 rfl Tryd.ntmps61 (Nat.le_of_ble_eq_true rfl) ?_
  intro c a w hG hn h
  unfold strconv_Itoa at hF
  change AX c [.slot 0 (Ab .i64 a_0)] a w at h
  refine AU mixed hn hG h [0] (ov [] (Al (C4 (sc _ (by decide)))) .nil) fun _ a w h => ?_
  obtain ⟨r1, hr1, hF⟩ := bind_some hF
  refine AU mixed hn hG h [500] (ov [0] (Aj q0) <| oc [500] [] Tryd.call74 (EV hr1) ⟨q0, qi, trivial⟩ <| ov [500] (Al q0) .nil) fun _ a w h => ?_
  refine wp_ret ?_
  obtain rfl := Option.some.inj hF
  exact ⟨.inl rfl, Ci h Tryd.results61 (By 0 rfl) [] [] rfl rfl rfl⟩

def DF (a_0 : Int) : Option (List UInt8) := ((strconv_Itoa a_0).bind fun r1 => some r1)
theorem Fj {a_0 : Int} {r : (List UInt8)} (hF : DF a_0 = some r) : AR Tryd.prog KG 50 [(Ab .i64 a_0)] [] (fun _ => []) (AJ r) := by
  refine AR.intro 5 Tryd.func50 rfl Tryd.ntmps50 (Nat.le_of_ble_eq_true rfl) ?_
  intro c a w hG hn h
  unfold DF at hF
  change AX c [.slot 0 (Ab .i64 a_0)] a w at h
  refine AU mixed hn hG h [0] (ov [] (Al (C4 (sc _ (by decide)))) .nil) fun _ a w h => ?_
  obtain ⟨r1, hr1, hF⟩ := bind_some hF
  refine AU mixed hn hG h [500] (ov [0] (Aj q0) <| oc [500] [] Tryd.call61 (Ge hr1) ⟨q0, trivial⟩ <| ov [500] (Al q0) .nil) fun _ a w h => ?_
  refine wp_ret ?_
  obtain rfl := Option.some.inj hF
  exact ⟨.inl rfl, Ci h Tryd.results50 (By 0 rfl) [] [] rfl rfl rfl⟩

def CY (a_0 : Int) : Option (List UInt8) := ((DF a_0).bind fun r1 => some r1)
theorem Dg {a_0 : Int} {r : (List UInt8)} (hF : CY a_0 = some r) : AR Tryd.prog KG 32 [(Ab .i64 a_0)] [] (fun _ => []) (AJ r) := by
  refine AR.intro 5 Tryd.func32 rfl Tryd.ntmps32 (Nat.le_of_ble_eq_true rfl) ?_
  intro c a w hG hn h
  unfold CY at hF
  change AX c [.slot 0 (Ab .i64 a_0)] a w at h
  refine AU mixed hn hG h [0] (ov [] (Al (C4 (sc _ (by decide)))) .nil) fun _ a w h => ?_
  obtain ⟨r1, hr1, hF⟩ := bind_some hF
  refine AU mixed hn hG h [500] (ov [0] (Aj q0) <| oc [500] [] Tryd.call50 (Fj hr1) ⟨q0, trivial⟩ <| ov [500] (Al q0) .nil) fun _ a w h => ?_
  refine wp_ret ?_
  obtain rfl := Option.some.inj hF
  exact ⟨.inl rfl, Ci h Tryd.results32 (By 0 rfl) [] [] rfl rfl rfl⟩

def CX.b1 (a_0 : List UInt8) (x13 : Int) (x14 : Co) : Option (D2 (List UInt8) (Int × Co)) := (if (decide (x13 < (32 : Int))) = true then (if (0 : Int) ≤ x13 ∧ x13 < 32 then (if (0 : Int) ≤ shr .u8 ((a_0.getD x13.toNat 0).toNat) 4 ∧ shr .u8 ((a_0.getD x13.toNat 0).toNat) 4 < ([48, 49, 50, 51, 52, 53, 54, 55, 56, 57, 97, 98, 99, 100, 101, 102] : List UInt8).length then ((Bt x14 ((([48, 49, 50, 51, 52, 53, 54, 55, 56, 57, 97, 98, 99, 100, 101, 102] : List UInt8).getD (shr .u8 ((a_0.getD x13.toNat 0).toNat) 4).toNat 0).toNat : Int)).bind fun r26 => (if (0 : Int) ≤ bits .and .u8 ((a_0.getD x13.toNat 0).toNat) 15 ∧ bits .and .u8 ((a_0.getD x13.toNat 0).toNat) 15 < ([48, 49, 50, 51, 52, 53, 54, 55, 56, 57, 97, 98, 99, 100, 101, 102] : List UInt8).length then ((Bt r26.2 ((([48, 49, 50, 51, 52, 53, 54, 55, 56, 57, 97, 98, 99, 100, 101, 102] : List UInt8).getD (bits .and .u8 ((a_0.getD x13.toNat 0).toNat) 15).toNat 0).toNat : Int)).bind fun r28 => some (.cont (IntKind.wrap .i64 (x13 + 1), r28.2))) else none)) else none) else none) else some (.brk (x13, x14)))
def CX (a_0 : List UInt8) : Option (List UInt8) := ((Cr (fun s : Int × Co => CX.b1 a_0 s.1 s.2) ((32 - 0 : Int).toNat + 2) (0, ⟨[]⟩)).bind fun cr => match cr with | .ret r => some r | .next (y33, y34) => ((BZ y34).bind fun r35 => some r35))
theorem HF {a_0 : List UInt8} {r : (List UInt8)} (hF : CX a_0 = some r) : AR Tryd.prog KG 54 [(Cs [Af 32 a_0])] [] (fun _ => []) (AJ r) := by
  refine AR.intro 20 Tryd.func54 rfl Tryd.ntmps54 (Nat.le_of_ble_eq_true rfl) ?_
  intro c a w hG hn h
  unfold CX at hF
  change AX c [.slot 0 (Cs [Af 32 a_0])] a w at h
  refine AU mixed hn hG h [502, 501] (ob [0] (DR q0 (BF _)) <| ov [] (Al (C4 (sc _ (by decide)))) .nil) fun b1 a w h => ?_
  refine AU mixed hn hG h [0, 501, 1, 500] (ob [] (CF Tryd.zeroValue64 Lz) .nil) fun b2 a w h => ?_
  refine wp_seq ?_
  refine AU mixed hn hG h [1, 501, 500, 3] (ov [0, 2] (DL 1 Tryd.isAgg33 Tryd.sizeOf33 q0) <| ov [] (Aj qi) .nil) fun _ a w h => ?_
  refine wp_block ?_
  replace h := h.conv 3 rfl IV
  replace h := h.Fz 0 rfl (fun _ _ h => Il h)
  replace h := h.sub [0, 1, 2, 3] (by rfl)
  change AX c [.slot 3 (A4 (b2 0)), .slot 6 (Cs [Af 32 a_0]), .slot 7 (Ab .i64 0), .res (Ct (b2 0) (some ⟨[]⟩))] a w at h
  obtain ⟨cr29, hl30, hF⟩ := bind_some hF
  refine wp_mono (CV (R := (List UInt8)) (S := Int × Co) (fun s a w => AX c [.slot 3 (A4 (b2 0)), .slot 6 (Cs [Af 32 a_0]), .slot 7 (Ab .i64 s.1), .res (Ct (b2 0) (some s.2))] a w) (fun res e a w => match res with | .next s => e = .exit 0 ∧ AX c [.slot 3 (A4 (b2 0)), .res (Ct (b2 0) (some s.2))] a w | .ret r => e = .ret ∧ DW Tryd.prog Tryd.f54 c (AJ r) (fun _ => []) a w) ?_ _ (0, ⟨[]⟩) _ _ _ (h.sub [0, 1, 2, 3] (by rfl)) hl30) ?_
  · clear hl30 hF h
    intro s a w o h hF
    obtain ⟨x13, x14⟩ := s
    change CX.b1 a_0 x13 x14 = some o at hF
    unfold CX.b1 at hF
    change AX c [.slot 3 (A4 (b2 0)), .slot 6 (Cs [Af 32 a_0]), .slot 7 (Ab .i64 x13), .res (Ct (b2 0) (some x14))] a w at h
    refine AU mixed hn hG h [0, 1, 2, 500, 3] (ov [2] (AG Cg q0 qi) .nil) fun _ a w h => ?_
    refine wp_seq ?_
    refine Ea h hF 3 [0, 1, 2, 4] [0, 1, 2, 4] (fun hb23 hF h => ?_) (fun hb23 hF h => ?_)
    · refine wp_skip ?_
      show Code.wp Tryd.prog _ _ a w
      refine wp_seq ?_
      refine wp_block ?_
      obtain ⟨hv24, hF⟩ := A1 hF
      refine AU mixed hn hG h [0, 500, 1, 2, 3] (ov [1, 2] (GS Tryd.underlying33 Tryd.sizeOf5 Tryd.isAgg5 q0 q1 hv24) <| ov [500] (Al q0) .nil) fun _ a w h => ?_
      obtain ⟨hv25, hF⟩ := A1 hF
      obtain ⟨r26, hr26, hF⟩ := bind_some hF
      refine AU mixed hn hG h [0, 1, 2, 3, 500] (ov [1] (Aj q0) <| ov [500] (AG (El rfl) q0 qi) <| ov [500] (BM Tryd.underlying9 (C4 (sc _ (by decide))) q0 hv25) <| oc [0, 500] [4] Tryd.call43 (BO hr26) ⟨q0, q1, trivial⟩ .nil) fun _ a w h => ?_
      obtain ⟨hv27, hF⟩ := A1 hF
      obtain ⟨r28, hr28, hF⟩ := bind_some hF
      refine Dm mixed hn hG h [0, 2, 3, 500] (ov [1] (Aj q0) <| ov [500] (AG Gq q0 qi) <| ov [500] (BM Tryd.underlying9 (C4 (sc _ (by decide))) q0 hv27) <| oc [0, 500] [4] Tryd.call43 (BO hr28) ⟨q0, q1, trivial⟩ .nil) fun _ a w h => ?_
      show Code.wp Tryd.prog _ _ a w
      refine Dm mixed hn hG h [0, 1, 500, 3] (ov [2] (AG BQ q0 qi) <| od [500] 2 (Aj q0) .nil) fun _ a w h => ?_
      obtain rfl := Option.some.inj hF
      exact ⟨rfl, h.sub [0, 1, 2, 3] (by rfl)⟩
    · refine wp_exit ?_
      obtain rfl := Option.some.inj hF
      exact ⟨Dp _, rfl, h.sub [0, 3] (by rfl)⟩
  · clear hl30
    intro e a w hq
    cases cr29 with
    | ret r31 =>
      obtain ⟨rfl, hq⟩ := hq
      obtain rfl := Option.some.inj hF
      exact ⟨.inl rfl, hq⟩
    | next s32 =>
      obtain ⟨y33, y34⟩ := s32
      obtain ⟨rfl, h⟩ := hq
      change AX c [.slot 3 (A4 (b2 0)), .res (Ct (b2 0) (some y34))] a w at h
      refine Cf ?_
      show Code.wp Tryd.prog _ _ a w
      obtain ⟨r35, hr35, hF⟩ := bind_some hF
      refine AU mixed hn hG h [500] (oc [0] [1] Tryd.call23 (Dy hr35) ⟨q0, trivial⟩ <| ov [500] (Al q0) .nil) fun _ a w h => ?_
      refine wp_ret ?_
      obtain rfl := Option.some.inj hF
      exact ⟨.inl rfl, Ci h Tryd.results54 (By 0 rfl) [] [] rfl rfl rfl⟩

def D5 (a_0 : List UInt8) : Option (List UInt8) := ((CX a_0).bind fun r2 => (if (0 : Int) ≤ 0 ∧ (0 : Int) ≤ 8 ∧ (8 : Int) ≤ r2.length then some ((r2.take 8).drop (0 : Int).toNat) else none))
theorem EY {a_0 : List UInt8} {r : (List UInt8)} (hF : D5 a_0 = some r) : AR Tryd.prog KG 36 [(Cs [Af 32 a_0])] [] (fun _ => []) (AJ r) := by
  refine AR.intro 6 Tryd.func36 rfl Tryd.ntmps36 (Nat.le_of_ble_eq_true rfl) ?_
  intro c a w hG hn h
  unfold D5 at hF
  change AX c [.slot 0 (Cs [Af 32 a_0])] a w at h
  refine AU mixed hn hG h [502, 501] (ob [0] (DR q0 (BF _)) <| ov [] (Al (C4 (sc _ (by decide)))) .nil) fun b1 a w h => ?_
  obtain ⟨r2, hr2, hF⟩ := bind_some hF
  obtain ⟨hv3, hF⟩ := A1 hF
  refine AU mixed hn hG h [500] (ov [0, 1] (DL 1 Tryd.isAgg33 Tryd.sizeOf33 q0) <| oc [500] [] Tryd.call54 (HF hr2) ⟨q0, trivial⟩ <| ov [500] (Ec (a := 0) (b := 8) Tryd.underlying9 q0 rfl ⟨_, qi⟩ hv3) <| ov [500] (Al q0) .nil) fun _ a w h => ?_
  refine wp_ret ?_
  obtain rfl := Option.some.inj hF
  exact ⟨.inl rfl, Ci h Tryd.results36 (By 0 rfl) [] [] rfl rfl rfl⟩

def DO (a_0 : Bool) (a_1 : Bool) : Option (List UInt8) := (if a_0 = true then some [102, 97, 105, 108, 101, 100] else (if a_1 = true then some [99, 117, 116] else some [111, 112, 101, 110]))
theorem EO {a_0 : Bool} {a_1 : Bool} {r : (List UInt8)} (hF : DO a_0 a_1 = some r) : AR Tryd.prog KG 37 [(Ak a_0), (Ak a_1)] [] (fun _ => []) (AJ r) := by
  refine AR.intro 9 Tryd.func37 rfl Tryd.ntmps37 (Nat.le_of_ble_eq_true rfl) ?_
  intro c a w hG hn h
  unfold DO at hF
  change AX c [.slot 0 (Ak a_0), .slot 1 (Ak a_1)] a w at h
  refine AU mixed hn hG h [0, 1] (ov [] (Al (C4 (sc _ (by decide)))) .nil) fun _ a w h => ?_
  refine wp_seq ?_
  refine wp_block ?_
  refine AU mixed hn hG h [1, 500] (ov [0] (Aj q0) <| ov [500] (Al q0) .nil) fun _ a w h => ?_
  refine Ea h hF 1 [] [0] (fun hb1 hF h => ?_) (fun hb1 hF h => ?_)
  · refine AU mixed hn hG h [500] (ov [] (Al (C4 (sc _ (by decide)))) .nil) fun _ a w h => ?_
    refine wp_ret ?_
    obtain rfl := Option.some.inj hF
    exact ⟨.inl rfl, Ci h Tryd.results37 (By 0 rfl) [] [] rfl rfl rfl⟩
  · refine AU mixed hn hG h [500] (ov [0] (Aj q0) <| ov [500] (Al q0) .nil) fun _ a w h => ?_
    refine Ea h hF 0 [] [] (fun hb2 hF h => ?_) (fun hb2 hF h => ?_)
    · refine AU mixed hn hG h [500] (ov [] (Al (C4 (sc _ (by decide)))) .nil) fun _ a w h => ?_
      refine wp_ret ?_
      obtain rfl := Option.some.inj hF
      exact ⟨.inl rfl, Ci h Tryd.results37 (By 0 rfl) [] [] rfl rfl rfl⟩
    · refine wp_skip ?_
      show Code.wp Tryd.prog _ _ a w
      refine AU mixed hn hG h [500] (ov [] (Al (C4 (sc _ (by decide)))) .nil) fun _ a w h => ?_
      refine wp_ret ?_
      obtain rfl := Option.some.inj hF
      exact ⟨.inl rfl, Ci h Tryd.results37 (By 0 rfl) [] [] rfl rfl rfl⟩

def A0.j1 (x18 : Int) (x32 : Int) (x33 : Int) : Option (D2 BJ (Int × Int × Int)) := some (.cont (x32, x33, IntKind.wrap .i64 (x18 + 1)))
def A0.b1 (a_1 : AK) (x16 : Int) (x17 : Int) (x18 : Int) : Option (D2 BJ (Int × Int × Int)) := (if (decide (x18 < (a_1.Aa.AB.length : Int))) = true then (if (0 : Int) ≤ x18 ∧ x18 < a_1.Aa.AB.length then (if (decide (((a_1.Aa.AB.getD x18.toNat default).DT) = (1 : Int))) = true then A0.j1 x18 (IntKind.wrap .i64 (x16 + 1)) x17 else (if (decide (((a_1.Aa.AB.getD x18.toNat default).DT) = (2 : Int))) = true then A0.j1 x18 x16 (IntKind.wrap .i64 (x17 + 1)) else A0.j1 x18 x16 x17)) else none) else some (.brk (x16, x17, x18)))
def A0 (L_0 : BJ) (a_1 : AK) : Option BJ := ((CY (a_1.Ad.AP.length : Int)).bind fun r4 => ((CY (a_1.Ad.AW.length : Int)).bind fun r5 => ((D5 a_1.Ad.Ai).bind fun r6 => ((BS a_1.Ad.Be).bind fun r7 => ((DO a_1.Ad.Aw false).bind fun r8 => ((BE L_0 [[104, 111, 109, 101], [108, 101, 116, 116, 101, 114, 115], r4, [113, 117, 101, 117, 101, 100], r5, [114, 111, 111, 116], r6, [98, 111, 110, 100], r7, r8]).bind fun r9 => ((Cr (fun s : Int × Int × Int => A0.b1 a_1 s.1 s.2.1 s.2.2) (((a_1.Aa.AB.length : Int) - 0 : Int).toNat + 2) (0, 0, 0)).bind fun cr => match cr with | .ret r => some r | .next (y40, y41, y42) => ((CJ a_1.Aa.Az).bind fun r43 => ((CY (a_1.Aa.AT.length : Int)).bind fun r44 => ((CY y40).bind fun r45 => ((CY y41).bind fun r46 => ((D5 a_1.Aa.Ai).bind fun r47 => ((DO a_1.Aa.Aw a_1.Aa.Bn).bind fun r48 => ((BE r9 [[114, 101, 112, 108, 105, 99, 97], [111, 102], r43, [114, 111, 111, 116, 115], r44, [115, 104, 111, 119, 110], r45, [100, 111, 110, 101], r46, [114, 111, 111, 116], r47, r48]).bind fun r49 => some r49))))))))))))))
theorem EC {p_0 : Value} {L_0 : BJ} {a_1 : AK} {r : BJ} (hF : A0 L_0 a_1 = some r) : AR Tryd.prog KG 21 [(A4 p_0), (Cs [one (Ab .u32 a_1.B4), one (Ab .u64 a_1.Ae.AO), one (Ab .u64 a_1.Ae.Bc), one (Ab .u64 a_1.Ae.Bq), one (Ah Ao.ck a_1.Ae.Ap), one (Ah An.ck a_1.Ae.AD), one (Ah Av.ck a_1.As.Au), one (Ah Aq.ck a_1.As.Am), one (Ab .u32 a_1.Ad.Az), Af 32 a_1.Ad.Ar, one (Ab .u32 a_1.Ad.AI.AY), Bd 32 32 (dC 32) (AV 32) a_1.Ad.AI.AH, one (Ah (dC 32) a_1.Ad.AP), one (Ah (dC 32) a_1.Ad.AW), Af 32 a_1.Ad.Ai, one (Ah Ay.ck a_1.Ad.AQ), one (Ab .u64 a_1.Ad.Be), one (Ak a_1.Ad.Aw), one (Ab .u32 a_1.Aa.Az), one (Ab .u32 a_1.Aa.A9), Af 32 a_1.Aa.Ar, one (Ah (dC 32) a_1.Aa.AF), one (Ab .u64 a_1.Aa.AN), Af 32 a_1.Aa.Ai, one (Ah Ax.ck a_1.Aa.AT), one (Ah At.ck a_1.Aa.AB), one (Ak a_1.Aa.Aw), one (Ak a_1.Aa.Bn), one (AJ a_1.AZ)])] [(BV p_0 (some L_0))] (fun _ => [BV p_0 (some r)]) (Di []) := by
  refine AR.intro 74 Tryd.func21 rfl Tryd.ntmps21 (Nat.le_of_ble_eq_true rfl) ?_
  intro c a w hG hn h
  unfold A0 at hF
  change AX c [.slot 0 (A4 p_0), .slot 1 (Cs [one (Ab .u32 a_1.B4), one (Ab .u64 a_1.Ae.AO), one (Ab .u64 a_1.Ae.Bc), one (Ab .u64 a_1.Ae.Bq), one (Ah Ao.ck a_1.Ae.Ap), one (Ah An.ck a_1.Ae.AD), one (Ah Av.ck a_1.As.Au), one (Ah Aq.ck a_1.As.Am), one (Ab .u32 a_1.Ad.Az), Af 32 a_1.Ad.Ar, one (Ab .u32 a_1.Ad.AI.AY), Bd 32 32 (dC 32) (AV 32) a_1.Ad.AI.AH, one (Ah (dC 32) a_1.Ad.AP), one (Ah (dC 32) a_1.Ad.AW), Af 32 a_1.Ad.Ai, one (Ah Ay.ck a_1.Ad.AQ), one (Ab .u64 a_1.Ad.Be), one (Ak a_1.Ad.Aw), one (Ab .u32 a_1.Aa.Az), one (Ab .u32 a_1.Aa.A9), Af 32 a_1.Aa.Ar, one (Ah (dC 32) a_1.Aa.AF), one (Ab .u64 a_1.Aa.AN), Af 32 a_1.Aa.Ai, one (Ah Ax.ck a_1.Aa.AT), one (Ah At.ck a_1.Aa.AB), one (Ak a_1.Aa.Aw), one (Ak a_1.Aa.Bn), one (AJ a_1.AZ)]), .res (BV p_0 (some L_0))] a w at h
  refine AU mixed hn hG h [0, 501, 2, 500] (ob [1] (DR q0 (BF _)) .nil) fun b1 a w h => ?_
  refine AU mixed hn hG h [0, 505, 503, 2, 501, 500] (ov [1] (Ag (p := (b1 0)) (n := 1095) 0 8 Tryd.underlying46 rfl Tryd.sizeOf40 (by decide) q0 rfl) <| ov [500, 3] (BL [one (Ab .u32 a_1.B4), one (Ab .u64 a_1.Ae.AO), one (Ab .u64 a_1.Ae.Bc), one (Ab .u64 a_1.Ae.Bq), one (Ah Ao.ck a_1.Ae.Ap), one (Ah An.ck a_1.Ae.AD), one (Ah Av.ck a_1.As.Au), one (Ah Aq.ck a_1.As.Am)] [one (Ab .u32 a_1.Ad.Az), Af 32 a_1.Ad.Ar, one (Ab .u32 a_1.Ad.AI.AY), Bd 32 32 (dC 32) (AV 32) a_1.Ad.AI.AH, one (Ah (dC 32) a_1.Ad.AP), one (Ah (dC 32) a_1.Ad.AW), Af 32 a_1.Ad.Ai, one (Ah Ay.ck a_1.Ad.AQ), one (Ab .u64 a_1.Ad.Be), one (Ak a_1.Ad.Aw)] [one (Ab .u32 a_1.Aa.Az), one (Ab .u32 a_1.Aa.A9), Af 32 a_1.Aa.Ar, one (Ah (dC 32) a_1.Aa.AF), one (Ab .u64 a_1.Aa.AN), Af 32 a_1.Aa.Ai, one (Ah Ax.ck a_1.Aa.AT), one (Ah At.ck a_1.Aa.AB), one (Ak a_1.Aa.Aw), one (Ak a_1.Aa.Bn), one (AJ a_1.AZ)] 1 Tryd.isAgg40 Tryd.sizeOf40 q0 rfl rfl (by simp only [Db, Da, one, Af, Bd, Cj])) <| ov [1] (Ag (p := (b1 0)) (n := 72) 0 1103 Tryd.underlying46 rfl Tryd.sizeOf44 (by decide) q0 rfl) <| ov [500, 3] (BL [one (Ab .u32 a_1.B4), one (Ab .u64 a_1.Ae.AO), one (Ab .u64 a_1.Ae.Bc), one (Ab .u64 a_1.Ae.Bq), one (Ah Ao.ck a_1.Ae.Ap), one (Ah An.ck a_1.Ae.AD), one (Ah Av.ck a_1.As.Au), one (Ah Aq.ck a_1.As.Am), one (Ab .u32 a_1.Ad.Az), Af 32 a_1.Ad.Ar, one (Ab .u32 a_1.Ad.AI.AY), Bd 32 32 (dC 32) (AV 32) a_1.Ad.AI.AH, one (Ah (dC 32) a_1.Ad.AP), one (Ah (dC 32) a_1.Ad.AW), Af 32 a_1.Ad.Ai, one (Ah Ay.ck a_1.Ad.AQ), one (Ab .u64 a_1.Ad.Be), one (Ak a_1.Ad.Aw)] [one (Ab .u32 a_1.Aa.Az), one (Ab .u32 a_1.Aa.A9), Af 32 a_1.Aa.Ar, one (Ah (dC 32) a_1.Aa.AF), one (Ab .u64 a_1.Aa.AN), Af 32 a_1.Aa.Ai, one (Ah Ax.ck a_1.Aa.AT), one (Ah At.ck a_1.Aa.AB), one (Ak a_1.Aa.Aw), one (Ak a_1.Aa.Bn)] [one (AJ a_1.AZ)] 1 Tryd.isAgg44 Tryd.sizeOf44 q0 rfl (by simp only [Db, Da, one, Af, Bd, Cj]) rfl) <| ob [] (CF Tryd.zeroValue40 z40) <| ob [] (CF Tryd.zeroValue44 z44) <| og [503, 506] [502] [.res 4 100000 (fun v1_ _ => (lb (v1_) 40 [one (Ab .u32 a_1.Ad.Az), Af 32 a_1.Ad.Ar, one (Ab .u32 a_1.Ad.AI.AY), Bd 32 32 (dC 32) (AV 32) a_1.Ad.AI.AH, one (Ah (dC 32) a_1.Ad.AP), one (Ah (dC 32) a_1.Ad.AW), Af 32 a_1.Ad.Ai, one (Ah Ay.ck a_1.Ad.AQ), one (Ab .u64 a_1.Ad.Be), one (Ak a_1.Ad.Aw)]))] (Bh.plain (CM Tryd.sizeOf40 q0 q1 (BF _)) rfl) <| og [502, 505] [501] [.res 5 100000 (fun v1_ _ => (lb (v1_) 44 [one (Ab .u32 a_1.Aa.Az), one (Ab .u32 a_1.Aa.A9), Af 32 a_1.Aa.Ar, one (Ah (dC 32) a_1.Aa.AF), one (Ab .u64 a_1.Aa.AN), Af 32 a_1.Aa.Ai, one (Ah Ax.ck a_1.Aa.AT), one (Ah At.ck a_1.Aa.AB), one (Ak a_1.Aa.Aw), one (Ak a_1.Aa.Bn)]))] (Bh.plain (CM Tryd.sizeOf44 q0 q1 (BF _)) rfl) .nil) fun b2 a w h => ?_
  obtain ⟨r4, hr4, hF⟩ := bind_some hF
  obtain ⟨r5, hr5, hF⟩ := bind_some hF
  obtain ⟨r6, hr6, hF⟩ := bind_some hF
  obtain ⟨r7, hr7, hF⟩ := bind_some hF
  obtain ⟨r8, hr8, hF⟩ := bind_some hF
  obtain ⟨r9, hr9, hF⟩ := bind_some hF
  refine AU mixed hn hG h [0, 2, 5, 500] (ov [0] (Aj q0) <| ov [1] (Ag (p := (b2 4)) (n := 1) 0 1058 Tryd.underlying40 rfl Tryd.sizeOf37 (by decide) q0 rfl) <| ov [500, 4] (AA [one (Ab .u32 a_1.Ad.Az), Af 32 a_1.Ad.Ar, one (Ab .u32 a_1.Ad.AI.AY), Bd 32 32 (dC 32) (AV 32) a_1.Ad.AI.AH] [one (Ah (dC 32) a_1.Ad.AW), Af 32 a_1.Ad.Ai, one (Ah Ay.ck a_1.Ad.AQ), one (Ab .u64 a_1.Ad.Be), one (Ak a_1.Ad.Aw)] 1 Tryd.isAgg37 q0 rfl (by simp only [Db, Da, one, Af, Bd, Cj])) <| ov [500] (Ba Tryd.underlying37 q0) <| oc [500] [] Tryd.call32 (Dg hr4) ⟨q0, trivial⟩ <| ov [1] (Ag (p := (b2 4)) (n := 1) 0 1059 Tryd.underlying40 rfl Tryd.sizeOf37 (by decide) q0 rfl) <| ov [500, 4] (AA [one (Ab .u32 a_1.Ad.Az), Af 32 a_1.Ad.Ar, one (Ab .u32 a_1.Ad.AI.AY), Bd 32 32 (dC 32) (AV 32) a_1.Ad.AI.AH, one (Ah (dC 32) a_1.Ad.AP)] [Af 32 a_1.Ad.Ai, one (Ah Ay.ck a_1.Ad.AQ), one (Ab .u64 a_1.Ad.Be), one (Ak a_1.Ad.Aw)] 1 Tryd.isAgg37 q0 rfl (by simp only [Db, Da, one, Af, Bd, Cj])) <| ov [500] (Ba Tryd.underlying37 q0) <| oc [500] [] Tryd.call32 (Dg hr5) ⟨q0, trivial⟩ <| ov [1] (Ag (p := (b2 4)) (n := 32) 0 1060 Tryd.underlying40 rfl Tryd.sizeOf33 (by decide) q0 rfl) <| ov [500, 4] (BL [one (Ab .u32 a_1.Ad.Az), Af 32 a_1.Ad.Ar, one (Ab .u32 a_1.Ad.AI.AY), Bd 32 32 (dC 32) (AV 32) a_1.Ad.AI.AH, one (Ah (dC 32) a_1.Ad.AP), one (Ah (dC 32) a_1.Ad.AW)] [Af 32 a_1.Ad.Ai] [one (Ah Ay.ck a_1.Ad.AQ), one (Ab .u64 a_1.Ad.Be), one (Ak a_1.Ad.Aw)] 1 Tryd.isAgg33 Tryd.sizeOf33 q0 rfl (by simp only [Db, Da, one, Af, Bd, Cj]) rfl) <| oc [500] [] Tryd.call36 (EY hr6) ⟨q0, trivial⟩ <| ov [1] (Ag (p := (b2 4)) (n := 1) 0 1093 Tryd.underlying40 rfl Tryd.sizeOf23 (by decide) q0 rfl) <| ov [500, 4] (AA [one (Ab .u32 a_1.Ad.Az), Af 32 a_1.Ad.Ar, one (Ab .u32 a_1.Ad.AI.AY), Bd 32 32 (dC 32) (AV 32) a_1.Ad.AI.AH, one (Ah (dC 32) a_1.Ad.AP), one (Ah (dC 32) a_1.Ad.AW), Af 32 a_1.Ad.Ai, one (Ah Ay.ck a_1.Ad.AQ)] [one (Ak a_1.Ad.Aw)] 1 Tryd.isAgg23 q0 rfl (by simp only [Db, Da, one, Af, Bd, Cj])) <| oc [500] [] Tryd.call19 (BP hr7) ⟨q0, trivial⟩ <| ov [1] (Ag (p := (b2 4)) (n := 1) 0 1094 Tryd.underlying40 rfl Tryd.sizeOf4 (by decide) q0 rfl) <| ov [500, 4] (AA [one (Ab .u32 a_1.Ad.Az), Af 32 a_1.Ad.Ar, one (Ab .u32 a_1.Ad.AI.AY), Bd 32 32 (dC 32) (AV 32) a_1.Ad.AI.AH, one (Ah (dC 32) a_1.Ad.AP), one (Ah (dC 32) a_1.Ad.AW), Af 32 a_1.Ad.Ai, one (Ah Ay.ck a_1.Ad.AQ), one (Ab .u64 a_1.Ad.Be)] [] 1 Tryd.isAgg4 q0 rfl (by simp only [Db, Da, one, Af, Bd, Cj])) <| oc [500] [] Tryd.call37 (EO hr8) ⟨q0, qb, trivial⟩ <| ov [513, 509, 506, 503, 500] (EE (xs := [.const (.string ⟨#[104, 111, 109, 101]⟩), .const (.string ⟨#[108, 101, 116, 116, 101, 114, 115]⟩), .tmp 18, .const (.string ⟨#[113, 117, 101, 117, 101, 100]⟩), .tmp 22, .const (.string ⟨#[114, 111, 111, 116]⟩), .tmp 25, .const (.string ⟨#[98, 111, 110, 100]⟩), .tmp 28, .tmp 31]) (ys := [[104, 111, 109, 101], [108, 101, 116, 116, 101, 114, 115], r4, [113, 117, 101, 117, 101, 100], r5, [114, 111, 111, 116], r6, [98, 111, 110, 100], r7, r8]) _ rfl Tryd.underlying87 Tryd.sizeOf9 Tryd.zeroValue9 rfl rfl (by decide) (by decide) ⟨⟨_, (C4 (sc _ (by decide))), (A5 (Bm _))⟩, ⟨_, (C4 (sc _ (by decide))), (A5 (Bm _))⟩, ⟨_, q0, (A5 (Bm _))⟩, ⟨_, (C4 (sc _ (by decide))), (A5 (Bm _))⟩, ⟨_, q1, (A5 (Bm _))⟩, ⟨_, (C4 (sc _ (by decide))), (A5 (Bm _))⟩, ⟨_, q2, (A5 (Bm _))⟩, ⟨_, (C4 (sc _ (by decide))), (A5 (Bm _))⟩, ⟨_, q3, (A5 (Bm _))⟩, ⟨_, (opt 4 rfl), (A5 (Bm _))⟩, trivial⟩ DM) <| oc [518, 500] [3] Tryd.call17 (B5 hr9) ⟨q0, q1, trivial⟩ .nil) fun _ a w h => ?_
  refine AU mixed hn hG h [0, 1, 501, 500, 2, 3] (ov [] (Al qi) <| ov [] (Al qi) .nil) fun _ a w h => ?_
  refine wp_seq ?_
  refine AU mixed hn hG h [0, 1, 2, 3, 502, 501, 500, 4, 5] (ov [1] (Ag (p := (b2 5)) (n := 1) 0 69 Tryd.underlying44 rfl Tryd.sizeOf42 (by decide) q0 rfl) <| ov [500, 4] (AA [one (Ab .u32 a_1.Aa.Az), one (Ab .u32 a_1.Aa.A9), Af 32 a_1.Aa.Ar, one (Ah (dC 32) a_1.Aa.AF), one (Ab .u64 a_1.Aa.AN), Af 32 a_1.Aa.Ai, one (Ah Ax.ck a_1.Aa.AT)] [one (Ak a_1.Aa.Aw), one (Ak a_1.Aa.Bn)] 1 Tryd.isAgg42 q0 rfl rfl) <| ov [500] (Ba Tryd.underlying42 q0) <| ov [] (Aj qi) .nil) fun _ a w h => ?_
  refine wp_block ?_
  obtain ⟨cr36, hl37, hF⟩ := bind_some hF
  refine wp_mono (CV (R := BJ) (S := Int × Int × Int) (fun s a w => AX c [.slot 0 (A4 p_0), .slot 5 (BH (b2 5) 0), .slot 6 (Ab .i64 s.1), .slot 7 (Ab .i64 s.2.1), .slot 35 (Ah At.ck a_1.Aa.AB), .slot 36 (Ab .i64 (a_1.Aa.AB.length : Int)), .slot 37 (Ab .i64 s.2.2), .res (lb (b2 5) 44 [one (Ab .u32 a_1.Aa.Az), one (Ab .u32 a_1.Aa.A9), Af 32 a_1.Aa.Ar, one (Ah (dC 32) a_1.Aa.AF), one (Ab .u64 a_1.Aa.AN), Af 32 a_1.Aa.Ai, one (Ah Ax.ck a_1.Aa.AT), one (Ah At.ck a_1.Aa.AB), one (Ak a_1.Aa.Aw), one (Ak a_1.Aa.Bn)]), .res (BV p_0 (some r9))] a w) (fun res e a w => match res with | .next s => e = .exit 0 ∧ AX c [.slot 0 (A4 p_0), .slot 5 (BH (b2 5) 0), .slot 6 (Ab .i64 s.1), .slot 7 (Ab .i64 s.2.1), .res (lb (b2 5) 44 [one (Ab .u32 a_1.Aa.Az), one (Ab .u32 a_1.Aa.A9), Af 32 a_1.Aa.Ar, one (Ah (dC 32) a_1.Aa.AF), one (Ab .u64 a_1.Aa.AN), Af 32 a_1.Aa.Ai, one (Ah Ax.ck a_1.Aa.AT), one (Ah At.ck a_1.Aa.AB), one (Ak a_1.Aa.Aw), one (Ak a_1.Aa.Bn)]), .res (BV p_0 (some r9))] a w | .ret r => e = .ret ∧ DW Tryd.prog Tryd.f21 c (Di []) (fun _ => [BV p_0 (some r)]) a w) ?_ _ (0, 0, 0) _ _ _ (h.sub [0, 1, 2, 3, 4, 5, 6, 7, 8] (by rfl)) hl37) ?_
  · clear hl37 hF h
    intro s a w o h hF
    obtain ⟨x16, x17, x18⟩ := s
    change A0.b1 a_1 x16 x17 x18 = some o at hF
    unfold A0.b1 at hF
    change AX c [.slot 0 (A4 p_0), .slot 5 (BH (b2 5) 0), .slot 6 (Ab .i64 x16), .slot 7 (Ab .i64 x17), .slot 35 (Ah At.ck a_1.Aa.AB), .slot 36 (Ab .i64 (a_1.Aa.AB.length : Int)), .slot 37 (Ab .i64 x18), .res (lb (b2 5) 44 [one (Ab .u32 a_1.Aa.Az), one (Ab .u32 a_1.Aa.A9), Af 32 a_1.Aa.Ar, one (Ah (dC 32) a_1.Aa.AF), one (Ab .u64 a_1.Aa.AN), Af 32 a_1.Aa.Ai, one (Ah Ax.ck a_1.Aa.AT), one (Ah At.ck a_1.Aa.AB), one (Ak a_1.Aa.Aw), one (Ak a_1.Aa.Bn)]), .res (BV p_0 (some r9))] a w at h
    refine AU mixed hn hG h [0, 1, 2, 3, 4, 5, 6, 500, 7, 8] (ov [6, 5] (AG Cg q0 q1) .nil) fun _ a w h => ?_
    refine wp_seq ?_
    refine Ea h hF 7 [0, 1, 2, 3, 4, 5, 6, 8, 9] [0, 1, 2, 3, 4, 5, 6, 8, 9] (fun hb28 hF h => ?_) (fun hb28 hF h => ?_)
    · refine wp_skip ?_
      show Code.wp Tryd.prog _ _ a w
      refine wp_seq ?_
      refine wp_block ?_
      obtain ⟨hv29, hF⟩ := A1 hF
      refine AU mixed hn hG h [0, 1, 2, 3, 502, 4, 5, 6, 7, 8, 500] (ov [4, 6] (B9 Tryd.underlying42 Tryd.sizeOf85 At.lens q0 q1 hv29) <| ov [500] (Dd [Af 32 ((a_1.Aa.AB.getD x18.toNat default).GL), one (Ab .i64 ((a_1.Aa.AB.getD x18.toNat default).DT)), Af 32 ((a_1.Aa.AB.getD x18.toNat default).E5)] [] Tryd.isAgg85 Tryd.sizeOf85 q0 rfl) <| ob [] (CF Tryd.zeroValue85 z85) <| og [501, 502] [500] [.res 2 100000 (fun v1_ _ => (lb (v1_) 85 [Af 32 ((a_1.Aa.AB.getD x18.toNat default).GL), one (Ab .i64 ((a_1.Aa.AB.getD x18.toNat default).DT)), Af 32 ((a_1.Aa.AB.getD x18.toNat default).E5)]))] (Bh.plain (CM Tryd.sizeOf85 q0 q1 (BF _)) rfl) .nil) fun b30 a w h => ?_
      refine AU mixed hn hG h [0, 1, 2, 3, 5, 6, 7, 500, 8, 9] (ov [4] (Ag (p := (b30 2)) (n := 1) 0 32 Tryd.underlying85 rfl Tryd.sizeOf3 (by decide) q0 rfl) <| ov [500, 10] (AA [Af 32 ((a_1.Aa.AB.getD x18.toNat default).GL)] [Af 32 ((a_1.Aa.AB.getD x18.toNat default).E5)] 1 Tryd.isAgg3 q0 rfl rfl) .nil) fun _ a w h => ?_
      refine wp_block ?_
      refine AU mixed hn hG h [0, 1, 2, 3, 4, 5, 6, 7, 500, 8, 9] (ov [7] (AG C0 q0 qi) <| ov [500] (Al q0) .nil) fun _ a w h => ?_
      refine CD (fun a w => ∃ (x32 : Int), ∃ (x33 : Int), A0.j1 x18 x32 x33 = some o ∧ AX c [.slot 0 (A4 p_0), .slot 5 (BH (b2 5) 0), .slot 6 (Ab .i64 x32), .slot 7 (Ab .i64 x33), .slot 35 (Ah At.ck a_1.Aa.AB), .slot 36 (Ab .i64 (a_1.Aa.AB.length : Int)), .slot 37 (Ab .i64 x18), .res (lb (b2 5) 44 [one (Ab .u32 a_1.Aa.Az), one (Ab .u32 a_1.Aa.A9), Af 32 a_1.Aa.Ar, one (Ah (dC 32) a_1.Aa.AF), one (Ab .u64 a_1.Aa.AN), Af 32 a_1.Aa.Ai, one (Ah Ax.ck a_1.Aa.AT), one (Ah At.ck a_1.Aa.AB), one (Ak a_1.Aa.Aw), one (Ak a_1.Aa.Bn)]), .res (BV p_0 (some r9))] a w) ?_ ?_
      · refine Ea h hF 8 [0, 1, 2, 3, 4, 5, 6, 9, 10] [0, 1, 2, 3, 4, 5, 6, 7, 9, 10] (fun hb34 hF h => ?_) (fun hb34 hF h => ?_)
        · refine Dm mixed hn hG h [0, 1, 500, 3, 4, 5, 6, 7, 8] (ov [2] (Aj q0) <| ov [500] (AG BQ q0 qi) <| od [500] 2 (Al q0) .nil) fun _ a w h => ?_
          exact ⟨IntKind.wrap .i64 (x16 + 1), x17, hF, h.sub [0, 1, 2, 3, 4, 5, 6, 7, 8] (by rfl)⟩
        · refine AU mixed hn hG h [0, 1, 2, 3, 4, 5, 6, 500, 8, 9] (ov [7] (AG C0 q0 qi) <| ov [500] (Al q0) .nil) fun _ a w h => ?_
          refine Ea h hF 7 [0, 1, 2, 3, 4, 5, 6, 8, 9] [0, 1, 2, 3, 4, 5, 6, 8, 9] (fun hb35 hF h => ?_) (fun hb35 hF h => ?_)
          · refine Dm mixed hn hG h [0, 1, 2, 500, 4, 5, 6, 7, 8] (ov [3] (Aj q0) <| ov [500] (AG BQ q0 qi) <| od [500] 3 (Al q0) .nil) fun _ a w h => ?_
            exact ⟨x16, IntKind.wrap .i64 (x17 + 1), hF, h.sub [0, 1, 2, 3, 4, 5, 6, 7, 8] (by rfl)⟩
          · refine wp_skip ?_
            exact ⟨x16, x17, hF, h.sub [0, 1, 2, 3, 4, 5, 6, 7, 8] (by rfl)⟩
      · clear h hF
        rintro a w ⟨x32, x33, hF, h⟩
        unfold A0.j1 at hF
        show Code.wp Tryd.prog _ _ a w
        refine Dm mixed hn hG h [0, 1, 2, 3, 4, 5, 500, 7, 8] (ov [6] (AG BQ q0 qi) <| od [500] 6 (Aj q0) .nil) fun _ a w h => ?_
        obtain rfl := Option.some.inj hF
        exact ⟨rfl, h.sub [0, 1, 2, 3, 4, 5, 6, 7, 8] (by rfl)⟩
    · refine wp_exit ?_
      obtain rfl := Option.some.inj hF
      exact ⟨Dp _, rfl, h.sub [0, 1, 2, 3, 7, 8] (by rfl)⟩
  · clear hl37
    intro e a w hq
    cases cr36 with
    | ret r38 =>
      obtain ⟨rfl, hq⟩ := hq
      obtain rfl := Option.some.inj hF
      exact ⟨.inl rfl, hq⟩
    | next s39 =>
      obtain ⟨y40, y41, y42⟩ := s39
      obtain ⟨rfl, h⟩ := hq
      change AX c [.slot 0 (A4 p_0), .slot 5 (BH (b2 5) 0), .slot 6 (Ab .i64 y40), .slot 7 (Ab .i64 y41), .res (lb (b2 5) 44 [one (Ab .u32 a_1.Aa.Az), one (Ab .u32 a_1.Aa.A9), Af 32 a_1.Aa.Ar, one (Ah (dC 32) a_1.Aa.AF), one (Ab .u64 a_1.Aa.AN), Af 32 a_1.Aa.Ai, one (Ah Ax.ck a_1.Aa.AT), one (Ah At.ck a_1.Aa.AB), one (Ak a_1.Aa.Aw), one (Ak a_1.Aa.Bn)]), .res (BV p_0 (some r9))] a w at h
      refine Cf ?_
      show Code.wp Tryd.prog _ _ a w
      obtain ⟨r43, hr43, hF⟩ := bind_some hF
      obtain ⟨r44, hr44, hF⟩ := bind_some hF
      obtain ⟨r45, hr45, hF⟩ := bind_some hF
      obtain ⟨r46, hr46, hF⟩ := bind_some hF
      obtain ⟨r47, hr47, hF⟩ := bind_some hF
      obtain ⟨r48, hr48, hF⟩ := bind_some hF
      obtain ⟨r49, hr49, hF⟩ := bind_some hF
      refine Dm mixed hn hG h [500] (ov [0] (Aj q0) <| ov [1] (Ag (p := (b2 5)) (n := 1) 0 0 Tryd.underlying44 rfl Tryd.sizeOf22 (by decide) q0 rfl) <| ov [500, 4] (AA [] [one (Ab .u32 a_1.Aa.A9), Af 32 a_1.Aa.Ar, one (Ah (dC 32) a_1.Aa.AF), one (Ab .u64 a_1.Aa.AN), Af 32 a_1.Aa.Ai, one (Ah Ax.ck a_1.Aa.AT), one (Ah At.ck a_1.Aa.AB), one (Ak a_1.Aa.Aw), one (Ak a_1.Aa.Bn)] 1 Tryd.isAgg22 q0 rfl rfl) <| oc [500] [] Tryd.call18 (Dt hr43) ⟨q0, trivial⟩ <| ov [1] (Ag (p := (b2 5)) (n := 1) 0 68 Tryd.underlying44 rfl Tryd.sizeOf41 (by decide) q0 rfl) <| ov [500, 4] (AA [one (Ab .u32 a_1.Aa.Az), one (Ab .u32 a_1.Aa.A9), Af 32 a_1.Aa.Ar, one (Ah (dC 32) a_1.Aa.AF), one (Ab .u64 a_1.Aa.AN), Af 32 a_1.Aa.Ai] [one (Ah At.ck a_1.Aa.AB), one (Ak a_1.Aa.Aw), one (Ak a_1.Aa.Bn)] 1 Tryd.isAgg41 q0 rfl rfl) <| ov [500] (Ba Tryd.underlying41 q0) <| oc [500] [] Tryd.call32 (Dg hr44) ⟨q0, trivial⟩ <| ov [2] (Aj q0) <| oc [500] [] Tryd.call32 (Dg hr45) ⟨q0, trivial⟩ <| ov [3] (Aj q0) <| oc [500] [] Tryd.call32 (Dg hr46) ⟨q0, trivial⟩ <| ov [1] (Ag (p := (b2 5)) (n := 32) 0 36 Tryd.underlying44 rfl Tryd.sizeOf33 (by decide) q0 rfl) <| ov [500, 4] (BL [one (Ab .u32 a_1.Aa.Az), one (Ab .u32 a_1.Aa.A9), Af 32 a_1.Aa.Ar, one (Ah (dC 32) a_1.Aa.AF), one (Ab .u64 a_1.Aa.AN)] [Af 32 a_1.Aa.Ai] [one (Ah Ax.ck a_1.Aa.AT), one (Ah At.ck a_1.Aa.AB), one (Ak a_1.Aa.Aw), one (Ak a_1.Aa.Bn)] 1 Tryd.isAgg33 Tryd.sizeOf33 q0 rfl rfl rfl) <| oc [500] [] Tryd.call36 (EY hr47) ⟨q0, trivial⟩ <| ov [1] (Ag (p := (b2 5)) (n := 1) 0 70 Tryd.underlying44 rfl Tryd.sizeOf4 (by decide) q0 rfl) <| ov [500, 4] (AA [one (Ab .u32 a_1.Aa.Az), one (Ab .u32 a_1.Aa.A9), Af 32 a_1.Aa.Ar, one (Ah (dC 32) a_1.Aa.AF), one (Ab .u64 a_1.Aa.AN), Af 32 a_1.Aa.Ai, one (Ah Ax.ck a_1.Aa.AT), one (Ah At.ck a_1.Aa.AB)] [one (Ak a_1.Aa.Bn)] 1 Tryd.isAgg4 q0 rfl rfl) <| ov [1] (Ag (p := (b2 5)) (n := 1) 0 71 Tryd.underlying44 rfl Tryd.sizeOf4 (by decide) q0 rfl) <| ov [500, 4] (AA [one (Ab .u32 a_1.Aa.Az), one (Ab .u32 a_1.Aa.A9), Af 32 a_1.Aa.Ar, one (Ah (dC 32) a_1.Aa.AF), one (Ab .u64 a_1.Aa.AN), Af 32 a_1.Aa.Ai, one (Ah Ax.ck a_1.Aa.AT), one (Ah At.ck a_1.Aa.AB), one (Ak a_1.Aa.Aw)] [] 1 Tryd.isAgg4 q0 rfl rfl) <| oc [502, 500] [] Tryd.call37 (EO hr48) ⟨q0, q1, trivial⟩ <| ov [516, 512, 510, 508, 505, 500] (EE (xs := [.const (.string ⟨#[114, 101, 112, 108, 105, 99, 97]⟩), .const (.string ⟨#[111, 102]⟩), .tmp 55, .const (.string ⟨#[114, 111, 111, 116, 115]⟩), .tmp 59, .const (.string ⟨#[115, 104, 111, 119, 110]⟩), .tmp 61, .const (.string ⟨#[100, 111, 110, 101]⟩), .tmp 63, .const (.string ⟨#[114, 111, 111, 116]⟩), .tmp 66, .tmp 71]) (ys := [[114, 101, 112, 108, 105, 99, 97], [111, 102], r43, [114, 111, 111, 116, 115], r44, [115, 104, 111, 119, 110], r45, [100, 111, 110, 101], r46, [114, 111, 111, 116], r47, r48]) _ rfl Tryd.underlying87 Tryd.sizeOf9 Tryd.zeroValue9 rfl rfl (by decide) (by decide) ⟨⟨_, (C4 (sc _ (by decide))), (A5 (Bm _))⟩, ⟨_, (C4 (sc _ (by decide))), (A5 (Bm _))⟩, ⟨_, q0, (A5 (Bm _))⟩, ⟨_, (C4 (sc _ (by decide))), (A5 (Bm _))⟩, ⟨_, q1, (A5 (Bm _))⟩, ⟨_, (C4 (sc _ (by decide))), (A5 (Bm _))⟩, ⟨_, q2, (A5 (Bm _))⟩, ⟨_, (C4 (sc _ (by decide))), (A5 (Bm _))⟩, ⟨_, q3, (A5 (Bm _))⟩, ⟨_, (C4 (sc _ (by decide))), (A5 (Bm _))⟩, ⟨_, (opt 4 rfl), (A5 (Bm _))⟩, ⟨_, (opt 5 rfl), (A5 (Bm _))⟩, trivial⟩ DM) <| oc [520, 500] [5] Tryd.call17 (B5 hr49) ⟨q0, q1, trivial⟩ .nil) fun _ a w h => ?_
      obtain rfl := Option.some.inj hF
      exact ⟨.inr rfl, GR h (rs := []) (Vs := []) Tryd.results21 (by decide) trivial [0] [(BV p_0 (some r49))] rfl rfl rfl⟩

def CI (a_0 : List (An)) : Option (List (An)) := (if a_0.length * 64 ≤ 140737488355328 then some a_0 else none)
theorem Em {a_0 r : List (An)} (hF : CI a_0 = some r) : AR Tryd.prog KG 38 [(Ah An.ck a_0)] [] (fun _ => []) (Ah An.ck r) := by
  unfold CI at hF
  obtain ⟨hv1, hF⟩ := A1 hF
  obtain rfl := Option.some.inj hF
  refine AR.intro 8 Tryd.func38 rfl Tryd.ntmps38 (Nat.le_of_ble_eq_true rfl) ?_
  intro c a w hG hn h
  change AX c [.slot 0 (Ah An.ck a_0)] a w at h
  refine wp_seq ?_
  refine Ew (n := 8) [.slot 2 100000 100000 (fun _ _ => (A4 (.slice none 0 0)))] [0] [⟨[], [], [1], [], some 2⟩] [0] mixed hn hG h (by kernel_rfl) ?_ ?_
  · exact ⟨⟨rfl, fun β => (Bh.plain (Al (C4 (ec _))) rfl)⟩, trivial⟩
  clear h
  intro β a w h
  change AX c [.slot 0 (Ah An.ck a_0)] a w at h
  clear β
  show Code.wp Tryd.prog _ _ a w
  refine wp_seq ?_
  refine wp_seq ?_
  refine Ew (n := 8) [.slot 3 100000 100000 (fun _ _ => (Ah An.ck a_0)), .slot 4 100000 100000 (fun _ _ => (Hk a_0))] [0, 1] [⟨[0], [], [1], [], some 3⟩, ⟨[1], [], [2], [0], some 4⟩] [0, 2] mixed hn hG h (by kernel_rfl) ?_ ?_
  · exact ⟨⟨rfl, fun β => (Bh.plain (Aj (opt 0 rfl)) rfl)⟩, ⟨rfl, fun β => (Bh.plain (AG (Jb Tryd.underlying25) (opt 0 rfl) (C4 (ec _))) rfl)⟩, trivial⟩
  clear h
  intro β a w h
  change AX c [.slot 0 (Ah An.ck a_0), .slot 4 (Hk a_0)] a w at h
  clear β
  show Code.wp Tryd.prog _ _ a w
  obtain ⟨b0, hb0, h⟩ := h.Mq 1 rfl
  change AX c [.slot 0 (Ah An.ck a_0), .slot 4 (Ak b0)] a w at h
  refine Ir h 1 rfl (fun hb => ?_) (fun hb => ?_)
  · obtain rfl := hb0 hb
    replace h := h.sub [] (by rfl)
    change AX c [] a w at h
    refine wp_seq ?_
    refine Ew (n := 8) [.slot 2 100000 100000 (fun _ _ => (A4 (.slice none 0 0)))] [0] [⟨[], [], [0], [], some 2⟩] [0] mixed hn hG h (by kernel_rfl) ?_ ?_
    · exact ⟨⟨rfl, fun β => (Bh.plain (Al (C4 (ec _))) rfl)⟩, trivial⟩
    clear h
    intro β a w h
    change AX c [.slot 2 (A4 (.slice none 0 0))] a w at h
    clear β
    show Code.wp Tryd.prog _ _ a w
    refine wp_ret ?_
    exact ⟨.inl rfl, Ci h Tryd.results38 (KF 0 rfl) [] [] rfl rfl rfl⟩
  · replace h := h.sub [0] (by rfl)
    change AX c [.slot 0 (Ah An.ck a_0)] a w at h
    refine wp_skip ?_
    show Code.wp Tryd.prog _ _ a w
    refine wp_seq ?_
    refine Ew (n := 8) [.slot 5 100000 100000 (fun _ _ => JQ), .slot 6 100000 100000 (fun _ _ => (Ah An.ck a_0)), .slot 7 100000 100000 (fun _ _ => (Ah An.ck a_0)), .slot 2 100000 100000 (fun _ _ => (Ah An.ck a_0))] [0, 1, 2, 3] [⟨[], [], [1], [], some 5⟩, ⟨[0], [], [2], [0], some 6⟩, ⟨[1, 2], [], [3], [0, 1], some 7⟩, ⟨[3], [], [4], [0, 1, 2], some 2⟩] [4] mixed hn hG h (by kernel_rfl) ?_ ?_
    · exact ⟨⟨rfl, fun β => (Bh.plain (Kh Tryd.underlying25 Tryd.sizeOf48 Tryd.zeroValue48) rfl)⟩, ⟨rfl, fun β => (Bh.plain (Aj (opt 0 rfl)) rfl)⟩, ⟨rfl, fun β => (Bh.plain (GV (i := Tryd.t48) Tryd.underlying25 Tryd.type48 rfl An.lens (by decide) rfl (opt 0 rfl) (opt 1 rfl) hv1) rfl)⟩, ⟨rfl, fun β => (Bh.plain (Al (opt 0 rfl)) rfl)⟩, trivial⟩
    clear h
    intro β a w h
    change AX c [.slot 2 (Ah An.ck a_0)] a w at h
    clear β
    show Code.wp Tryd.prog _ _ a w
    refine wp_ret ?_
    exact ⟨.inl rfl, Ci h Tryd.results38 (By 0 rfl) [] [] rfl rfl rfl⟩

def Cy (a_0 : List (An)) (a_1 : Int) : Option (List (An)) := (if (0 : Int) ≤ (if (0 : Int) < (IntKind.wrap .i64 ((a_0.length : Int) - (if (0 : Int) < a_1 then a_1 else (0 : Int)))) then (IntKind.wrap .i64 ((a_0.length : Int) - (if (0 : Int) < a_1 then a_1 else (0 : Int)))) else (0 : Int)) ∧ (if (0 : Int) < (IntKind.wrap .i64 ((a_0.length : Int) - (if (0 : Int) < a_1 then a_1 else (0 : Int)))) then (IntKind.wrap .i64 ((a_0.length : Int) - (if (0 : Int) < a_1 then a_1 else (0 : Int)))) else (0 : Int)) ≤ (a_0.length : Int) ∧ (a_0.length : Int) ≤ a_0.length then ((CI ((a_0.take (a_0.length : Int).toNat).drop (if (0 : Int) < (IntKind.wrap .i64 ((a_0.length : Int) - (if (0 : Int) < a_1 then a_1 else (0 : Int)))) then (IntKind.wrap .i64 ((a_0.length : Int) - (if (0 : Int) < a_1 then a_1 else (0 : Int)))) else (0 : Int)).toNat)).bind fun r2 => some r2) else none)
theorem Ex {a_0 : List (An)} {a_1 : Int} {r : (List (An))} (hF : Cy a_0 a_1 = some r) : AR Tryd.prog KG 22 [(Ah An.ck a_0), (Ab .i64 a_1)] [] (fun _ => []) (Ah An.ck r) := by
  refine AR.intro 14 Tryd.func22 rfl Tryd.ntmps22 (Nat.le_of_ble_eq_true rfl) ?_
  intro c a w hG hn h
  unfold Cy at hF
  change AX c [.slot 0 (Ah An.ck a_0), .slot 1 (Ab .i64 a_1)] a w at h
  refine AU mixed hn hG h [0, 1] (ov [] (Al (C4 (ec _))) .nil) fun _ a w h => ?_
  obtain ⟨hv1, hF⟩ := A1 hF
  obtain ⟨r2, hr2, hF⟩ := bind_some hF
  refine AU mixed hn hG h [500] (ov [0] (Aj q0) <| ov [0] (Aj q0) <| ov [500] (Ba Tryd.underlying25 q0) <| ov [1] (Aj q0) <| ov [500] (Jy qi q0) <| ov [502, 500] (AG DI q0 q1) <| ov [500] (Jy qi q0) <| ov [506, 500] (HJ (a := (if (0 : Int) < (IntKind.wrap .i64 ((a_0.length : Int) - (if (0 : Int) < a_1 then a_1 else (0 : Int)))) then (IntKind.wrap .i64 ((a_0.length : Int) - (if (0 : Int) < a_1 then a_1 else (0 : Int)))) else (0 : Int))) (b := (a_0.length : Int)) Tryd.underlying25 Tryd.sizeOf48 An.lens q0 ⟨_, q1⟩ rfl hv1) <| oc [500] [] Tryd.call38 (Em hr2) ⟨q0, trivial⟩ <| ov [500] (Al q0) .nil) fun _ a w h => ?_
  refine wp_ret ?_
  obtain rfl := Option.some.inj hF
  exact ⟨.inl rfl, Ci h Tryd.results22 (By 0 rfl) [] [] rfl rfl rfl⟩

def B0.b1 (r10 : (List (An))) (x16 : Int) (x17 : BJ) : Option (D2 (List UInt8) (Int × BJ)) := (if (decide (x16 < (r10.length : Int))) = true then (if (0 : Int) ≤ x16 ∧ x16 < r10.length then ((BA (r10.getD x16.toNat default)).bind fun r28 => ((BE x17 [r28]).bind fun r29 => some (.cont (IntKind.wrap .i64 (x16 + 1), r29)))) else none) else some (.brk (x16, x17)))
def B0 (a_0 : AK) : Option (List UInt8) := ((CJ a_0.B4).bind fun r3 => ((BS a_0.Ae.AO).bind fun r4 => ((BS a_0.Ae.Bc).bind fun r5 => ((BS a_0.Ae.Bq).bind fun r6 => ((BE ⟨[]⟩ [[99, 104, 97, 105, 110], r3, [104, 101, 105, 103, 104, 116], r4, [116, 105, 109, 101], r5, [103, 97, 115], r6]).bind fun r7 => ((AS r7 a_0).bind fun r8 => ((A0 r8 a_0).bind fun r9 => ((Cy a_0.Ae.AD 10).bind fun r10 => ((Cr (fun s : Int × BJ => B0.b1 r10 s.1 s.2) (((r10.length : Int) - 0 : Int).toNat + 2) (0, r9)).bind fun cr => match cr with | .ret r => some r | .next (y34, y35) => ((Ed y35).bind fun r36 => some r36))))))))))
theorem D9 {a_0 : AK} {r : (List UInt8)} (hF : B0 a_0 = some r) : AR Tryd.prog KG 7 [(Cs [one (Ab .u32 a_0.B4), one (Ab .u64 a_0.Ae.AO), one (Ab .u64 a_0.Ae.Bc), one (Ab .u64 a_0.Ae.Bq), one (Ah Ao.ck a_0.Ae.Ap), one (Ah An.ck a_0.Ae.AD), one (Ah Av.ck a_0.As.Au), one (Ah Aq.ck a_0.As.Am), one (Ab .u32 a_0.Ad.Az), Af 32 a_0.Ad.Ar, one (Ab .u32 a_0.Ad.AI.AY), Bd 32 32 (dC 32) (AV 32) a_0.Ad.AI.AH, one (Ah (dC 32) a_0.Ad.AP), one (Ah (dC 32) a_0.Ad.AW), Af 32 a_0.Ad.Ai, one (Ah Ay.ck a_0.Ad.AQ), one (Ab .u64 a_0.Ad.Be), one (Ak a_0.Ad.Aw), one (Ab .u32 a_0.Aa.Az), one (Ab .u32 a_0.Aa.A9), Af 32 a_0.Aa.Ar, one (Ah (dC 32) a_0.Aa.AF), one (Ab .u64 a_0.Aa.AN), Af 32 a_0.Aa.Ai, one (Ah Ax.ck a_0.Aa.AT), one (Ah At.ck a_0.Aa.AB), one (Ak a_0.Aa.Aw), one (Ak a_0.Aa.Bn), one (AJ a_0.AZ)])] [] (fun _ => []) (AJ r) := by
  refine AR.intro 51 Tryd.func7 rfl Tryd.ntmps7 (Nat.le_of_ble_eq_true rfl) ?_
  intro c a w hG hn h
  unfold B0 at hF
  change AX c [.slot 0 (Cs [one (Ab .u32 a_0.B4), one (Ab .u64 a_0.Ae.AO), one (Ab .u64 a_0.Ae.Bc), one (Ab .u64 a_0.Ae.Bq), one (Ah Ao.ck a_0.Ae.Ap), one (Ah An.ck a_0.Ae.AD), one (Ah Av.ck a_0.As.Au), one (Ah Aq.ck a_0.As.Am), one (Ab .u32 a_0.Ad.Az), Af 32 a_0.Ad.Ar, one (Ab .u32 a_0.Ad.AI.AY), Bd 32 32 (dC 32) (AV 32) a_0.Ad.AI.AH, one (Ah (dC 32) a_0.Ad.AP), one (Ah (dC 32) a_0.Ad.AW), Af 32 a_0.Ad.Ai, one (Ah Ay.ck a_0.Ad.AQ), one (Ab .u64 a_0.Ad.Be), one (Ak a_0.Ad.Aw), one (Ab .u32 a_0.Aa.Az), one (Ab .u32 a_0.Aa.A9), Af 32 a_0.Aa.Ar, one (Ah (dC 32) a_0.Aa.AF), one (Ab .u64 a_0.Aa.AN), Af 32 a_0.Aa.Ai, one (Ah Ax.ck a_0.Aa.AT), one (Ah At.ck a_0.Aa.AB), one (Ak a_0.Aa.Aw), one (Ak a_0.Aa.Bn), one (AJ a_0.AZ)])] a w at h
  refine AU mixed hn hG h [502, 501] (ob [0] (DR q0 (BF _)) <| ov [] (Al (C4 (sc _ (by decide)))) .nil) fun b1 a w h => ?_
  refine AU mixed hn hG h [0, 500, 1, 501] (ov [] (GD [] rfl MK Ml rfl) <| ob [500] (DR q0 (BF _)) <| og [501] [] [.slot 3 1 100000 (fun v1_ _ => (BH v1_ 0))] (fun {β} => (Bh.plain (Al (V := (BH (β 1) 0)) q0) rfl)) .nil) fun b2 a w h => ?_
  replace h := h.conv 3 rfl Kz
  replace h := h.Fz 1 rfl (fun _ _ h => Il h)
  replace h := h.sub [0, 1, 2, 3] (by rfl)
  change AX c [.slot 1 (BH (b1 0) 0), .slot 3 (A4 (b2 1)), .res (lb (b1 0) 46 [one (Ab .u32 a_0.B4), one (Ab .u64 a_0.Ae.AO), one (Ab .u64 a_0.Ae.Bc), one (Ab .u64 a_0.Ae.Bq), one (Ah Ao.ck a_0.Ae.Ap), one (Ah An.ck a_0.Ae.AD), one (Ah Av.ck a_0.As.Au), one (Ah Aq.ck a_0.As.Am), one (Ab .u32 a_0.Ad.Az), Af 32 a_0.Ad.Ar, one (Ab .u32 a_0.Ad.AI.AY), Bd 32 32 (dC 32) (AV 32) a_0.Ad.AI.AH, one (Ah (dC 32) a_0.Ad.AP), one (Ah (dC 32) a_0.Ad.AW), Af 32 a_0.Ad.Ai, one (Ah Ay.ck a_0.Ad.AQ), one (Ab .u64 a_0.Ad.Be), one (Ak a_0.Ad.Aw), one (Ab .u32 a_0.Aa.Az), one (Ab .u32 a_0.Aa.A9), Af 32 a_0.Aa.Ar, one (Ah (dC 32) a_0.Aa.AF), one (Ab .u64 a_0.Aa.AN), Af 32 a_0.Aa.Ai, one (Ah Ax.ck a_0.Aa.AT), one (Ah At.ck a_0.Aa.AB), one (Ak a_0.Aa.Aw), one (Ak a_0.Aa.Bn), one (AJ a_0.AZ)]), .res (BV (b2 1) (some ⟨[]⟩))] a w at h
  obtain ⟨r3, hr3, hF⟩ := bind_some hF
  obtain ⟨r4, hr4, hF⟩ := bind_some hF
  obtain ⟨r5, hr5, hF⟩ := bind_some hF
  obtain ⟨r6, hr6, hF⟩ := bind_some hF
  obtain ⟨r7, hr7, hF⟩ := bind_some hF
  refine AU mixed hn hG h [0, 1, 2, 500] (ov [1] (Aj q0) <| ov [0] (Ag (p := (b1 0)) (n := 1) 0 0 Tryd.underlying46 rfl Tryd.sizeOf22 (by decide) q0 rfl) <| ov [500, 2] (AA [] [one (Ab .u64 a_0.Ae.AO), one (Ab .u64 a_0.Ae.Bc), one (Ab .u64 a_0.Ae.Bq), one (Ah Ao.ck a_0.Ae.Ap), one (Ah An.ck a_0.Ae.AD), one (Ah Av.ck a_0.As.Au), one (Ah Aq.ck a_0.As.Am), one (Ab .u32 a_0.Ad.Az), Af 32 a_0.Ad.Ar, one (Ab .u32 a_0.Ad.AI.AY), Bd 32 32 (dC 32) (AV 32) a_0.Ad.AI.AH, one (Ah (dC 32) a_0.Ad.AP), one (Ah (dC 32) a_0.Ad.AW), Af 32 a_0.Ad.Ai, one (Ah Ay.ck a_0.Ad.AQ), one (Ab .u64 a_0.Ad.Be), one (Ak a_0.Ad.Aw), one (Ab .u32 a_0.Aa.Az), one (Ab .u32 a_0.Aa.A9), Af 32 a_0.Aa.Ar, one (Ah (dC 32) a_0.Aa.AF), one (Ab .u64 a_0.Aa.AN), Af 32 a_0.Aa.Ai, one (Ah Ax.ck a_0.Aa.AT), one (Ah At.ck a_0.Aa.AB), one (Ak a_0.Aa.Aw), one (Ak a_0.Aa.Bn), one (AJ a_0.AZ)] 1 Tryd.isAgg22 q0 rfl rfl) <| oc [500] [] Tryd.call18 (Dt hr3) ⟨q0, trivial⟩ <| ov [0] (Ag (p := (b1 0)) (n := 5) 0 1 Tryd.underlying46 rfl Tryd.sizeOf27 (by decide) q0 rfl) <| ov [500] (Ag (p := (b1 0)) (n := 1) 1 1 Tryd.underlying27 rfl Tryd.sizeOf23 (by decide) q0 rfl) <| ov [500, 2] (AA [one (Ab .u32 a_0.B4)] [one (Ab .u64 a_0.Ae.Bc), one (Ab .u64 a_0.Ae.Bq), one (Ah Ao.ck a_0.Ae.Ap), one (Ah An.ck a_0.Ae.AD), one (Ah Av.ck a_0.As.Au), one (Ah Aq.ck a_0.As.Am), one (Ab .u32 a_0.Ad.Az), Af 32 a_0.Ad.Ar, one (Ab .u32 a_0.Ad.AI.AY), Bd 32 32 (dC 32) (AV 32) a_0.Ad.AI.AH, one (Ah (dC 32) a_0.Ad.AP), one (Ah (dC 32) a_0.Ad.AW), Af 32 a_0.Ad.Ai, one (Ah Ay.ck a_0.Ad.AQ), one (Ab .u64 a_0.Ad.Be), one (Ak a_0.Ad.Aw), one (Ab .u32 a_0.Aa.Az), one (Ab .u32 a_0.Aa.A9), Af 32 a_0.Aa.Ar, one (Ah (dC 32) a_0.Aa.AF), one (Ab .u64 a_0.Aa.AN), Af 32 a_0.Aa.Ai, one (Ah Ax.ck a_0.Aa.AT), one (Ah At.ck a_0.Aa.AB), one (Ak a_0.Aa.Aw), one (Ak a_0.Aa.Bn), one (AJ a_0.AZ)] 1 Tryd.isAgg23 q0 rfl rfl) <| oc [500] [] Tryd.call19 (BP hr4) ⟨q0, trivial⟩ <| ov [0] (Ag (p := (b1 0)) (n := 5) 0 1 Tryd.underlying46 rfl Tryd.sizeOf27 (by decide) q0 rfl) <| ov [500] (Ag (p := (b1 0)) (n := 1) 1 2 Tryd.underlying27 rfl Tryd.sizeOf23 (by decide) q0 rfl) <| ov [500, 2] (AA [one (Ab .u32 a_0.B4), one (Ab .u64 a_0.Ae.AO)] [one (Ab .u64 a_0.Ae.Bq), one (Ah Ao.ck a_0.Ae.Ap), one (Ah An.ck a_0.Ae.AD), one (Ah Av.ck a_0.As.Au), one (Ah Aq.ck a_0.As.Am), one (Ab .u32 a_0.Ad.Az), Af 32 a_0.Ad.Ar, one (Ab .u32 a_0.Ad.AI.AY), Bd 32 32 (dC 32) (AV 32) a_0.Ad.AI.AH, one (Ah (dC 32) a_0.Ad.AP), one (Ah (dC 32) a_0.Ad.AW), Af 32 a_0.Ad.Ai, one (Ah Ay.ck a_0.Ad.AQ), one (Ab .u64 a_0.Ad.Be), one (Ak a_0.Ad.Aw), one (Ab .u32 a_0.Aa.Az), one (Ab .u32 a_0.Aa.A9), Af 32 a_0.Aa.Ar, one (Ah (dC 32) a_0.Aa.AF), one (Ab .u64 a_0.Aa.AN), Af 32 a_0.Aa.Ai, one (Ah Ax.ck a_0.Aa.AT), one (Ah At.ck a_0.Aa.AB), one (Ak a_0.Aa.Aw), one (Ak a_0.Aa.Bn), one (AJ a_0.AZ)] 1 Tryd.isAgg23 q0 rfl rfl) <| oc [500] [] Tryd.call19 (BP hr5) ⟨q0, trivial⟩ <| ov [0] (Ag (p := (b1 0)) (n := 5) 0 1 Tryd.underlying46 rfl Tryd.sizeOf27 (by decide) q0 rfl) <| ov [500] (Ag (p := (b1 0)) (n := 1) 1 3 Tryd.underlying27 rfl Tryd.sizeOf23 (by decide) q0 rfl) <| ov [500, 2] (AA [one (Ab .u32 a_0.B4), one (Ab .u64 a_0.Ae.AO), one (Ab .u64 a_0.Ae.Bc)] [one (Ah Ao.ck a_0.Ae.Ap), one (Ah An.ck a_0.Ae.AD), one (Ah Av.ck a_0.As.Au), one (Ah Aq.ck a_0.As.Am), one (Ab .u32 a_0.Ad.Az), Af 32 a_0.Ad.Ar, one (Ab .u32 a_0.Ad.AI.AY), Bd 32 32 (dC 32) (AV 32) a_0.Ad.AI.AH, one (Ah (dC 32) a_0.Ad.AP), one (Ah (dC 32) a_0.Ad.AW), Af 32 a_0.Ad.Ai, one (Ah Ay.ck a_0.Ad.AQ), one (Ab .u64 a_0.Ad.Be), one (Ak a_0.Ad.Aw), one (Ab .u32 a_0.Aa.Az), one (Ab .u32 a_0.Aa.A9), Af 32 a_0.Aa.Ar, one (Ah (dC 32) a_0.Aa.AF), one (Ab .u64 a_0.Aa.AN), Af 32 a_0.Aa.Ai, one (Ah Ax.ck a_0.Aa.AT), one (Ah At.ck a_0.Aa.AB), one (Ak a_0.Aa.Aw), one (Ak a_0.Aa.Bn), one (AJ a_0.AZ)] 1 Tryd.isAgg23 q0 rfl rfl) <| oc [500] [] Tryd.call19 (BP hr6) ⟨q0, trivial⟩ <| ov [512, 508, 504, 500] (EE (xs := [.const (.string ⟨#[99, 104, 97, 105, 110]⟩), .tmp 11, .const (.string ⟨#[104, 101, 105, 103, 104, 116]⟩), .tmp 15, .const (.string ⟨#[116, 105, 109, 101]⟩), .tmp 19, .const (.string ⟨#[103, 97, 115]⟩), .tmp 23]) (ys := [[99, 104, 97, 105, 110], r3, [104, 101, 105, 103, 104, 116], r4, [116, 105, 109, 101], r5, [103, 97, 115], r6]) _ rfl Tryd.underlying87 Tryd.sizeOf9 Tryd.zeroValue9 rfl rfl (by decide) (by decide) ⟨⟨_, (C4 (sc _ (by decide))), (A5 (Bm _))⟩, ⟨_, q0, (A5 (Bm _))⟩, ⟨_, (C4 (sc _ (by decide))), (A5 (Bm _))⟩, ⟨_, q1, (A5 (Bm _))⟩, ⟨_, (C4 (sc _ (by decide))), (A5 (Bm _))⟩, ⟨_, q2, (A5 (Bm _))⟩, ⟨_, (C4 (sc _ (by decide))), (A5 (Bm _))⟩, ⟨_, q3, (A5 (Bm _))⟩, trivial⟩ DM) <| oc [516, 500] [3] Tryd.call17 (B5 hr7) ⟨q0, q1, trivial⟩ .nil) fun _ a w h => ?_
  obtain ⟨r8, hr8, hF⟩ := bind_some hF
  refine AU mixed hn hG h [0, 1, 2, 500] (ov [1] (Aj q0) <| ov [0, 2] (DL 1 Tryd.isAgg46 Tryd.sizeOf46 q0 (hn := by simp only [Db, Da, one, Af, Bd, Cj])) <| oc [501, 500] [3] Tryd.call20 (EB hr8) ⟨q0, q1, trivial⟩ .nil) fun _ a w h => ?_
  obtain ⟨r9, hr9, hF⟩ := bind_some hF
  refine AU mixed hn hG h [0, 1, 2, 500] (ov [1] (Aj q0) <| ov [0, 2] (DL 1 Tryd.isAgg46 Tryd.sizeOf46 q0 (hn := by simp only [Db, Da, one, Af, Bd, Cj])) <| oc [501, 500] [3] Tryd.call21 (EC hr9) ⟨q0, q1, trivial⟩ .nil) fun _ a w h => ?_
  refine wp_seq ?_
  obtain ⟨r10, hr10, hF⟩ := bind_some hF
  refine AU mixed hn hG h [1, 502, 501, 500, 3] (ov [0] (Ag (p := (b1 0)) (n := 5) 0 1 Tryd.underlying46 rfl Tryd.sizeOf27 (by decide) q0 rfl) <| ov [500] (Ag (p := (b1 0)) (n := 1) 1 5 Tryd.underlying27 rfl Tryd.sizeOf25 (by decide) q0 rfl) <| ov [500, 2] (AA [one (Ab .u32 a_0.B4), one (Ab .u64 a_0.Ae.AO), one (Ab .u64 a_0.Ae.Bc), one (Ab .u64 a_0.Ae.Bq), one (Ah Ao.ck a_0.Ae.Ap)] [one (Ah Av.ck a_0.As.Au), one (Ah Aq.ck a_0.As.Am), one (Ab .u32 a_0.Ad.Az), Af 32 a_0.Ad.Ar, one (Ab .u32 a_0.Ad.AI.AY), Bd 32 32 (dC 32) (AV 32) a_0.Ad.AI.AH, one (Ah (dC 32) a_0.Ad.AP), one (Ah (dC 32) a_0.Ad.AW), Af 32 a_0.Ad.Ai, one (Ah Ay.ck a_0.Ad.AQ), one (Ab .u64 a_0.Ad.Be), one (Ak a_0.Ad.Aw), one (Ab .u32 a_0.Aa.Az), one (Ab .u32 a_0.Aa.A9), Af 32 a_0.Aa.Ar, one (Ah (dC 32) a_0.Aa.AF), one (Ab .u64 a_0.Aa.AN), Af 32 a_0.Aa.Ai, one (Ah Ax.ck a_0.Aa.AT), one (Ah At.ck a_0.Aa.AB), one (Ak a_0.Aa.Aw), one (Ak a_0.Aa.Bn), one (AJ a_0.AZ)] 1 Tryd.isAgg25 q0 rfl rfl) <| oc [500] [] Tryd.call22 (Ex hr10) ⟨q0, qi, trivial⟩ <| ov [500] (Ba Tryd.underlying25 q0) <| ov [] (Aj qi) .nil) fun _ a w h => ?_
  refine wp_block ?_
  obtain ⟨cr30, hl31, hF⟩ := bind_some hF
  refine wp_mono (CV (R := (List UInt8)) (S := Int × BJ) (fun s a w => AX c [.slot 3 (A4 (b2 1)), .slot 35 (Ah An.ck r10), .slot 36 (Ab .i64 (r10.length : Int)), .slot 37 (Ab .i64 s.1), .res (BV (b2 1) (some s.2))] a w) (fun res e a w => match res with | .next s => e = .exit 0 ∧ AX c [.slot 3 (A4 (b2 1)), .res (BV (b2 1) (some s.2))] a w | .ret r => e = .ret ∧ DW Tryd.prog Tryd.f7 c (AJ r) (fun _ => []) a w) ?_ _ (0, r9) _ _ _ (h.sub [0, 1, 2, 3, 4] (by rfl)) hl31) ?_
  · clear hl31 hF h
    intro s a w o h hF
    obtain ⟨x16, x17⟩ := s
    change B0.b1 r10 x16 x17 = some o at hF
    unfold B0.b1 at hF
    change AX c [.slot 3 (A4 (b2 1)), .slot 35 (Ah An.ck r10), .slot 36 (Ab .i64 (r10.length : Int)), .slot 37 (Ab .i64 x16), .res (BV (b2 1) (some x17))] a w at h
    refine AU mixed hn hG h [0, 1, 2, 3, 500, 4] (ov [3, 2] (AG Cg q0 q1) .nil) fun _ a w h => ?_
    refine wp_seq ?_
    refine Ea h hF 4 [0, 1, 2, 3, 5] [0, 1, 2, 3, 5] (fun hb25 hF h => ?_) (fun hb25 hF h => ?_)
    · refine wp_skip ?_
      show Code.wp Tryd.prog _ _ a w
      refine wp_seq ?_
      refine wp_block ?_
      obtain ⟨hv26, hF⟩ := A1 hF
      refine AU mixed hn hG h [0, 502, 1, 2, 3, 4, 500] (ov [1, 3] (B9 Tryd.underlying25 Tryd.sizeOf48 An.lens q0 q1 hv26) <| ov [500] (Dd [one (Ab .i64 ((r10.getD x16.toNat default).B6)), one (AJ ((r10.getD x16.toNat default).Bk)), one (Ab .u64 ((r10.getD x16.toNat default).B3)), Af 32 ((r10.getD x16.toNat default).Cm)] [] Tryd.isAgg48 Tryd.sizeOf48 q0 rfl) <| ob [] (CF Tryd.zeroValue48 MR) <| og [501, 502] [500] [.res 2 100000 (fun v1_ _ => (lb (v1_) 48 [one (Ab .i64 ((r10.getD x16.toNat default).B6)), one (AJ ((r10.getD x16.toNat default).Bk)), one (Ab .u64 ((r10.getD x16.toNat default).B3)), Af 32 ((r10.getD x16.toNat default).Cm)]))] (Bh.plain (CM Tryd.sizeOf48 q0 q1 (BF _)) rfl) .nil) fun b27 a w h => ?_
      obtain ⟨r28, hr28, hF⟩ := bind_some hF
      obtain ⟨r29, hr29, hF⟩ := bind_some hF
      refine Dm mixed hn hG h [0, 2, 3, 4, 500] (ov [0] (Aj q0) <| ov [1, 6] (DL 1 Tryd.isAgg48 Tryd.sizeOf48 q0) <| oc [500] [] Tryd.call9 (Gh hr28) ⟨q0, trivial⟩ <| ov [500] (EE (xs := [.tmp 43]) (ys := [r28]) _ rfl Tryd.underlying87 Tryd.sizeOf9 Tryd.zeroValue9 rfl rfl (by decide) (by decide) ⟨⟨_, q0, (A5 (Bm _))⟩, trivial⟩ DM) <| oc [503, 500] [5] Tryd.call17 (B5 hr29) ⟨q0, q1, trivial⟩ .nil) fun _ a w h => ?_
      show Code.wp Tryd.prog _ _ a w
      refine Dm mixed hn hG h [0, 1, 2, 500, 4] (ov [3] (AG BQ q0 qi) <| od [500] 3 (Aj q0) .nil) fun _ a w h => ?_
      obtain rfl := Option.some.inj hF
      exact ⟨rfl, h.sub [0, 1, 2, 3, 4] (by rfl)⟩
    · refine wp_exit ?_
      obtain rfl := Option.some.inj hF
      exact ⟨Dp _, rfl, h.sub [0, 4] (by rfl)⟩
  · clear hl31
    intro e a w hq
    cases cr30 with
    | ret r32 =>
      obtain ⟨rfl, hq⟩ := hq
      obtain rfl := Option.some.inj hF
      exact ⟨.inl rfl, hq⟩
    | next s33 =>
      obtain ⟨y34, y35⟩ := s33
      obtain ⟨rfl, h⟩ := hq
      change AX c [.slot 3 (A4 (b2 1)), .res (BV (b2 1) (some y35))] a w at h
      refine Cf ?_
      show Code.wp Tryd.prog _ _ a w
      obtain ⟨r36, hr36, hF⟩ := bind_some hF
      refine AU mixed hn hG h [500] (ov [0] (Aj q0) <| ov [500, 1] (FD 1 q0 rfl (fun Φ f w ⟨_, q⟩ => F4 Φ f w q)) <| ov [500, 1] (Fc (n := 2) 1 Tryd.underlying66 rfl rfl Tryd.sizeOf64 (by decide) q0 rfl (fun Φ f w ⟨_, q⟩ => F4 Φ f w q)) <| oc [500] [1] Tryd.call23 (Gj hr36) ⟨q0, trivial⟩ <| ov [500] (Al q0) .nil) fun _ a w h => ?_
      refine wp_ret ?_
      obtain rfl := Option.some.inj hF
      exact ⟨.inl rfl, Ci h Tryd.results7 (By 0 rfl) [] [] rfl rfl rfl⟩

def DP (a_0 : List UInt8) : Option Int := some (Lib.countByte a_0 10 : Int)
theorem DG {a_0 : List UInt8} {r : Int} (hF : DP a_0 = some r) : AR Tryd.prog KG 11 [(AJ a_0)] [] (fun _ => []) (Ab .i64 r) := by
  refine AR.intro 5 Tryd.func11 rfl Tryd.ntmps11 (Nat.le_of_ble_eq_true rfl) ?_
  intro c a w hG hn h
  unfold DP at hF
  change AX c [.slot 0 (AJ a_0)] a w at h
  refine AU mixed hn hG h [0] (ov [] (Al qi) .nil) fun _ a w h => ?_
  refine AU mixed hn hG h [500] (ov [0] (Aj q0) <| oc [500] [] Tryd.call30 JV ⟨q0, (C4 (sc _ (by decide))), trivial⟩ <| ov [500] (Al q0) .nil) fun _ a w h => ?_
  refine wp_ret ?_
  obtain rfl := Option.some.inj hF
  exact ⟨.inl rfl, Ci h Tryd.results11 (By 0 rfl) [] [] rfl rfl rfl⟩

def ED : Option (List UInt8) := some []
theorem Gg {r : (List UInt8)} (hF : ED = some r) : AR Tryd.prog KG 12 [(A4 (.pointer none))] [] (fun _ => []) (AJ r) := by
  refine AR.intro 56 Tryd.func12 rfl Tryd.ntmps12 (Nat.le_of_ble_eq_true rfl) ?_
  intro c a w hG hn h
  unfold ED at hF
  change AX c [.slot 0 (A4 (.pointer none))] a w at h
  refine AU mixed hn hG h [0] (ov [] (Al (C4 (sc _ (by decide)))) .nil) fun _ a w h => ?_
  refine wp_seq ?_
  refine AU mixed hn hG h [0, 500] (ov [0] (Aj q0) <| ov [500] (AG (JZ Tryd.underlying89) (HH q0) (C4 (ec _))) .nil) fun _ a w h => ?_
  refine Ir h 1 rfl (fun hb1 => ?_) (fun hb1 => ?_)
  · skip
    replace h := h.sel []
    refine AU mixed hn hG h [500] (ov [] (Al (C4 (sc _ (by decide)))) .nil) fun _ a w h => ?_
    refine wp_ret ?_
    obtain rfl := Option.some.inj hF
    exact ⟨.inl rfl, Ci h Tryd.results12 (By 0 rfl) [] [] rfl rfl rfl⟩
  · cases hb1

def CL.j1 (x4 : Bool) : Option Bool := some x4
def CL : Option Bool := ((B0 (AK.mk (0 : Int) (A7.mk (0 : Int) (0 : Int) (0 : Int) [] []) (Bf.mk [] []) (Bl.mk (0 : Int) (List.replicate 32 0) (Bo.mk (0 : Int) (List.replicate 32 (List.replicate 32 0))) [] [] (List.replicate 32 0) [] (0 : Int) false) (A6.mk (0 : Int) (0 : Int) (List.replicate 32 0) [] (0 : Int) (List.replicate 32 0) [] [] false false) [])).bind fun r1 => ((DP r1).bind fun r2 => (if (decide (r2 = (3 : Int))) = true then ((ED).bind fun r3 => CL.j1 (decide (r3 = []))) else CL.j1 false)))
theorem GH {r : Bool} (hF : CL = some r) : AR Tryd.prog KG 5 [] [] (fun _ => []) (Ak r) := by
  refine AR.intro 9 Tryd.func5 rfl Tryd.ntmps5 (Nat.le_of_ble_eq_true rfl) ?_
  intro c a w hG hn h
  unfold CL at hF
  change AX c [] a w at h
  refine AU mixed hn hG h [] (ov [] (Al qb) .nil) fun _ a w h => ?_
  refine wp_seq ?_
  obtain ⟨r1, hr1, hF⟩ := bind_some hF
  obtain ⟨r2, hr2, hF⟩ := bind_some hF
  refine CD (fun a w => ∃ (x4 : Bool), CL.j1 x4 = some r ∧ AX c [.slot 0 (Ak x4)] a w) ?_ ?_
  · rcases Bool.eq_false_or_eq_true (decide (r2 = (3 : Int))) with hb5 | hb5
    · replace hF := Dj hb5 hF
      obtain ⟨r3, hr3, hF⟩ := bind_some hF
      refine Dm mixed hn hG h [500] (ov [] (GD [] rfl L3 z46 rfl) <| oc [500] [] Tryd.call7 (D9 hr1) ⟨q0, trivial⟩ <| oc [500] [] Tryd.call11 (DG hr2) ⟨q0, trivial⟩ <| ov [500] (AG C0 q0 qi) <| ov [500] (Aj q0) <| oe [500] [] (Bh.A2 hb5 rfl rfl rfl (DH Tryd.call12 (Gg hr3) ⟨(C4 (ec _)), trivial⟩)) <| oe [501, 500] [] (Bh.A2 hb5 rfl rfl rfl (AG JY q0 (C4 (sc _ (by decide))))) <| ov [502, 500] (Br hb5 q0 q1) <| ov [500] (Al q0) .nil) fun _ a w h => ?_
      exact ⟨decide (r3 = []), hF, h.sub [0] (by rfl)⟩
    · replace hF := Dn hb5 hF
      refine Dm mixed hn hG h [500] (ov [] (GD [] rfl L3 z46 rfl) <| oc [500] [] Tryd.call7 (D9 hr1) ⟨q0, trivial⟩ <| oc [500] [] Tryd.call11 (DG hr2) ⟨q0, trivial⟩ <| ov [500] (AG C0 q0 qi) <| ov [500] (Aj q0) <| oe [500] [] (Bh.Bb (want := true) hb5 rfl rfl rfl rfl) <| oe [501] [] (Bh.Bb (want := true) hb5 rfl rfl rfl rfl) <| ov [502] (Bs hb5 q0 qb) <| ov [500] (Al q0) .nil) fun _ a w h => ?_
      exact ⟨false, hF, h.sub [0] (by rfl)⟩
  · clear h hF
    rintro a w ⟨x4, hF, h⟩
    unfold CL.j1 at hF
    show Code.wp Tryd.prog _ _ a w
    refine wp_ret ?_
    obtain rfl := Option.some.inj hF
    exact ⟨.inl rfl, Ci h Tryd.results5 (By 0 rfl) [] [] rfl rfl rfl⟩

def Bx.j1 (x7 : Int) (x17 : Bool) : Option (D2 Bool Int) := (if x17 = true then some (.ret false) else some (.cont (IntKind.wrap .i64 (x7 + 1))))
def Bx.b1 (a_0 : A7) (x7 : Int) : Option (D2 Bool Int) := (if (decide (x7 < (a_0.Ap.length : Int))) = true then (if (0 : Int) ≤ x7 ∧ x7 < a_0.Ap.length then (if (decide ((100 : Int) < (a_0.Ap.length : Int))) = true then Bx.j1 x7 true else Bx.j1 x7 (decide ((200 : Int) < (((a_0.Ap.getD x7.toNat default).Bk).length : Int)))) else none) else some (.brk x7))
def Bx.j2 (x25 : Bool) : Option Bool := some x25
def Bx (a_0 : A7) : Option Bool := ((Cr (fun s : Int => Bx.b1 a_0 s) (((a_0.Ap.length : Int) - 0 : Int).toNat + 2) 0).bind fun cr => match cr with | .ret r => some r | .next y24 => (if (decide ((a_0.AD.length : Int) ≤ (200 : Int))) = true then Bx.j2 true else (if (decide ((4094 : Int) ≤ (a_0.AD.length : Int))) = true then Bx.j2 (decide ((a_0.AD.length : Int) ≤ (4100 : Int))) else Bx.j2 false)))
theorem DS {a_0 : A7} {r : Bool} (hF : Bx a_0 = some r) : AR Tryd.prog KG 13 [(Cs [one (Ab .u64 a_0.AO), one (Ab .u64 a_0.Bc), one (Ab .u64 a_0.Bq), one (Ah Ao.ck a_0.Ap), one (Ah An.ck a_0.AD)])] [] (fun _ => []) (Ak r) := by
  refine AR.intro 39 Tryd.func13 rfl Tryd.ntmps13 (Nat.le_of_ble_eq_true rfl) ?_
  intro c a w hG hn h
  unfold Bx at hF
  change AX c [.slot 0 (Cs [one (Ab .u64 a_0.AO), one (Ab .u64 a_0.Bc), one (Ab .u64 a_0.Bq), one (Ah Ao.ck a_0.Ap), one (Ah An.ck a_0.AD)])] a w at h
  refine AU mixed hn hG h [502, 501] (ob [0] (DR q0 (BF _)) <| ov [] (Al qb) .nil) fun b1 a w h => ?_
  refine wp_seq ?_
  refine AU mixed hn hG h [0, 502, 501, 500, 1] (ov [0] (Ag (p := (b1 0)) (n := 1) 0 3 Tryd.underlying27 rfl Tryd.sizeOf24 (by decide) q0 rfl) <| ov [500, 1] (AA [one (Ab .u64 a_0.AO), one (Ab .u64 a_0.Bc), one (Ab .u64 a_0.Bq)] [one (Ah An.ck a_0.AD)] 1 Tryd.isAgg24 q0 rfl rfl) <| ov [500] (Ba Tryd.underlying24 q0) <| ov [] (Aj qi) .nil) fun _ a w h => ?_
  refine wp_block ?_
  obtain ⟨cr20, hl21, hF⟩ := bind_some hF
  refine wp_mono (CV (R := Bool) (S := Int) (fun s a w => AX c [.slot 1 (BH (b1 0) 0), .slot 6 (Ah Ao.ck a_0.Ap), .slot 7 (Ab .i64 (a_0.Ap.length : Int)), .slot 8 (Ab .i64 s), .res (lb (b1 0) 27 [one (Ab .u64 a_0.AO), one (Ab .u64 a_0.Bc), one (Ab .u64 a_0.Bq), one (Ah Ao.ck a_0.Ap), one (Ah An.ck a_0.AD)])] a w) (fun res e a w => match res with | .next s => e = .exit 0 ∧ AX c [.slot 1 (BH (b1 0) 0), .res (lb (b1 0) 27 [one (Ab .u64 a_0.AO), one (Ab .u64 a_0.Bc), one (Ab .u64 a_0.Bq), one (Ah Ao.ck a_0.Ap), one (Ah An.ck a_0.AD)])] a w | .ret r => e = .ret ∧ DW Tryd.prog Tryd.f13 c (Ak r) (fun _ => []) a w) ?_ _ 0 _ _ _ (h.sub [0, 1, 2, 3, 4] (by rfl)) hl21) ?_
  · clear hl21 hF h
    intro x7 a w o h hF
    change Bx.b1 a_0 x7 = some o at hF
    unfold Bx.b1 at hF
    change AX c [.slot 1 (BH (b1 0) 0), .slot 6 (Ah Ao.ck a_0.Ap), .slot 7 (Ab .i64 (a_0.Ap.length : Int)), .slot 8 (Ab .i64 x7), .res (lb (b1 0) 27 [one (Ab .u64 a_0.AO), one (Ab .u64 a_0.Bc), one (Ab .u64 a_0.Bq), one (Ah Ao.ck a_0.Ap), one (Ah An.ck a_0.AD)])] a w at h
    refine AU mixed hn hG h [0, 1, 2, 3, 500, 4] (ov [3, 2] (AG Cg q0 q1) .nil) fun _ a w h => ?_
    refine wp_seq ?_
    refine Ea h hF 4 [0, 1, 2, 3, 5] [0, 1, 2, 3, 5] (fun hb14 hF h => ?_) (fun hb14 hF h => ?_)
    · refine wp_skip ?_
      show Code.wp Tryd.prog _ _ a w
      refine wp_seq ?_
      refine wp_block ?_
      obtain ⟨hv15, hF⟩ := A1 hF
      refine AU mixed hn hG h [0, 502, 1, 2, 3, 4, 500] (ov [1, 3] (B9 Tryd.underlying24 Tryd.sizeOf74 Ao.lens q0 q1 hv15) <| ov [500] (Dd [one (AJ ((a_0.Ap.getD x7.toNat default).Bk)), Af 32 ((a_0.Ap.getD x7.toNat default).E6), one (Ab .u64 ((a_0.Ap.getD x7.toNat default).Dw)), one (Ab .u64 ((a_0.Ap.getD x7.toNat default).Dx))] [] Tryd.isAgg74 Tryd.sizeOf74 q0 rfl) <| ob [] (CF Tryd.zeroValue74 MQ) <| og [501, 502] [500] [.res 2 100000 (fun v1_ _ => (lb (v1_) 74 [one (AJ ((a_0.Ap.getD x7.toNat default).Bk)), Af 32 ((a_0.Ap.getD x7.toNat default).E6), one (Ab .u64 ((a_0.Ap.getD x7.toNat default).Dw)), one (Ab .u64 ((a_0.Ap.getD x7.toNat default).Dx))]))] (Bh.plain (CM Tryd.sizeOf74 q0 q1 (BF _)) rfl) .nil) fun b16 a w h => ?_
      refine wp_seq ?_
      refine CD (fun a w => ∃ (x17 : Bool), Bx.j1 x7 x17 = some o ∧ AX c [.slot 1 (BH (b1 0) 0), .slot 6 (Ah Ao.ck a_0.Ap), .slot 7 (Ab .i64 (a_0.Ap.length : Int)), .slot 8 (Ab .i64 x7), .slot 21 (Ak x17), .res (lb (b1 0) 27 [one (Ab .u64 a_0.AO), one (Ab .u64 a_0.Bc), one (Ab .u64 a_0.Bq), one (Ah Ao.ck a_0.Ap), one (Ah An.ck a_0.AD)])] a w) ?_ ?_
      · rcases Bool.eq_false_or_eq_true (decide ((100 : Int) < (a_0.Ap.length : Int))) with hb19 | hb19
        · replace hF := Dj hb19 hF
          refine Dm mixed hn hG h [0, 2, 3, 4, 500, 5] (ov [0] (Ag (p := (b1 0)) (n := 1) 0 3 Tryd.underlying27 rfl Tryd.sizeOf24 (by decide) q0 rfl) <| ov [500, 5] (AA [one (Ab .u64 a_0.AO), one (Ab .u64 a_0.Bc), one (Ab .u64 a_0.Bq)] [one (Ah An.ck a_0.AD)] 1 Tryd.isAgg24 q0 rfl rfl) <| ov [500] (Ba Tryd.underlying24 q0) <| ov [500] (AG C5 q0 qi) <| ov [500] (Aj q0) <| oe [500] [] (Bh.Bb (want := false) hb19 rfl rfl rfl rfl) <| oe [501] [] (Bh.Bb (want := false) hb19 rfl rfl rfl rfl) <| oe [502] [] (Bh.Bb (want := false) hb19 rfl rfl rfl rfl) <| oe [503] [] (Bh.Bb (want := false) hb19 rfl rfl rfl rfl) <| ov [504] (Br hb19 q0 qb) .nil) fun _ a w h => ?_
          exact ⟨true, hF, h.sub [0, 1, 2, 3, 4, 5] (by rfl)⟩
        · replace hF := Dn hb19 hF
          refine Dm mixed hn hG h [0, 2, 3, 4, 500, 5] (ov [0] (Ag (p := (b1 0)) (n := 1) 0 3 Tryd.underlying27 rfl Tryd.sizeOf24 (by decide) q0 rfl) <| ov [500, 5] (AA [one (Ab .u64 a_0.AO), one (Ab .u64 a_0.Bc), one (Ab .u64 a_0.Bq)] [one (Ah An.ck a_0.AD)] 1 Tryd.isAgg24 q0 rfl rfl) <| ov [500] (Ba Tryd.underlying24 q0) <| ov [500] (AG C5 q0 qi) <| ov [500] (Aj q0) <| oe [500, 1] [] (Bh.A2 hb19 rfl rfl rfl (Ag (p := (b16 2)) (n := 1) 0 0 Tryd.underlying74 rfl Tryd.sizeOf9 (by decide) q0 rfl)) <| oe [501, 500, 6] [] (Bh.A2 hb19 rfl rfl rfl (AA [] [Af 32 ((a_0.Ap.getD x7.toNat default).E6), one (Ab .u64 ((a_0.Ap.getD x7.toNat default).Dw)), one (Ab .u64 ((a_0.Ap.getD x7.toNat default).Dx))] 1 Tryd.isAgg9 q0 rfl rfl)) <| oe [502, 500] [] (Bh.A2 hb19 rfl rfl rfl (CN Tryd.underlying9 q0)) <| oe [503, 500] [] (Bh.A2 hb19 rfl rfl rfl (AG C5 q0 qi)) <| ov [504, 500] (Bs hb19 q0 q1) .nil) fun _ a w h => ?_
          exact ⟨decide ((200 : Int) < (((a_0.Ap.getD x7.toNat default).Bk).length : Int)), hF, h.sub [0, 1, 2, 3, 4, 5] (by rfl)⟩
      · clear h hF
        rintro a w ⟨x17, hF, h⟩
        unfold Bx.j1 at hF
        show Code.wp Tryd.prog _ _ a w
        refine Ea h hF 4 [] [0, 1, 2, 3, 5] (fun hb18 hF h => ?_) (fun hb18 hF h => ?_)
        · refine AU mixed hn hG h [500] (ov [] (Al qb) .nil) fun _ a w h => ?_
          refine wp_ret ?_
          obtain rfl := Option.some.inj hF
          exact ⟨Gz, rfl, Ci h Tryd.results13 (By 0 rfl) [] [] rfl rfl rfl⟩
        · refine wp_skip ?_
          show Code.wp Tryd.prog _ _ a w
          refine Dm mixed hn hG h [0, 1, 2, 500, 4] (ov [3] (AG BQ q0 qi) <| od [500] 3 (Aj q0) .nil) fun _ a w h => ?_
          obtain rfl := Option.some.inj hF
          exact ⟨rfl, h.sub [0, 1, 2, 3, 4] (by rfl)⟩
    · refine wp_exit ?_
      obtain rfl := Option.some.inj hF
      exact ⟨Dp _, rfl, h.sub [0, 4] (by rfl)⟩
  · clear hl21
    intro e a w hq
    cases cr20 with
    | ret r22 =>
      obtain ⟨rfl, hq⟩ := hq
      obtain rfl := Option.some.inj hF
      exact ⟨.inl rfl, hq⟩
    | next y24 =>
      obtain ⟨rfl, h⟩ := hq
      change AX c [.slot 1 (BH (b1 0) 0), .res (lb (b1 0) 27 [one (Ab .u64 a_0.AO), one (Ab .u64 a_0.Bc), one (Ab .u64 a_0.Bq), one (Ah Ao.ck a_0.Ap), one (Ah An.ck a_0.AD)])] a w at h
      refine Cf ?_
      show Code.wp Tryd.prog _ _ a w
      refine wp_seq ?_
      refine CD (fun a w => ∃ (x25 : Bool), Bx.j2 x25 = some r ∧ AX c [.slot 2 (Ak x25)] a w) ?_ ?_
      · rcases Bool.eq_false_or_eq_true (decide ((a_0.AD.length : Int) ≤ (200 : Int))) with hb26 | hb26
        · replace hF := Dj hb26 hF
          refine Dm mixed hn hG h [500] (ov [0] (Ag (p := (b1 0)) (n := 1) 0 4 Tryd.underlying27 rfl Tryd.sizeOf25 (by decide) q0 rfl) <| ov [500, 1] (AA [one (Ab .u64 a_0.AO), one (Ab .u64 a_0.Bc), one (Ab .u64 a_0.Bq), one (Ah Ao.ck a_0.Ap)] [] 1 Tryd.isAgg25 q0 rfl rfl) <| ov [500] (Ba Tryd.underlying25 q0) <| ov [500] (AG Cu q0 qi) <| ov [500] (Aj q0) <| oe [500] [] (Bh.Bb (want := false) hb26 rfl rfl rfl rfl) <| oe [501] [] (Bh.Bb (want := false) hb26 rfl rfl rfl rfl) <| oe [502] [] (Bh.Bb (want := false) hb26 rfl rfl rfl rfl) <| oe [503] [] (Bh.Bb (want := false) hb26 rfl rfl rfl rfl) <| oe [504] [] (Bh.Bb (want := false) hb26 rfl rfl rfl rfl) <| oe [500] [] (Bh.F9 rfl rfl rfl rfl) <| oe [501] [] (Bh.F9 rfl rfl rfl rfl) <| oe [502] [] (Bh.F9 rfl rfl rfl rfl) <| oe [503] [] (Bh.F9 rfl rfl rfl rfl) <| oe [509] [] (Bh.Bb (want := false) hb26 rfl rfl rfl rfl) <| ov [510] (Br hb26 q0 qb) <| ov [500] (Al q0) .nil) fun _ a w h => ?_
          exact ⟨true, hF, h.sub [0] (by rfl)⟩
        · replace hF := Dn hb26 hF
          rcases Bool.eq_false_or_eq_true (decide ((4094 : Int) ≤ (a_0.AD.length : Int))) with hb27 | hb27
          · replace hF := Dj hb27 hF
            refine Dm mixed hn hG h [500] (ov [0] (Ag (p := (b1 0)) (n := 1) 0 4 Tryd.underlying27 rfl Tryd.sizeOf25 (by decide) q0 rfl) <| ov [500, 1] (AA [one (Ab .u64 a_0.AO), one (Ab .u64 a_0.Bc), one (Ab .u64 a_0.Bq), one (Ah Ao.ck a_0.Ap)] [] 1 Tryd.isAgg25 q0 rfl rfl) <| ov [500] (Ba Tryd.underlying25 q0) <| ov [500] (AG Cu q0 qi) <| ov [500] (Aj q0) <| oe [500, 0] [] (Bh.A2 hb26 rfl rfl rfl (Ag (p := (b1 0)) (n := 1) 0 4 Tryd.underlying27 rfl Tryd.sizeOf25 (by decide) q0 rfl)) <| oe [501, 500, 1] [] (Bh.A2 hb26 rfl rfl rfl (AA [one (Ab .u64 a_0.AO), one (Ab .u64 a_0.Bc), one (Ab .u64 a_0.Bq), one (Ah Ao.ck a_0.Ap)] [] 1 Tryd.isAgg25 q0 rfl rfl)) <| oe [502, 500] [] (Bh.A2 hb26 rfl rfl rfl (Ba Tryd.underlying25 q0)) <| oe [503, 500] [] (Bh.A2 hb26 rfl rfl rfl (AG D3 q0 qi)) <| oe [504, 500] [] (Bh.A2 hb26 rfl rfl rfl (Aj q0)) <| oe [500, 0] [] (Bh.A2 hb27 rfl rfl rfl (Ag (p := (b1 0)) (n := 1) 0 4 Tryd.underlying27 rfl Tryd.sizeOf25 (by decide) q0 rfl)) <| oe [501, 500, 1] [] (Bh.A2 hb27 rfl rfl rfl (AA [one (Ab .u64 a_0.AO), one (Ab .u64 a_0.Bc), one (Ab .u64 a_0.Bq), one (Ah Ao.ck a_0.Ap)] [] 1 Tryd.isAgg25 q0 rfl rfl)) <| oe [502, 500] [] (Bh.A2 hb27 rfl rfl rfl (Ba Tryd.underlying25 q0)) <| oe [503, 500] [] (Bh.A2 hb27 rfl rfl rfl (AG Cu q0 qi)) <| oe [509, 504, 500] [] (Bh.A2 hb26 rfl rfl rfl (Br hb27 q0 q1)) <| ov [510, 500] (Bs hb26 q0 q1) <| ov [500] (Al q0) .nil) fun _ a w h => ?_
            exact ⟨decide ((a_0.AD.length : Int) ≤ (4100 : Int)), hF, h.sub [0] (by rfl)⟩
          · replace hF := Dn hb27 hF
            refine Dm mixed hn hG h [500] (ov [0] (Ag (p := (b1 0)) (n := 1) 0 4 Tryd.underlying27 rfl Tryd.sizeOf25 (by decide) q0 rfl) <| ov [500, 1] (AA [one (Ab .u64 a_0.AO), one (Ab .u64 a_0.Bc), one (Ab .u64 a_0.Bq), one (Ah Ao.ck a_0.Ap)] [] 1 Tryd.isAgg25 q0 rfl rfl) <| ov [500] (Ba Tryd.underlying25 q0) <| ov [500] (AG Cu q0 qi) <| ov [500] (Aj q0) <| oe [500, 0] [] (Bh.A2 hb26 rfl rfl rfl (Ag (p := (b1 0)) (n := 1) 0 4 Tryd.underlying27 rfl Tryd.sizeOf25 (by decide) q0 rfl)) <| oe [501, 500, 1] [] (Bh.A2 hb26 rfl rfl rfl (AA [one (Ab .u64 a_0.AO), one (Ab .u64 a_0.Bc), one (Ab .u64 a_0.Bq), one (Ah Ao.ck a_0.Ap)] [] 1 Tryd.isAgg25 q0 rfl rfl)) <| oe [502, 500] [] (Bh.A2 hb26 rfl rfl rfl (Ba Tryd.underlying25 q0)) <| oe [503, 500] [] (Bh.A2 hb26 rfl rfl rfl (AG D3 q0 qi)) <| oe [504, 500] [] (Bh.A2 hb26 rfl rfl rfl (Aj q0)) <| oe [500] [] (Bh.Bb (want := true) hb27 rfl rfl rfl rfl) <| oe [501] [] (Bh.Bb (want := true) hb27 rfl rfl rfl rfl) <| oe [502] [] (Bh.Bb (want := true) hb27 rfl rfl rfl rfl) <| oe [503] [] (Bh.Bb (want := true) hb27 rfl rfl rfl rfl) <| oe [509, 504] [] (Bh.A2 hb26 rfl rfl rfl (Bs hb27 q0 qb)) <| ov [510, 500] (Bs hb26 q0 q1) <| ov [500] (Al q0) .nil) fun _ a w h => ?_
            exact ⟨false, hF, h.sub [0] (by rfl)⟩
      · clear h hF
        rintro a w ⟨x25, hF, h⟩
        unfold Bx.j2 at hF
        show Code.wp Tryd.prog _ _ a w
        refine wp_ret ?_
        obtain rfl := Option.some.inj hF
        exact ⟨.inl rfl, Ci h Tryd.results13 (By 0 rfl) [] [] rfl rfl rfl⟩
end Go.Proofs.YtemnhknjphjpnaaDoor
