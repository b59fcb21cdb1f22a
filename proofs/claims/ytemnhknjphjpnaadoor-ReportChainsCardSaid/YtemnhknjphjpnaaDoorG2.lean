/- The functions' Lean twins and contracts, printed by this session's own program: part 2. -/
import Derived.Test.YtemnhknjphjpnaaDoorG1
namespace Go.Proofs.YtemnhknjphjpnaaDoor
open Go Go.RowKit Go.Proofs
set_option maxRecDepth 100000
set_option maxHeartbeats 4000000
set_option linter.unusedVariables false
set_option linter.unusedSimpArgs false
def DC (a_0 : Int) : Option (List UInt8) := (if (decide (a_0 < (10 : Int))) = true then (if (0 : Int) ≤ a_0 ∧ a_0 ≤ IntKind.wrap .i64 (a_0 + 1) ∧ IntKind.wrap .i64 (a_0 + 1) ≤ ([48, 49, 50, 51, 52, 53, 54, 55, 56, 57, 97, 98, 99, 100, 101, 102, 103, 104, 105, 106, 107, 108, 109, 110, 111, 112, 113, 114, 115, 116, 117, 118, 119, 120, 121, 122] : List UInt8).length then some ((([48, 49, 50, 51, 52, 53, 54, 55, 56, 57, 97, 98, 99, 100, 101, 102, 103, 104, 105, 106, 107, 108, 109, 110, 111, 112, 113, 114, 115, 116, 117, 118, 119, 120, 121, 122] : List UInt8).take (IntKind.wrap .i64 (a_0 + 1)).toNat).drop a_0.toNat) else none) else (if (0 : Int) ≤ IntKind.wrap .i64 (a_0 * 2) ∧ IntKind.wrap .i64 (a_0 * 2) ≤ IntKind.wrap .i64 ((IntKind.wrap .i64 (a_0 * 2)) + 2) ∧ IntKind.wrap .i64 ((IntKind.wrap .i64 (a_0 * 2)) + 2) ≤ ([48, 48, 48, 49, 48, 50, 48, 51, 48, 52, 48, 53, 48, 54, 48, 55, 48, 56, 48, 57, 49, 48, 49, 49, 49, 50, 49, 51, 49, 52, 49, 53, 49, 54, 49, 55, 49, 56, 49, 57, 50, 48, 50, 49, 50, 50, 50, 51, 50, 52, 50, 53, 50, 54, 50, 55, 50, 56, 50, 57, 51, 48, 51, 49, 51, 50, 51, 51, 51, 52, 51, 53, 51, 54, 51, 55, 51, 56, 51, 57, 52, 48, 52, 49, 52, 50, 52, 51, 52, 52, 52, 53, 52, 54, 52, 55, 52, 56, 52, 57, 53, 48, 53, 49, 53, 50, 53, 51, 53, 52, 53, 53, 53, 54, 53, 55, 53, 56, 53, 57, 54, 48, 54, 49, 54, 50, 54, 51, 54, 52, 54, 53, 54, 54, 54, 55, 54, 56, 54, 57, 55, 48, 55, 49, 55, 50, 55, 51, 55, 52, 55, 53, 55, 54, 55, 55, 55, 56, 55, 57, 56, 48, 56, 49, 56, 50, 56, 51, 56, 52, 56, 53, 56, 54, 56, 55, 56, 56, 56, 57, 57, 48, 57, 49, 57, 50, 57, 51, 57, 52, 57, 53, 57, 54, 57, 55, 57, 56, 57, 57] : List UInt8).length then some ((([48, 48, 48, 49, 48, 50, 48, 51, 48, 52, 48, 53, 48, 54, 48, 55, 48, 56, 48, 57, 49, 48, 49, 49, 49, 50, 49, 51, 49, 52, 49, 53, 49, 54, 49, 55, 49, 56, 49, 57, 50, 48, 50, 49, 50, 50, 50, 51, 50, 52, 50, 53, 50, 54, 50, 55, 50, 56, 50, 57, 51, 48, 51, 49, 51, 50, 51, 51, 51, 52, 51, 53, 51, 54, 51, 55, 51, 56, 51, 57, 52, 48, 52, 49, 52, 50, 52, 51, 52, 52, 52, 53, 52, 54, 52, 55, 52, 56, 52, 57, 53, 48, 53, 49, 53, 50, 53, 51, 53, 52, 53, 53, 53, 54, 53, 55, 53, 56, 53, 57, 54, 48, 54, 49, 54, 50, 54, 51, 54, 52, 54, 53, 54, 54, 54, 55, 54, 56, 54, 57, 55, 48, 55, 49, 55, 50, 55, 51, 55, 52, 55, 53, 55, 54, 55, 55, 55, 56, 55, 57, 56, 48, 56, 49, 56, 50, 56, 51, 56, 52, 56, 53, 56, 54, 56, 55, 56, 56, 56, 57, 57, 48, 57, 49, 57, 50, 57, 51, 57, 52, 57, 53, 57, 54, 57, 55, 57, 56, 57, 57] : List UInt8).take (IntKind.wrap .i64 ((IntKind.wrap .i64 (a_0 * 2)) + 2)).toNat).drop (IntKind.wrap .i64 (a_0 * 2)).toNat) else none))
theorem E9 {a_0 : Int} {r : (List UInt8)} (hF : DC a_0 = some r) : AX Tryd.prog KG 63 [(Ab .i64 a_0)] [] (fun _ => []) (AF r) := by
  refine AX.intro 15 Tryd.func63 rfl Tryd.ntmps63 (Nat.le_of_ble_eq_true rfl) ?_
  intro c a w hG hn h
  unfold DC at hF
  change A0 c [.slot 0 (Ab .i64 a_0)] a w at h
  refine AU mixed hn hG h [0] (ov [] (Ak (B9 (sc _ (by decide)))) .nil) fun _ a w h => ?_
  refine wp_seq ?_
  refine AU mixed hn hG h [0, 500] (ov [0] (Ag q0) <| ov [500] (Ax B6 q0 qi) .nil) fun _ a w h => ?_
  refine DN h hF 1 [0] [0] (fun hb1 hF h => ?_) (fun hb1 hF h => ?_)
  · obtain ⟨hv2, hF⟩ := AH hF
    refine AU mixed hn hG h [500] (ov [0] (Ag q0) <| ov [0] (Ag q0) <| ov [500] (Ax BC q0 qi) <| ov [502, 500] (Dg (a := a_0) (b := IntKind.wrap .i64 (a_0 + 1)) Tryd.underlying9 (B9 (sc _ (by decide))) ⟨_, q0⟩ ⟨_, q1⟩ hv2) <| ov [500] (Ak q0) .nil) fun _ a w h => ?_
    refine wp_ret ?_
    obtain rfl := Option.some.inj hF
    exact ⟨.inl rfl, Cv h Tryd.results63 (By 0 rfl) [] [] rfl rfl rfl⟩
  · refine wp_skip ?_
    show Code.wp Tryd.prog _ _ a w
    obtain ⟨hv3, hF⟩ := AH hF
    refine AU mixed hn hG h [500] (ov [0] (Ag q0) <| ov [500] (Ax FZ q0 qi) <| ov [0] (Ag q0) <| ov [500] (Ax FZ q0 qi) <| ov [500] (Ax BC q0 qi) <| ov [503, 500] (Dg (a := IntKind.wrap .i64 (a_0 * 2)) (b := IntKind.wrap .i64 ((IntKind.wrap .i64 (a_0 * 2)) + 2)) Tryd.underlying9 (B9 (sc _ (by decide))) ⟨_, q0⟩ ⟨_, q1⟩ hv3) <| ov [500] (Ak q0) .nil) fun _ a w h => ?_
    refine wp_ret ?_
    obtain rfl := Option.some.inj hF
    exact ⟨.inl rfl, Cv h Tryd.results63 (By 0 rfl) [] [] rfl rfl rfl⟩

def DW (a_0 : Int) : Option Int := some (shr .i64 (IntKind.wrap .i64 (a_0 * 78913)) 18)
theorem FF {a_0 : Int} {r : Int} (hF : DW a_0 = some r) : AX Tryd.prog KG 76 [(Ab .i64 a_0)] [] (fun _ => []) (Ab .i64 r) := by
  refine AX.intro 6 Tryd.func76 rfl Tryd.ntmps76 (Nat.le_of_ble_eq_true rfl) ?_
  intro c a w hG hn h
  unfold DW at hF
  change A0 c [.slot 0 (Ab .i64 a_0)] a w at h
  refine AU mixed hn hG h [0] (ov [] (Ak qi) .nil) fun _ a w h => ?_
  refine AU mixed hn hG h [500] (ov [0] (Ag q0) <| ov [500] (Ax FZ q0 qi) <| ov [500] (Ax (EW rfl) q0 qi) <| ov [500] (Ak q0) .nil) fun _ a w h => ?_
  refine wp_ret ?_
  obtain rfl := Option.some.inj hF
  exact ⟨.inl rfl, Cv h Tryd.results76 (By 0 rfl) [] [] rfl rfl rfl⟩

def bits_Len64.j3 (x5 : Int) (x6 : Int) : Option Int := (if (0 : Int) ≤ IntKind.wrap .u8 x5 ∧ IntKind.wrap .u8 x5 < ([0, 1, 2, 2, 3, 3, 3, 3, 4, 4, 4, 4, 4, 4, 4, 4, 5, 5, 5, 5, 5, 5, 5, 5, 5, 5, 5, 5, 5, 5, 5, 5, 6, 6, 6, 6, 6, 6, 6, 6, 6, 6, 6, 6, 6, 6, 6, 6, 6, 6, 6, 6, 6, 6, 6, 6, 6, 6, 6, 6, 6, 6, 6, 6, 7, 7, 7, 7, 7, 7, 7, 7, 7, 7, 7, 7, 7, 7, 7, 7, 7, 7, 7, 7, 7, 7, 7, 7, 7, 7, 7, 7, 7, 7, 7, 7, 7, 7, 7, 7, 7, 7, 7, 7, 7, 7, 7, 7, 7, 7, 7, 7, 7, 7, 7, 7, 7, 7, 7, 7, 7, 7, 7, 7, 7, 7, 7, 7, 8, 8, 8, 8, 8, 8, 8, 8, 8, 8, 8, 8, 8, 8, 8, 8, 8, 8, 8, 8, 8, 8, 8, 8, 8, 8, 8, 8, 8, 8, 8, 8, 8, 8, 8, 8, 8, 8, 8, 8, 8, 8, 8, 8, 8, 8, 8, 8, 8, 8, 8, 8, 8, 8, 8, 8, 8, 8, 8, 8, 8, 8, 8, 8, 8, 8, 8, 8, 8, 8, 8, 8, 8, 8, 8, 8, 8, 8, 8, 8, 8, 8, 8, 8, 8, 8, 8, 8, 8, 8, 8, 8, 8, 8, 8, 8, 8, 8, 8, 8, 8, 8, 8, 8, 8, 8, 8, 8, 8, 8, 8, 8, 8, 8, 8, 8, 8, 8, 8, 8, 8, 8, 8, 8, 8, 8, 8, 8] : List UInt8).length then some (IntKind.wrap .i64 (x6 + (IntKind.wrap .i64 ((([0, 1, 2, 2, 3, 3, 3, 3, 4, 4, 4, 4, 4, 4, 4, 4, 5, 5, 5, 5, 5, 5, 5, 5, 5, 5, 5, 5, 5, 5, 5, 5, 6, 6, 6, 6, 6, 6, 6, 6, 6, 6, 6, 6, 6, 6, 6, 6, 6, 6, 6, 6, 6, 6, 6, 6, 6, 6, 6, 6, 6, 6, 6, 6, 7, 7, 7, 7, 7, 7, 7, 7, 7, 7, 7, 7, 7, 7, 7, 7, 7, 7, 7, 7, 7, 7, 7, 7, 7, 7, 7, 7, 7, 7, 7, 7, 7, 7, 7, 7, 7, 7, 7, 7, 7, 7, 7, 7, 7, 7, 7, 7, 7, 7, 7, 7, 7, 7, 7, 7, 7, 7, 7, 7, 7, 7, 7, 7, 8, 8, 8, 8, 8, 8, 8, 8, 8, 8, 8, 8, 8, 8, 8, 8, 8, 8, 8, 8, 8, 8, 8, 8, 8, 8, 8, 8, 8, 8, 8, 8, 8, 8, 8, 8, 8, 8, 8, 8, 8, 8, 8, 8, 8, 8, 8, 8, 8, 8, 8, 8, 8, 8, 8, 8, 8, 8, 8, 8, 8, 8, 8, 8, 8, 8, 8, 8, 8, 8, 8, 8, 8, 8, 8, 8, 8, 8, 8, 8, 8, 8, 8, 8, 8, 8, 8, 8, 8, 8, 8, 8, 8, 8, 8, 8, 8, 8, 8, 8, 8, 8, 8, 8, 8, 8, 8, 8, 8, 8, 8, 8, 8, 8, 8, 8, 8, 8, 8, 8, 8, 8, 8, 8, 8, 8, 8, 8] : List UInt8).getD (IntKind.wrap .u8 x5).toNat 0).toNat : Int)))) else none)
def bits_Len64.j2 (x3 : Int) (x4 : Int) : Option Int := (if (decide ((256 : Int) ≤ x3)) = true then bits_Len64.j3 (shr .u64 x3 8) (IntKind.wrap .i64 (x4 + 8)) else bits_Len64.j3 x3 x4)
def bits_Len64.j1 (x1 : Int) (x2 : Int) : Option Int := (if (decide ((65536 : Int) ≤ x1)) = true then bits_Len64.j2 (shr .u64 x1 16) (IntKind.wrap .i64 (x2 + 16)) else bits_Len64.j2 x1 x2)
def bits_Len64 (a_0 : Int) : Option Int := (if (decide ((4294967296 : Int) ≤ a_0)) = true then bits_Len64.j1 (shr .u64 a_0 32) 32 else bits_Len64.j1 a_0 0)
theorem HQ {a_0 : Int} {r : Int} (hF : bits_Len64 a_0 = some r) : AX Tryd.prog KG 77 [(Ab .u64 a_0)] [] (fun _ => []) (Ab .i64 r) := by
  refine AX.intro 25 Tryd.func77 rfl Tryd.ntmps77 (Nat.le_of_ble_eq_true rfl) ?_
  intro c a w hG hn h
  unfold bits_Len64 at hF
  change A0 c [.slot 0 (Ab .u64 a_0)] a w at h
  refine AU mixed hn hG h [0, 500] (ov [] (Ak qi) .nil) fun _ a w h => ?_
  refine wp_seq ?_
  refine AU mixed hn hG h [0, 1, 500] (ov [0] (Ag q0) <| ov [500] (Ax CW q0 qi) .nil) fun _ a w h => ?_
  refine BY (fun a w => ∃ (x1 : Int), ∃ (x2 : Int), bits_Len64.j1 x1 x2 = some r ∧ A0 c [.slot 0 (Ab .u64 x1), .slot 2 (Ab .i64 x2)] a w) ?_ ?_
  · refine DN h hF 2 [0] [0, 1] (fun hb10 hF h => ?_) (fun hb10 hF h => ?_)
    · refine AU mixed hn hG h [500] (ov [0] (Ag q0) <| ov [500] (Ax (EW rfl) q0 qi) <| od [500] 0 (Ak q0) .nil) fun _ a w h => ?_
      refine CK mixed hn hG h [0, 500] (ov [] (Ak qi) .nil) fun _ a w h => ?_
      exact ⟨shr .u64 a_0 32, 32, hF, h.sub [0, 1] (by rfl)⟩
    · refine wp_skip ?_
      exact ⟨a_0, 0, hF, h.sub [0, 1] (by rfl)⟩
  · clear h hF
    rintro a w ⟨x1, x2, hF, h⟩
    unfold bits_Len64.j1 at hF
    show Code.wp Tryd.prog _ _ a w
    refine wp_seq ?_
    refine AU mixed hn hG h [0, 1, 500] (ov [0] (Ag q0) <| ov [500] (Ax CW q0 qi) .nil) fun _ a w h => ?_
    refine BY (fun a w => ∃ (x3 : Int), ∃ (x4 : Int), bits_Len64.j2 x3 x4 = some r ∧ A0 c [.slot 0 (Ab .u64 x3), .slot 2 (Ab .i64 x4)] a w) ?_ ?_
    · refine DN h hF 2 [0, 1] [0, 1] (fun hb9 hF h => ?_) (fun hb9 hF h => ?_)
      · refine AU mixed hn hG h [500, 1] (ov [0] (Ag q0) <| ov [500] (Ax (EW rfl) q0 qi) <| od [500] 0 (Ak q0) .nil) fun _ a w h => ?_
        refine CK mixed hn hG h [0, 500] (ov [1] (Ag q0) <| ov [500] (Ax BC q0 qi) <| od [500] 1 (Ak q0) .nil) fun _ a w h => ?_
        exact ⟨shr .u64 x1 16, IntKind.wrap .i64 (x2 + 16), hF, h.sub [0, 1] (by rfl)⟩
      · refine wp_skip ?_
        exact ⟨x1, x2, hF, h.sub [0, 1] (by rfl)⟩
    · clear h hF
      rintro a w ⟨x3, x4, hF, h⟩
      unfold bits_Len64.j2 at hF
      show Code.wp Tryd.prog _ _ a w
      refine wp_seq ?_
      refine AU mixed hn hG h [0, 1, 500] (ov [0] (Ag q0) <| ov [500] (Ax CW q0 qi) .nil) fun _ a w h => ?_
      refine BY (fun a w => ∃ (x5 : Int), ∃ (x6 : Int), bits_Len64.j3 x5 x6 = some r ∧ A0 c [.slot 0 (Ab .u64 x5), .slot 2 (Ab .i64 x6)] a w) ?_ ?_
      · refine DN h hF 2 [0, 1] [0, 1] (fun hb8 hF h => ?_) (fun hb8 hF h => ?_)
        · refine AU mixed hn hG h [500, 1] (ov [0] (Ag q0) <| ov [500] (Ax (EW rfl) q0 qi) <| od [500] 0 (Ak q0) .nil) fun _ a w h => ?_
          refine CK mixed hn hG h [0, 500] (ov [1] (Ag q0) <| ov [500] (Ax BC q0 qi) <| od [500] 1 (Ak q0) .nil) fun _ a w h => ?_
          exact ⟨shr .u64 x3 8, IntKind.wrap .i64 (x4 + 8), hF, h.sub [0, 1] (by rfl)⟩
        · refine wp_skip ?_
          exact ⟨x3, x4, hF, h.sub [0, 1] (by rfl)⟩
      · clear h hF
        rintro a w ⟨x5, x6, hF, h⟩
        unfold bits_Len64.j3 at hF
        show Code.wp Tryd.prog _ _ a w
        obtain ⟨hv7, hF⟩ := AH hF
        refine AU mixed hn hG h [500] (ov [1] (Ag q0) <| ov [0] (Ag q0) <| ov [500] (Bi Tryd.underlying23 Tryd.underlying5 q0) <| ov [500] (CB Tryd.underlying9 (B9 (sc _ (by decide))) q0 hv7) <| ov [500] (Bi Tryd.underlying5 Tryd.underlying3 q0) <| ov [504, 500] (Ax BC q0 q1) <| od [500] 1 (Ak q0) .nil) fun _ a w h => ?_
        refine wp_ret ?_
        obtain rfl := Option.some.inj hF
        exact ⟨.inl rfl, Cv h Tryd.results77 (By 0 rfl) [] [] rfl rfl rfl⟩

def DX (a_0 : Bool) : Option Int := (if a_0 = true then some 1 else some 0)
theorem FG {a_0 : Bool} {r : Int} (hF : DX a_0 = some r) : AX Tryd.prog KG 78 [(An a_0)] [] (fun _ => []) (Ab .i64 r) := by
  refine AX.intro 4 Tryd.func78 rfl Tryd.ntmps78 (Nat.le_of_ble_eq_true rfl) ?_
  intro c a w hG hn h
  unfold DX at hF
  change A0 c [.slot 0 (An a_0)] a w at h
  refine AU mixed hn hG h [0] (ov [] (Ak qi) .nil) fun _ a w h => ?_
  refine wp_seq ?_
  refine AU mixed hn hG h [500] (ov [0] (Ag q0) .nil) fun _ a w h => ?_
  refine DN h hF 0 [] [] (fun hb1 hF h => ?_) (fun hb1 hF h => ?_)
  · refine AU mixed hn hG h [500] (ov [] (Ak qi) .nil) fun _ a w h => ?_
    refine wp_ret ?_
    obtain rfl := Option.some.inj hF
    exact ⟨.inl rfl, Cv h Tryd.results78 (By 0 rfl) [] [] rfl rfl rfl⟩
  · refine wp_skip ?_
    show Code.wp Tryd.prog _ _ a w
    refine AU mixed hn hG h [500] (ov [] (Ak qi) .nil) fun _ a w h => ?_
    refine wp_ret ?_
    obtain rfl := Option.some.inj hF
    exact ⟨.inl rfl, Cv h Tryd.results78 (By 0 rfl) [] [] rfl rfl rfl⟩

def C8 (a_0 : Int) : Option Int := ((bits_Len64 a_0).bind fun r1 => ((DW r1).bind fun r2 => (if (0 : Int) ≤ r2 ∧ r2 < 20 then ((DX (decide ((KS.getD r2.toNat 0) ≤ a_0))).bind fun r4 => some (IntKind.wrap .i64 (r2 + r4))) else none)))
theorem Ex {a_0 : Int} {r : Int} (hF : C8 a_0 = some r) : AX Tryd.prog KG 64 [(Ab .u64 a_0)] [] (fun _ => []) (Ab .i64 r) := by
  refine AX.intro 15 Tryd.func64 rfl Tryd.ntmps64 (Nat.le_of_ble_eq_true rfl) ?_
  intro c a w hG hn h
  unfold C8 at hF
  change A0 c [.slot 0 (Ab .u64 a_0)] a w at h
  refine AU mixed hn hG h [0] (ov [] (Ak qi) .nil) fun _ a w h => ?_
  obtain ⟨r1, hr1, hF⟩ := bind_some hF
  obtain ⟨r2, hr2, hF⟩ := bind_some hF
  refine AU mixed hn hG h [0, 500] (ov [0] (Ag q0) <| oc [500] [] Tryd.call77 (HQ hr1) ⟨q0, trivial⟩ <| oc [500] [] Tryd.call76 (FF hr2) ⟨q0, trivial⟩ <| ov [500] (Ak q0) .nil) fun _ a w h => ?_
  obtain ⟨hv3, hF⟩ := AH hF
  obtain ⟨r4, hr4, hF⟩ := bind_some hF
  refine AU mixed hn hG h [500] (ov [1] (Ag q0) <| ov [0] (Ag q0) <| ov [1] (Ag q0) <| ov [500] (GX Tryd.underlying159 Tryd.sizeOf23 (Nu (fun Φ h => h.1)) q0 hv3) <| ov [500] (Ef [] Tryd.isAgg23 q0) <| ov [503, 500] (Ax CW q0 q1) <| oc [500] [] Tryd.call78 (FG hr4) ⟨q0, trivial⟩ <| ov [506, 500] (Ax BC q0 q1) <| ov [500] (Ak q0) .nil) fun _ a w h => ?_
  refine wp_ret ?_
  obtain rfl := Option.some.inj hF
  exact ⟨.inl rfl, Cv h Tryd.results64 (By 0 rfl) [] [] rfl rfl rfl⟩

def Dx (a_0 : Int) : Option Bool := some (decide ((bits .and .i64 a_0 (IntKind.wrap .i64 (a_0 - 1))) = (0 : Int)))
theorem Fa {a_0 : Int} {r : Bool} (hF : Dx a_0 = some r) : AX Tryd.prog KG 79 [(Ab .i64 a_0)] [] (fun _ => []) (An r) := by
  refine AX.intro 8 Tryd.func79 rfl Tryd.ntmps79 (Nat.le_of_ble_eq_true rfl) ?_
  intro c a w hG hn h
  unfold Dx at hF
  change A0 c [.slot 0 (Ab .i64 a_0)] a w at h
  refine AU mixed hn hG h [0] (ov [] (Ak qb) .nil) fun _ a w h => ?_
  refine AU mixed hn hG h [500] (ov [0] (Ag q0) <| ov [0] (Ag q0) <| ov [500] (Ax DR q0 qi) <| ov [502, 500] (Ax Ho q0 q1) <| ov [500] (Ax B4 q0 qi) <| ov [500] (Ak q0) .nil) fun _ a w h => ?_
  refine wp_ret ?_
  obtain rfl := Option.some.inj hF
  exact ⟨.inl rfl, Cv h Tryd.results79 (By 0 rfl) [] [] rfl rfl rfl⟩

def D2 (a_0 : Int) : Option Int := (if (decide (a_0 = (0 : Int))) = true then some 64 else (if (0 : Int) ≤ shr .u64 (IntKind.wrap .u64 ((bits .and .u64 a_0 (IntKind.wrap .u64 (0 - a_0))) * 285870213051353865)) 58 ∧ shr .u64 (IntKind.wrap .u64 ((bits .and .u64 a_0 (IntKind.wrap .u64 (0 - a_0))) * 285870213051353865)) 58 < 64 then some (IntKind.wrap .i64 ((LC.getD (shr .u64 (IntKind.wrap .u64 ((bits .and .u64 a_0 (IntKind.wrap .u64 (0 - a_0))) * 285870213051353865)) 58).toNat default).toNat : Int)) else none))
theorem Fh {a_0 : Int} {r : Int} (hF : D2 a_0 = some r) : AX Tryd.prog KG 85 [(Ab .u64 a_0)] [] (fun _ => []) (Ab .i64 r) := by
  refine AX.intro 14 Tryd.func85 rfl Tryd.ntmps85 (Nat.le_of_ble_eq_true rfl) ?_
  intro c a w hG hn h
  unfold D2 at hF
  change A0 c [.slot 0 (Ab .u64 a_0)] a w at h
  refine AU mixed hn hG h [0] (ov [] (Ak qi) .nil) fun _ a w h => ?_
  refine wp_seq ?_
  refine AU mixed hn hG h [0, 500] (ov [0] (Ag q0) <| ov [500] (Ax B4 q0 qi) .nil) fun _ a w h => ?_
  refine DN h hF 1 [] [0] (fun hb1 hF h => ?_) (fun hb1 hF h => ?_)
  · refine AU mixed hn hG h [500] (ov [] (Ak qi) .nil) fun _ a w h => ?_
    refine wp_ret ?_
    obtain rfl := Option.some.inj hF
    exact ⟨.inl rfl, Cv h Tryd.results85 (By 0 rfl) [] [] rfl rfl rfl⟩
  · refine wp_skip ?_
    show Code.wp Tryd.prog _ _ a w
    obtain ⟨hv2, hF⟩ := AH hF
    refine AU mixed hn hG h [500] (ov [0] (Ag q0) <| ov [0] (Ag q0) <| ov [500] (Ez (I5 _ _) q0) <| ov [502, 500] (Ax Ho q0 q1) <| ov [500] (Ax FZ q0 qi) <| ov [500] (Ax (EW rfl) q0 qi) <| ov [500] (GY Tryd.underlying171 Tryd.sizeOf5 (Nu (fun Φ h => h.2.1)) q0 hv2) <| ov [500] (Ef [] Tryd.isAgg5 q0) <| ov [500] (Bi Tryd.underlying5 Tryd.underlying3 q0) <| ov [500] (Ak q0) .nil) fun _ a w h => ?_
    refine wp_ret ?_
    obtain rfl := Option.some.inj hF
    exact ⟨.inl rfl, Cv h Tryd.results85 (By 0 rfl) [] [] rfl rfl rfl⟩

def DQ (a_0 : Int) : Option Int := ((D2 a_0).bind fun r1 => some r1)
theorem FE {a_0 : Int} {r : Int} (hF : DQ a_0 = some r) : AX Tryd.prog KG 80 [(Ab .u64 a_0)] [] (fun _ => []) (Ab .i64 r) := by
  refine AX.intro 8 Tryd.func80 rfl Tryd.ntmps80 (Nat.le_of_ble_eq_true rfl) ?_
  intro c a w hG hn h
  unfold DQ at hF
  change A0 c [.slot 0 (Ab .u64 a_0)] a w at h
  refine AU mixed hn hG h [0] (ov [] (Ak qi) .nil) fun _ a w h => ?_
  refine wp_seq ?_
  refine Kl ?_
  refine wp_skip ?_
  show Code.wp Tryd.prog _ _ a w
  obtain ⟨r1, hr1, hF⟩ := bind_some hF
  refine AU mixed hn hG h [500] (ov [0] (Ag q0) <| oc [500] [] Tryd.call85 (Fh hr1) ⟨q0, trivial⟩ <| ov [500] (Ak q0) .nil) fun _ a w h => ?_
  refine wp_ret ?_
  obtain rfl := Option.some.inj hF
  exact ⟨.inl rfl, Cv h Tryd.results80 (By 0 rfl) [] [] rfl rfl rfl⟩

def AO.j4 (a_4 : Bool) (x40 : Int) (x41 : List UInt8) : Option ((List (UInt8)) × (List UInt8)) := (if a_4 = true then none else (if (0 : Int) ≤ x40 ∧ (x40 : Int) ≤ 65 ∧ (65 : Int) ≤ 65 ∧ 65 ≤ Bw then some ([], (x41.take (65 : Int).toNat).drop (x40 : Int).toNat) else none))
def AO.j3 (a_3 : Bool) (a_4 : Bool) (x37 : Int) (x38 : List UInt8) : Option ((List (UInt8)) × (List UInt8)) := (if a_3 = true then (if (0 : Int) ≤ IntKind.wrap .i64 (x37 - 1) ∧ IntKind.wrap .i64 (x37 - 1) < 65 then AO.j4 a_4 (IntKind.wrap .i64 (x37 - 1)) (x38.set (IntKind.wrap .i64 (x37 - 1)).toNat (Dn 45)) else none) else AO.j4 a_4 x37 x38)
def AO.b1 (a_2 : Int) (r48 : Int) (x52 : Int) (x53 : Int) (x54 : List UInt8) : Option (Ds ((List (UInt8)) × (List UInt8)) (Int × Int × (List UInt8))) := (if (decide ((IntKind.wrap .u64 a_2) ≤ x52)) = true then (if (0 : Int) ≤ bits .and .u64 x52 (IntKind.wrap .u64 ((IntKind.wrap .u64 a_2) - 1)) ∧ bits .and .u64 x52 (IntKind.wrap .u64 ((IntKind.wrap .u64 a_2) - 1)) < ([48, 49, 50, 51, 52, 53, 54, 55, 56, 57, 97, 98, 99, 100, 101, 102, 103, 104, 105, 106, 107, 108, 109, 110, 111, 112, 113, 114, 115, 116, 117, 118, 119, 120, 121, 122] : List UInt8).length then (if (0 : Int) ≤ IntKind.wrap .i64 (x53 - 1) ∧ IntKind.wrap .i64 (x53 - 1) < 65 then some (.cont (shr .u64 x52 (IntKind.wrap .u64 r48), IntKind.wrap .i64 (x53 - 1), x54.set (IntKind.wrap .i64 (x53 - 1)).toNat (Dn ((([48, 49, 50, 51, 52, 53, 54, 55, 56, 57, 97, 98, 99, 100, 101, 102, 103, 104, 105, 106, 107, 108, 109, 110, 111, 112, 113, 114, 115, 116, 117, 118, 119, 120, 121, 122] : List UInt8).getD (bits .and .u64 x52 (IntKind.wrap .u64 ((IntKind.wrap .u64 a_2) - 1))).toNat 0).toNat : Int)))) else none) else none) else some (.brk (x52, x53, x54)))
def AO.b2 (a_2 : Int) (x77 : Int) (x78 : Int) (x79 : List UInt8) : Option (Ds ((List (UInt8)) × (List UInt8)) (Int × Int × (List UInt8))) := (if (decide ((IntKind.wrap .u64 a_2) ≤ x77)) = true then (if IntKind.wrap .u64 a_2 ≠ 0 then (if (0 : Int) ≤ IntKind.wrap .u64 (x77 - (IntKind.wrap .u64 ((IntKind.wrap .u64 (x77.tdiv (IntKind.wrap .u64 a_2))) * (IntKind.wrap .u64 a_2)))) ∧ IntKind.wrap .u64 (x77 - (IntKind.wrap .u64 ((IntKind.wrap .u64 (x77.tdiv (IntKind.wrap .u64 a_2))) * (IntKind.wrap .u64 a_2)))) < ([48, 49, 50, 51, 52, 53, 54, 55, 56, 57, 97, 98, 99, 100, 101, 102, 103, 104, 105, 106, 107, 108, 109, 110, 111, 112, 113, 114, 115, 116, 117, 118, 119, 120, 121, 122] : List UInt8).length then (if (0 : Int) ≤ IntKind.wrap .i64 (x78 - 1) ∧ IntKind.wrap .i64 (x78 - 1) < 65 then some (.cont (IntKind.wrap .u64 (x77.tdiv (IntKind.wrap .u64 a_2)), IntKind.wrap .i64 (x78 - 1), x79.set (IntKind.wrap .i64 (x78 - 1)).toNat (Dn ((([48, 49, 50, 51, 52, 53, 54, 55, 56, 57, 97, 98, 99, 100, 101, 102, 103, 104, 105, 106, 107, 108, 109, 110, 111, 112, 113, 114, 115, 116, 117, 118, 119, 120, 121, 122] : List UInt8).getD (IntKind.wrap .u64 (x77 - (IntKind.wrap .u64 ((IntKind.wrap .u64 (x77.tdiv (IntKind.wrap .u64 a_2))) * (IntKind.wrap .u64 a_2))))).toNat 0).toNat : Int)))) else none) else none) else none) else some (.brk (x77, x78, x79)))
def AO.j2 (a_2 : Int) (a_3 : Bool) (a_4 : Bool) (x4 : Int) : Option ((List (UInt8)) × (List UInt8)) := ((Dx a_2).bind fun r5 => (if r5 = true then ((DQ (IntKind.wrap .u64 a_2)).bind fun r48 => ((Cs (fun s : Int × Int × (List UInt8) => AO.b1 a_2 r48 s.1 s.2.1 s.2.2) ((x4 - (IntKind.wrap .u64 a_2) : Int).toNat + 2) (x4, 65, (List.replicate 65 0))).bind fun cr => match cr with | .ret r => some r | .next (y68, y69, y70) => (if (0 : Int) ≤ y68 ∧ y68 < ([48, 49, 50, 51, 52, 53, 54, 55, 56, 57, 97, 98, 99, 100, 101, 102, 103, 104, 105, 106, 107, 108, 109, 110, 111, 112, 113, 114, 115, 116, 117, 118, 119, 120, 121, 122] : List UInt8).length then (if (0 : Int) ≤ IntKind.wrap .i64 (y69 - 1) ∧ IntKind.wrap .i64 (y69 - 1) < 65 then AO.j3 a_3 a_4 (IntKind.wrap .i64 (y69 - 1)) (y70.set (IntKind.wrap .i64 (y69 - 1)).toNat (Dn ((([48, 49, 50, 51, 52, 53, 54, 55, 56, 57, 97, 98, 99, 100, 101, 102, 103, 104, 105, 106, 107, 108, 109, 110, 111, 112, 113, 114, 115, 116, 117, 118, 119, 120, 121, 122] : List UInt8).getD y68.toNat 0).toNat : Int))) else none) else none))) else ((Cs (fun s : Int × Int × (List UInt8) => AO.b2 a_2 s.1 s.2.1 s.2.2) ((x4 - (IntKind.wrap .u64 a_2) : Int).toNat + 2) (x4, 65, (List.replicate 65 0))).bind fun cr => match cr with | .ret r => some r | .next (y95, y96, y97) => (if (0 : Int) ≤ y95 ∧ y95 < ([48, 49, 50, 51, 52, 53, 54, 55, 56, 57, 97, 98, 99, 100, 101, 102, 103, 104, 105, 106, 107, 108, 109, 110, 111, 112, 113, 114, 115, 116, 117, 118, 119, 120, 121, 122] : List UInt8).length then (if (0 : Int) ≤ IntKind.wrap .i64 (y96 - 1) ∧ IntKind.wrap .i64 (y96 - 1) < 65 then AO.j3 a_3 a_4 (IntKind.wrap .i64 (y96 - 1)) (y97.set (IntKind.wrap .i64 (y96 - 1)).toNat (Dn ((([48, 49, 50, 51, 52, 53, 54, 55, 56, 57, 97, 98, 99, 100, 101, 102, 103, 104, 105, 106, 107, 108, 109, 110, 111, 112, 113, 114, 115, 116, 117, 118, 119, 120, 121, 122] : List UInt8).getD y95.toNat 0).toNat : Int))) else none) else none))))
def AO.j1 (a_1 : Int) (a_2 : Int) (a_3 : Bool) (a_4 : Bool) (x1 : Bool) : Option ((List (UInt8)) × (List UInt8)) := (if x1 = true then none else (if a_3 = true then AO.j2 a_2 a_3 a_4 (IntKind.wrap .u64 (0 - a_1)) else AO.j2 a_2 a_3 a_4 a_1))
def AO (a_0 : List (UInt8)) (a_1 : Int) (a_2 : Int) (a_3 : Bool) (a_4 : Bool) : Option ((List (UInt8)) × (List UInt8)) := (if (decide (a_2 < (2 : Int))) = true then AO.j1 a_1 a_2 a_3 a_4 true else (if (decide (a_2 = (10 : Int))) = true then AO.j1 a_1 a_2 a_3 a_4 true else AO.j1 a_1 a_2 a_3 a_4 (decide ((36 : Int) < a_2))))
theorem Eo {a_0 : List (UInt8)} {a_1 : Int} {a_2 : Int} {a_3 : Bool} {a_4 : Bool} {r : (List (UInt8)) × (List UInt8)} (hF : AO a_0 a_1 a_2 a_3 a_4 = some r) : AX Tryd.prog KG 66 [(Ai bC a_0), (Ab .u64 a_1), (Ab .i64 a_2), (An a_3), (An a_4)] [] (fun _ => []) (DJ [(Ai bC r.1), (AF r.2)]) := by
  refine AX.intro 102 Tryd.func66 rfl Tryd.ntmps66 (Nat.le_of_ble_eq_true rfl) ?_
  intro c a w hG hn h
  unfold AO at hF
  change A0 c [.slot 0 (Ai bC a_0), .slot 1 (Ab .u64 a_1), .slot 2 (Ab .i64 a_2), .slot 3 (An a_3), .slot 4 (An a_4)] a w at h
  refine AU mixed hn hG h [0, 1, 2, 3, 4, 501, 500] (ov [] (Ak (B9 (ec _))) <| ov [] (Ak (B9 (sc _ (by decide)))) .nil) fun _ a w h => ?_
  refine wp_seq ?_
  refine wp_seq ?_
  refine BY (fun a w => ∃ (x1 : Bool), AO.j1 a_1 a_2 a_3 a_4 x1 = some r ∧ A0 c [.slot 0 (Ai bC a_0), .slot 1 (Ab .u64 a_1), .slot 2 (Ab .i64 a_2), .slot 3 (An a_3), .slot 4 (An a_4), .slot 10 (Bf (.slice none 0 0)), .slot 11 (AF []), .slot 28 (An x1)] a w) ?_ ?_
  · rcases Bool.eq_false_or_eq_true (decide (a_2 < (2 : Int))) with hb101 | hb101
    · replace hF := CZ hb101 hF
      refine CK mixed hn hG h [0, 1, 2, 3, 4, 5, 6, 500] (ov [2] (Ag q0) <| ov [500] (Ax B6 q0 qi) <| ov [500] (Ag q0) <| oe [500] [] (A4.A2 (want := false) hb101 rfl rfl rfl rfl) <| oe [501] [] (A4.A2 (want := false) hb101 rfl rfl rfl rfl) <| ov [502] (Bj hb101 q0 qb) <| ov [500] (Ag q0) <| oe [500] [] (A4.A2 (want := false) rfl rfl rfl rfl rfl) <| oe [501] [] (A4.A2 (want := false) rfl rfl rfl rfl rfl) <| ov [502] (Bj rfl q0 qb) .nil) fun _ a w h => ?_
      exact ⟨true, hF, h.sub [0, 1, 2, 3, 4, 5, 6, 7] (by rfl)⟩
    · replace hF := C0 hb101 hF
      rcases Bool.eq_false_or_eq_true (decide (a_2 = (10 : Int))) with hb102 | hb102
      · replace hF := CZ hb102 hF
        refine CK mixed hn hG h [0, 1, 2, 3, 4, 5, 6, 500] (ov [2] (Ag q0) <| ov [500] (Ax B6 q0 qi) <| ov [500] (Ag q0) <| oe [500, 2] [] (A4.AN hb101 rfl rfl rfl (Ag q0)) <| oe [501, 500] [] (A4.AN hb101 rfl rfl rfl (Ax B4 q0 qi)) <| ov [502, 500] (Bd hb101 q0 q1) <| ov [500] (Ag q0) <| oe [500] [] (A4.A2 (want := false) hb102 rfl rfl rfl rfl) <| oe [501] [] (A4.A2 (want := false) hb102 rfl rfl rfl rfl) <| ov [502] (Bj hb102 q0 qb) .nil) fun _ a w h => ?_
        exact ⟨true, hF, h.sub [0, 1, 2, 3, 4, 5, 6, 7] (by rfl)⟩
      · replace hF := C0 hb102 hF
        refine CK mixed hn hG h [0, 1, 2, 3, 4, 5, 6, 500] (ov [2] (Ag q0) <| ov [500] (Ax B6 q0 qi) <| ov [500] (Ag q0) <| oe [500, 2] [] (A4.AN hb101 rfl rfl rfl (Ag q0)) <| oe [501, 500] [] (A4.AN hb101 rfl rfl rfl (Ax B4 q0 qi)) <| ov [502, 500] (Bd hb101 q0 q1) <| ov [500] (Ag q0) <| oe [500, 2] [] (A4.AN hb102 rfl rfl rfl (Ag q0)) <| oe [501, 500] [] (A4.AN hb102 rfl rfl rfl (Ax CD q0 qi)) <| ov [502, 500] (Bd hb102 q0 q1) .nil) fun _ a w h => ?_
        exact ⟨decide ((36 : Int) < a_2), hF, h.sub [0, 1, 2, 3, 4, 5, 6, 7] (by rfl)⟩
  · clear h hF
    rintro a w ⟨x1, hF, h⟩
    unfold AO.j1 at hF
    show Code.wp Tryd.prog _ _ a w
    refine DN h hF 7 [0, 1, 2, 3, 4, 5, 6] [0, 1, 2, 3, 4, 5, 6] (fun hb2 hF h => ?_) (fun hb2 hF h => ?_)
    · cases hF
    · refine wp_skip ?_
      show Code.wp Tryd.prog _ _ a w
      refine AU mixed hn hG h [0, 1, 2, 3, 4, 5, 6, 501, 500] (ob [] (CJ Tryd.zeroValue160 z160) .nil) fun b3 a w h => ?_
      refine AU mixed hn hG h [0, 1, 2, 3, 4, 5, 6, 7, 500, 8] (ov [] (Ak qi) .nil) fun _ a w h => ?_
      refine wp_seq ?_
      refine AU mixed hn hG h [0, 1, 2, 3, 4, 5, 6, 7, 8, 500, 9] (ov [3] (Ag q0) .nil) fun _ a w h => ?_
      refine BY (fun a w => ∃ (x4 : Int), AO.j2 a_2 a_3 a_4 x4 = some r ∧ A0 c [.slot 0 (Ai bC a_0), .slot 1 (Ab .u64 x4), .slot 2 (Ab .i64 a_2), .slot 3 (An a_3), .slot 4 (An a_4), .slot 10 (Bf (.slice none 0 0)), .slot 11 (AF []), .slot 12 (BG (b3 0) 0), .slot 13 (Ab .i64 65), .res (lb (b3 0) 160 [Af 65 (List.replicate 65 0)])] a w) ?_ ?_
      · refine DN h hF 9 [0, 1, 2, 3, 4, 5, 6, 7, 8, 10] [0, 1, 2, 3, 4, 5, 6, 7, 8, 10] (fun hb100 hF h => ?_) (fun hb100 hF h => ?_)
        · refine CK mixed hn hG h [0, 500, 2, 3, 4, 5, 6, 7, 8, 9] (ov [1] (Ag q0) <| ov [500] (Ez (I5 _ _) q0) <| od [500] 1 (Ak q0) .nil) fun _ a w h => ?_
          exact ⟨IntKind.wrap .u64 (0 - a_1), hF, h.sub [0, 1, 2, 3, 4, 5, 6, 7, 8, 9] (by rfl)⟩
        · refine wp_skip ?_
          exact ⟨a_1, hF, h.sub [0, 1, 2, 3, 4, 5, 6, 7, 8, 9] (by rfl)⟩
      · clear h hF
        rintro a w ⟨x4, hF, h⟩
        unfold AO.j2 at hF
        show Code.wp Tryd.prog _ _ a w
        refine wp_seq ?_
        obtain ⟨r5, hr5, hF⟩ := bind_some hF
        refine AU mixed hn hG h [0, 1, 2, 3, 4, 5, 6, 7, 8, 500, 9] (ov [2] (Ag q0) <| oc [500] [] Tryd.call79 (Fa hr5) ⟨q0, trivial⟩ .nil) fun _ a w h => ?_
        refine BY (fun a w => ∃ (x37 : Int), ∃ (x38 : List UInt8), AO.j3 a_3 a_4 x37 x38 = some r ∧ A0 c [.slot 0 (Ai bC a_0), .slot 3 (An a_3), .slot 4 (An a_4), .slot 10 (Bf (.slice none 0 0)), .slot 11 (AF []), .slot 12 (BG (b3 0) 0), .slot 13 (Ab .i64 x37), .res (lb (b3 0) 160 [Af 65 x38])] a w) ?_ ?_
        · refine DN h hF 9 [0, 1, 2, 3, 4, 5, 6, 7, 8, 10] [0, 1, 2, 3, 4, 5, 6, 7, 8, 10] (fun hb47 hF h => ?_) (fun hb47 hF h => ?_)
          · obtain ⟨r48, hr48, hF⟩ := bind_some hF
            refine AU mixed hn hG h [0, 1, 2, 3, 4, 5, 6, 7, 8, 500, 9] (ov [2] (Ag q0) <| ov [500] (Bi Tryd.underlying3 Tryd.underlying152 q0) <| oc [500] [] Tryd.call80 (FE hr48) ⟨q0, trivial⟩ <| ov [500] (Bi Tryd.underlying3 Tryd.underlying152 q0) <| ov [500] (Ak q0) .nil) fun _ a w h => ?_
            refine AU mixed hn hG h [0, 1, 2, 3, 4, 5, 6, 7, 8, 9, 500, 10] (ov [2] (Ag q0) <| ov [500] (Bi Tryd.underlying3 Tryd.underlying23 q0) <| ov [500] (Ak q0) .nil) fun _ a w h => ?_
            refine AU mixed hn hG h [0, 1, 3, 4, 5, 6, 7, 8, 9, 10, 500, 11] (ov [2] (Ag q0) <| ov [500] (Bi Tryd.underlying3 Tryd.underlying152 q0) <| ov [500] (Ax DR q0 qi) <| ov [500] (Ak q0) .nil) fun _ a w h => ?_
            refine wp_seq ?_
            refine wp_block ?_
            obtain ⟨cr64, hl65, hF⟩ := bind_some hF
            refine wp_mono (Ci (R := (List (UInt8)) × (List UInt8)) (S := Int × Int × (List UInt8)) (fun s a w => A0 c [.slot 0 (Ai bC a_0), .slot 1 (Ab .u64 s.1), .slot 3 (An a_3), .slot 4 (An a_4), .slot 10 (Bf (.slice none 0 0)), .slot 11 (AF []), .slot 12 (BG (b3 0) 0), .slot 13 (Ab .i64 s.2.1), .slot 14 (Ab .u64 (IntKind.wrap .u64 r48)), .slot 15 (Ab .u64 (IntKind.wrap .u64 a_2)), .slot 16 (Ab .u64 (IntKind.wrap .u64 ((IntKind.wrap .u64 a_2) - 1))), .res (lb (b3 0) 160 [Af 65 s.2.2])] a w) (fun res e a w => match res with | .next s => e = .exit 0 ∧ A0 c [.slot 0 (Ai bC a_0), .slot 1 (Ab .u64 s.1), .slot 3 (An a_3), .slot 4 (An a_4), .slot 10 (Bf (.slice none 0 0)), .slot 11 (AF []), .slot 12 (BG (b3 0) 0), .slot 13 (Ab .i64 s.2.1), .res (lb (b3 0) 160 [Af 65 s.2.2])] a w | .ret r => e = .ret ∧ DF Tryd.prog Tryd.f66 c (DJ [(Ai bC r.1), (AF r.2)]) (fun _ => []) a w) ?_ _ (x4, 65, (List.replicate 65 0)) _ _ _ (h.sub [0, 1, 2, 3, 4, 5, 6, 7, 8, 9, 10, 11] (by rfl)) hl65) ?_
            · clear hl65 hF h
              intro s a w o h hF
              obtain ⟨x52, x53, x54⟩ := s
              change AO.b1 a_2 r48 x52 x53 x54 = some o at hF
              unfold AO.b1 at hF
              change A0 c [.slot 0 (Ai bC a_0), .slot 1 (Ab .u64 x52), .slot 3 (An a_3), .slot 4 (An a_4), .slot 10 (Bf (.slice none 0 0)), .slot 11 (AF []), .slot 12 (BG (b3 0) 0), .slot 13 (Ab .i64 x53), .slot 14 (Ab .u64 (IntKind.wrap .u64 r48)), .slot 15 (Ab .u64 (IntKind.wrap .u64 a_2)), .slot 16 (Ab .u64 (IntKind.wrap .u64 ((IntKind.wrap .u64 a_2) - 1))), .res (lb (b3 0) 160 [Af 65 x54])] a w at h
              refine wp_seq ?_
              refine AU mixed hn hG h [0, 1, 2, 3, 4, 5, 6, 7, 8, 9, 10, 500, 11] (ov [1] (Ag q0) <| ov [9] (Ag q0) <| ov [501, 500] (Ax CW q0 q1) .nil) fun _ a w h => ?_
              refine DN h hF 11 [0, 1, 2, 3, 4, 5, 6, 7, 8, 9, 10, 12] [0, 1, 2, 3, 4, 5, 6, 7, 8, 9, 10, 12] (fun hb61 hF h => ?_) (fun hb61 hF h => ?_)
              · refine wp_skip ?_
                show Code.wp Tryd.prog _ _ a w
                refine wp_block ?_
                refine AU mixed hn hG h [0, 1, 2, 3, 4, 5, 6, 500, 8, 9, 10, 11] (ov [7] (Ag q0) <| ov [500] (Ax DR q0 qi) <| od [500] 7 (Ak q0) .nil) fun _ a w h => ?_
                obtain ⟨hv62, hF⟩ := AH hF
                obtain ⟨hv63, hF⟩ := AH hF
                refine AU mixed hn hG h [0, 1, 2, 3, 4, 5, 6, 7, 8, 9, 10, 500] (ov [7] (Ag q0) <| ov [1] (Ag q0) <| ov [10] (Ag q0) <| ov [501, 500] (Ax Ho q0 q1) <| ov [500] (CB Tryd.underlying9 (B9 (sc _ (by decide))) q0 hv62) <| ov [6, 504] (Cu Tryd.underlying160 Tryd.sizeOf5 q0 q1 hv63) <| ou [500, 501] 11 (D4 (i := IntKind.wrap .i64 (x53 - 1)) [] [] Tryd.sizeOf5 q0 q1 rfl hv63) .nil) fun _ a w h => ?_
                refine CK mixed hn hG h [0, 500, 2, 3, 4, 5, 6, 7, 8, 9, 10, 11] (ov [1] (Ag q0) <| ov [8] (Ag q0) <| ov [501, 500] (Ax (EW rfl) q0 q1) <| od [500] 1 (Ak q0) .nil) fun _ a w h => ?_
                obtain rfl := Option.some.inj hF
                exact ⟨rfl, h.sub [0, 1, 2, 3, 4, 5, 6, 7, 8, 9, 10, 11] (by rfl)⟩
              · refine wp_exit ?_
                obtain rfl := Option.some.inj hF
                exact ⟨CV _, rfl, h.sub [0, 1, 2, 3, 4, 5, 6, 7, 11] (by rfl)⟩
            · clear hl65
              intro e a w hq
              cases cr64 with
              | ret r66 =>
                obtain ⟨rfl, hq⟩ := hq
                obtain rfl := Option.some.inj hF
                exact ⟨.inl rfl, hq⟩
              | next s67 =>
                obtain ⟨y68, y69, y70⟩ := s67
                obtain ⟨rfl, h⟩ := hq
                change A0 c [.slot 0 (Ai bC a_0), .slot 1 (Ab .u64 y68), .slot 3 (An a_3), .slot 4 (An a_4), .slot 10 (Bf (.slice none 0 0)), .slot 11 (AF []), .slot 12 (BG (b3 0) 0), .slot 13 (Ab .i64 y69), .res (lb (b3 0) 160 [Af 65 y70])] a w at h
                refine BT ?_
                show Code.wp Tryd.prog _ _ a w
                refine AU mixed hn hG h [0, 1, 2, 3, 4, 5, 6, 500, 8] (ov [7] (Ag q0) <| ov [500] (Ax DR q0 qi) <| od [500] 7 (Ak q0) .nil) fun _ a w h => ?_
                obtain ⟨hv71, hF⟩ := AH hF
                obtain ⟨hv72, hF⟩ := AH hF
                refine CK mixed hn hG h [0, 2, 3, 4, 5, 6, 7, 500] (ov [7] (Ag q0) <| ov [1] (Ag q0) <| ov [500] (CB Tryd.underlying9 (B9 (sc _ (by decide))) q0 hv71) <| ov [6, 502] (Cu Tryd.underlying160 Tryd.sizeOf5 q0 q1 hv72) <| ou [500, 501] 8 (D4 (i := IntKind.wrap .i64 (y69 - 1)) [] [] Tryd.sizeOf5 q0 q1 rfl hv72) .nil) fun _ a w h => ?_
                exact ⟨IntKind.wrap .i64 (y69 - 1), y70.set (IntKind.wrap .i64 (y69 - 1)).toNat (Dn ((([48, 49, 50, 51, 52, 53, 54, 55, 56, 57, 97, 98, 99, 100, 101, 102, 103, 104, 105, 106, 107, 108, 109, 110, 111, 112, 113, 114, 115, 116, 117, 118, 119, 120, 121, 122] : List UInt8).getD y68.toNat 0).toNat : Int)), hF, h.sub [0, 1, 2, 3, 4, 5, 6, 7] (by rfl)⟩
          · refine AU mixed hn hG h [0, 1, 3, 4, 5, 6, 7, 8, 500, 9] (ov [2] (Ag q0) <| ov [500] (Bi Tryd.underlying3 Tryd.underlying23 q0) <| ov [500] (Ak q0) .nil) fun _ a w h => ?_
            refine wp_seq ?_
            refine wp_block ?_
            obtain ⟨cr91, hl92, hF⟩ := bind_some hF
            refine wp_mono (Ci (R := (List (UInt8)) × (List UInt8)) (S := Int × Int × (List UInt8)) (fun s a w => A0 c [.slot 0 (Ai bC a_0), .slot 1 (Ab .u64 s.1), .slot 3 (An a_3), .slot 4 (An a_4), .slot 10 (Bf (.slice none 0 0)), .slot 11 (AF []), .slot 12 (BG (b3 0) 0), .slot 13 (Ab .i64 s.2.1), .slot 17 (Ab .u64 (IntKind.wrap .u64 a_2)), .res (lb (b3 0) 160 [Af 65 s.2.2])] a w) (fun res e a w => match res with | .next s => e = .exit 2 ∧ A0 c [.slot 0 (Ai bC a_0), .slot 1 (Ab .u64 s.1), .slot 3 (An a_3), .slot 4 (An a_4), .slot 10 (Bf (.slice none 0 0)), .slot 11 (AF []), .slot 12 (BG (b3 0) 0), .slot 13 (Ab .i64 s.2.1), .res (lb (b3 0) 160 [Af 65 s.2.2])] a w | .ret r => e = .ret ∧ DF Tryd.prog Tryd.f66 c (DJ [(Ai bC r.1), (AF r.2)]) (fun _ => []) a w) ?_ _ (x4, 65, (List.replicate 65 0)) _ _ _ (h.sub [0, 1, 2, 3, 4, 5, 6, 7, 8, 9] (by rfl)) hl92) ?_
            · clear hl92 hF h
              intro s a w o h hF
              obtain ⟨x77, x78, x79⟩ := s
              change AO.b2 a_2 x77 x78 x79 = some o at hF
              unfold AO.b2 at hF
              change A0 c [.slot 0 (Ai bC a_0), .slot 1 (Ab .u64 x77), .slot 3 (An a_3), .slot 4 (An a_4), .slot 10 (Bf (.slice none 0 0)), .slot 11 (AF []), .slot 12 (BG (b3 0) 0), .slot 13 (Ab .i64 x78), .slot 17 (Ab .u64 (IntKind.wrap .u64 a_2)), .res (lb (b3 0) 160 [Af 65 x79])] a w at h
              refine wp_seq ?_
              refine AU mixed hn hG h [0, 1, 2, 3, 4, 5, 6, 7, 8, 500, 9] (ov [1] (Ag q0) <| ov [8] (Ag q0) <| ov [501, 500] (Ax CW q0 q1) .nil) fun _ a w h => ?_
              refine DN h hF 9 [0, 1, 2, 3, 4, 5, 6, 7, 8, 10] [0, 1, 2, 3, 4, 5, 6, 7, 8, 10] (fun hb87 hF h => ?_) (fun hb87 hF h => ?_)
              · refine wp_skip ?_
                show Code.wp Tryd.prog _ _ a w
                refine wp_block ?_
                refine AU mixed hn hG h [0, 1, 2, 3, 4, 5, 6, 500, 8, 9] (ov [7] (Ag q0) <| ov [500] (Ax DR q0 qi) <| od [500] 7 (Ak q0) .nil) fun _ a w h => ?_
                obtain ⟨hv88, hF⟩ := AH hF
                refine AU mixed hn hG h [0, 1, 2, 3, 4, 5, 6, 7, 8, 500, 9] (ov [1] (Ag q0) <| ov [8] (Ag q0) <| ov [501, 500] (Ax (GQ hv88) q0 q1) <| ov [500] (Ak q0) .nil) fun _ a w h => ?_
                obtain ⟨hv89, hF⟩ := AH hF
                obtain ⟨hv90, hF⟩ := AH hF
                refine AU mixed hn hG h [0, 2, 3, 4, 5, 6, 7, 8, 9, 500] (ov [7] (Ag q0) <| ov [1] (Ag q0) <| ov [9] (Ag q0) <| ov [8] (Ag q0) <| ov [501, 500] (Ax FZ q0 q1) <| ov [503, 500] (Ax DR q0 q1) <| ov [500] (CB Tryd.underlying9 (B9 (sc _ (by decide))) q0 hv89) <| ov [6, 506] (Cu Tryd.underlying160 Tryd.sizeOf5 q0 q1 hv90) <| ou [500, 501] 10 (D4 (i := IntKind.wrap .i64 (x78 - 1)) [] [] Tryd.sizeOf5 q0 q1 rfl hv90) .nil) fun _ a w h => ?_
                refine CK mixed hn hG h [0, 500, 1, 2, 3, 4, 5, 6, 7, 9] (ov [8] (Ag q0) <| ov [500] (Ak q0) .nil) fun _ a w h => ?_
                obtain rfl := Option.some.inj hF
                exact ⟨rfl, h.sub [0, 1, 2, 3, 4, 5, 6, 7, 8, 9] (by rfl)⟩
              · refine wp_exit ?_
                obtain rfl := Option.some.inj hF
                exact ⟨CV _, rfl, h.sub [0, 1, 2, 3, 4, 5, 6, 7, 9] (by rfl)⟩
            · clear hl92
              intro e a w hq
              cases cr91 with
              | ret r93 =>
                obtain ⟨rfl, hq⟩ := hq
                obtain rfl := Option.some.inj hF
                exact ⟨.inl rfl, hq⟩
              | next s94 =>
                obtain ⟨y95, y96, y97⟩ := s94
                obtain ⟨rfl, h⟩ := hq
                change A0 c [.slot 0 (Ai bC a_0), .slot 1 (Ab .u64 y95), .slot 3 (An a_3), .slot 4 (An a_4), .slot 10 (Bf (.slice none 0 0)), .slot 11 (AF []), .slot 12 (BG (b3 0) 0), .slot 13 (Ab .i64 y96), .res (lb (b3 0) 160 [Af 65 y97])] a w at h
                refine BT ?_
                show Code.wp Tryd.prog _ _ a w
                refine AU mixed hn hG h [0, 1, 2, 3, 4, 5, 6, 500, 8] (ov [7] (Ag q0) <| ov [500] (Ax DR q0 qi) <| od [500] 7 (Ak q0) .nil) fun _ a w h => ?_
                obtain ⟨hv98, hF⟩ := AH hF
                obtain ⟨hv99, hF⟩ := AH hF
                refine CK mixed hn hG h [0, 2, 3, 4, 5, 6, 7, 500] (ov [7] (Ag q0) <| ov [1] (Ag q0) <| ov [500] (CB Tryd.underlying9 (B9 (sc _ (by decide))) q0 hv98) <| ov [6, 502] (Cu Tryd.underlying160 Tryd.sizeOf5 q0 q1 hv99) <| ou [500, 501] 8 (D4 (i := IntKind.wrap .i64 (y96 - 1)) [] [] Tryd.sizeOf5 q0 q1 rfl hv99) .nil) fun _ a w h => ?_
                exact ⟨IntKind.wrap .i64 (y96 - 1), y97.set (IntKind.wrap .i64 (y96 - 1)).toNat (Dn ((([48, 49, 50, 51, 52, 53, 54, 55, 56, 57, 97, 98, 99, 100, 101, 102, 103, 104, 105, 106, 107, 108, 109, 110, 111, 112, 113, 114, 115, 116, 117, 118, 119, 120, 121, 122] : List UInt8).getD y95.toNat 0).toNat : Int)), hF, h.sub [0, 1, 2, 3, 4, 5, 6, 7] (by rfl)⟩
        · clear h hF
          rintro a w ⟨x37, x38, hF, h⟩
          unfold AO.j3 at hF
          show Code.wp Tryd.prog _ _ a w
          refine wp_seq ?_
          refine AU mixed hn hG h [0, 2, 3, 4, 5, 6, 500, 7] (ov [1] (Ag q0) .nil) fun _ a w h => ?_
          refine BY (fun a w => ∃ (x40 : Int), ∃ (x41 : List UInt8), AO.j4 a_4 x40 x41 = some r ∧ A0 c [.slot 0 (Ai bC a_0), .slot 4 (An a_4), .slot 10 (Bf (.slice none 0 0)), .slot 11 (AF []), .slot 12 (BG (b3 0) 0), .slot 13 (Ab .i64 x40), .res (lb (b3 0) 160 [Af 65 x41])] a w) ?_ ?_
          · refine DN h hF 6 [0, 1, 2, 3, 4, 5, 7] [0, 1, 2, 3, 4, 5, 7] (fun hb45 hF h => ?_) (fun hb45 hF h => ?_)
            · refine AU mixed hn hG h [0, 1, 2, 3, 4, 500, 6] (ov [5] (Ag q0) <| ov [500] (Ax DR q0 qi) <| od [500] 5 (Ak q0) .nil) fun _ a w h => ?_
              obtain ⟨hv46, hF⟩ := AH hF
              refine CK mixed hn hG h [0, 1, 2, 3, 4, 5, 500] (ov [5] (Ag q0) <| ov [4, 500] (Cu Tryd.underlying160 Tryd.sizeOf5 q0 q1 hv46) <| ou [500] 6 (D4 (i := IntKind.wrap .i64 (x37 - 1)) [] [] Tryd.sizeOf5 q0 qi rfl hv46) .nil) fun _ a w h => ?_
              exact ⟨IntKind.wrap .i64 (x37 - 1), x38.set (IntKind.wrap .i64 (x37 - 1)).toNat (Dn 45), hF, h.sub [0, 1, 2, 3, 4, 5, 6] (by rfl)⟩
            · refine wp_skip ?_
              exact ⟨x37, x38, hF, h.sub [0, 1, 2, 3, 4, 5, 6] (by rfl)⟩
          · clear h hF
            rintro a w ⟨x40, x41, hF, h⟩
            unfold AO.j4 at hF
            show Code.wp Tryd.prog _ _ a w
            refine wp_seq ?_
            refine AU mixed hn hG h [0, 2, 3, 4, 5, 500, 6] (ov [1] (Ag q0) .nil) fun _ a w h => ?_
            refine DN h hF 5 [0, 2, 3, 4, 6] [1, 3, 4, 6] (fun hb42 hF h => ?_) (fun hb42 hF h => ?_)
            · cases hF
            · refine wp_skip ?_
              show Code.wp Tryd.prog _ _ a w
              replace h := h.Jv 3 rfl
              replace h := h.IT 1 3 rfl rfl
              replace h := h.sub [0, 1, 2] (by rfl)
              change A0 c [.slot 10 (Bf (.slice none 0 0)), .slot 12 (EI [Af 65 x41]), .slot 13 (Ab .i64 x40)] a w at h
              obtain ⟨hv44, hF⟩ := AH hF
              refine AU mixed hn hG h [0, 500] (ov [2] (Ag q0) <| ov [1, 500] (GC (a := x40) (b := 65) Tryd.underlying160 Tryd.sizeOf5 q0 ⟨_, q1⟩ rfl hv44) <| ov [500] (D1 Tryd.underlying62 Tryd.underlying5 Tryd.underlying9 q0) <| ov [500] (Ak q0) .nil) fun _ a w h => ?_
              refine wp_ret ?_
              obtain rfl := Option.some.inj hF
              exact ⟨.inl rfl, Gw h (rs := [.tmp 10, .tmp 11]) (Vs := [(Ai bC []), (AF ((x41.take (65 : Int).toNat).drop (x40 : Int).toNat))]) Tryd.results66 (by decide) ⟨(LV 0 rfl), (By 1 rfl), trivial⟩ [] [] rfl rfl rfl⟩

def C3 (a_0 : Int) (a_1 : Int) : Option (List UInt8) := (if (decide (a_1 = (10 : Int))) = true then (if (decide (a_0 < (100 : Int))) = true then ((DC (IntKind.wrap .i64 a_0)).bind fun r3 => some r3) else ((C8 a_0).bind fun r5 => (if (0 : Int) ≤ 0 ∧ (0 : Int) ≤ r5 ∧ r5 ≤ 24 ∧ (0 : Int) < 24 then (if (0 : Int) ≤ a_0 ∧ (0 : Int).toNat ≤ (r5 : Int).toNat ∧ (r5 : Int).toNat ≤ (List.replicate 24 0).length ∧ Lib.nDigits a_0.toNat = (r5 : Int).toNat - (0 : Int).toNat ∧ a_0 < 18446744073709551616 ∧ (List.replicate 24 0).length < 1000 then (if (0 : Int) ≤ 0 ∧ (0 : Int) ≤ r5 ∧ r5 ≤ 24 ∧ (0 : Int) < 24 then (if (r5 : Int).toNat - (0 : Int).toNat ≤ 24 then some ((HG (List.replicate 24 0) ((0 : Int).toNat) ((r5 : Int).toNat) a_0).take ((r5 : Int).toNat - (0 : Int).toNat)) else none) else none) else none) else none))) else ((AO [] a_0 a_1 false false).bind fun r10 => some r10.2))
theorem FC {a_0 : Int} {a_1 : Int} {r : (List UInt8)} (hF : C3 a_0 a_1 = some r) : AX Tryd.prog KG 52 [(Ab .u64 a_0), (Ab .i64 a_1)] [] (fun _ => []) (AF r) := by
  refine AX.intro 32 Tryd.func52 rfl Tryd.ntmps52 (Nat.le_of_ble_eq_true rfl) ?_
  intro c a w hG hn h
  unfold C3 at hF
  change A0 c [.slot 0 (Ab .u64 a_0), .slot 1 (Ab .i64 a_1)] a w at h
  refine AU mixed hn hG h [0, 1] (ov [] (Ak (B9 (sc _ (by decide)))) .nil) fun _ a w h => ?_
  refine wp_seq ?_
  refine AU mixed hn hG h [0, 1, 500] (ov [1] (Ag q0) <| ov [500] (Ax B4 q0 qi) .nil) fun _ a w h => ?_
  refine DN h hF 2 [0] [0, 1] (fun hb1 hF h => ?_) (fun hb1 hF h => ?_)
  · refine wp_seq ?_
    refine AU mixed hn hG h [0, 500] (ov [0] (Ag q0) <| ov [500] (Ax B6 q0 qi) .nil) fun _ a w h => ?_
    refine DN h hF 1 [0] [0] (fun hb2 hF h => ?_) (fun hb2 hF h => ?_)
    · obtain ⟨r3, hr3, hF⟩ := bind_some hF
      refine AU mixed hn hG h [500] (ov [0] (Ag q0) <| ov [500] (Bi Tryd.underlying23 Tryd.underlying3 q0) <| oc [500] [] Tryd.call63 (E9 hr3) ⟨q0, trivial⟩ <| ov [500] (Ak q0) .nil) fun _ a w h => ?_
      refine wp_ret ?_
      obtain rfl := Option.some.inj hF
      exact ⟨.inl rfl, Cv h Tryd.results52 (By 0 rfl) [] [] rfl rfl rfl⟩
    · refine wp_skip ?_
      show Code.wp Tryd.prog _ _ a w
      refine AU mixed hn hG h [0, 501, 500] (ob [] (CJ Tryd.zeroValue147 MP) .nil) fun b4 a w h => ?_
      obtain ⟨r5, hr5, hF⟩ := bind_some hF
      refine AU mixed hn hG h [0, 1, 500, 2] (ov [0] (Ag q0) <| oc [500] [] Tryd.call64 (Ex hr5) ⟨q0, trivial⟩ <| ov [500] (Ak q0) .nil) fun _ a w h => ?_
      obtain ⟨hv6, hF⟩ := AH hF
      obtain ⟨hv7, hF⟩ := AH hF
      refine AU mixed hn hG h [1, 2, 500] (ov [2] (Ag q0) <| ov [1, 500] (E1 (a := 0) (b := r5) Tryd.underlying147 Tryd.sizeOf5 q0 rfl ⟨_, q1⟩ hv6) <| ov [0] (Ag q0) <| oc [501, 500] [3] Tryd.call65 (JL (a := (0 : Int).toNat) (b := (r5 : Int).toNat) hv7 (by omega) (by omega)) ⟨q0, q1, trivial⟩ .nil) fun _ a w h => ?_
      obtain ⟨hv8, hF⟩ := AH hF
      obtain ⟨hv9, hF⟩ := AH hF
      refine AU mixed hn hG h [500] (ov [1] (Ag q0) <| ov [0, 500] (E1 (a := 0) (b := r5) Tryd.underlying147 Tryd.sizeOf5 q0 rfl ⟨_, q1⟩ hv8) <| ov [500, 2] (HA [] [] 1 Tryd.underlying62 Tryd.underlying5 Tryd.underlying9 q0 rfl rfl hv9 (by decide)) <| ov [500] (Ak q0) .nil) fun _ a w h => ?_
      refine wp_ret ?_
      obtain rfl := Option.some.inj hF
      exact ⟨.inl rfl, Cv h Tryd.results52 (By 0 rfl) [] [] rfl rfl rfl⟩
  · refine wp_skip ?_
    show Code.wp Tryd.prog _ _ a w
    obtain ⟨r10, hr10, hF⟩ := bind_some hF
    refine AU mixed hn hG h [500] (ov [0] (Ag q0) <| ov [1] (Ag q0) <| oc [501, 500] [] Tryd.call66 (Eo hr10) ⟨JD, q0, q1, qb, qb, trivial⟩ <| ov [500] (Ag q0) <| ov [500] (CH q0 rfl) <| ov [501] (CH q0 rfl) <| ov [501] (Ak q0) <| ov [501] (Ak q0) .nil) fun _ a w h => ?_
    refine AU mixed hn hG h [500] (ov [0] (Ag q0) <| ov [500] (Ak q0) .nil) fun _ a w h => ?_
    refine wp_ret ?_
    obtain rfl := Option.some.inj hF
    exact ⟨.inl rfl, Cv h Tryd.results52 (By 0 rfl) [] [] rfl rfl rfl⟩

def Ch (a_0 : Int) (a_1 : Int) : Option (List UInt8) := ((C3 a_0 a_1).bind fun r1 => some r1)
theorem DD {a_0 : Int} {a_1 : Int} {r : (List UInt8)} (hF : Ch a_0 a_1 = some r) : AX Tryd.prog KG 34 [(Ab .u64 a_0), (Ab .i64 a_1)] [] (fun _ => []) (AF r) := by
  refine AX.intro 8 Tryd.func34 rfl Tryd.ntmps34 (Nat.le_of_ble_eq_true rfl) ?_
  intro c a w hG hn h
  unfold Ch at hF
  change A0 c [.slot 0 (Ab .u64 a_0), .slot 1 (Ab .i64 a_1)] a w at h
  refine AU mixed hn hG h [0, 1] (ov [] (Ak (B9 (sc _ (by decide)))) .nil) fun _ a w h => ?_
  obtain ⟨r1, hr1, hF⟩ := bind_some hF
  refine AU mixed hn hG h [500] (ov [0] (Ag q0) <| ov [1] (Ag q0) <| oc [501, 500] [] Tryd.call52 (FC hr1) ⟨q0, q1, trivial⟩ <| ov [500] (Ak q0) .nil) fun _ a w h => ?_
  refine wp_ret ?_
  obtain rfl := Option.some.inj hF
  exact ⟨.inl rfl, Cv h Tryd.results34 (By 0 rfl) [] [] rfl rfl rfl⟩

def Cg (a_0 : Int) : Option (List UInt8) := ((Ch a_0 10).bind fun r1 => some r1)
theorem Cd {a_0 : Int} {r : (List UInt8)} (hF : Cg a_0 = some r) : AX Tryd.prog KG 19 [(Ab .u64 a_0)] [] (fun _ => []) (AF r) := by
  refine AX.intro 5 Tryd.func19 rfl Tryd.ntmps19 (Nat.le_of_ble_eq_true rfl) ?_
  intro c a w hG hn h
  unfold Cg at hF
  change A0 c [.slot 0 (Ab .u64 a_0)] a w at h
  refine AU mixed hn hG h [0] (ov [] (Ak (B9 (sc _ (by decide)))) .nil) fun _ a w h => ?_
  obtain ⟨r1, hr1, hF⟩ := bind_some hF
  refine AU mixed hn hG h [500] (ov [0] (Ag q0) <| oc [500] [] Tryd.call34 (DD hr1) ⟨q0, qi, trivial⟩ <| ov [500] (Ak q0) .nil) fun _ a w h => ?_
  refine wp_ret ?_
  obtain rfl := Option.some.inj hF
  exact ⟨.inl rfl, Cv h Tryd.results19 (By 0 rfl) [] [] rfl rfl rfl⟩

def EJ (L_0 : B7) : Option (List UInt8) := (if L_0.Ca ≠ [] then some L_0.Ca else none)
theorem Hj {p_0 : Value} {L_0 : B7} {r : (List UInt8)} (hF : EJ L_0 = some r) : AX Tryd.prog KG 23 [(Bf p_0)] [(Cm p_0 (some L_0))] (fun _ => []) (AF r) := by
  refine AX.intro 14 Tryd.func23 rfl Tryd.ntmps23 (Nat.le_of_ble_eq_true rfl) ?_
  intro c a w hG hn h
  unfold EJ at hF
  change A0 c [.slot 0 (Bf p_0), .res (Cm p_0 (some L_0))] a w at h
  obtain ⟨h_0_1, h⟩ := h.ex 1 rfl
  change A0 c [.slot 0 (Bf p_0), .res (JQ p_0 h_0_1 (some L_0))] a w at h
  have hp := h.MH 1 rfl (fun Φ f w q => G5 Φ f w q)
  replace h := h.Gq 0 rfl (V' := BG p_0 0) (fun _ _ h => HY h hp)
  replace h := h.sep (R := lb p_0 66 [one (B8 p_0), one (Bf h_0_1)]) (S := (acc h_0_1 5 1 bC L_0.Ca)) 1 rfl
  replace h := h.sub [0, 1, 2] (by rfl)
  change A0 c [.slot 0 (BG p_0 0), .res (lb p_0 66 [one (B8 p_0), one (Bf h_0_1)]), .res (acc h_0_1 5 1 bC L_0.Ca)] a w at h
  refine AU mixed hn hG h [0, 1, 2] (ov [] (Ak (B9 (sc _ (by decide)))) .nil) fun _ a w h => ?_
  obtain ⟨hv1, hF⟩ := AH hF
  refine AU mixed hn hG h [500, 1] (ov [0] (Ag q0) <| ov [500] (CI q0 (Ek _ _)) <| ov [500] (Ah (p := p_0) (n := 1) 0 1 Tryd.underlying64 rfl Tryd.sizeOf62 (by decide) q0 rfl) <| ov [500, 1] (AE [one (B8 p_0)] [] 1 Tryd.isAgg62 q0 rfl rfl) <| ov [500, 2] (KE 1 q0 rfl hv1) <| ov [0] (Ag q0) <| ov [500] (CI q0 (Ek _ _)) <| ov [500] (Ah (p := p_0) (n := 1) 0 1 Tryd.underlying64 rfl Tryd.sizeOf62 (by decide) q0 rfl) <| ov [500, 1] (AE [one (B8 p_0)] [] 1 Tryd.isAgg62 q0 rfl rfl) <| ov [500, 2] (Bm Tryd.underlying62 (Jy 0 1 rfl rfl)) <| oe [505, 500] [2] (A4.plain (Jz Tryd.underlying130 (by kernel_rfl) q0 q1 hv1) rfl) <| ov [500] (Ak q0) .nil) fun _ a w h => ?_
  refine wp_ret ?_
  obtain rfl := Option.some.inj hF
  exact ⟨.inl rfl, Cv h Tryd.results23 (By 0 rfl) [] [] rfl rfl rfl⟩

def Cy (L_0 : C2) : Option (List UInt8) := (if L_0.Ca ≠ [] then some L_0.Ca else none)
theorem D5 {p_0 : Value} {L_0 : C2} {r : (List UInt8)} (hF : Cy L_0 = some r) : AX Tryd.prog KG 23 [(Bf p_0)] [(C4 p_0 (some L_0))] (fun _ => []) (AF r) := by
  refine AX.intro 14 Tryd.func23 rfl Tryd.ntmps23 (Nat.le_of_ble_eq_true rfl) ?_
  intro c a w hG hn h
  unfold Cy at hF
  change A0 c [.slot 0 (Bf p_0), .res (C4 p_0 (some L_0))] a w at h
  obtain ⟨h_0_1, h⟩ := h.ex 1 rfl
  change A0 c [.slot 0 (Bf p_0), .res (H4 p_0 h_0_1 (some L_0))] a w at h
  have hp := h.MH 1 rfl (fun Φ f w q => Iu Φ f w q)
  replace h := h.Gq 0 rfl (V' := BG p_0 0) (fun _ _ h => HY h hp)
  replace h := h.sep (R := lb p_0 64 [one (B8 p_0), one (Bf h_0_1)]) (S := (acc h_0_1 5 1 bC L_0.Ca)) 1 rfl
  replace h := h.sub [0, 1, 2] (by rfl)
  change A0 c [.slot 0 (BG p_0 0), .res (lb p_0 64 [one (B8 p_0), one (Bf h_0_1)]), .res (acc h_0_1 5 1 bC L_0.Ca)] a w at h
  refine AU mixed hn hG h [0, 1, 2] (ov [] (Ak (B9 (sc _ (by decide)))) .nil) fun _ a w h => ?_
  obtain ⟨hv1, hF⟩ := AH hF
  refine AU mixed hn hG h [500, 1] (ov [0] (Ag q0) <| ov [500] (CI q0 (Ek _ _)) <| ov [500] (Ah (p := p_0) (n := 1) 0 1 Tryd.underlying64 rfl Tryd.sizeOf62 (by decide) q0 rfl) <| ov [500, 1] (AE [one (B8 p_0)] [] 1 Tryd.isAgg62 q0 rfl rfl) <| ov [500, 2] (KE 1 q0 rfl hv1) <| ov [0] (Ag q0) <| ov [500] (CI q0 (Ek _ _)) <| ov [500] (Ah (p := p_0) (n := 1) 0 1 Tryd.underlying64 rfl Tryd.sizeOf62 (by decide) q0 rfl) <| ov [500, 1] (AE [one (B8 p_0)] [] 1 Tryd.isAgg62 q0 rfl rfl) <| ov [500, 2] (Bm Tryd.underlying62 (Jy 0 1 rfl rfl)) <| oe [505, 500] [2] (A4.plain (Jz Tryd.underlying130 (by kernel_rfl) q0 q1 hv1) rfl) <| ov [500] (Ak q0) .nil) fun _ a w h => ?_
  refine wp_ret ?_
  obtain rfl := Option.some.inj hF
  exact ⟨.inl rfl, Cv h Tryd.results23 (By 0 rfl) [] [] rfl rfl rfl⟩

def DB (L_0 : B7) (a_1 : List UInt8) : Option (Int × Value × B7) := (if L_0.Ca.length + a_1.length ≤ Bw ∧ (L_0.Ca.length + a_1.length) * 1 ≤ 140737488355328 then some ((a_1.length : Int), Value.nilIface, ⟨L_0.Ca ++ a_1⟩) else none)
theorem FO {p_0 : Value} {L_0 : B7} {a_1 : List UInt8} {r : Int × Value × B7} (hF : DB L_0 a_1 = some r) : AX Tryd.prog KG 31 [(Bf p_0), (AF a_1)] [(Cm p_0 (some L_0))] (fun _ => [Cm p_0 (some r.2.2)]) (DJ [(Ab .i64 r.1), (Bf r.2.1)]) := by
  refine AX.intro 19 Tryd.func31 rfl Tryd.ntmps31 (Nat.le_of_ble_eq_true rfl) ?_
  intro c a w hG hn h
  unfold DB at hF
  change A0 c [.slot 0 (Bf p_0), .slot 1 (AF a_1), .res (Cm p_0 (some L_0))] a w at h
  obtain ⟨h_0_1, h⟩ := h.ex 2 rfl
  change A0 c [.slot 0 (Bf p_0), .slot 1 (AF a_1), .res (JQ p_0 h_0_1 (some L_0))] a w at h
  have hp := h.MH 2 rfl (fun Φ f w q => G5 Φ f w q)
  replace h := h.Gq 0 rfl (V' := BG p_0 0) (fun _ _ h => HY h hp)
  replace h := h.sep (R := lb p_0 66 [one (B8 p_0), one (Bf h_0_1)]) (S := (acc h_0_1 5 1 bC L_0.Ca)) 2 rfl
  replace h := h.sub [0, 1, 2, 3] (by rfl)
  change A0 c [.slot 0 (BG p_0 0), .slot 1 (AF a_1), .res (lb p_0 66 [one (B8 p_0), one (Bf h_0_1)]), .res (acc h_0_1 5 1 bC L_0.Ca)] a w at h
  refine AU mixed hn hG h [0, 1, 2, 3] (ov [] (Ak qi) <| ov [] (Ak (B9 (ec _))) .nil) fun _ a w h => ?_
  refine AU mixed hn hG h [0, 1, 3, 500] (ov [0] (Ag q0) <| oc [500] [2] Tryd.call49 HP ⟨(Ih 0 rfl), trivial⟩ .nil) fun _ a w h => ?_
  obtain ⟨hv1, hF⟩ := AH hF
  refine AU mixed hn hG h [1, 500, 503] (ov [0] (Ag q0) <| ov [0] (Ag q0) <| ov [500] (CI q0 (Ek _ _)) <| ov [500] (Ah (p := p_0) (n := 1) 0 1 Tryd.underlying64 rfl Tryd.sizeOf62 (by decide) q0 rfl) <| ov [500, 3] (AE [one (B8 p_0)] [] 1 Tryd.isAgg62 q0 rfl rfl) <| ov [1] (Ag q0) <| og [501, 500] [2] [.slot 14 6 100000 (fun v1_ _ => (Bf v1_)), .res 6 100000 (fun v1_ _ => (acc (v1_) 5 1 bC (L_0.Ca ++ a_1)))] (A4.plain (F6 Tryd.underlying62 Tryd.underlying9 Tryd.type5 rfl rfl rfl rfl q0 q1 hv1) rfl) <| ov [507] (CI q0 (Ek _ _)) <| ov [500] (Ah (p := p_0) (n := 1) 0 1 Tryd.underlying64 rfl Tryd.sizeOf62 (by decide) q0 rfl) <| og [500, 503, 502] [3] [.res 6 100000 (fun v1_ _ => (lb p_0 66 [one (B8 p_0), one (Bf (v1_))]))] (fun {β} => (A4.plain (EA [one (B8 p_0)] [one (Bf h_0_1)] [] [one (Bf ((β 6)))] Tryd.sizeOf62 q0 (Jx 1 2 rfl rfl Hq) (Hn _) rfl rfl rfl) rfl)) .nil) fun b2 a w h => ?_
  refine AU mixed hn hG h [501, 500, 1, 2] (ov [0] (Ag q0) <| ov [500] (CU Tryd.underlying9 q0) <| ov [500] (Ak q0) <| ov [] (Ak (B9 (ec _))) .nil) fun _ a w h => ?_
  refine wp_ret ?_
  replace h := h.Jq 2 3 rfl rfl (by decide)
  replace h := h.conv 2 rfl (R' := Cm p_0 (some ⟨L_0.Ca ++ a_1⟩)) (Kg (v1 := (b2 6)) (o := (some ⟨L_0.Ca ++ a_1⟩)))
  replace h := h.sub [0, 1, 2] (by rfl)
  change A0 c [.slot 4 (Ab .i64 (a_1.length : Int)), .slot 5 (Bf Value.nilIface), .res (Cm p_0 (some ⟨L_0.Ca ++ a_1⟩))] a w at h
  obtain rfl := Option.some.inj hF
  exact ⟨.inl rfl, Gw h (rs := [.tmp 4, .tmp 5]) (Vs := [(Ab .i64 (a_1.length : Int)), (Bf Value.nilIface)]) Tryd.results31 (by decide) ⟨(By 0 rfl), (By 1 rfl), trivial⟩ [2] [(Cm p_0 (some ⟨L_0.Ca ++ a_1⟩))] rfl rfl rfl⟩

def B2 (L_0 : C2) (a_1 : List UInt8) : Option (Int × Value × C2) := (if L_0.Ca.length + a_1.length ≤ Bw ∧ (L_0.Ca.length + a_1.length) * 1 ≤ 140737488355328 then some ((a_1.length : Int), Value.nilIface, ⟨L_0.Ca ++ a_1⟩) else none)
theorem DK {p_0 : Value} {L_0 : C2} {a_1 : List UInt8} {r : Int × Value × C2} (hF : B2 L_0 a_1 = some r) : AX Tryd.prog KG 31 [(Bf p_0), (AF a_1)] [(C4 p_0 (some L_0))] (fun _ => [C4 p_0 (some r.2.2)]) (DJ [(Ab .i64 r.1), (Bf r.2.1)]) := by
  refine AX.intro 19 Tryd.func31 rfl Tryd.ntmps31 (Nat.le_of_ble_eq_true rfl) ?_
  intro c a w hG hn h
  unfold B2 at hF
  change A0 c [.slot 0 (Bf p_0), .slot 1 (AF a_1), .res (C4 p_0 (some L_0))] a w at h
  obtain ⟨h_0_1, h⟩ := h.ex 2 rfl
  change A0 c [.slot 0 (Bf p_0), .slot 1 (AF a_1), .res (H4 p_0 h_0_1 (some L_0))] a w at h
  have hp := h.MH 2 rfl (fun Φ f w q => Iu Φ f w q)
  replace h := h.Gq 0 rfl (V' := BG p_0 0) (fun _ _ h => HY h hp)
  replace h := h.sep (R := lb p_0 64 [one (B8 p_0), one (Bf h_0_1)]) (S := (acc h_0_1 5 1 bC L_0.Ca)) 2 rfl
  replace h := h.sub [0, 1, 2, 3] (by rfl)
  change A0 c [.slot 0 (BG p_0 0), .slot 1 (AF a_1), .res (lb p_0 64 [one (B8 p_0), one (Bf h_0_1)]), .res (acc h_0_1 5 1 bC L_0.Ca)] a w at h
  refine AU mixed hn hG h [0, 1, 2, 3] (ov [] (Ak qi) <| ov [] (Ak (B9 (ec _))) .nil) fun _ a w h => ?_
  refine AU mixed hn hG h [0, 1, 3, 500] (ov [0] (Ag q0) <| oc [500] [2] Tryd.call49 Ft ⟨(Ih 0 rfl), trivial⟩ .nil) fun _ a w h => ?_
  obtain ⟨hv1, hF⟩ := AH hF
  refine AU mixed hn hG h [1, 500, 503] (ov [0] (Ag q0) <| ov [0] (Ag q0) <| ov [500] (CI q0 (Ek _ _)) <| ov [500] (Ah (p := p_0) (n := 1) 0 1 Tryd.underlying64 rfl Tryd.sizeOf62 (by decide) q0 rfl) <| ov [500, 3] (AE [one (B8 p_0)] [] 1 Tryd.isAgg62 q0 rfl rfl) <| ov [1] (Ag q0) <| og [501, 500] [2] [.slot 14 6 100000 (fun v1_ _ => (Bf v1_)), .res 6 100000 (fun v1_ _ => (acc (v1_) 5 1 bC (L_0.Ca ++ a_1)))] (A4.plain (F6 Tryd.underlying62 Tryd.underlying9 Tryd.type5 rfl rfl rfl rfl q0 q1 hv1) rfl) <| ov [507] (CI q0 (Ek _ _)) <| ov [500] (Ah (p := p_0) (n := 1) 0 1 Tryd.underlying64 rfl Tryd.sizeOf62 (by decide) q0 rfl) <| og [500, 503, 502] [3] [.res 6 100000 (fun v1_ _ => (lb p_0 64 [one (B8 p_0), one (Bf (v1_))]))] (fun {β} => (A4.plain (EA [one (B8 p_0)] [one (Bf h_0_1)] [] [one (Bf ((β 6)))] Tryd.sizeOf62 q0 (Jx 1 2 rfl rfl Hq) (Hn _) rfl rfl rfl) rfl)) .nil) fun b2 a w h => ?_
  refine AU mixed hn hG h [501, 500, 1, 2] (ov [0] (Ag q0) <| ov [500] (CU Tryd.underlying9 q0) <| ov [500] (Ak q0) <| ov [] (Ak (B9 (ec _))) .nil) fun _ a w h => ?_
  refine wp_ret ?_
  replace h := h.Jq 2 3 rfl rfl (by decide)
  replace h := h.conv 2 rfl (R' := C4 p_0 (some ⟨L_0.Ca ++ a_1⟩)) (G7 (v1 := (b2 6)) (o := (some ⟨L_0.Ca ++ a_1⟩)))
  replace h := h.sub [0, 1, 2] (by rfl)
  change A0 c [.slot 4 (Ab .i64 (a_1.length : Int)), .slot 5 (Bf Value.nilIface), .res (C4 p_0 (some ⟨L_0.Ca ++ a_1⟩))] a w at h
  obtain rfl := Option.some.inj hF
  exact ⟨.inl rfl, Gw h (rs := [.tmp 4, .tmp 5]) (Vs := [(Ab .i64 (a_1.length : Int)), (Bf Value.nilIface)]) Tryd.results31 (by decide) ⟨(By 0 rfl), (By 1 rfl), trivial⟩ [2] [(C4 p_0 (some ⟨L_0.Ca ++ a_1⟩))] rfl rfl rfl⟩

def BI (L_0 : C2) (a_1 : Int) : Option (Value × C2) := (if L_0.Ca.length + [Dn a_1].length ≤ Bw ∧ (L_0.Ca.length + [Dn a_1].length) * 1 ≤ 140737488355328 then some (Value.nilIface, ⟨L_0.Ca ++ [Dn a_1]⟩) else none)
theorem Cb {p_0 : Value} {L_0 : C2} {a_1 : Int} {r : Value × C2} (hF : BI L_0 a_1 = some r) : AX Tryd.prog KG 43 [(Bf p_0), (Ab .u8 a_1)] [(C4 p_0 (some L_0))] (fun _ => [C4 p_0 (some r.2)]) (Bf r.1) := by
  refine AX.intro 17 Tryd.func43 rfl Tryd.ntmps43 (Nat.le_of_ble_eq_true rfl) ?_
  intro c a w hG hn h
  unfold BI at hF
  change A0 c [.slot 0 (Bf p_0), .slot 1 (Ab .u8 a_1), .res (C4 p_0 (some L_0))] a w at h
  obtain ⟨h_0_1, h⟩ := h.ex 2 rfl
  change A0 c [.slot 0 (Bf p_0), .slot 1 (Ab .u8 a_1), .res (H4 p_0 h_0_1 (some L_0))] a w at h
  have hp := h.MH 2 rfl (fun Φ f w q => Iu Φ f w q)
  replace h := h.Gq 0 rfl (V' := BG p_0 0) (fun _ _ h => HY h hp)
  replace h := h.sep (R := lb p_0 64 [one (B8 p_0), one (Bf h_0_1)]) (S := (acc h_0_1 5 1 bC L_0.Ca)) 2 rfl
  replace h := h.sub [0, 1, 2, 3] (by rfl)
  change A0 c [.slot 0 (BG p_0 0), .slot 1 (Ab .u8 a_1), .res (lb p_0 64 [one (B8 p_0), one (Bf h_0_1)]), .res (acc h_0_1 5 1 bC L_0.Ca)] a w at h
  refine AU mixed hn hG h [0, 1, 2, 3] (ov [] (Ak (B9 (ec _))) .nil) fun _ a w h => ?_
  refine AU mixed hn hG h [0, 1, 3, 500] (ov [0] (Ag q0) <| oc [500] [2] Tryd.call49 Ft ⟨(Ih 0 rfl), trivial⟩ .nil) fun _ a w h => ?_
  obtain ⟨hv1, hF⟩ := AH hF
  refine AU mixed hn hG h [500, 503] (ov [0] (Ag q0) <| ov [0] (Ag q0) <| ov [500] (CI q0 (Ek _ _)) <| ov [500] (Ah (p := p_0) (n := 1) 0 1 Tryd.underlying64 rfl Tryd.sizeOf62 (by decide) q0 rfl) <| ov [500, 3] (AE [one (B8 p_0)] [] 1 Tryd.isAgg62 q0 rfl rfl) <| ov [1] (Ag q0) <| ov [500] (El (xs := [.tmp 12]) (ys := [Dn a_1]) _ rfl Tryd.underlying62 Tryd.sizeOf5 Tryd.zeroValue5 rfl rfl (by decide) (by decide) ⟨⟨_, q0, (Fg _)⟩, trivial⟩ Fo) <| og [502, 500] [2] [.slot 14 7 100000 (fun v1_ _ => (Bf v1_)), .res 7 100000 (fun v1_ _ => (acc (v1_) 5 1 bC (L_0.Ca ++ [Dn a_1])))] (A4.plain (GZ (i := Tryd.t5) Tryd.underlying62 Tryd.type5 rfl Fo (by decide) rfl q0 q1 hv1) rfl) <| ov [508] (CI q0 (Ek _ _)) <| ov [500] (Ah (p := p_0) (n := 1) 0 1 Tryd.underlying64 rfl Tryd.sizeOf62 (by decide) q0 rfl) <| og [500, 503, 502] [3] [.res 7 100000 (fun v1_ _ => (lb p_0 64 [one (B8 p_0), one (Bf (v1_))]))] (fun {β} => (A4.plain (EA [one (B8 p_0)] [one (Bf h_0_1)] [] [one (Bf ((β 7)))] Tryd.sizeOf62 q0 (Jx 1 2 rfl rfl Hq) (Hn _) rfl rfl rfl) rfl)) .nil) fun b2 a w h => ?_
  refine AU mixed hn hG h [500, 0, 1] (ov [] (Ak (B9 (ec _))) .nil) fun _ a w h => ?_
  refine wp_ret ?_
  replace h := h.Jq 1 2 rfl rfl (by decide)
  replace h := h.conv 1 rfl (R' := C4 p_0 (some ⟨L_0.Ca ++ [Dn a_1]⟩)) (G7 (v1 := (b2 7)) (o := (some ⟨L_0.Ca ++ [Dn a_1]⟩)))
  replace h := h.sub [0, 1] (by rfl)
  change A0 c [.slot 4 (Bf Value.nilIface), .res (C4 p_0 (some ⟨L_0.Ca ++ [Dn a_1]⟩))] a w at h
  obtain rfl := Option.some.inj hF
  exact ⟨.inl rfl, Cv h Tryd.results43 (By 0 rfl) [1] [(C4 p_0 (some ⟨L_0.Ca ++ [Dn a_1]⟩))] rfl rfl rfl⟩

def D9 (a_0 : List (UInt8)) (a_1 : Int) : Option (List (UInt8)) := (if (decide ((IntKind.wrap .u32 a_1) ≤ (127 : Int))) = true then (if a_0.length + [Dn (IntKind.wrap .u8 a_1)].length ≤ Bw ∧ (a_0.length + [Dn (IntKind.wrap .u8 a_1)].length) * 1 ≤ 140737488355328 then some (a_0 ++ [Dn (IntKind.wrap .u8 a_1)]) else none) else none)
theorem Ga {p_0 : Value} {a_0 : List (UInt8)} {a_1 : Int} {r : (List (UInt8))} (hF : D9 a_0 a_1 = some r) : AX Tryd.prog KG 57 [(Bf p_0), (Ab .i32 a_1)] [(acc p_0 5 1 bC a_0)] (fun v => [acc v 5 1 bC r]) L5 := by
  refine AX.intro 16 Tryd.func57 rfl Tryd.ntmps57 (Nat.le_of_ble_eq_true rfl) ?_
  intro c a w hG hn h
  unfold D9 at hF
  change A0 c [.slot 0 (Bf p_0), .slot 1 (Ab .i32 a_1), .res (acc p_0 5 1 bC a_0)] a w at h
  refine AU mixed hn hG h [0, 1, 2] (ov [] (Ak (B9 (ec _))) .nil) fun _ a w h => ?_
  refine wp_seq ?_
  refine AU mixed hn hG h [0, 1, 500, 2] (ov [1] (Ag q0) <| ov [500] (Bi Tryd.underlying21 Tryd.underlying22 q0) <| ov [500] (Ax Cj q0 qi) .nil) fun _ a w h => ?_
  refine DN h hF 2 [0, 1, 3] [0, 1, 3] (fun hb1 hF h => ?_) (fun hb1 hF h => ?_)
  · obtain ⟨hv2, hF⟩ := AH hF
    refine AU mixed hn hG h [500, 501] (ov [0] (Ag q0) <| ov [1] (Ag q0) <| ov [500] (Bi Tryd.underlying21 Tryd.underlying5 q0) <| ov [500] (El (xs := [.tmp 10]) (ys := [Dn (IntKind.wrap .u8 a_1)]) _ rfl Tryd.underlying62 Tryd.sizeOf5 Tryd.zeroValue5 rfl rfl (by decide) (by decide) ⟨⟨_, q0, (Fg _)⟩, trivial⟩ Fo) <| og [503, 500] [2] [.slot 12 4 100000 (fun v1_ _ => (Bf v1_)), .res 4 100000 (fun v1_ _ => (acc (v1_) 5 1 bC (a_0 ++ [Dn (IntKind.wrap .u8 a_1)])))] (A4.plain (GZ (i := Tryd.t5) Tryd.underlying62 Tryd.type5 rfl Fo (by decide) rfl q0 q1 hv2) rfl) <| og [501] [] [.slot 4 4 100000 (fun v1_ _ => (Bf v1_))] (fun {β} => (A4.plain (Ak (V := (Bf (β 4))) q0) rfl)) .nil) fun b3 a w h => ?_
    refine wp_ret ?_
    obtain rfl := Option.some.inj hF
    exact ⟨.inl rfl, MW (p := (b3 4)) h Tryd.results57 (By 0 rfl) [1] _ rfl rfl rfl⟩
  · cases hF

def CE (L_0 : C2) (a_1 : Int) : Option (Int × Value × C2) := ((D9 L_0.Ca a_1).bind fun r1 => some (IntKind.wrap .i64 ((r1.length : Int) - (L_0.Ca.length : Int)), Value.nilIface, ⟨r1⟩))
theorem DS {p_0 : Value} {L_0 : C2} {a_1 : Int} {r : Int × Value × C2} (hF : CE L_0 a_1 = some r) : AX Tryd.prog KG 44 [(Bf p_0), (Ab .i32 a_1)] [(C4 p_0 (some L_0))] (fun _ => [C4 p_0 (some r.2.2)]) (DJ [(Ab .i64 r.1), (Bf r.2.1)]) := by
  refine AX.intro 30 Tryd.func44 rfl Tryd.ntmps44 (Nat.le_of_ble_eq_true rfl) ?_
  intro c a w hG hn h
  unfold CE at hF
  change A0 c [.slot 0 (Bf p_0), .slot 1 (Ab .i32 a_1), .res (C4 p_0 (some L_0))] a w at h
  obtain ⟨h_0_1, h⟩ := h.ex 2 rfl
  change A0 c [.slot 0 (Bf p_0), .slot 1 (Ab .i32 a_1), .res (H4 p_0 h_0_1 (some L_0))] a w at h
  have hp := h.MH 2 rfl (fun Φ f w q => Iu Φ f w q)
  replace h := h.Gq 0 rfl (V' := BG p_0 0) (fun _ _ h => HY h hp)
  replace h := h.sep (R := lb p_0 64 [one (B8 p_0), one (Bf h_0_1)]) (S := (acc h_0_1 5 1 bC L_0.Ca)) 2 rfl
  replace h := h.sub [0, 1, 2, 3] (by rfl)
  change A0 c [.slot 0 (BG p_0 0), .slot 1 (Ab .i32 a_1), .res (lb p_0 64 [one (B8 p_0), one (Bf h_0_1)]), .res (acc h_0_1 5 1 bC L_0.Ca)] a w at h
  refine AU mixed hn hG h [0, 1, 2, 3] (ov [] (Ak qi) <| ov [] (Ak (B9 (ec _))) .nil) fun _ a w h => ?_
  refine AU mixed hn hG h [0, 1, 3, 500] (ov [0] (Ag q0) <| oc [500] [2] Tryd.call49 Ft ⟨(Ih 0 rfl), trivial⟩ .nil) fun _ a w h => ?_
  refine AU mixed hn hG h [0, 1, 500, 2, 3] (ov [0] (Ag q0) <| ov [500] (CI q0 (Ek _ _)) <| ov [500] (Ah (p := p_0) (n := 1) 0 1 Tryd.underlying64 rfl Tryd.sizeOf62 (by decide) q0 rfl) <| ov [500, 3] (AE [one (B8 p_0)] [] 1 Tryd.isAgg62 q0 rfl rfl) <| ov [500, 2] (Bm Tryd.underlying62 (Jy 0 1 rfl rfl)) <| ov [500] (Ak q0) .nil) fun _ a w h => ?_
  obtain ⟨r1, hr1, hF⟩ := bind_some hF
  refine AU mixed hn hG h [0, 2, 500, 503] (ov [0] (Ag q0) <| ov [0] (Ag q0) <| ov [500] (CI q0 (Ek _ _)) <| ov [500] (Ah (p := p_0) (n := 1) 0 1 Tryd.underlying64 rfl Tryd.sizeOf62 (by decide) q0 rfl) <| ov [500, 4] (AE [one (B8 p_0)] [] 1 Tryd.isAgg62 q0 rfl rfl) <| ov [1] (Ag q0) <| og [501, 500] [3] [.slot 20 6 100000 (fun v1_ _ => (Bf v1_)), .res 6 100000 (fun v1_ _ => (acc (v1_) 5 1 bC r1))] (A4.plain (KH Tryd.call57 (Ga hr1) ⟨q0, q1, trivial⟩) rfl) <| ov [507] (CI q0 (Ek _ _)) <| ov [500] (Ah (p := p_0) (n := 1) 0 1 Tryd.underlying64 rfl Tryd.sizeOf62 (by decide) q0 rfl) <| og [500, 503, 502] [4] [.res 6 100000 (fun v1_ _ => (lb p_0 64 [one (B8 p_0), one (Bf (v1_))]))] (fun {β} => (A4.plain (EA [one (B8 p_0)] [one (Bf h_0_1)] [] [one (Bf ((β 6)))] Tryd.sizeOf62 q0 (Jx 1 2 rfl rfl Hq) (Hn _) rfl rfl rfl) rfl)) .nil) fun b2 a w h => ?_
  refine AU mixed hn hG h [501, 500, 2, 3] (ov [0] (Ag q0) <| ov [500] (CI q0 (Ek _ _)) <| ov [500] (Ah (p := p_0) (n := 1) 0 1 Tryd.underlying64 rfl Tryd.sizeOf62 (by decide) q0 rfl) <| ov [500, 2] (AE [one (B8 p_0)] [] 1 Tryd.isAgg62 q0 rfl rfl) <| ov [500, 3] (Bm Tryd.underlying62 (Jy 0 1 rfl rfl)) <| ov [1] (Ag q0) <| ov [501, 500] (Ax DR q0 q1) <| ov [500] (Ak q0) <| ov [] (Ak (B9 (ec _))) .nil) fun _ a w h => ?_
  refine wp_ret ?_
  replace h := h.Jq 2 3 rfl rfl (by decide)
  replace h := h.conv 2 rfl (R' := C4 p_0 (some ⟨r1⟩)) (G7 (v1 := (b2 6)) (o := (some ⟨r1⟩)))
  replace h := h.sub [0, 1, 2] (by rfl)
  change A0 c [.slot 4 (Ab .i64 (IntKind.wrap .i64 ((r1.length : Int) - (L_0.Ca.length : Int)))), .slot 5 (Bf Value.nilIface), .res (C4 p_0 (some ⟨r1⟩))] a w at h
  obtain rfl := Option.some.inj hF
  exact ⟨.inl rfl, Gw h (rs := [.tmp 4, .tmp 5]) (Vs := [(Ab .i64 (IntKind.wrap .i64 ((r1.length : Int) - (L_0.Ca.length : Int)))), (Bf Value.nilIface)]) Tryd.results44 (by decide) ⟨(By 0 rfl), (By 1 rfl), trivial⟩ [2] [(C4 p_0 (some ⟨r1⟩))] rfl rfl rfl⟩

def EB (a_0 : List UInt8) (a_1 : Int) (a_2 : Int) : Option Bool := (if (!decide (a_2 = (65533 : Int))) = true then some false else (if (0 : Int) ≤ a_1 ∧ a_1 ≤ (a_0.length : Int) ∧ (a_0.length : Int) ≤ a_0.length then some (decide ((MI ((a_0.take (a_0.length : Int).toNat).drop a_1.toNat) : Int) = (1 : Int))) else none))
theorem HD {a_0 : List UInt8} {a_1 : Int} {a_2 : Int} {r : Bool} (hF : EB a_0 a_1 a_2 = some r) : AX Tryd.prog KG 45 [(AF a_0), (Ab .i64 a_1), (Ab .i32 a_2)] [] (fun _ => []) (An r) := by
  refine AX.intro 20 Tryd.func45 rfl Tryd.ntmps45 (Nat.le_of_ble_eq_true rfl) ?_
  intro c a w hG hn h
  unfold EB at hF
  change A0 c [.slot 0 (AF a_0), .slot 1 (Ab .i64 a_1), .slot 2 (Ab .i32 a_2)] a w at h
  refine AU mixed hn hG h [0, 1, 2] (ov [] (Ak qb) .nil) fun _ a w h => ?_
  refine wp_seq ?_
  refine AU mixed hn hG h [0, 1, 500] (ov [2] (Ag q0) <| ov [500] (Ax LL q0 qi) .nil) fun _ a w h => ?_
  refine DN h hF 2 [] [0, 1] (fun hb1 hF h => ?_) (fun hb1 hF h => ?_)
  · refine AU mixed hn hG h [500] (ov [] (Ak qb) .nil) fun _ a w h => ?_
    refine wp_ret ?_
    obtain rfl := Option.some.inj hF
    exact ⟨.inl rfl, Cv h Tryd.results45 (By 0 rfl) [] [] rfl rfl rfl⟩
  · refine wp_skip ?_
    show Code.wp Tryd.prog _ _ a w
    obtain ⟨hv2, hF⟩ := AH hF
    refine AU mixed hn hG h [500] (ov [0] (Ag q0) <| ov [1] (Ag q0) <| ov [501, 500] (Dg (a := a_1) (b := (a_0.length : Int)) Tryd.underlying9 q0 ⟨_, q1⟩ rfl hv2) <| oc [500] [] Tryd.call58 (My (G := KG) (fun _ h => h.2.2.2)) ⟨q0, trivial⟩ <| ov [500] (Ag q0) <| ov [500] (CH q0 rfl) <| ov [501] (CH q0 rfl) <| ov [501] (Ak q0) <| ov [501] (Ak q0) .nil) fun _ a w h => ?_
    refine AU mixed hn hG h [500] (ov [0] (Ag q0) <| ov [500] (Ax B4 q0 qi) <| ov [500] (Ak q0) .nil) fun _ a w h => ?_
    refine wp_ret ?_
    obtain rfl := Option.some.inj hF
    exact ⟨.inl rfl, Cv h Tryd.results45 (By 0 rfl) [] [] rfl rfl rfl⟩

def Bq.j2 (a_0 : List UInt8) (x25 : Nat) (x67 : C2) : Option (Ds (List UInt8) (C2 × Nat)) := some (.cont (x67, EN a_0 x25))
def Bq.j3 (a_0 : List UInt8) (x24 : C2) (x25 : Nat) (x71 : Bool) : Option (Ds (List UInt8) (C2 × Nat)) := (if x71 = true then ((CE x24 (ER a_0 x25)).bind fun r73 => Bq.j2 a_0 x25 r73.2.2) else ((EB a_0 (x25 : Int) (ER a_0 x25)).bind fun r74 => (if r74 = true then (if (0 : Int) ≤ (x25 : Int) ∧ (x25 : Int) < a_0.length then ((Ch (IntKind.wrap .u64 ((a_0.getD (x25 : Int).toNat 0).toNat : Int)) 16).bind fun r77 => (if [92, 120].length + r77.length ≤ Bw then (if ([92, 120] ++ r77).length + [59].length ≤ Bw then ((B2 x24 (([92, 120] ++ r77) ++ [59])).bind fun r80 => Bq.j2 a_0 x25 r80.2.2) else none) else none)) else none) else ((Ch (IntKind.wrap .u64 (ER a_0 x25)) 16).bind fun r81 => (if [92, 117].length + r81.length ≤ Bw then (if ([92, 117] ++ r81).length + [59].length ≤ Bw then ((B2 x24 (([92, 117] ++ r81) ++ [59])).bind fun r84 => Bq.j2 a_0 x25 r84.2.2) else none) else none)))))
def Bq.j1 (a_0 : List UInt8) (x24 : C2) (x25 : Nat) (x50 : Bool) : Option (Ds (List UInt8) (C2 × Nat)) := (if x50 = true then ((BI x24 92).bind fun r69 => ((CE r69.2 (ER a_0 x25)).bind fun r70 => Bq.j2 a_0 x25 r70.2.2)) else (if (decide ((32 : Int) ≤ (ER a_0 x25))) = true then Bq.j3 a_0 x24 x25 (decide ((ER a_0 x25) ≤ (126 : Int))) else Bq.j3 a_0 x24 x25 false))
def Bq.b1 (a_0 : List UInt8) (x24 : C2) (x25 : Nat) : Option (Ds (List UInt8) (C2 × Nat)) := (if (decide (x25 < a_0.length)) = true then (if x25 < a_0.length then (if (decide ((ER a_0 x25) = (34 : Int))) = true then Bq.j1 a_0 x24 x25 true else Bq.j1 a_0 x24 x25 (decide ((ER a_0 x25) = (92 : Int)))) else none) else some (.brk (x24, EN a_0 x25)))
def Bq (a_0 : List UInt8) : Option (List UInt8) := ((BI ⟨[]⟩ 34).bind fun r2 => ((Cs (fun s : C2 × Nat => Bq.b1 a_0 s.1 s.2) (a_0.length + 2) (r2.2, 0)).bind fun cr => match cr with | .ret r => some r | .next (y91, y92) => ((BI y91 34).bind fun r93 => ((Cy r93.2).bind fun r94 => some r94))))
theorem D7 {a_0 : List UInt8} {r : (List UInt8)} (hF : Bq a_0 = some r) : AX Tryd.prog KG 29 [(AF a_0)] [] (fun _ => []) (AF r) := by
  refine AX.intro 53 Tryd.func29 rfl Tryd.ntmps29 (Nat.le_of_ble_eq_true rfl) ?_
  intro c a w hG hn h
  unfold Bq at hF
  change A0 c [.slot 0 (AF a_0)] a w at h
  refine AU mixed hn hG h [0] (ov [] (Ak (B9 (sc _ (by decide)))) .nil) fun _ a w h => ?_
  refine AU mixed hn hG h [0, 501, 500] (ob [] (CJ Tryd.zeroValue64 MO) .nil) fun b1 a w h => ?_
  replace h := h.conv 2 rfl JS
  replace h := h.Gq 1 rfl (fun _ _ h => Jh h)
  replace h := h.sub [0, 1, 2] (by rfl)
  change A0 c [.slot 0 (AF a_0), .slot 3 (Bf (b1 0)), .res (C4 (b1 0) (some ⟨[]⟩))] a w at h
  obtain ⟨r2, hr2, hF⟩ := bind_some hF
  refine AU mixed hn hG h [0, 1, 500] (oc [1] [2] Tryd.call43 (Cb hr2) ⟨q0, qi, trivial⟩ .nil) fun _ a w h => ?_
  refine wp_seq ?_
  refine AU mixed hn hG h [0, 1, 501, 2, 500] (ov [0] (Ag q0) <| og [500] [] [.slot 8 1 100000 (fun v1_ _ => (Bf v1_)), .res 1 100000 (fun v1_ _ => (Gp (v1_) a_0 0))] (A4.plain (Ic Tryd.underlying9 q0) rfl) .nil) fun b3 a w h => ?_
  refine wp_block ?_
  obtain ⟨cr87, hl88, hF⟩ := bind_some hF
  refine wp_mono (Ci (R := (List UInt8)) (S := C2 × Nat) (fun s a w => A0 c [.slot 0 (AF a_0), .slot 3 (Bf (b1 0)), .slot 8 (Bf (b3 1)), .res (C4 (b1 0) (some s.1)), .res (Gp (b3 1) a_0 s.2)] a w) (fun res e a w => match res with | .next s => e = .exit 0 ∧ A0 c [.slot 3 (Bf (b1 0)), .res (C4 (b1 0) (some s.1))] a w | .ret r => e = .ret ∧ DF Tryd.prog Tryd.f29 c (AF r) (fun _ => []) a w) ?_ _ (r2.2, 0) _ _ _ (h.sub [0, 1, 2, 3, 4] (by rfl)) hl88) ?_
  · clear hl88 hF h
    intro s a w o h hF
    obtain ⟨x24, x25⟩ := s
    change Bq.b1 a_0 x24 x25 = some o at hF
    unfold Bq.b1 at hF
    change A0 c [.slot 0 (AF a_0), .slot 3 (Bf (b1 0)), .slot 8 (Bf (b3 1)), .res (C4 (b1 0) (some x24)), .res (Gp (b3 1) a_0 x25)] a w at h
    refine AU mixed hn hG h [0, 1, 2, 502, 500, 3, 501] (oe [2] [4] (A4.plain (IG 0 rfl) rfl) <| ov [501] (Lp q0) .nil) fun _ a w h => ?_
    refine wp_seq ?_
    refine DN h hF 4 [0, 1, 2, 3, 5, 6] [0, 1, 2, 5, 6] (fun hb48 hF h => ?_) (fun hb48 hF h => ?_)
    · refine wp_skip ?_
      show Code.wp Tryd.prog _ _ a w
      refine wp_block ?_
      obtain ⟨hv49, hF⟩ := AH hF
      refine AU mixed hn hG h [0, 1, 501, 500, 2, 4, 5] (ov [3] (Lo q0 hv49) <| ov [3] (Ln q0 hv49) <| ov [501] (Ak q0) <| ov [501] (Ak q0) .nil) fun _ a w h => ?_
      refine wp_block ?_
      refine wp_seq ?_
      refine BY (fun a w => ∃ (x50 : Bool), Bq.j1 a_0 x24 x25 x50 = some o ∧ A0 c [.slot 0 (AF a_0), .slot 3 (Bf (b1 0)), .slot 4 (Ab .i64 (x25 : Int)), .slot 5 (Ab .i32 (ER a_0 x25)), .slot 8 (Bf (b3 1)), .slot 19 (An x50), .res (C4 (b1 0) (some x24)), .res (Gp (b3 1) a_0 (EN a_0 x25))] a w) ?_ ?_
      · rcases Bool.eq_false_or_eq_true (decide ((ER a_0 x25) = (34 : Int))) with hb86 | hb86
        · replace hF := CZ hb86 hF
          refine CK mixed hn hG h [0, 1, 2, 3, 4, 500, 5, 6] (ov [3] (Ag q0) <| ov [500] (Ax B4 q0 qi) <| ov [500] (Ag q0) <| oe [500] [] (A4.A2 (want := false) hb86 rfl rfl rfl rfl) <| oe [501] [] (A4.A2 (want := false) hb86 rfl rfl rfl rfl) <| ov [502] (Bj hb86 q0 qb) <| ov [500] (Ak q0) .nil) fun _ a w h => ?_
          exact ⟨true, hF, h.sub [0, 1, 2, 3, 4, 5, 6, 7] (by rfl)⟩
        · replace hF := C0 hb86 hF
          refine CK mixed hn hG h [0, 1, 2, 3, 4, 500, 5, 6] (ov [3] (Ag q0) <| ov [500] (Ax B4 q0 qi) <| ov [500] (Ag q0) <| oe [500, 3] [] (A4.AN hb86 rfl rfl rfl (Ag q0)) <| oe [501, 500] [] (A4.AN hb86 rfl rfl rfl (Ax B4 q0 qi)) <| ov [502, 500] (Bd hb86 q0 q1) <| ov [500] (Ak q0) .nil) fun _ a w h => ?_
          exact ⟨decide ((ER a_0 x25) = (92 : Int)), hF, h.sub [0, 1, 2, 3, 4, 5, 6, 7] (by rfl)⟩
      · clear h hF
        rintro a w ⟨x50, hF, h⟩
        unfold Bq.j1 at hF
        show Code.wp Tryd.prog _ _ a w
        refine BY (fun a w => ∃ (x67 : C2), Bq.j2 a_0 x25 x67 = some o ∧ A0 c [.slot 0 (AF a_0), .slot 3 (Bf (b1 0)), .slot 8 (Bf (b3 1)), .res (Gp (b3 1) a_0 (EN a_0 x25)), .res (C4 (b1 0) (some x67))] a w) ?_ ?_
        · refine DN h hF 5 [0, 1, 3, 4, 6, 7] [0, 1, 2, 3, 4, 6, 7] (fun hb68 hF h => ?_) (fun hb68 hF h => ?_)
          · obtain ⟨r69, hr69, hF⟩ := bind_some hF
            refine AU mixed hn hG h [0, 1, 2, 3, 5, 500] (oc [1] [4] Tryd.call43 (Cb hr69) ⟨q0, qi, trivial⟩ .nil) fun _ a w h => ?_
            obtain ⟨r70, hr70, hF⟩ := bind_some hF
            refine CK mixed hn hG h [0, 1, 3, 4, 500] (ov [2] (Ag q0) <| oc [1, 500] [5] Tryd.call44 (DS hr70) ⟨q0, q1, trivial⟩ .nil) fun _ a w h => ?_
            exact ⟨r70.2.2, hF, h.sub [0, 1, 2, 3, 4] (by rfl)⟩
          · refine wp_seq ?_
            refine BY (fun a w => ∃ (x71 : Bool), Bq.j3 a_0 x24 x25 x71 = some o ∧ A0 c [.slot 0 (AF a_0), .slot 3 (Bf (b1 0)), .slot 4 (Ab .i64 (x25 : Int)), .slot 5 (Ab .i32 (ER a_0 x25)), .slot 8 (Bf (b3 1)), .slot 29 (An x71), .res (C4 (b1 0) (some x24)), .res (Gp (b3 1) a_0 (EN a_0 x25))] a w) ?_ ?_
            · rcases Bool.eq_false_or_eq_true (decide ((32 : Int) ≤ (ER a_0 x25))) with hb85 | hb85
              · replace hF := CZ hb85 hF
                refine CK mixed hn hG h [0, 1, 2, 3, 4, 500, 5, 6] (ov [3] (Ag q0) <| ov [500] (Ax CW q0 qi) <| ov [500] (Ag q0) <| oe [500, 3] [] (A4.AN hb85 rfl rfl rfl (Ag q0)) <| oe [501, 500] [] (A4.AN hb85 rfl rfl rfl (Ax Cj q0 qi)) <| ov [502, 500] (Bj hb85 q0 q1) <| ov [500] (Ak q0) .nil) fun _ a w h => ?_
                exact ⟨decide ((ER a_0 x25) ≤ (126 : Int)), hF, h.sub [0, 1, 2, 3, 4, 5, 6, 7] (by rfl)⟩
              · replace hF := C0 hb85 hF
                refine CK mixed hn hG h [0, 1, 2, 3, 4, 500, 5, 6] (ov [3] (Ag q0) <| ov [500] (Ax CW q0 qi) <| ov [500] (Ag q0) <| oe [500] [] (A4.A2 (want := true) hb85 rfl rfl rfl rfl) <| oe [501] [] (A4.A2 (want := true) hb85 rfl rfl rfl rfl) <| ov [502] (Bd hb85 q0 qb) <| ov [500] (Ak q0) .nil) fun _ a w h => ?_
                exact ⟨false, hF, h.sub [0, 1, 2, 3, 4, 5, 6, 7] (by rfl)⟩
            · clear h hF
              rintro a w ⟨x71, hF, h⟩
              unfold Bq.j3 at hF
              show Code.wp Tryd.prog _ _ a w
              refine DN h hF 5 [0, 1, 3, 4, 6, 7] [0, 1, 2, 3, 4, 6, 7] (fun hb72 hF h => ?_) (fun hb72 hF h => ?_)
              · obtain ⟨r73, hr73, hF⟩ := bind_some hF
                refine CK mixed hn hG h [0, 1, 3, 5, 500] (ov [2] (Ag q0) <| oc [1, 500] [4] Tryd.call44 (DS hr73) ⟨q0, q1, trivial⟩ .nil) fun _ a w h => ?_
                exact ⟨r73.2.2, hF, h.sub [0, 1, 2, 3, 4] (by rfl)⟩
              · obtain ⟨r74, hr74, hF⟩ := bind_some hF
                refine AU mixed hn hG h [0, 1, 2, 3, 4, 500, 5, 6] (ov [0] (Ag q0) <| ov [2] (Ag q0) <| ov [3] (Ag q0) <| oc [502, 501, 500] [] Tryd.call45 (HD hr74) ⟨q0, q1, q2, trivial⟩ <| ov [500] (Ak q0) .nil) fun _ a w h => ?_
                refine DN h hF 5 [0, 1, 2, 4, 6, 7] [0, 1, 3, 4, 6, 7] (fun hb75 hF h => ?_) (fun hb75 hF h => ?_)
                · obtain ⟨hv76, hF⟩ := AH hF
                  obtain ⟨r77, hr77, hF⟩ := bind_some hF
                  obtain ⟨hv78, hF⟩ := AH hF
                  obtain ⟨hv79, hF⟩ := AH hF
                  obtain ⟨r80, hr80, hF⟩ := bind_some hF
                  refine CK mixed hn hG h [0, 1, 3, 5, 500] (ov [0] (Ag q0) <| ov [2] (Ag q0) <| ov [501, 500] (CB Tryd.underlying9 q0 q1 hv76) <| ov [500] (Bi Tryd.underlying5 Tryd.underlying23 q0) <| oc [500] [] Tryd.call34 (DD hr77) ⟨q0, qi, trivial⟩ <| ov [500] (Ax (A3 hv78) (B9 (sc _ (by decide))) q0) <| ov [500] (Ax (A3 hv79) q0 (B9 (sc _ (by decide)))) <| oc [1, 500] [4] Tryd.call31 (DK hr80) ⟨q0, q1, trivial⟩ .nil) fun _ a w h => ?_
                  exact ⟨r80.2.2, hF, h.sub [0, 1, 2, 3, 4] (by rfl)⟩
                · obtain ⟨r81, hr81, hF⟩ := bind_some hF
                  obtain ⟨hv82, hF⟩ := AH hF
                  obtain ⟨hv83, hF⟩ := AH hF
                  obtain ⟨r84, hr84, hF⟩ := bind_some hF
                  refine CK mixed hn hG h [0, 1, 3, 5, 500] (ov [2] (Ag q0) <| ov [500] (Bi Tryd.underlying21 Tryd.underlying23 q0) <| oc [500] [] Tryd.call34 (DD hr81) ⟨q0, qi, trivial⟩ <| ov [500] (Ax (A3 hv82) (B9 (sc _ (by decide))) q0) <| ov [500] (Ax (A3 hv83) q0 (B9 (sc _ (by decide)))) <| oc [1, 500] [4] Tryd.call31 (DK hr84) ⟨q0, q1, trivial⟩ .nil) fun _ a w h => ?_
                  exact ⟨r84.2.2, hF, h.sub [0, 1, 2, 3, 4] (by rfl)⟩
        · clear h hF
          rintro a w ⟨x67, hF, h⟩
          unfold Bq.j2 at hF
          obtain rfl := Option.some.inj hF
          exact ⟨rfl, h.sub [0, 1, 2, 4, 3] (by rfl)⟩
    · refine wp_exit ?_
      obtain rfl := Option.some.inj hF
      exact ⟨CV _, rfl, h.sub [1, 3] (by rfl)⟩
  · clear hl88
    intro e a w hq
    cases cr87 with
    | ret r89 =>
      obtain ⟨rfl, hq⟩ := hq
      obtain rfl := Option.some.inj hF
      exact ⟨.inl rfl, hq⟩
    | next s90 =>
      obtain ⟨y91, y92⟩ := s90
      obtain ⟨rfl, h⟩ := hq
      change A0 c [.slot 3 (Bf (b1 0)), .res (C4 (b1 0) (some y91))] a w at h
      refine BT ?_
      show Code.wp Tryd.prog _ _ a w
      obtain ⟨r93, hr93, hF⟩ := bind_some hF
      refine AU mixed hn hG h [0, 500] (oc [0] [1] Tryd.call43 (Cb hr93) ⟨q0, qi, trivial⟩ .nil) fun _ a w h => ?_
      obtain ⟨r94, hr94, hF⟩ := bind_some hF
      refine AU mixed hn hG h [500] (oc [0] [1] Tryd.call23 (D5 hr94) ⟨q0, trivial⟩ <| ov [500] (Ak q0) .nil) fun _ a w h => ?_
      refine wp_ret ?_
      obtain rfl := Option.some.inj hF
      exact ⟨.inl rfl, Cv h Tryd.results29 (By 0 rfl) [] [] rfl rfl rfl⟩

def BN.j2 (a_0 : Ap) (x4 : List UInt8) : Option (List UInt8) := (if [101, 118, 101, 110, 116, 32].length + x4.length ≤ Bw then (if ([101, 118, 101, 110, 116, 32] ++ x4).length + [32].length ≤ Bw then ((Bq a_0.Bb).bind fun r7 => (if (([101, 118, 101, 110, 116, 32] ++ x4) ++ [32]).length + r7.length ≤ Bw then (if ((([101, 118, 101, 110, 116, 32] ++ x4) ++ [32]) ++ r7).length + [32].length ≤ Bw then ((Cg a_0.BB).bind fun r10 => (if (((([101, 118, 101, 110, 116, 32] ++ x4) ++ [32]) ++ r7) ++ [32]).length + r10.length ≤ Bw then some ((((([101, 118, 101, 110, 116, 32] ++ x4) ++ [32]) ++ r7) ++ [32]) ++ r10) else none)) else none) else none)) else none) else none)
def BN.j1 (a_0 : Ap) (x2 : Bool) : Option (List UInt8) := (if x2 = true then (if (0 : Int) ≤ a_0.Bv ∧ a_0.Bv < 11 then BN.j2 a_0 (DV.getD a_0.Bv.toNat default) else none) else BN.j2 a_0 (DV.getD (0 : Int).toNat default))
def BN (a_0 : Ap) : Option (List UInt8) := (if (decide ((0 : Int) < a_0.Bv)) = true then BN.j1 a_0 (decide (a_0.Bv < (11 : Int))) else BN.j1 a_0 false)
theorem FA {a_0 : Ap} {r : (List UInt8)} (hF : BN a_0 = some r) : AX Tryd.prog KG 9 [(Co [one (Ab .i64 a_0.Bv), one (AF a_0.Bb), one (Ab .u64 a_0.BB), Af 32 a_0.BH])] [] (fun _ => []) (AF r) := by
  refine AX.intro 30 Tryd.func9 rfl Tryd.ntmps9 (Nat.le_of_ble_eq_true rfl) ?_
  intro c a w hG hn h
  unfold BN at hF
  change A0 c [.slot 0 (Co [one (Ab .i64 a_0.Bv), one (AF a_0.Bb), one (Ab .u64 a_0.BB), Af 32 a_0.BH])] a w at h
  refine AU mixed hn hG h [502, 501] (ob [0] (DL q0 (BD _)) <| ov [] (Ak (B9 (sc _ (by decide)))) .nil) fun b1 a w h => ?_
  refine AU mixed hn hG h [0, 500, 1] (ov [] (Fe Tryd.underlying86 Tryd.sizeOf9 (Nu (fun Φ h => h.2.2.1)) qi (by decide)) <| ov [500] (Ef [] Tryd.isAgg9 q0) <| ov [500] (Ak q0) .nil) fun _ a w h => ?_
  refine wp_seq ?_
  refine wp_seq ?_
  refine BY (fun a w => ∃ (x2 : Bool), BN.j1 a_0 x2 = some r ∧ A0 c [.slot 1 (BG (b1 0) 0), .slot 3 (AF (DV.getD (0 : Int).toNat default)), .slot 13 (An x2), .res (lb (b1 0) 48 [one (Ab .i64 a_0.Bv), one (AF a_0.Bb), one (Ab .u64 a_0.BB), Af 32 a_0.BH])] a w) ?_ ?_
  · rcases Bool.eq_false_or_eq_true (decide ((0 : Int) < a_0.Bv)) with hb14 | hb14
    · replace hF := CZ hb14 hF
      refine CK mixed hn hG h [0, 1, 500, 2] (ov [0] (Ah (p := (b1 0)) (n := 1) 0 0 Tryd.underlying48 rfl Tryd.sizeOf3 (by decide) q0 rfl) <| ov [500, 2] (AE [] [one (AF a_0.Bb), one (Ab .u64 a_0.BB), Af 32 a_0.BH] 1 Tryd.isAgg3 q0 rfl rfl) <| ov [500] (Ax CD q0 qi) <| ov [500] (Ag q0) <| oe [500, 0] [] (A4.AN hb14 rfl rfl rfl (Ah (p := (b1 0)) (n := 1) 0 0 Tryd.underlying48 rfl Tryd.sizeOf3 (by decide) q0 rfl)) <| oe [501, 500, 2] [] (A4.AN hb14 rfl rfl rfl (AE [] [one (AF a_0.Bb), one (Ab .u64 a_0.BB), Af 32 a_0.BH] 1 Tryd.isAgg3 q0 rfl rfl)) <| oe [502, 500] [] (A4.AN hb14 rfl rfl rfl (Ax B6 q0 qi)) <| ov [503, 500] (Bj hb14 q0 q1) .nil) fun _ a w h => ?_
      exact ⟨decide (a_0.Bv < (11 : Int)), hF, h.sub [0, 1, 2, 3] (by rfl)⟩
    · replace hF := C0 hb14 hF
      refine CK mixed hn hG h [0, 1, 500, 2] (ov [0] (Ah (p := (b1 0)) (n := 1) 0 0 Tryd.underlying48 rfl Tryd.sizeOf3 (by decide) q0 rfl) <| ov [500, 2] (AE [] [one (AF a_0.Bb), one (Ab .u64 a_0.BB), Af 32 a_0.BH] 1 Tryd.isAgg3 q0 rfl rfl) <| ov [500] (Ax CD q0 qi) <| ov [500] (Ag q0) <| oe [500] [] (A4.A2 (want := true) hb14 rfl rfl rfl rfl) <| oe [501] [] (A4.A2 (want := true) hb14 rfl rfl rfl rfl) <| oe [502] [] (A4.A2 (want := true) hb14 rfl rfl rfl rfl) <| ov [503] (Bd hb14 q0 qb) .nil) fun _ a w h => ?_
      exact ⟨false, hF, h.sub [0, 1, 2, 3] (by rfl)⟩
  · clear h hF
    rintro a w ⟨x2, hF, h⟩
    unfold BN.j1 at hF
    show Code.wp Tryd.prog _ _ a w
    refine BY (fun a w => ∃ (x4 : List UInt8), BN.j2 a_0 x4 = some r ∧ A0 c [.slot 1 (BG (b1 0) 0), .slot 3 (AF x4), .res (lb (b1 0) 48 [one (Ab .i64 a_0.Bv), one (AF a_0.Bb), one (Ab .u64 a_0.BB), Af 32 a_0.BH])] a w) ?_ ?_
    · refine DN h hF 2 [0, 3] [0, 1, 3] (fun hb12 hF h => ?_) (fun hb12 hF h => ?_)
      · obtain ⟨hv13, hF⟩ := AH hF
        refine CK mixed hn hG h [0, 500, 1] (ov [0] (Ah (p := (b1 0)) (n := 1) 0 0 Tryd.underlying48 rfl Tryd.sizeOf3 (by decide) q0 rfl) <| ov [500, 1] (AE [] [one (AF a_0.Bb), one (Ab .u64 a_0.BB), Af 32 a_0.BH] 1 Tryd.isAgg3 q0 rfl rfl) <| ov [500] (Fe Tryd.underlying86 Tryd.sizeOf9 (Nu (fun Φ h => h.2.2.1)) q0 hv13) <| ov [500] (Ef [] Tryd.isAgg9 q0) <| ov [500] (Ak q0) .nil) fun _ a w h => ?_
        exact ⟨DV.getD a_0.Bv.toNat default, hF, h.sub [0, 1, 2] (by rfl)⟩
      · refine wp_skip ?_
        exact ⟨DV.getD (0 : Int).toNat default, hF, h.sub [0, 1, 2] (by rfl)⟩
    · clear h hF
      rintro a w ⟨x4, hF, h⟩
      unfold BN.j2 at hF
      show Code.wp Tryd.prog _ _ a w
      obtain ⟨hv5, hF⟩ := AH hF
      obtain ⟨hv6, hF⟩ := AH hF
      obtain ⟨r7, hr7, hF⟩ := bind_some hF
      obtain ⟨hv8, hF⟩ := AH hF
      obtain ⟨hv9, hF⟩ := AH hF
      obtain ⟨r10, hr10, hF⟩ := bind_some hF
      obtain ⟨hv11, hF⟩ := AH hF
      refine AU mixed hn hG h [500] (ov [1] (Ag q0) <| ov [500] (Ax (A3 hv5) (B9 (sc _ (by decide))) q0) <| ov [500] (Ax (A3 hv6) q0 (B9 (sc _ (by decide)))) <| ov [0] (Ah (p := (b1 0)) (n := 1) 0 1 Tryd.underlying48 rfl Tryd.sizeOf9 (by decide) q0 rfl) <| ov [500, 2] (AE [one (Ab .i64 a_0.Bv)] [one (Ab .u64 a_0.BB), Af 32 a_0.BH] 1 Tryd.isAgg9 q0 rfl rfl) <| oc [500] [] Tryd.call29 (D7 hr7) ⟨q0, trivial⟩ <| ov [503, 500] (Ax (A3 hv8) q0 q1) <| ov [500] (Ax (A3 hv9) q0 (B9 (sc _ (by decide)))) <| ov [0] (Ah (p := (b1 0)) (n := 1) 0 2 Tryd.underlying48 rfl Tryd.sizeOf23 (by decide) q0 rfl) <| ov [500, 2] (AE [one (Ab .i64 a_0.Bv), one (AF a_0.Bb)] [Af 32 a_0.BH] 1 Tryd.isAgg23 q0 rfl rfl) <| oc [500] [] Tryd.call19 (Cd hr10) ⟨q0, trivial⟩ <| ov [503, 500] (Ax (A3 hv11) q0 q1) <| ov [500] (Ak q0) .nil) fun _ a w h => ?_
      refine wp_ret ?_
      obtain rfl := Option.some.inj hF
      exact ⟨.inl rfl, Cv h Tryd.results9 (By 0 rfl) [] [] rfl rfl rfl⟩

def BZ (L_0 : B7) (a_1 : List (List UInt8)) : Option B7 := (if (Lib.join a_1 [32]).length ≤ 140737488355328 ∧ a_1.length ≤ 140737488355328 then (if (Lib.join a_1 [32]).length + [10].length ≤ Bw then ((DB L_0 ((Lib.join a_1 [32]) ++ [10])).bind fun r3 => some r3.2.2) else none) else none)
theorem CF {p_0 : Value} {L_0 : B7} {a_1 : List (List UInt8)} {r : B7} (hF : BZ L_0 a_1 = some r) : AX Tryd.prog KG 17 [(Bf p_0), (Ai F1 a_1)] [(Cm p_0 (some L_0))] (fun _ => [Cm p_0 (some r)]) (DJ []) := by
  refine AX.intro 11 Tryd.func17 rfl Tryd.ntmps17 (Nat.le_of_ble_eq_true rfl) ?_
  intro c a w hG hn h
  unfold BZ at hF
  change A0 c [.slot 0 (Bf p_0), .slot 1 (Ai F1 a_1), .res (Cm p_0 (some L_0))] a w at h
  obtain ⟨hv1, hF⟩ := AH hF
  obtain ⟨hv2, hF⟩ := AH hF
  obtain ⟨r3, hr3, hF⟩ := bind_some hF
  refine CK mixed hn hG h [500] (ov [0] (Ag q0) <| ov [500, 2] (GD 1 q0 rfl (fun Φ f w ⟨_, q⟩ => G5 Φ f w q)) <| ov [500, 2] (F5 (n := 2) 1 Tryd.underlying66 rfl rfl Tryd.sizeOf64 (by decide) q0 rfl (fun Φ f w ⟨_, q⟩ => G5 Φ f w q)) <| ov [1] (Ag q0) <| oc [500] [] Tryd.call33 (Lz hv1) ⟨q0, (B9 (sc _ (by decide))), trivial⟩ <| ov [500] (Ax (A3 hv2) q0 (B9 (sc _ (by decide)))) <| oc [503, 500] [2] Tryd.call31 (FO hr3) ⟨q0, q1, trivial⟩ .nil) fun _ a w h => ?_
  obtain rfl := Option.some.inj hF
  exact ⟨.inr rfl, Gw h (rs := []) (Vs := []) Tryd.results17 (by decide) trivial [0] [(Cm p_0 (some r3.2.2))] rfl rfl rfl⟩

def Dj (a_0 : Int) : Option (List UInt8) := ((Cg (IntKind.wrap .u64 a_0)).bind fun r1 => some r1)
theorem D3 {a_0 : Int} {r : (List UInt8)} (hF : Dj a_0 = some r) : AX Tryd.prog KG 18 [(Ab .u32 a_0)] [] (fun _ => []) (AF r) := by
  refine AX.intro 6 Tryd.func18 rfl Tryd.ntmps18 (Nat.le_of_ble_eq_true rfl) ?_
  intro c a w hG hn h
  unfold Dj at hF
  change A0 c [.slot 0 (Ab .u32 a_0)] a w at h
  refine AU mixed hn hG h [0] (ov [] (Ak (B9 (sc _ (by decide)))) .nil) fun _ a w h => ?_
  obtain ⟨r1, hr1, hF⟩ := bind_some hF
  refine AU mixed hn hG h [500] (ov [0] (Ag q0) <| ov [500] (Bi Tryd.underlying22 Tryd.underlying23 q0) <| oc [500] [] Tryd.call19 (Cd hr1) ⟨q0, trivial⟩ <| ov [500] (Ak q0) .nil) fun _ a w h => ?_
  refine wp_ret ?_
  obtain rfl := Option.some.inj hF
  exact ⟨.inl rfl, Cv h Tryd.results18 (By 0 rfl) [] [] rfl rfl rfl⟩

def Ew (a_0 : Int) (a_1 : Int) : Option (Int × Int) := (if (decide (a_0 < a_1)) = true then some (0, 11) else some (IntKind.wrap .u64 (a_0 - a_1), 0))
theorem F9 {a_0 : Int} {a_1 : Int} {r : Int × Int} (hF : Ew a_0 a_1 = some r) : AX Tryd.prog KG 53 [(Ab .u64 a_0), (Ab .u64 a_1)] [] (fun _ => []) (DJ [(Ab .u64 r.1), (Ab .i64 r.2)]) := by
  refine AX.intro 12 Tryd.func53 rfl Tryd.ntmps53 (Nat.le_of_ble_eq_true rfl) ?_
  intro c a w hG hn h
  unfold Ew at hF
  change A0 c [.slot 0 (Ab .u64 a_0), .slot 1 (Ab .u64 a_1)] a w at h
  refine AU mixed hn hG h [0, 1] (ov [] (Ak qi) <| ov [] (Ak qi) .nil) fun _ a w h => ?_
  refine wp_seq ?_
  refine AU mixed hn hG h [0, 1, 500] (ov [1] (Ag q0) <| ov [0] (Ag q0) <| ov [501, 500] (Ax CD q0 q1) .nil) fun _ a w h => ?_
  refine DN h hF 2 [] [0, 1] (fun hb1 hF h => ?_) (fun hb1 hF h => ?_)
  · refine AU mixed hn hG h [501, 500] (ov [] (Ak qi) <| ov [] (Ak qi) .nil) fun _ a w h => ?_
    refine wp_ret ?_
    obtain rfl := Option.some.inj hF
    exact ⟨.inl rfl, Gw h (rs := [.tmp 4, .tmp 5]) (Vs := [(Ab .u64 0), (Ab .i64 11)]) Tryd.results53 (by decide) ⟨(By 0 rfl), (By 1 rfl), trivial⟩ [] [] rfl rfl rfl⟩
  · refine wp_skip ?_
    show Code.wp Tryd.prog _ _ a w
    refine AU mixed hn hG h [501, 500] (ov [0] (Ag q0) <| ov [1] (Ag q0) <| ov [501, 500] (Ax DR q0 q1) <| ov [500] (Ak q0) <| ov [] (Ak qi) .nil) fun _ a w h => ?_
    refine wp_ret ?_
    obtain rfl := Option.some.inj hF
    exact ⟨.inl rfl, Gw h (rs := [.tmp 4, .tmp 5]) (Vs := [(Ab .u64 (IntKind.wrap .u64 (a_0 - a_1))), (Ab .i64 0)]) Tryd.results53 (by decide) ⟨(By 0 rfl), (By 1 rfl), trivial⟩ [] [] rfl rfl rfl⟩

def FV (a_0 : Aw) : Option (Int × Int) := ((Ew a_0.BO a_0.BQ).bind fun r2 => ((Ew a_0.BP a_0.Bx).bind fun r3 => some (r2.1, r3.1)))
theorem Ib {a_0 : Aw} {r : Int × Int} (hF : FV a_0 = some r) : AX Tryd.prog KG 35 [(Co [one (Ab .u32 a_0.Bp), one (AF a_0.Bb), one (Ab .u64 a_0.Dq), one (Ab .u64 a_0.BP), one (Ab .u64 a_0.Bx), one (Ab .u64 a_0.BO), one (Ab .u64 a_0.BQ)])] [] (fun _ => []) (DJ [(Ab .u64 r.1), (Ab .u64 r.2)]) := by
  refine AX.intro 26 Tryd.func35 rfl Tryd.ntmps35 (Nat.le_of_ble_eq_true rfl) ?_
  intro c a w hG hn h
  unfold FV at hF
  change A0 c [.slot 0 (Co [one (Ab .u32 a_0.Bp), one (AF a_0.Bb), one (Ab .u64 a_0.Dq), one (Ab .u64 a_0.BP), one (Ab .u64 a_0.Bx), one (Ab .u64 a_0.BO), one (Ab .u64 a_0.BQ)])] a w at h
  refine AU mixed hn hG h [503, 502] (ob [0] (DL q0 (BD _)) <| ov [] (Ak qi) <| ov [] (Ak qi) .nil) fun b1 a w h => ?_
  obtain ⟨r2, hr2, hF⟩ := bind_some hF
  refine AU mixed hn hG h [0, 501, 1] (ov [0] (Ah (p := (b1 0)) (n := 1) 0 5 Tryd.underlying77 rfl Tryd.sizeOf23 (by decide) q0 rfl) <| ov [500, 1] (AE [one (Ab .u32 a_0.Bp), one (AF a_0.Bb), one (Ab .u64 a_0.Dq), one (Ab .u64 a_0.BP), one (Ab .u64 a_0.Bx)] [one (Ab .u64 a_0.BQ)] 1 Tryd.isAgg23 q0 rfl rfl) <| ov [0] (Ah (p := (b1 0)) (n := 1) 0 6 Tryd.underlying77 rfl Tryd.sizeOf23 (by decide) q0 rfl) <| ov [500, 1] (AE [one (Ab .u32 a_0.Bp), one (AF a_0.Bb), one (Ab .u64 a_0.Dq), one (Ab .u64 a_0.BP), one (Ab .u64 a_0.Bx), one (Ab .u64 a_0.BO)] [] 1 Tryd.isAgg23 q0 rfl rfl) <| oc [502, 500] [] Tryd.call53 (F9 hr2) ⟨q0, q1, trivial⟩ <| ov [500] (Ag q0) <| ov [500] (CH q0 rfl) <| ov [501] (CH q0 rfl) <| ov [501] (Ak q0) <| ov [501] (Ak q0) .nil) fun _ a w h => ?_
  obtain ⟨r3, hr3, hF⟩ := bind_some hF
  refine AU mixed hn hG h [1, 501] (ov [0] (Ah (p := (b1 0)) (n := 1) 0 3 Tryd.underlying77 rfl Tryd.sizeOf23 (by decide) q0 rfl) <| ov [500, 2] (AE [one (Ab .u32 a_0.Bp), one (AF a_0.Bb), one (Ab .u64 a_0.Dq)] [one (Ab .u64 a_0.Bx), one (Ab .u64 a_0.BO), one (Ab .u64 a_0.BQ)] 1 Tryd.isAgg23 q0 rfl rfl) <| ov [0] (Ah (p := (b1 0)) (n := 1) 0 4 Tryd.underlying77 rfl Tryd.sizeOf23 (by decide) q0 rfl) <| ov [500, 2] (AE [one (Ab .u32 a_0.Bp), one (AF a_0.Bb), one (Ab .u64 a_0.Dq), one (Ab .u64 a_0.BP)] [one (Ab .u64 a_0.BO), one (Ab .u64 a_0.BQ)] 1 Tryd.isAgg23 q0 rfl rfl) <| oc [502, 500] [] Tryd.call53 (F9 hr3) ⟨q0, q1, trivial⟩ <| ov [500] (Ag q0) <| ov [500] (CH q0 rfl) <| ov [501] (CH q0 rfl) <| ov [501] (Ak q0) <| ov [501] (Ak q0) .nil) fun _ a w h => ?_
  refine AU mixed hn hG h [501, 500] (ov [0] (Ag q0) <| ov [1] (Ag q0) <| ov [501] (Ak q0) <| ov [501] (Ak q0) .nil) fun _ a w h => ?_
  refine wp_ret ?_
  obtain rfl := Option.some.inj hF
  exact ⟨.inl rfl, Gw h (rs := [.tmp 2, .tmp 3]) (Vs := [(Ab .u64 r2.1), (Ab .u64 r3.1)]) Tryd.results35 (by decide) ⟨(By 0 rfl), (By 1 rfl), trivial⟩ [] [] rfl rfl rfl⟩

def A9.b1 (a_1 : AK) (x9 : Int) (x10 : B7) : Option (Ds B7 (Int × B7)) := (if (decide (x9 < (a_1.Ae.Ao.length : Int))) = true then (if (0 : Int) ≤ x9 ∧ x9 < a_1.Ae.Ao.length then ((Bq ((a_1.Ae.Ao.getD x9.toNat default).Bb)).bind fun r23 => ((Cg ((a_1.Ae.Ao.getD x9.toNat default).Di)).bind fun r24 => ((Cg ((a_1.Ae.Ao.getD x9.toNat default).Dh)).bind fun r25 => ((BZ x10 [[97, 99, 99, 111, 117, 110, 116], r23, [99, 111, 105, 110, 115], r24, [110, 111, 110, 99, 101], r25]).bind fun r26 => some (.cont (IntKind.wrap .i64 (x9 + 1), r26)))))) else none) else some (.brk (x9, x10)))
def A9.b2 (a_1 : AK) (x43 : Int) (x44 : B7) : Option (Ds B7 (Int × B7)) := (if (decide (x43 < (a_1.Al.At.length : Int))) = true then (if (0 : Int) ≤ x43 ∧ x43 < a_1.Al.At.length then ((FV (a_1.Al.At.getD x43.toNat default)).bind fun r60 => ((Dj ((a_1.Al.At.getD x43.toNat default).Bp)).bind fun r61 => ((Bq ((a_1.Al.At.getD x43.toNat default).Bb)).bind fun r62 => ((Cg ((a_1.Al.At.getD x43.toNat default).Dq)).bind fun r63 => ((Cg r60.2).bind fun r64 => ((Cg r60.1).bind fun r65 => ((BZ x44 [[116, 111, 107, 101, 110], r61, r62, [99, 97, 112], r63, [108, 111, 99, 107, 101, 100], r64, [109, 105, 110, 116, 101, 100], r65]).bind fun r66 => some (.cont (IntKind.wrap .i64 (x43 + 1), r66))))))))) else none) else some (.brk (x43, x44)))
def A9.b3 (a_1 : AK) (x81 : Int) (x82 : B7) : Option (Ds B7 (Int × B7)) := (if (decide (x81 < (a_1.Al.Am.length : Int))) = true then (if (0 : Int) ≤ x81 ∧ x81 < a_1.Al.Am.length then ((Bq ((a_1.Al.Am.getD x81.toNat default).Cr)).bind fun r96 => ((Dj ((a_1.Al.Am.getD x81.toNat default).Bp)).bind fun r97 => ((Bq ((a_1.Al.Am.getD x81.toNat default).Cq)).bind fun r98 => ((Cg ((a_1.Al.Am.getD x81.toNat default).Ct)).bind fun r99 => ((BZ x82 [[104, 111, 108, 100, 115], r96, r97, r98, r99]).bind fun r100 => some (.cont (IntKind.wrap .i64 (x81 + 1), r100))))))) else none) else some (.brk (x81, x82)))
def A9 (L_0 : B7) (a_1 : AK) : Option B7 := ((Cs (fun s : Int × B7 => A9.b1 a_1 s.1 s.2) (((a_1.Ae.Ao.length : Int) - 0 : Int).toNat + 2) (0, L_0)).bind fun cr => match cr with | .ret r => some r | .next (y31, y32) => ((Cs (fun s : Int × B7 => A9.b2 a_1 s.1 s.2) (((a_1.Al.At.length : Int) - 0 : Int).toNat + 2) (0, y32)).bind fun cr => match cr with | .ret r => some r | .next (y71, y72) => ((Cs (fun s : Int × B7 => A9.b3 a_1 s.1 s.2) (((a_1.Al.Am.length : Int) - 0 : Int).toNat + 2) (0, y72)).bind fun cr => match cr with | .ret r => some r | .next (y105, y106) => some y106)))
theorem Fj {p_0 : Value} {L_0 : B7} {a_1 : AK} {r : B7} (hF : A9 L_0 a_1 = some r) : AX Tryd.prog KG 20 [(Bf p_0), (Co [one (Ab .u32 a_1.BS), one (Ab .u64 a_1.Ae.AR), one (Ab .u64 a_1.Ae.A6), one (Ab .u64 a_1.Ae.Bn), one (Ai Aq.ck a_1.Ae.Ao), one (Ai Ap.ck a_1.Ae.AD), one (Ai Aw.ck a_1.Al.At), one (Ai Ar.ck a_1.Al.Am), one (Ab .u32 a_1.Ad.AB), Af 32 a_1.Ad.As, one (Ab .u32 a_1.Ad.AJ.A1), A5 32 32 (dC 32) (AY 32) a_1.Ad.AJ.AI, one (Ai (dC 32) a_1.Ad.AP), one (Ai (dC 32) a_1.Ad.AW), Af 32 a_1.Ad.Aj, one (Ai AA.ck a_1.Ad.AS), one (Ab .u64 a_1.Ad.A8), one (An a_1.Ad.Au), one (Ab .u32 a_1.Aa.AB), one (Ab .u32 a_1.Aa.A7), Af 32 a_1.Aa.As, one (Ai (dC 32) a_1.Aa.AG), one (Ab .u64 a_1.Aa.AQ), Af 32 a_1.Aa.Aj, one (Ai Ay.ck a_1.Aa.AT), one (Ai Av.ck a_1.Aa.Az), one (An a_1.Aa.Au), one (An a_1.Aa.Bh), one (AF a_1.AZ)])] [(Cm p_0 (some L_0))] (fun _ => [Cm p_0 (some r)]) (DJ []) := by
  refine AX.intro 87 Tryd.func20 rfl Tryd.ntmps20 (Nat.le_of_ble_eq_true rfl) ?_
  intro c a w hG hn h
  unfold A9 at hF
  change A0 c [.slot 0 (Bf p_0), .slot 1 (Co [one (Ab .u32 a_1.BS), one (Ab .u64 a_1.Ae.AR), one (Ab .u64 a_1.Ae.A6), one (Ab .u64 a_1.Ae.Bn), one (Ai Aq.ck a_1.Ae.Ao), one (Ai Ap.ck a_1.Ae.AD), one (Ai Aw.ck a_1.Al.At), one (Ai Ar.ck a_1.Al.Am), one (Ab .u32 a_1.Ad.AB), Af 32 a_1.Ad.As, one (Ab .u32 a_1.Ad.AJ.A1), A5 32 32 (dC 32) (AY 32) a_1.Ad.AJ.AI, one (Ai (dC 32) a_1.Ad.AP), one (Ai (dC 32) a_1.Ad.AW), Af 32 a_1.Ad.Aj, one (Ai AA.ck a_1.Ad.AS), one (Ab .u64 a_1.Ad.A8), one (An a_1.Ad.Au), one (Ab .u32 a_1.Aa.AB), one (Ab .u32 a_1.Aa.A7), Af 32 a_1.Aa.As, one (Ai (dC 32) a_1.Aa.AG), one (Ab .u64 a_1.Aa.AQ), Af 32 a_1.Aa.Aj, one (Ai Ay.ck a_1.Aa.AT), one (Ai Av.ck a_1.Aa.Az), one (An a_1.Aa.Au), one (An a_1.Aa.Bh), one (AF a_1.AZ)]), .res (Cm p_0 (some L_0))] a w at h
  refine AU mixed hn hG h [0, 501, 2, 500] (ob [1] (DL q0 (BD _)) .nil) fun b1 a w h => ?_
  refine wp_seq ?_
  refine AU mixed hn hG h [0, 1, 502, 501, 500, 2, 3] (ov [1] (Ah (p := (b1 0)) (n := 5) 0 1 Tryd.underlying46 rfl Tryd.sizeOf27 (by decide) q0 rfl) <| ov [500] (Ah (p := (b1 0)) (n := 1) 1 4 Tryd.underlying27 rfl Tryd.sizeOf24 (by decide) q0 rfl) <| ov [500, 3] (AE [one (Ab .u32 a_1.BS), one (Ab .u64 a_1.Ae.AR), one (Ab .u64 a_1.Ae.A6), one (Ab .u64 a_1.Ae.Bn)] [one (Ai Ap.ck a_1.Ae.AD), one (Ai Aw.ck a_1.Al.At), one (Ai Ar.ck a_1.Al.Am), one (Ab .u32 a_1.Ad.AB), Af 32 a_1.Ad.As, one (Ab .u32 a_1.Ad.AJ.A1), A5 32 32 (dC 32) (AY 32) a_1.Ad.AJ.AI, one (Ai (dC 32) a_1.Ad.AP), one (Ai (dC 32) a_1.Ad.AW), Af 32 a_1.Ad.Aj, one (Ai AA.ck a_1.Ad.AS), one (Ab .u64 a_1.Ad.A8), one (An a_1.Ad.Au), one (Ab .u32 a_1.Aa.AB), one (Ab .u32 a_1.Aa.A7), Af 32 a_1.Aa.As, one (Ai (dC 32) a_1.Aa.AG), one (Ab .u64 a_1.Aa.AQ), Af 32 a_1.Aa.Aj, one (Ai Ay.ck a_1.Aa.AT), one (Ai Av.ck a_1.Aa.Az), one (An a_1.Aa.Au), one (An a_1.Aa.Bh), one (AF a_1.AZ)] 1 Tryd.isAgg24 q0 rfl rfl) <| ov [500] (Bm Tryd.underlying24 q0) <| ov [] (Ag qi) .nil) fun _ a w h => ?_
  refine wp_block ?_
  obtain ⟨cr27, hl28, hF⟩ := bind_some hF
  refine wp_mono (Ci (R := B7) (S := Int × B7) (fun s a w => A0 c [.slot 0 (Bf p_0), .slot 3 (BG (b1 0) 0), .slot 14 (Ai Aq.ck a_1.Ae.Ao), .slot 15 (Ab .i64 (a_1.Ae.Ao.length : Int)), .slot 16 (Ab .i64 s.1), .res (Cm p_0 (some s.2)), .res (lb (b1 0) 46 [one (Ab .u32 a_1.BS), one (Ab .u64 a_1.Ae.AR), one (Ab .u64 a_1.Ae.A6), one (Ab .u64 a_1.Ae.Bn), one (Ai Aq.ck a_1.Ae.Ao), one (Ai Ap.ck a_1.Ae.AD), one (Ai Aw.ck a_1.Al.At), one (Ai Ar.ck a_1.Al.Am), one (Ab .u32 a_1.Ad.AB), Af 32 a_1.Ad.As, one (Ab .u32 a_1.Ad.AJ.A1), A5 32 32 (dC 32) (AY 32) a_1.Ad.AJ.AI, one (Ai (dC 32) a_1.Ad.AP), one (Ai (dC 32) a_1.Ad.AW), Af 32 a_1.Ad.Aj, one (Ai AA.ck a_1.Ad.AS), one (Ab .u64 a_1.Ad.A8), one (An a_1.Ad.Au), one (Ab .u32 a_1.Aa.AB), one (Ab .u32 a_1.Aa.A7), Af 32 a_1.Aa.As, one (Ai (dC 32) a_1.Aa.AG), one (Ab .u64 a_1.Aa.AQ), Af 32 a_1.Aa.Aj, one (Ai Ay.ck a_1.Aa.AT), one (Ai Av.ck a_1.Aa.Az), one (An a_1.Aa.Au), one (An a_1.Aa.Bh), one (AF a_1.AZ)])] a w) (fun res e a w => match res with | .next s => e = .exit 0 ∧ A0 c [.slot 0 (Bf p_0), .slot 3 (BG (b1 0) 0), .res (Cm p_0 (some s.2)), .res (lb (b1 0) 46 [one (Ab .u32 a_1.BS), one (Ab .u64 a_1.Ae.AR), one (Ab .u64 a_1.Ae.A6), one (Ab .u64 a_1.Ae.Bn), one (Ai Aq.ck a_1.Ae.Ao), one (Ai Ap.ck a_1.Ae.AD), one (Ai Aw.ck a_1.Al.At), one (Ai Ar.ck a_1.Al.Am), one (Ab .u32 a_1.Ad.AB), Af 32 a_1.Ad.As, one (Ab .u32 a_1.Ad.AJ.A1), A5 32 32 (dC 32) (AY 32) a_1.Ad.AJ.AI, one (Ai (dC 32) a_1.Ad.AP), one (Ai (dC 32) a_1.Ad.AW), Af 32 a_1.Ad.Aj, one (Ai AA.ck a_1.Ad.AS), one (Ab .u64 a_1.Ad.A8), one (An a_1.Ad.Au), one (Ab .u32 a_1.Aa.AB), one (Ab .u32 a_1.Aa.A7), Af 32 a_1.Aa.As, one (Ai (dC 32) a_1.Aa.AG), one (Ab .u64 a_1.Aa.AQ), Af 32 a_1.Aa.Aj, one (Ai Ay.ck a_1.Aa.AT), one (Ai Av.ck a_1.Aa.Az), one (An a_1.Aa.Au), one (An a_1.Aa.Bh), one (AF a_1.AZ)])] a w | .ret r => e = .ret ∧ DF Tryd.prog Tryd.f20 c (DJ []) (fun _ => [Cm p_0 (some r)]) a w) ?_ _ (0, L_0) _ _ _ (h.sub [0, 1, 2, 3, 4, 5, 6] (by rfl)) hl28) ?_
  · clear hl28 hF h
    intro s a w o h hF
    obtain ⟨x9, x10⟩ := s
    change A9.b1 a_1 x9 x10 = some o at hF
    unfold A9.b1 at hF
    change A0 c [.slot 0 (Bf p_0), .slot 3 (BG (b1 0) 0), .slot 14 (Ai Aq.ck a_1.Ae.Ao), .slot 15 (Ab .i64 (a_1.Ae.Ao.length : Int)), .slot 16 (Ab .i64 x9), .res (Cm p_0 (some x10)), .res (lb (b1 0) 46 [one (Ab .u32 a_1.BS), one (Ab .u64 a_1.Ae.AR), one (Ab .u64 a_1.Ae.A6), one (Ab .u64 a_1.Ae.Bn), one (Ai Aq.ck a_1.Ae.Ao), one (Ai Ap.ck a_1.Ae.AD), one (Ai Aw.ck a_1.Al.At), one (Ai Ar.ck a_1.Al.Am), one (Ab .u32 a_1.Ad.AB), Af 32 a_1.Ad.As, one (Ab .u32 a_1.Ad.AJ.A1), A5 32 32 (dC 32) (AY 32) a_1.Ad.AJ.AI, one (Ai (dC 32) a_1.Ad.AP), one (Ai (dC 32) a_1.Ad.AW), Af 32 a_1.Ad.Aj, one (Ai AA.ck a_1.Ad.AS), one (Ab .u64 a_1.Ad.A8), one (An a_1.Ad.Au), one (Ab .u32 a_1.Aa.AB), one (Ab .u32 a_1.Aa.A7), Af 32 a_1.Aa.As, one (Ai (dC 32) a_1.Aa.AG), one (Ab .u64 a_1.Aa.AQ), Af 32 a_1.Aa.Aj, one (Ai Ay.ck a_1.Aa.AT), one (Ai Av.ck a_1.Aa.Az), one (An a_1.Aa.Au), one (An a_1.Aa.Bh), one (AF a_1.AZ)])] a w at h
    refine AU mixed hn hG h [0, 1, 2, 3, 4, 500, 5, 6] (ov [4, 3] (Ax B6 q0 q1) .nil) fun _ a w h => ?_
    refine wp_seq ?_
    refine DN h hF 5 [0, 1, 2, 3, 4, 6, 7] [0, 1, 2, 3, 4, 6, 7] (fun hb20 hF h => ?_) (fun hb20 hF h => ?_)
    · refine wp_skip ?_
      show Code.wp Tryd.prog _ _ a w
      refine wp_seq ?_
      refine wp_block ?_
      obtain ⟨hv21, hF⟩ := AH hF
      refine AU mixed hn hG h [0, 1, 502, 2, 3, 4, 5, 6, 500] (ov [2, 4] (BL Tryd.underlying24 Tryd.sizeOf74 Aq.lens q0 q1 hv21) <| ov [500] (CT [one (AF ((a_1.Ae.Ao.getD x9.toNat default).Bb)), Af 32 ((a_1.Ae.Ao.getD x9.toNat default).EE), one (Ab .u64 ((a_1.Ae.Ao.getD x9.toNat default).Dh)), one (Ab .u64 ((a_1.Ae.Ao.getD x9.toNat default).Di))] [] Tryd.isAgg74 Tryd.sizeOf74 q0 rfl) <| ob [] (CJ Tryd.zeroValue74 NH) <| og [501, 502] [500] [.res 2 100000 (fun v1_ _ => (lb (v1_) 74 [one (AF ((a_1.Ae.Ao.getD x9.toNat default).Bb)), Af 32 ((a_1.Ae.Ao.getD x9.toNat default).EE), one (Ab .u64 ((a_1.Ae.Ao.getD x9.toNat default).Dh)), one (Ab .u64 ((a_1.Ae.Ao.getD x9.toNat default).Di))]))] (A4.plain (CG Tryd.sizeOf74 q0 q1 (BD _)) rfl) .nil) fun b22 a w h => ?_
      obtain ⟨r23, hr23, hF⟩ := bind_some hF
      obtain ⟨r24, hr24, hF⟩ := bind_some hF
      obtain ⟨r25, hr25, hF⟩ := bind_some hF
      obtain ⟨r26, hr26, hF⟩ := bind_some hF
      refine CK mixed hn hG h [0, 1, 3, 4, 5, 7, 500] (ov [0] (Ag q0) <| ov [2] (Ah (p := (b22 2)) (n := 1) 0 0 Tryd.underlying74 rfl Tryd.sizeOf9 (by decide) q0 rfl) <| ov [500, 8] (AE [] [Af 32 ((a_1.Ae.Ao.getD x9.toNat default).EE), one (Ab .u64 ((a_1.Ae.Ao.getD x9.toNat default).Dh)), one (Ab .u64 ((a_1.Ae.Ao.getD x9.toNat default).Di))] 1 Tryd.isAgg9 q0 rfl rfl) <| oc [500] [] Tryd.call29 (D7 hr23) ⟨q0, trivial⟩ <| ov [2] (Ah (p := (b22 2)) (n := 1) 0 34 Tryd.underlying74 rfl Tryd.sizeOf23 (by decide) q0 rfl) <| ov [500, 8] (AE [one (AF ((a_1.Ae.Ao.getD x9.toNat default).Bb)), Af 32 ((a_1.Ae.Ao.getD x9.toNat default).EE), one (Ab .u64 ((a_1.Ae.Ao.getD x9.toNat default).Dh))] [] 1 Tryd.isAgg23 q0 rfl rfl) <| oc [500] [] Tryd.call19 (Cd hr24) ⟨q0, trivial⟩ <| ov [2] (Ah (p := (b22 2)) (n := 1) 0 33 Tryd.underlying74 rfl Tryd.sizeOf23 (by decide) q0 rfl) <| ov [500, 8] (AE [one (AF ((a_1.Ae.Ao.getD x9.toNat default).Bb)), Af 32 ((a_1.Ae.Ao.getD x9.toNat default).EE)] [one (Ab .u64 ((a_1.Ae.Ao.getD x9.toNat default).Di))] 1 Tryd.isAgg23 q0 rfl rfl) <| oc [500] [] Tryd.call19 (Cd hr25) ⟨q0, trivial⟩ <| ov [506, 503, 500] (El (xs := [.const (.string ⟨#[97, 99, 99, 111, 117, 110, 116]⟩), .tmp 23, .const (.string ⟨#[99, 111, 105, 110, 115]⟩), .tmp 26, .const (.string ⟨#[110, 111, 110, 99, 101]⟩), .tmp 29]) (ys := [[97, 99, 99, 111, 117, 110, 116], r23, [99, 111, 105, 110, 115], r24, [110, 111, 110, 99, 101], r25]) _ rfl Tryd.underlying87 Tryd.sizeOf9 Tryd.zeroValue9 rfl rfl (by decide) (by decide) ⟨⟨_, (B9 (sc _ (by decide))), (Bc (Bt _))⟩, ⟨_, q0, (Bc (Bt _))⟩, ⟨_, (B9 (sc _ (by decide))), (Bc (Bt _))⟩, ⟨_, q1, (Bc (Bt _))⟩, ⟨_, (B9 (sc _ (by decide))), (Bc (Bt _))⟩, ⟨_, q2, (Bc (Bt _))⟩, trivial⟩ DU) <| oc [510, 500] [6] Tryd.call17 (CF hr26) ⟨q0, q1, trivial⟩ .nil) fun _ a w h => ?_
      show Code.wp Tryd.prog _ _ a w
      refine CK mixed hn hG h [0, 1, 2, 3, 500, 5, 6] (ov [4] (Ax BC q0 qi) <| od [500] 4 (Ag q0) .nil) fun _ a w h => ?_
      obtain rfl := Option.some.inj hF
      exact ⟨rfl, h.sub [0, 1, 2, 3, 4, 6, 5] (by rfl)⟩
    · refine wp_exit ?_
      obtain rfl := Option.some.inj hF
      exact ⟨CV _, rfl, h.sub [0, 1, 5, 6] (by rfl)⟩
  · clear hl28
    intro e a w hq
    cases cr27 with
    | ret r29 =>
      obtain ⟨rfl, hq⟩ := hq
      obtain rfl := Option.some.inj hF
      exact ⟨.inl rfl, hq⟩
    | next s30 =>
      obtain ⟨y31, y32⟩ := s30
      obtain ⟨rfl, h⟩ := hq
      change A0 c [.slot 0 (Bf p_0), .slot 3 (BG (b1 0) 0), .res (Cm p_0 (some y32)), .res (lb (b1 0) 46 [one (Ab .u32 a_1.BS), one (Ab .u64 a_1.Ae.AR), one (Ab .u64 a_1.Ae.A6), one (Ab .u64 a_1.Ae.Bn), one (Ai Aq.ck a_1.Ae.Ao), one (Ai Ap.ck a_1.Ae.AD), one (Ai Aw.ck a_1.Al.At), one (Ai Ar.ck a_1.Al.Am), one (Ab .u32 a_1.Ad.AB), Af 32 a_1.Ad.As, one (Ab .u32 a_1.Ad.AJ.A1), A5 32 32 (dC 32) (AY 32) a_1.Ad.AJ.AI, one (Ai (dC 32) a_1.Ad.AP), one (Ai (dC 32) a_1.Ad.AW), Af 32 a_1.Ad.Aj, one (Ai AA.ck a_1.Ad.AS), one (Ab .u64 a_1.Ad.A8), one (An a_1.Ad.Au), one (Ab .u32 a_1.Aa.AB), one (Ab .u32 a_1.Aa.A7), Af 32 a_1.Aa.As, one (Ai (dC 32) a_1.Aa.AG), one (Ab .u64 a_1.Aa.AQ), Af 32 a_1.Aa.Aj, one (Ai Ay.ck a_1.Aa.AT), one (Ai Av.ck a_1.Aa.Az), one (An a_1.Aa.Au), one (An a_1.Aa.Bh), one (AF a_1.AZ)])] a w at h
      refine BT ?_
      show Code.wp Tryd.prog _ _ a w
      refine wp_seq ?_
      refine AU mixed hn hG h [0, 1, 502, 501, 500, 2, 3] (ov [1] (Ah (p := (b1 0)) (n := 2) 0 6 Tryd.underlying46 rfl Tryd.sizeOf31 (by decide) q0 rfl) <| ov [500] (Ah (p := (b1 0)) (n := 1) 6 6 Tryd.underlying31 rfl Tryd.sizeOf28 (by decide) q0 rfl) <| ov [500, 3] (AE [one (Ab .u32 a_1.BS), one (Ab .u64 a_1.Ae.AR), one (Ab .u64 a_1.Ae.A6), one (Ab .u64 a_1.Ae.Bn), one (Ai Aq.ck a_1.Ae.Ao), one (Ai Ap.ck a_1.Ae.AD)] [one (Ai Ar.ck a_1.Al.Am), one (Ab .u32 a_1.Ad.AB), Af 32 a_1.Ad.As, one (Ab .u32 a_1.Ad.AJ.A1), A5 32 32 (dC 32) (AY 32) a_1.Ad.AJ.AI, one (Ai (dC 32) a_1.Ad.AP), one (Ai (dC 32) a_1.Ad.AW), Af 32 a_1.Ad.Aj, one (Ai AA.ck a_1.Ad.AS), one (Ab .u64 a_1.Ad.A8), one (An a_1.Ad.Au), one (Ab .u32 a_1.Aa.AB), one (Ab .u32 a_1.Aa.A7), Af 32 a_1.Aa.As, one (Ai (dC 32) a_1.Aa.AG), one (Ab .u64 a_1.Aa.AQ), Af 32 a_1.Aa.Aj, one (Ai Ay.ck a_1.Aa.AT), one (Ai Av.ck a_1.Aa.Az), one (An a_1.Aa.Au), one (An a_1.Aa.Bh), one (AF a_1.AZ)] 1 Tryd.isAgg28 q0 rfl rfl) <| ov [500] (Bm Tryd.underlying28 q0) <| ov [] (Ag qi) .nil) fun _ a w h => ?_
      refine wp_block ?_
      obtain ⟨cr67, hl68, hF⟩ := bind_some hF
      refine wp_mono (Ci (R := B7) (S := Int × B7) (fun s a w => A0 c [.slot 0 (Bf p_0), .slot 3 (BG (b1 0) 0), .slot 35 (Ai Aw.ck a_1.Al.At), .slot 36 (Ab .i64 (a_1.Al.At.length : Int)), .slot 37 (Ab .i64 s.1), .res (Cm p_0 (some s.2)), .res (lb (b1 0) 46 [one (Ab .u32 a_1.BS), one (Ab .u64 a_1.Ae.AR), one (Ab .u64 a_1.Ae.A6), one (Ab .u64 a_1.Ae.Bn), one (Ai Aq.ck a_1.Ae.Ao), one (Ai Ap.ck a_1.Ae.AD), one (Ai Aw.ck a_1.Al.At), one (Ai Ar.ck a_1.Al.Am), one (Ab .u32 a_1.Ad.AB), Af 32 a_1.Ad.As, one (Ab .u32 a_1.Ad.AJ.A1), A5 32 32 (dC 32) (AY 32) a_1.Ad.AJ.AI, one (Ai (dC 32) a_1.Ad.AP), one (Ai (dC 32) a_1.Ad.AW), Af 32 a_1.Ad.Aj, one (Ai AA.ck a_1.Ad.AS), one (Ab .u64 a_1.Ad.A8), one (An a_1.Ad.Au), one (Ab .u32 a_1.Aa.AB), one (Ab .u32 a_1.Aa.A7), Af 32 a_1.Aa.As, one (Ai (dC 32) a_1.Aa.AG), one (Ab .u64 a_1.Aa.AQ), Af 32 a_1.Aa.Aj, one (Ai Ay.ck a_1.Aa.AT), one (Ai Av.ck a_1.Aa.Az), one (An a_1.Aa.Au), one (An a_1.Aa.Bh), one (AF a_1.AZ)])] a w) (fun res e a w => match res with | .next s => e = .exit 2 ∧ A0 c [.slot 0 (Bf p_0), .slot 3 (BG (b1 0) 0), .res (Cm p_0 (some s.2)), .res (lb (b1 0) 46 [one (Ab .u32 a_1.BS), one (Ab .u64 a_1.Ae.AR), one (Ab .u64 a_1.Ae.A6), one (Ab .u64 a_1.Ae.Bn), one (Ai Aq.ck a_1.Ae.Ao), one (Ai Ap.ck a_1.Ae.AD), one (Ai Aw.ck a_1.Al.At), one (Ai Ar.ck a_1.Al.Am), one (Ab .u32 a_1.Ad.AB), Af 32 a_1.Ad.As, one (Ab .u32 a_1.Ad.AJ.A1), A5 32 32 (dC 32) (AY 32) a_1.Ad.AJ.AI, one (Ai (dC 32) a_1.Ad.AP), one (Ai (dC 32) a_1.Ad.AW), Af 32 a_1.Ad.Aj, one (Ai AA.ck a_1.Ad.AS), one (Ab .u64 a_1.Ad.A8), one (An a_1.Ad.Au), one (Ab .u32 a_1.Aa.AB), one (Ab .u32 a_1.Aa.A7), Af 32 a_1.Aa.As, one (Ai (dC 32) a_1.Aa.AG), one (Ab .u64 a_1.Aa.AQ), Af 32 a_1.Aa.Aj, one (Ai Ay.ck a_1.Aa.AT), one (Ai Av.ck a_1.Aa.Az), one (An a_1.Aa.Au), one (An a_1.Aa.Bh), one (AF a_1.AZ)])] a w | .ret r => e = .ret ∧ DF Tryd.prog Tryd.f20 c (DJ []) (fun _ => [Cm p_0 (some r)]) a w) ?_ _ (0, y32) _ _ _ (h.sub [0, 1, 2, 3, 4, 5, 6] (by rfl)) hl68) ?_
      · clear hl68 hF h
        intro s a w o h hF
        obtain ⟨x43, x44⟩ := s
        change A9.b2 a_1 x43 x44 = some o at hF
        unfold A9.b2 at hF
        change A0 c [.slot 0 (Bf p_0), .slot 3 (BG (b1 0) 0), .slot 35 (Ai Aw.ck a_1.Al.At), .slot 36 (Ab .i64 (a_1.Al.At.length : Int)), .slot 37 (Ab .i64 x43), .res (Cm p_0 (some x44)), .res (lb (b1 0) 46 [one (Ab .u32 a_1.BS), one (Ab .u64 a_1.Ae.AR), one (Ab .u64 a_1.Ae.A6), one (Ab .u64 a_1.Ae.Bn), one (Ai Aq.ck a_1.Ae.Ao), one (Ai Ap.ck a_1.Ae.AD), one (Ai Aw.ck a_1.Al.At), one (Ai Ar.ck a_1.Al.Am), one (Ab .u32 a_1.Ad.AB), Af 32 a_1.Ad.As, one (Ab .u32 a_1.Ad.AJ.A1), A5 32 32 (dC 32) (AY 32) a_1.Ad.AJ.AI, one (Ai (dC 32) a_1.Ad.AP), one (Ai (dC 32) a_1.Ad.AW), Af 32 a_1.Ad.Aj, one (Ai AA.ck a_1.Ad.AS), one (Ab .u64 a_1.Ad.A8), one (An a_1.Ad.Au), one (Ab .u32 a_1.Aa.AB), one (Ab .u32 a_1.Aa.A7), Af 32 a_1.Aa.As, one (Ai (dC 32) a_1.Aa.AG), one (Ab .u64 a_1.Aa.AQ), Af 32 a_1.Aa.Aj, one (Ai Ay.ck a_1.Aa.AT), one (Ai Av.ck a_1.Aa.Az), one (An a_1.Aa.Au), one (An a_1.Aa.Bh), one (AF a_1.AZ)])] a w at h
        refine AU mixed hn hG h [0, 1, 2, 3, 4, 500, 5, 6] (ov [4, 3] (Ax B6 q0 q1) .nil) fun _ a w h => ?_
        refine wp_seq ?_
        refine DN h hF 5 [0, 1, 2, 3, 4, 6, 7] [0, 1, 2, 3, 4, 6, 7] (fun hb57 hF h => ?_) (fun hb57 hF h => ?_)
        · refine wp_skip ?_
          show Code.wp Tryd.prog _ _ a w
          refine wp_seq ?_
          refine wp_block ?_
          obtain ⟨hv58, hF⟩ := AH hF
          refine AU mixed hn hG h [0, 1, 502, 2, 3, 4, 5, 6, 500] (ov [2, 4] (BL Tryd.underlying28 Tryd.sizeOf77 Aw.lens q0 q1 hv58) <| ov [500] (CT [one (Ab .u32 ((a_1.Al.At.getD x43.toNat default).Bp)), one (AF ((a_1.Al.At.getD x43.toNat default).Bb)), one (Ab .u64 ((a_1.Al.At.getD x43.toNat default).Dq)), one (Ab .u64 ((a_1.Al.At.getD x43.toNat default).BP)), one (Ab .u64 ((a_1.Al.At.getD x43.toNat default).Bx)), one (Ab .u64 ((a_1.Al.At.getD x43.toNat default).BO)), one (Ab .u64 ((a_1.Al.At.getD x43.toNat default).BQ))] [] Tryd.isAgg77 Tryd.sizeOf77 q0 rfl) <| ob [] (CJ Tryd.zeroValue77 NG) <| og [501, 502] [500] [.res 2 100000 (fun v1_ _ => (lb (v1_) 77 [one (Ab .u32 ((a_1.Al.At.getD x43.toNat default).Bp)), one (AF ((a_1.Al.At.getD x43.toNat default).Bb)), one (Ab .u64 ((a_1.Al.At.getD x43.toNat default).Dq)), one (Ab .u64 ((a_1.Al.At.getD x43.toNat default).BP)), one (Ab .u64 ((a_1.Al.At.getD x43.toNat default).Bx)), one (Ab .u64 ((a_1.Al.At.getD x43.toNat default).BO)), one (Ab .u64 ((a_1.Al.At.getD x43.toNat default).BQ))]))] (A4.plain (CG Tryd.sizeOf77 q0 q1 (BD _)) rfl) .nil) fun b59 a w h => ?_
          obtain ⟨r60, hr60, hF⟩ := bind_some hF
          refine AU mixed hn hG h [0, 1, 2, 501, 500, 3, 4, 5, 6, 7, 8] (ov [2, 8] (CO 1 Tryd.isAgg77 Tryd.sizeOf77 q0) <| oc [500] [] Tryd.call35 (Ib hr60) ⟨q0, trivial⟩ <| ov [500] (Ag q0) <| ov [500] (CH q0 rfl) <| ov [501] (CH q0 rfl) <| ov [501] (Ak q0) <| ov [501] (Ak q0) .nil) fun _ a w h => ?_
          obtain ⟨r61, hr61, hF⟩ := bind_some hF
          obtain ⟨r62, hr62, hF⟩ := bind_some hF
          obtain ⟨r63, hr63, hF⟩ := bind_some hF
          obtain ⟨r64, hr64, hF⟩ := bind_some hF
          obtain ⟨r65, hr65, hF⟩ := bind_some hF
          obtain ⟨r66, hr66, hF⟩ := bind_some hF
          refine CK mixed hn hG h [0, 1, 5, 6, 7, 9, 500] (ov [0] (Ag q0) <| ov [2] (Ah (p := (b59 2)) (n := 1) 0 0 Tryd.underlying77 rfl Tryd.sizeOf22 (by decide) q0 rfl) <| ov [500, 10] (AE [] [one (AF ((a_1.Al.At.getD x43.toNat default).Bb)), one (Ab .u64 ((a_1.Al.At.getD x43.toNat default).Dq)), one (Ab .u64 ((a_1.Al.At.getD x43.toNat default).BP)), one (Ab .u64 ((a_1.Al.At.getD x43.toNat default).Bx)), one (Ab .u64 ((a_1.Al.At.getD x43.toNat default).BO)), one (Ab .u64 ((a_1.Al.At.getD x43.toNat default).BQ))] 1 Tryd.isAgg22 q0 rfl rfl) <| oc [500] [] Tryd.call18 (D3 hr61) ⟨q0, trivial⟩ <| ov [2] (Ah (p := (b59 2)) (n := 1) 0 1 Tryd.underlying77 rfl Tryd.sizeOf9 (by decide) q0 rfl) <| ov [500, 10] (AE [one (Ab .u32 ((a_1.Al.At.getD x43.toNat default).Bp))] [one (Ab .u64 ((a_1.Al.At.getD x43.toNat default).Dq)), one (Ab .u64 ((a_1.Al.At.getD x43.toNat default).BP)), one (Ab .u64 ((a_1.Al.At.getD x43.toNat default).Bx)), one (Ab .u64 ((a_1.Al.At.getD x43.toNat default).BO)), one (Ab .u64 ((a_1.Al.At.getD x43.toNat default).BQ))] 1 Tryd.isAgg9 q0 rfl rfl) <| oc [500] [] Tryd.call29 (D7 hr62) ⟨q0, trivial⟩ <| ov [2] (Ah (p := (b59 2)) (n := 1) 0 2 Tryd.underlying77 rfl Tryd.sizeOf23 (by decide) q0 rfl) <| ov [500, 10] (AE [one (Ab .u32 ((a_1.Al.At.getD x43.toNat default).Bp)), one (AF ((a_1.Al.At.getD x43.toNat default).Bb))] [one (Ab .u64 ((a_1.Al.At.getD x43.toNat default).BP)), one (Ab .u64 ((a_1.Al.At.getD x43.toNat default).Bx)), one (Ab .u64 ((a_1.Al.At.getD x43.toNat default).BO)), one (Ab .u64 ((a_1.Al.At.getD x43.toNat default).BQ))] 1 Tryd.isAgg23 q0 rfl rfl) <| oc [500] [] Tryd.call19 (Cd hr63) ⟨q0, trivial⟩ <| ov [4] (Ag q0) <| oc [500] [] Tryd.call19 (Cd hr64) ⟨q0, trivial⟩ <| ov [3] (Ag q0) <| oc [500] [] Tryd.call19 (Cd hr65) ⟨q0, trivial⟩ <| ov [510, 507, 504, 502, 500] (El (xs := [.const (.string ⟨#[116, 111, 107, 101, 110]⟩), .tmp 49, .tmp 52, .const (.string ⟨#[99, 97, 112]⟩), .tmp 55, .const (.string ⟨#[108, 111, 99, 107, 101, 100]⟩), .tmp 57, .const (.string ⟨#[109, 105, 110, 116, 101, 100]⟩), .tmp 59]) (ys := [[116, 111, 107, 101, 110], r61, r62, [99, 97, 112], r63, [108, 111, 99, 107, 101, 100], r64, [109, 105, 110, 116, 101, 100], r65]) _ rfl Tryd.underlying87 Tryd.sizeOf9 Tryd.zeroValue9 rfl rfl (by decide) (by decide) ⟨⟨_, (B9 (sc _ (by decide))), (Bc (Bt _))⟩, ⟨_, q0, (Bc (Bt _))⟩, ⟨_, q1, (Bc (Bt _))⟩, ⟨_, (B9 (sc _ (by decide))), (Bc (Bt _))⟩, ⟨_, q2, (Bc (Bt _))⟩, ⟨_, (B9 (sc _ (by decide))), (Bc (Bt _))⟩, ⟨_, q3, (Bc (Bt _))⟩, ⟨_, (B9 (sc _ (by decide))), (Bc (Bt _))⟩, ⟨_, (opt 4 rfl), (Bc (Bt _))⟩, trivial⟩ DU) <| oc [514, 500] [8] Tryd.call17 (CF hr66) ⟨q0, q1, trivial⟩ .nil) fun _ a w h => ?_
          show Code.wp Tryd.prog _ _ a w
          refine CK mixed hn hG h [0, 1, 2, 3, 500, 5, 6] (ov [4] (Ax BC q0 qi) <| od [500] 4 (Ag q0) .nil) fun _ a w h => ?_
          obtain rfl := Option.some.inj hF
          exact ⟨rfl, h.sub [0, 1, 2, 3, 4, 6, 5] (by rfl)⟩
        · refine wp_exit ?_
          obtain rfl := Option.some.inj hF
          exact ⟨CV _, rfl, h.sub [0, 1, 5, 6] (by rfl)⟩
      · clear hl68
        intro e a w hq
        cases cr67 with
        | ret r69 =>
          obtain ⟨rfl, hq⟩ := hq
          obtain rfl := Option.some.inj hF
          exact ⟨.inl rfl, hq⟩
        | next s70 =>
          obtain ⟨y71, y72⟩ := s70
          obtain ⟨rfl, h⟩ := hq
          change A0 c [.slot 0 (Bf p_0), .slot 3 (BG (b1 0) 0), .res (Cm p_0 (some y72)), .res (lb (b1 0) 46 [one (Ab .u32 a_1.BS), one (Ab .u64 a_1.Ae.AR), one (Ab .u64 a_1.Ae.A6), one (Ab .u64 a_1.Ae.Bn), one (Ai Aq.ck a_1.Ae.Ao), one (Ai Ap.ck a_1.Ae.AD), one (Ai Aw.ck a_1.Al.At), one (Ai Ar.ck a_1.Al.Am), one (Ab .u32 a_1.Ad.AB), Af 32 a_1.Ad.As, one (Ab .u32 a_1.Ad.AJ.A1), A5 32 32 (dC 32) (AY 32) a_1.Ad.AJ.AI, one (Ai (dC 32) a_1.Ad.AP), one (Ai (dC 32) a_1.Ad.AW), Af 32 a_1.Ad.Aj, one (Ai AA.ck a_1.Ad.AS), one (Ab .u64 a_1.Ad.A8), one (An a_1.Ad.Au), one (Ab .u32 a_1.Aa.AB), one (Ab .u32 a_1.Aa.A7), Af 32 a_1.Aa.As, one (Ai (dC 32) a_1.Aa.AG), one (Ab .u64 a_1.Aa.AQ), Af 32 a_1.Aa.Aj, one (Ai Ay.ck a_1.Aa.AT), one (Ai Av.ck a_1.Aa.Az), one (An a_1.Aa.Au), one (An a_1.Aa.Bh), one (AF a_1.AZ)])] a w at h
          refine BT ?_
          show Code.wp Tryd.prog _ _ a w
          refine AU mixed hn hG h [0, 502, 501, 500, 2] (ov [1] (Ah (p := (b1 0)) (n := 2) 0 6 Tryd.underlying46 rfl Tryd.sizeOf31 (by decide) q0 rfl) <| ov [500] (Ah (p := (b1 0)) (n := 1) 6 7 Tryd.underlying31 rfl Tryd.sizeOf29 (by decide) q0 rfl) <| ov [500, 3] (AE [one (Ab .u32 a_1.BS), one (Ab .u64 a_1.Ae.AR), one (Ab .u64 a_1.Ae.A6), one (Ab .u64 a_1.Ae.Bn), one (Ai Aq.ck a_1.Ae.Ao), one (Ai Ap.ck a_1.Ae.AD), one (Ai Aw.ck a_1.Al.At)] [one (Ab .u32 a_1.Ad.AB), Af 32 a_1.Ad.As, one (Ab .u32 a_1.Ad.AJ.A1), A5 32 32 (dC 32) (AY 32) a_1.Ad.AJ.AI, one (Ai (dC 32) a_1.Ad.AP), one (Ai (dC 32) a_1.Ad.AW), Af 32 a_1.Ad.Aj, one (Ai AA.ck a_1.Ad.AS), one (Ab .u64 a_1.Ad.A8), one (An a_1.Ad.Au), one (Ab .u32 a_1.Aa.AB), one (Ab .u32 a_1.Aa.A7), Af 32 a_1.Aa.As, one (Ai (dC 32) a_1.Aa.AG), one (Ab .u64 a_1.Aa.AQ), Af 32 a_1.Aa.Aj, one (Ai Ay.ck a_1.Aa.AT), one (Ai Av.ck a_1.Aa.Az), one (An a_1.Aa.Au), one (An a_1.Aa.Bh), one (AF a_1.AZ)] 1 Tryd.isAgg29 q0 rfl rfl) <| ov [500] (Bm Tryd.underlying29 q0) <| ov [] (Ag qi) .nil) fun _ a w h => ?_
          refine wp_block ?_
          obtain ⟨cr101, hl102, hF⟩ := bind_some hF
          refine wp_mono (Ci (R := B7) (S := Int × B7) (fun s a w => A0 c [.slot 0 (Bf p_0), .slot 65 (Ai Ar.ck a_1.Al.Am), .slot 66 (Ab .i64 (a_1.Al.Am.length : Int)), .slot 67 (Ab .i64 s.1), .res (Cm p_0 (some s.2))] a w) (fun res e a w => match res with | .next s => e = .exit 4 ∧ A0 c [.res (Cm p_0 (some s.2))] a w | .ret r => e = .ret ∧ DF Tryd.prog Tryd.f20 c (DJ []) (fun _ => [Cm p_0 (some r)]) a w) ?_ _ (0, y72) _ _ _ (h.sub [0, 1, 2, 3, 4] (by rfl)) hl102) ?_
          · clear hl102 hF h
            intro s a w o h hF
            obtain ⟨x81, x82⟩ := s
            change A9.b3 a_1 x81 x82 = some o at hF
            unfold A9.b3 at hF
            change A0 c [.slot 0 (Bf p_0), .slot 65 (Ai Ar.ck a_1.Al.Am), .slot 66 (Ab .i64 (a_1.Al.Am.length : Int)), .slot 67 (Ab .i64 x81), .res (Cm p_0 (some x82))] a w at h
            refine AU mixed hn hG h [0, 1, 2, 3, 500, 4] (ov [3, 2] (Ax B6 q0 q1) .nil) fun _ a w h => ?_
            refine wp_seq ?_
            refine DN h hF 4 [0, 1, 2, 3, 5] [0, 1, 2, 3, 5] (fun hb93 hF h => ?_) (fun hb93 hF h => ?_)
            · refine wp_skip ?_
              show Code.wp Tryd.prog _ _ a w
              refine wp_seq ?_
              refine wp_block ?_
              obtain ⟨hv94, hF⟩ := AH hF
              refine AU mixed hn hG h [0, 502, 1, 2, 3, 4, 500] (ov [1, 3] (BL Tryd.underlying29 Tryd.sizeOf81 Ar.lens q0 q1 hv94) <| ov [500] (CT [one (Ab .u32 ((a_1.Al.Am.getD x81.toNat default).Bp)), one (AF ((a_1.Al.Am.getD x81.toNat default).Cq)), one (AF ((a_1.Al.Am.getD x81.toNat default).Cr)), one (Ab .u64 ((a_1.Al.Am.getD x81.toNat default).Ct))] [] Tryd.isAgg81 Tryd.sizeOf81 q0 rfl) <| ob [] (CJ Tryd.zeroValue81 NF) <| og [501, 502] [500] [.res 2 100000 (fun v1_ _ => (lb (v1_) 81 [one (Ab .u32 ((a_1.Al.Am.getD x81.toNat default).Bp)), one (AF ((a_1.Al.Am.getD x81.toNat default).Cq)), one (AF ((a_1.Al.Am.getD x81.toNat default).Cr)), one (Ab .u64 ((a_1.Al.Am.getD x81.toNat default).Ct))]))] (A4.plain (CG Tryd.sizeOf81 q0 q1 (BD _)) rfl) .nil) fun b95 a w h => ?_
              obtain ⟨r96, hr96, hF⟩ := bind_some hF
              obtain ⟨r97, hr97, hF⟩ := bind_some hF
              obtain ⟨r98, hr98, hF⟩ := bind_some hF
              obtain ⟨r99, hr99, hF⟩ := bind_some hF
              obtain ⟨r100, hr100, hF⟩ := bind_some hF
              refine CK mixed hn hG h [0, 2, 3, 4, 500] (ov [0] (Ag q0) <| ov [1] (Ah (p := (b95 2)) (n := 1) 0 2 Tryd.underlying81 rfl Tryd.sizeOf9 (by decide) q0 rfl) <| ov [500, 6] (AE [one (Ab .u32 ((a_1.Al.Am.getD x81.toNat default).Bp)), one (AF ((a_1.Al.Am.getD x81.toNat default).Cq))] [one (Ab .u64 ((a_1.Al.Am.getD x81.toNat default).Ct))] 1 Tryd.isAgg9 q0 rfl rfl) <| oc [500] [] Tryd.call29 (D7 hr96) ⟨q0, trivial⟩ <| ov [1] (Ah (p := (b95 2)) (n := 1) 0 0 Tryd.underlying81 rfl Tryd.sizeOf22 (by decide) q0 rfl) <| ov [500, 6] (AE [] [one (AF ((a_1.Al.Am.getD x81.toNat default).Cq)), one (AF ((a_1.Al.Am.getD x81.toNat default).Cr)), one (Ab .u64 ((a_1.Al.Am.getD x81.toNat default).Ct))] 1 Tryd.isAgg22 q0 rfl rfl) <| oc [500] [] Tryd.call18 (D3 hr97) ⟨q0, trivial⟩ <| ov [1] (Ah (p := (b95 2)) (n := 1) 0 1 Tryd.underlying81 rfl Tryd.sizeOf9 (by decide) q0 rfl) <| ov [500, 6] (AE [one (Ab .u32 ((a_1.Al.Am.getD x81.toNat default).Bp))] [one (AF ((a_1.Al.Am.getD x81.toNat default).Cr)), one (Ab .u64 ((a_1.Al.Am.getD x81.toNat default).Ct))] 1 Tryd.isAgg9 q0 rfl rfl) <| oc [500] [] Tryd.call29 (D7 hr98) ⟨q0, trivial⟩ <| ov [1] (Ah (p := (b95 2)) (n := 1) 0 3 Tryd.underlying81 rfl Tryd.sizeOf23 (by decide) q0 rfl) <| ov [500, 6] (AE [one (Ab .u32 ((a_1.Al.Am.getD x81.toNat default).Bp)), one (AF ((a_1.Al.Am.getD x81.toNat default).Cq)), one (AF ((a_1.Al.Am.getD x81.toNat default).Cr))] [] 1 Tryd.isAgg23 q0 rfl rfl) <| oc [500] [] Tryd.call19 (Cd hr99) ⟨q0, trivial⟩ <| ov [509, 506, 503, 500] (El (xs := [.const (.string ⟨#[104, 111, 108, 100, 115]⟩), .tmp 74, .tmp 77, .tmp 80, .tmp 83]) (ys := [[104, 111, 108, 100, 115], r96, r97, r98, r99]) _ rfl Tryd.underlying87 Tryd.sizeOf9 Tryd.zeroValue9 rfl rfl (by decide) (by decide) ⟨⟨_, (B9 (sc _ (by decide))), (Bc (Bt _))⟩, ⟨_, q0, (Bc (Bt _))⟩, ⟨_, q1, (Bc (Bt _))⟩, ⟨_, q2, (Bc (Bt _))⟩, ⟨_, q3, (Bc (Bt _))⟩, trivial⟩ DU) <| oc [513, 500] [5] Tryd.call17 (CF hr100) ⟨q0, q1, trivial⟩ .nil) fun _ a w h => ?_
              show Code.wp Tryd.prog _ _ a w
              refine CK mixed hn hG h [0, 1, 2, 500, 4] (ov [3] (Ax BC q0 qi) <| od [500] 3 (Ag q0) .nil) fun _ a w h => ?_
              obtain rfl := Option.some.inj hF
              exact ⟨rfl, h.sub [0, 1, 2, 3, 4] (by rfl)⟩
            · refine wp_exit ?_
              obtain rfl := Option.some.inj hF
              exact ⟨CV _, rfl, h.sub [4] (by rfl)⟩
          · clear hl102
            intro e a w hq
            cases cr101 with
            | ret r103 =>
              obtain ⟨rfl, hq⟩ := hq
              obtain rfl := Option.some.inj hF
              exact ⟨.inl rfl, hq⟩
            | next s104 =>
              obtain ⟨y105, y106⟩ := s104
              obtain ⟨rfl, h⟩ := hq
              change A0 c [.res (Cm p_0 (some y106))] a w at h
              refine BT ?_
              obtain rfl := Option.some.inj hF
              exact ⟨.inr rfl, Gw h (rs := []) (Vs := []) Tryd.results20 (by decide) trivial [0] [(Cm p_0 (some y106))] rfl rfl rfl⟩

def BF.j2 (a_0 : Int) (x6 : Int) : Option (List UInt8) := ((C8 x6).bind fun r7 => (if (0 : Int) ≤ 1 ∧ (1 : Int) ≤ IntKind.wrap .i64 (1 + r7) ∧ IntKind.wrap .i64 (1 + r7) ≤ 24 ∧ (1 : Int) < 24 then (if (0 : Int) ≤ x6 ∧ (1 : Int).toNat ≤ (IntKind.wrap .i64 (1 + r7) : Int).toNat ∧ (IntKind.wrap .i64 (1 + r7) : Int).toNat ≤ (List.replicate 24 0).length ∧ Lib.nDigits x6.toNat = (IntKind.wrap .i64 (1 + r7) : Int).toNat - (1 : Int).toNat ∧ x6 < 18446744073709551616 ∧ (List.replicate 24 0).length < 1000 then (if (decide (a_0 < (0 : Int))) = true then (if (0 : Int) ≤ 0 ∧ (0 : Int) ≤ IntKind.wrap .i64 (1 + r7) ∧ IntKind.wrap .i64 (1 + r7) ≤ 24 ∧ (0 : Int) < 24 then (if (IntKind.wrap .i64 (1 + r7) : Int).toNat - (0 : Int).toNat ≤ 24 then some (((HG (List.replicate 24 0) ((1 : Int).toNat) ((IntKind.wrap .i64 (1 + r7) : Int).toNat) x6).set (0 : Int).toNat (Dn 45)).take ((IntKind.wrap .i64 (1 + r7) : Int).toNat - (0 : Int).toNat)) else none) else none) else (if (0 : Int) ≤ 1 ∧ (1 : Int) ≤ IntKind.wrap .i64 (1 + r7) ∧ (IntKind.wrap .i64 (1 + r7) : Int) ≤ 24 ∧ 24 ≤ Bw then some (((HG (List.replicate 24 0) ((1 : Int).toNat) ((IntKind.wrap .i64 (1 + r7) : Int).toNat) x6).take (IntKind.wrap .i64 (1 + r7) : Int).toNat).drop (1 : Int).toNat) else none)) else none) else none))
def BF.j1 (a_0 : Int) (x2 : Bool) : Option (List UInt8) := (if x2 = true then ((DC a_0).bind fun r4 => some r4) else (if (decide (a_0 < (0 : Int))) = true then BF.j2 a_0 (IntKind.wrap .u64 (0 - (IntKind.wrap .u64 a_0))) else BF.j2 a_0 (IntKind.wrap .u64 a_0)))
def BF (a_0 : Int) (a_1 : Int) : Option (List UInt8) := (if (decide (a_1 = (10 : Int))) = true then (if (decide ((0 : Int) ≤ a_0)) = true then BF.j1 a_0 (decide (a_0 < (100 : Int))) else BF.j1 a_0 false) else ((AO [] (IntKind.wrap .u64 a_0) a_1 (decide (a_0 < (0 : Int))) false).bind fun r16 => some r16.2))
theorem FH {a_0 : Int} {a_1 : Int} {r : (List UInt8)} (hF : BF a_0 a_1 = some r) : AX Tryd.prog KG 74 [(Ab .i64 a_0), (Ab .i64 a_1)] [] (fun _ => []) (AF r) := by
  refine AX.intro 54 Tryd.func74 rfl Tryd.ntmps74 (Nat.le_of_ble_eq_true rfl) ?_
  intro c a w hG hn h
  unfold BF at hF
  change A0 c [.slot 0 (Ab .i64 a_0), .slot 1 (Ab .i64 a_1)] a w at h
  refine AU mixed hn hG h [0, 1] (ov [] (Ak (B9 (sc _ (by decide)))) .nil) fun _ a w h => ?_
  refine wp_seq ?_
  refine AU mixed hn hG h [0, 1, 500] (ov [1] (Ag q0) <| ov [500] (Ax B4 q0 qi) .nil) fun _ a w h => ?_
  refine DN h hF 2 [0] [0, 1] (fun hb1 hF h => ?_) (fun hb1 hF h => ?_)
  · refine wp_seq ?_
    refine wp_seq ?_
    refine BY (fun a w => ∃ (x2 : Bool), BF.j1 a_0 x2 = some r ∧ A0 c [.slot 0 (Ab .i64 a_0), .slot 17 (An x2)] a w) ?_ ?_
    · rcases Bool.eq_false_or_eq_true (decide ((0 : Int) ≤ a_0)) with hb15 | hb15
      · replace hF := CZ hb15 hF
        refine CK mixed hn hG h [0, 500] (ov [0] (Ag q0) <| ov [500] (Ax Cj qi q0) <| ov [500] (Ag q0) <| oe [500, 0] [] (A4.AN hb15 rfl rfl rfl (Ag q0)) <| oe [501, 500] [] (A4.AN hb15 rfl rfl rfl (Ax B6 q0 qi)) <| ov [502, 500] (Bj hb15 q0 q1) .nil) fun _ a w h => ?_
        exact ⟨decide (a_0 < (100 : Int)), hF, h.sub [0, 1] (by rfl)⟩
      · replace hF := C0 hb15 hF
        refine CK mixed hn hG h [0, 500] (ov [0] (Ag q0) <| ov [500] (Ax Cj qi q0) <| ov [500] (Ag q0) <| oe [500] [] (A4.A2 (want := true) hb15 rfl rfl rfl rfl) <| oe [501] [] (A4.A2 (want := true) hb15 rfl rfl rfl rfl) <| ov [502] (Bd hb15 q0 qb) .nil) fun _ a w h => ?_
        exact ⟨false, hF, h.sub [0, 1] (by rfl)⟩
    · clear h hF
      rintro a w ⟨x2, hF, h⟩
      unfold BF.j1 at hF
      show Code.wp Tryd.prog _ _ a w
      refine DN h hF 1 [0] [0] (fun hb3 hF h => ?_) (fun hb3 hF h => ?_)
      · obtain ⟨r4, hr4, hF⟩ := bind_some hF
        refine AU mixed hn hG h [500] (ov [0] (Ag q0) <| oc [500] [] Tryd.call63 (E9 hr4) ⟨q0, trivial⟩ <| ov [500] (Ak q0) .nil) fun _ a w h => ?_
        refine wp_ret ?_
        obtain rfl := Option.some.inj hF
        exact ⟨.inl rfl, Cv h Tryd.results74 (By 0 rfl) [] [] rfl rfl rfl⟩
      · refine wp_skip ?_
        show Code.wp Tryd.prog _ _ a w
        refine AU mixed hn hG h [0, 501, 500] (ob [] (CJ Tryd.zeroValue147 MP) .nil) fun b5 a w h => ?_
        refine AU mixed hn hG h [0, 1, 500, 2] (ov [0] (Ag q0) <| ov [500] (Bi Tryd.underlying2 Tryd.underlying23 q0) <| ov [500] (Ak q0) .nil) fun _ a w h => ?_
        refine wp_seq ?_
        refine AU mixed hn hG h [0, 1, 2, 500, 3] (ov [0] (Ag q0) <| ov [500] (Ax B6 q0 qi) .nil) fun _ a w h => ?_
        refine BY (fun a w => ∃ (x6 : Int), BF.j2 a_0 x6 = some r ∧ A0 c [.slot 0 (Ab .i64 a_0), .slot 5 (BG (b5 0) 0), .slot 6 (Ab .u64 x6), .res (lb (b5 0) 147 [Af 24 (List.replicate 24 0)])] a w) ?_ ?_
        · refine DN h hF 3 [0, 1, 2, 4] [0, 1, 2, 4] (fun hb14 hF h => ?_) (fun hb14 hF h => ?_)
          · refine CK mixed hn hG h [0, 1, 500, 3] (ov [2] (Ag q0) <| ov [500] (Ez (I5 _ _) q0) <| od [500] 2 (Ak q0) .nil) fun _ a w h => ?_
            exact ⟨IntKind.wrap .u64 (0 - (IntKind.wrap .u64 a_0)), hF, h.sub [0, 1, 2, 3] (by rfl)⟩
          · refine wp_skip ?_
            exact ⟨IntKind.wrap .u64 a_0, hF, h.sub [0, 1, 2, 3] (by rfl)⟩
        · clear h hF
          rintro a w ⟨x6, hF, h⟩
          unfold BF.j2 at hF
          show Code.wp Tryd.prog _ _ a w
          obtain ⟨r7, hr7, hF⟩ := bind_some hF
          refine AU mixed hn hG h [0, 1, 2, 500, 3] (ov [2] (Ag q0) <| oc [500] [] Tryd.call64 (Ex hr7) ⟨q0, trivial⟩ <| ov [500] (Ak q0) .nil) fun _ a w h => ?_
          obtain ⟨hv8, hF⟩ := AH hF
          obtain ⟨hv9, hF⟩ := AH hF
          refine AU mixed hn hG h [0, 1, 3, 500] (ov [3] (Ag q0) <| ov [500] (Ax BC qi q0) <| ov [1, 500] (E1 (a := 1) (b := IntKind.wrap .i64 (1 + r7)) Tryd.underlying147 Tryd.sizeOf5 q0 ⟨_, qi⟩ ⟨_, q1⟩ hv8) <| ov [2] (Ag q0) <| oc [501, 500] [4] Tryd.call65 (JL (a := (1 : Int).toNat) (b := (IntKind.wrap .i64 (1 + r7) : Int).toNat) hv9 (by omega) (by omega)) ⟨q0, q1, trivial⟩ .nil) fun _ a w h => ?_
          refine wp_seq ?_
          refine AU mixed hn hG h [1, 2, 500, 3] (ov [0] (Ag q0) <| ov [500] (Ax B6 q0 qi) .nil) fun _ a w h => ?_
          refine DN h hF 2 [0, 1, 3] [0, 1, 3] (fun hb10 hF h => ?_) (fun hb10 hF h => ?_)
          · refine AU mixed hn hG h [0, 1, 500] (ov [0] (Cu Tryd.underlying147 Tryd.sizeOf5 q0 qi (by decide)) <| ou [500] 2 (D4 (i := 0) [] [] Tryd.sizeOf5 q0 qi rfl (by decide)) .nil) fun _ a w h => ?_
            obtain ⟨hv11, hF⟩ := AH hF
            obtain ⟨hv12, hF⟩ := AH hF
            refine AU mixed hn hG h [500] (ov [1] (Ag q0) <| ov [500] (Ax BC qi q0) <| ov [0, 500] (E1 (a := 0) (b := IntKind.wrap .i64 (1 + r7)) Tryd.underlying147 Tryd.sizeOf5 q0 rfl ⟨_, q1⟩ hv11) <| ov [500, 2] (HA [] [] 1 Tryd.underlying62 Tryd.underlying5 Tryd.underlying9 q0 rfl rfl hv12 (by decide)) <| ov [500] (Ak q0) .nil) fun _ a w h => ?_
            refine wp_ret ?_
            obtain rfl := Option.some.inj hF
            exact ⟨.inl rfl, Cv h Tryd.results74 (By 0 rfl) [] [] rfl rfl rfl⟩
          · refine wp_skip ?_
            show Code.wp Tryd.prog _ _ a w
            replace h := h.Jv 2 rfl
            replace h := h.IT 0 2 rfl rfl
            replace h := h.sub [0, 1] (by rfl)
            change A0 c [.slot 5 (EI [Af 24 (HG (List.replicate 24 0) ((1 : Int).toNat) ((IntKind.wrap .i64 (1 + r7) : Int).toNat) x6)]), .slot 7 (Ab .i64 r7)] a w at h
            obtain ⟨hv13, hF⟩ := AH hF
            refine AU mixed hn hG h [500] (ov [1] (Ag q0) <| ov [500] (Ax BC qi q0) <| ov [0, 500] (GC (a := 1) (b := IntKind.wrap .i64 (1 + r7)) Tryd.underlying147 Tryd.sizeOf5 q0 ⟨_, qi⟩ ⟨_, q1⟩ hv13) <| ov [500] (D1 Tryd.underlying62 Tryd.underlying5 Tryd.underlying9 q0) <| ov [500] (Ak q0) .nil) fun _ a w h => ?_
            refine wp_ret ?_
            obtain rfl := Option.some.inj hF
            exact ⟨.inl rfl, Cv h Tryd.results74 (By 0 rfl) [] [] rfl rfl rfl⟩
  · refine wp_skip ?_
    show Code.wp Tryd.prog _ _ a w
    obtain ⟨r16, hr16, hF⟩ := bind_some hF
    refine AU mixed hn hG h [500] (ov [0] (Ag q0) <| ov [500] (Bi Tryd.underlying2 Tryd.underlying23 q0) <| ov [1] (Ag q0) <| ov [0] (Ag q0) <| ov [500] (Ax B6 q0 qi) <| oc [503, 502, 500] [] Tryd.call66 (Eo hr16) ⟨JD, q0, q1, q2, qb, trivial⟩ <| ov [500] (Ag q0) <| ov [500] (CH q0 rfl) <| ov [501] (CH q0 rfl) <| ov [501] (Ak q0) <| ov [501] (Ak q0) .nil) fun _ a w h => ?_
    refine AU mixed hn hG h [500] (ov [0] (Ag q0) <| ov [500] (Ak q0) .nil) fun _ a w h => ?_
    refine wp_ret ?_
    obtain rfl := Option.some.inj hF
    exact ⟨.inl rfl, Cv h Tryd.results74 (By 0 rfl) [] [] rfl rfl rfl⟩

def strconv_Itoa (a_0 : Int) : Option (List UInt8) := ((BF a_0 10).bind fun r1 => some r1)
theorem Hf {a_0 : Int} {r : (List UInt8)} (hF : strconv_Itoa a_0 = some r) : AX Tryd.prog KG 61 [(Ab .i64 a_0)] [] (fun _ => []) (AF r) := by
  refine AX.intro 5 Tryd.func61 rfl Tryd.ntmps61 (Nat.le_of_ble_eq_true rfl) ?_
  intro c a w hG hn h
  unfold strconv_Itoa at hF
  change A0 c [.slot 0 (Ab .i64 a_0)] a w at h
  refine AU mixed hn hG h [0] (ov [] (Ak (B9 (sc _ (by decide)))) .nil) fun _ a w h => ?_
  obtain ⟨r1, hr1, hF⟩ := bind_some hF
  refine AU mixed hn hG h [500] (ov [0] (Ag q0) <| oc [500] [] Tryd.call74 (FH hr1) ⟨q0, qi, trivial⟩ <| ov [500] (Ak q0) .nil) fun _ a w h => ?_
  refine wp_ret ?_
  obtain rfl := Option.some.inj hF
  exact ⟨.inl rfl, Cv h Tryd.results61 (By 0 rfl) [] [] rfl rfl rfl⟩

def Ea (a_0 : Int) : Option (List UInt8) := ((strconv_Itoa a_0).bind fun r1 => some r1)
theorem Gb {a_0 : Int} {r : (List UInt8)} (hF : Ea a_0 = some r) : AX Tryd.prog KG 50 [(Ab .i64 a_0)] [] (fun _ => []) (AF r) := by
  refine AX.intro 5 Tryd.func50 rfl Tryd.ntmps50 (Nat.le_of_ble_eq_true rfl) ?_
  intro c a w hG hn h
  unfold Ea at hF
  change A0 c [.slot 0 (Ab .i64 a_0)] a w at h
  refine AU mixed hn hG h [0] (ov [] (Ak (B9 (sc _ (by decide)))) .nil) fun _ a w h => ?_
  obtain ⟨r1, hr1, hF⟩ := bind_some hF
  refine AU mixed hn hG h [500] (ov [0] (Ag q0) <| oc [500] [] Tryd.call61 (Hf hr1) ⟨q0, trivial⟩ <| ov [500] (Ak q0) .nil) fun _ a w h => ?_
  refine wp_ret ?_
  obtain rfl := Option.some.inj hF
  exact ⟨.inl rfl, Cv h Tryd.results50 (By 0 rfl) [] [] rfl rfl rfl⟩

def Dz (a_0 : Int) : Option (List UInt8) := ((Ea a_0).bind fun r1 => some r1)
theorem DT {a_0 : Int} {r : (List UInt8)} (hF : Dz a_0 = some r) : AX Tryd.prog KG 32 [(Ab .i64 a_0)] [] (fun _ => []) (AF r) := by
  refine AX.intro 5 Tryd.func32 rfl Tryd.ntmps32 (Nat.le_of_ble_eq_true rfl) ?_
  intro c a w hG hn h
  unfold Dz at hF
  change A0 c [.slot 0 (Ab .i64 a_0)] a w at h
  refine AU mixed hn hG h [0] (ov [] (Ak (B9 (sc _ (by decide)))) .nil) fun _ a w h => ?_
  obtain ⟨r1, hr1, hF⟩ := bind_some hF
  refine AU mixed hn hG h [500] (ov [0] (Ag q0) <| oc [500] [] Tryd.call50 (Gb hr1) ⟨q0, trivial⟩ <| ov [500] (Ak q0) .nil) fun _ a w h => ?_
  refine wp_ret ?_
  obtain rfl := Option.some.inj hF
  exact ⟨.inl rfl, Cv h Tryd.results32 (By 0 rfl) [] [] rfl rfl rfl⟩

def Dy.b1 (a_0 : List UInt8) (x13 : Int) (x14 : C2) : Option (Ds (List UInt8) (Int × C2)) := (if (decide (x13 < (32 : Int))) = true then (if (0 : Int) ≤ x13 ∧ x13 < 32 then (if (0 : Int) ≤ shr .u8 ((a_0.getD x13.toNat 0).toNat) 4 ∧ shr .u8 ((a_0.getD x13.toNat 0).toNat) 4 < ([48, 49, 50, 51, 52, 53, 54, 55, 56, 57, 97, 98, 99, 100, 101, 102] : List UInt8).length then ((BI x14 ((([48, 49, 50, 51, 52, 53, 54, 55, 56, 57, 97, 98, 99, 100, 101, 102] : List UInt8).getD (shr .u8 ((a_0.getD x13.toNat 0).toNat) 4).toNat 0).toNat : Int)).bind fun r26 => (if (0 : Int) ≤ bits .and .u8 ((a_0.getD x13.toNat 0).toNat) 15 ∧ bits .and .u8 ((a_0.getD x13.toNat 0).toNat) 15 < ([48, 49, 50, 51, 52, 53, 54, 55, 56, 57, 97, 98, 99, 100, 101, 102] : List UInt8).length then ((BI r26.2 ((([48, 49, 50, 51, 52, 53, 54, 55, 56, 57, 97, 98, 99, 100, 101, 102] : List UInt8).getD (bits .and .u8 ((a_0.getD x13.toNat 0).toNat) 15).toNat 0).toNat : Int)).bind fun r28 => some (.cont (IntKind.wrap .i64 (x13 + 1), r28.2))) else none)) else none) else none) else some (.brk (x13, x14)))
def Dy (a_0 : List UInt8) : Option (List UInt8) := ((Cs (fun s : Int × C2 => Dy.b1 a_0 s.1 s.2) ((32 - 0 : Int).toNat + 2) (0, ⟨[]⟩)).bind fun cr => match cr with | .ret r => some r | .next (y33, y34) => ((Cy y34).bind fun r35 => some r35))
theorem IC {a_0 : List UInt8} {r : (List UInt8)} (hF : Dy a_0 = some r) : AX Tryd.prog KG 54 [(Co [Af 32 a_0])] [] (fun _ => []) (AF r) := by
  refine AX.intro 20 Tryd.func54 rfl Tryd.ntmps54 (Nat.le_of_ble_eq_true rfl) ?_
  intro c a w hG hn h
  unfold Dy at hF
  change A0 c [.slot 0 (Co [Af 32 a_0])] a w at h
  refine AU mixed hn hG h [502, 501] (ob [0] (DL q0 (BD _)) <| ov [] (Ak (B9 (sc _ (by decide)))) .nil) fun b1 a w h => ?_
  refine AU mixed hn hG h [0, 501, 1, 500] (ob [] (CJ Tryd.zeroValue64 MO) .nil) fun b2 a w h => ?_
  refine wp_seq ?_
  refine AU mixed hn hG h [1, 501, 500, 3] (ov [0, 2] (CO 1 Tryd.isAgg33 Tryd.sizeOf33 q0) <| ov [] (Ag qi) .nil) fun _ a w h => ?_
  refine wp_block ?_
  replace h := h.conv 3 rfl JS
  replace h := h.Gq 0 rfl (fun _ _ h => Jh h)
  replace h := h.sub [0, 1, 2, 3] (by rfl)
  change A0 c [.slot 3 (Bf (b2 0)), .slot 6 (Co [Af 32 a_0]), .slot 7 (Ab .i64 0), .res (C4 (b2 0) (some ⟨[]⟩))] a w at h
  obtain ⟨cr29, hl30, hF⟩ := bind_some hF
  refine wp_mono (Ci (R := (List UInt8)) (S := Int × C2) (fun s a w => A0 c [.slot 3 (Bf (b2 0)), .slot 6 (Co [Af 32 a_0]), .slot 7 (Ab .i64 s.1), .res (C4 (b2 0) (some s.2))] a w) (fun res e a w => match res with | .next s => e = .exit 0 ∧ A0 c [.slot 3 (Bf (b2 0)), .res (C4 (b2 0) (some s.2))] a w | .ret r => e = .ret ∧ DF Tryd.prog Tryd.f54 c (AF r) (fun _ => []) a w) ?_ _ (0, ⟨[]⟩) _ _ _ (h.sub [0, 1, 2, 3] (by rfl)) hl30) ?_
  · clear hl30 hF h
    intro s a w o h hF
    obtain ⟨x13, x14⟩ := s
    change Dy.b1 a_0 x13 x14 = some o at hF
    unfold Dy.b1 at hF
    change A0 c [.slot 3 (Bf (b2 0)), .slot 6 (Co [Af 32 a_0]), .slot 7 (Ab .i64 x13), .res (C4 (b2 0) (some x14))] a w at h
    refine AU mixed hn hG h [0, 1, 2, 500, 3] (ov [2] (Ax B6 q0 qi) .nil) fun _ a w h => ?_
    refine wp_seq ?_
    refine DN h hF 3 [0, 1, 2, 4] [0, 1, 2, 4] (fun hb23 hF h => ?_) (fun hb23 hF h => ?_)
    · refine wp_skip ?_
      show Code.wp Tryd.prog _ _ a w
      refine wp_seq ?_
      refine wp_block ?_
      obtain ⟨hv24, hF⟩ := AH hF
      refine AU mixed hn hG h [0, 500, 1, 2, 3] (ov [1, 2] (HM Tryd.underlying33 Tryd.sizeOf5 Tryd.isAgg5 q0 q1 hv24) <| ov [500] (Ak q0) .nil) fun _ a w h => ?_
      obtain ⟨hv25, hF⟩ := AH hF
      obtain ⟨r26, hr26, hF⟩ := bind_some hF
      refine AU mixed hn hG h [0, 1, 2, 3, 500] (ov [1] (Ag q0) <| ov [500] (Ax (EW rfl) q0 qi) <| ov [500] (CB Tryd.underlying9 (B9 (sc _ (by decide))) q0 hv25) <| oc [0, 500] [4] Tryd.call43 (Cb hr26) ⟨q0, q1, trivial⟩ .nil) fun _ a w h => ?_
      obtain ⟨hv27, hF⟩ := AH hF
      obtain ⟨r28, hr28, hF⟩ := bind_some hF
      refine CK mixed hn hG h [0, 2, 3, 500] (ov [1] (Ag q0) <| ov [500] (Ax Ho q0 qi) <| ov [500] (CB Tryd.underlying9 (B9 (sc _ (by decide))) q0 hv27) <| oc [0, 500] [4] Tryd.call43 (Cb hr28) ⟨q0, q1, trivial⟩ .nil) fun _ a w h => ?_
      show Code.wp Tryd.prog _ _ a w
      refine CK mixed hn hG h [0, 1, 500, 3] (ov [2] (Ax BC q0 qi) <| od [500] 2 (Ag q0) .nil) fun _ a w h => ?_
      obtain rfl := Option.some.inj hF
      exact ⟨rfl, h.sub [0, 1, 2, 3] (by rfl)⟩
    · refine wp_exit ?_
      obtain rfl := Option.some.inj hF
      exact ⟨CV _, rfl, h.sub [0, 3] (by rfl)⟩
  · clear hl30
    intro e a w hq
    cases cr29 with
    | ret r31 =>
      obtain ⟨rfl, hq⟩ := hq
      obtain rfl := Option.some.inj hF
      exact ⟨.inl rfl, hq⟩
    | next s32 =>
      obtain ⟨y33, y34⟩ := s32
      obtain ⟨rfl, h⟩ := hq
      change A0 c [.slot 3 (Bf (b2 0)), .res (C4 (b2 0) (some y34))] a w at h
      refine BT ?_
      show Code.wp Tryd.prog _ _ a w
      obtain ⟨r35, hr35, hF⟩ := bind_some hF
      refine AU mixed hn hG h [500] (oc [0] [1] Tryd.call23 (D5 hr35) ⟨q0, trivial⟩ <| ov [500] (Ak q0) .nil) fun _ a w h => ?_
      refine wp_ret ?_
      obtain rfl := Option.some.inj hF
      exact ⟨.inl rfl, Cv h Tryd.results54 (By 0 rfl) [] [] rfl rfl rfl⟩

def Ey (a_0 : List UInt8) : Option (List UInt8) := ((Dy a_0).bind fun r2 => (if (0 : Int) ≤ 0 ∧ (0 : Int) ≤ 8 ∧ (8 : Int) ≤ r2.length then some ((r2.take 8).drop (0 : Int).toNat) else none))
theorem FJ {a_0 : List UInt8} {r : (List UInt8)} (hF : Ey a_0 = some r) : AX Tryd.prog KG 36 [(Co [Af 32 a_0])] [] (fun _ => []) (AF r) := by
  refine AX.intro 6 Tryd.func36 rfl Tryd.ntmps36 (Nat.le_of_ble_eq_true rfl) ?_
  intro c a w hG hn h
  unfold Ey at hF
  change A0 c [.slot 0 (Co [Af 32 a_0])] a w at h
  refine AU mixed hn hG h [502, 501] (ob [0] (DL q0 (BD _)) <| ov [] (Ak (B9 (sc _ (by decide)))) .nil) fun b1 a w h => ?_
  obtain ⟨r2, hr2, hF⟩ := bind_some hF
  obtain ⟨hv3, hF⟩ := AH hF
  refine AU mixed hn hG h [500] (ov [0, 1] (CO 1 Tryd.isAgg33 Tryd.sizeOf33 q0) <| oc [500] [] Tryd.call54 (IC hr2) ⟨q0, trivial⟩ <| ov [500] (Dg (a := 0) (b := 8) Tryd.underlying9 q0 rfl ⟨_, qi⟩ hv3) <| ov [500] (Ak q0) .nil) fun _ a w h => ?_
  refine wp_ret ?_
  obtain rfl := Option.some.inj hF
  exact ⟨.inl rfl, Cv h Tryd.results36 (By 0 rfl) [] [] rfl rfl rfl⟩

def Ej (a_0 : Bool) (a_1 : Bool) : Option (List UInt8) := (if a_0 = true then some [102, 97, 105, 108, 101, 100] else (if a_1 = true then some [99, 117, 116] else some [111, 112, 101, 110]))
theorem Fy {a_0 : Bool} {a_1 : Bool} {r : (List UInt8)} (hF : Ej a_0 a_1 = some r) : AX Tryd.prog KG 37 [(An a_0), (An a_1)] [] (fun _ => []) (AF r) := by
  refine AX.intro 9 Tryd.func37 rfl Tryd.ntmps37 (Nat.le_of_ble_eq_true rfl) ?_
  intro c a w hG hn h
  unfold Ej at hF
  change A0 c [.slot 0 (An a_0), .slot 1 (An a_1)] a w at h
  refine AU mixed hn hG h [0, 1] (ov [] (Ak (B9 (sc _ (by decide)))) .nil) fun _ a w h => ?_
  refine wp_seq ?_
  refine wp_block ?_
  refine AU mixed hn hG h [1, 500] (ov [0] (Ag q0) <| ov [500] (Ak q0) .nil) fun _ a w h => ?_
  refine DN h hF 1 [] [0] (fun hb1 hF h => ?_) (fun hb1 hF h => ?_)
  · refine AU mixed hn hG h [500] (ov [] (Ak (B9 (sc _ (by decide)))) .nil) fun _ a w h => ?_
    refine wp_ret ?_
    obtain rfl := Option.some.inj hF
    exact ⟨.inl rfl, Cv h Tryd.results37 (By 0 rfl) [] [] rfl rfl rfl⟩
  · refine AU mixed hn hG h [500] (ov [0] (Ag q0) <| ov [500] (Ak q0) .nil) fun _ a w h => ?_
    refine DN h hF 0 [] [] (fun hb2 hF h => ?_) (fun hb2 hF h => ?_)
    · refine AU mixed hn hG h [500] (ov [] (Ak (B9 (sc _ (by decide)))) .nil) fun _ a w h => ?_
      refine wp_ret ?_
      obtain rfl := Option.some.inj hF
      exact ⟨.inl rfl, Cv h Tryd.results37 (By 0 rfl) [] [] rfl rfl rfl⟩
    · refine wp_skip ?_
      show Code.wp Tryd.prog _ _ a w
      refine AU mixed hn hG h [500] (ov [] (Ak (B9 (sc _ (by decide)))) .nil) fun _ a w h => ?_
      refine wp_ret ?_
      obtain rfl := Option.some.inj hF
      exact ⟨.inl rfl, Cv h Tryd.results37 (By 0 rfl) [] [] rfl rfl rfl⟩

def Be.j1 (x18 : Int) (x32 : Int) (x33 : Int) : Option (Ds B7 (Int × Int × Int)) := some (.cont (x32, x33, IntKind.wrap .i64 (x18 + 1)))
def Be.b1 (a_1 : AK) (x16 : Int) (x17 : Int) (x18 : Int) : Option (Ds B7 (Int × Int × Int)) := (if (decide (x18 < (a_1.Aa.Az.length : Int))) = true then (if (0 : Int) ≤ x18 ∧ x18 < a_1.Aa.Az.length then (if (decide (((a_1.Aa.Az.getD x18.toNat default).Dc) = (1 : Int))) = true then Be.j1 x18 (IntKind.wrap .i64 (x16 + 1)) x17 else (if (decide (((a_1.Aa.Az.getD x18.toNat default).Dc) = (2 : Int))) = true then Be.j1 x18 x16 (IntKind.wrap .i64 (x17 + 1)) else Be.j1 x18 x16 x17)) else none) else some (.brk (x16, x17, x18)))
def Be (L_0 : B7) (a_1 : AK) : Option B7 := ((Dz (a_1.Ad.AP.length : Int)).bind fun r4 => ((Dz (a_1.Ad.AW.length : Int)).bind fun r5 => ((Ey a_1.Ad.Aj).bind fun r6 => ((Cg a_1.Ad.A8).bind fun r7 => ((Ej a_1.Ad.Au false).bind fun r8 => ((BZ L_0 [[104, 111, 109, 101], [108, 101, 116, 116, 101, 114, 115], r4, [113, 117, 101, 117, 101, 100], r5, [114, 111, 111, 116], r6, [98, 111, 110, 100], r7, r8]).bind fun r9 => ((Cs (fun s : Int × Int × Int => Be.b1 a_1 s.1 s.2.1 s.2.2) (((a_1.Aa.Az.length : Int) - 0 : Int).toNat + 2) (0, 0, 0)).bind fun cr => match cr with | .ret r => some r | .next (y40, y41, y42) => ((Dj a_1.Aa.AB).bind fun r43 => ((Dz (a_1.Aa.AT.length : Int)).bind fun r44 => ((Dz y40).bind fun r45 => ((Dz y41).bind fun r46 => ((Ey a_1.Aa.Aj).bind fun r47 => ((Ej a_1.Aa.Au a_1.Aa.Bh).bind fun r48 => ((BZ r9 [[114, 101, 112, 108, 105, 99, 97], [111, 102], r43, [114, 111, 111, 116, 115], r44, [115, 104, 111, 119, 110], r45, [100, 111, 110, 101], r46, [114, 111, 111, 116], r47, r48]).bind fun r49 => some r49))))))))))))))
theorem Fk {p_0 : Value} {L_0 : B7} {a_1 : AK} {r : B7} (hF : Be L_0 a_1 = some r) : AX Tryd.prog KG 21 [(Bf p_0), (Co [one (Ab .u32 a_1.BS), one (Ab .u64 a_1.Ae.AR), one (Ab .u64 a_1.Ae.A6), one (Ab .u64 a_1.Ae.Bn), one (Ai Aq.ck a_1.Ae.Ao), one (Ai Ap.ck a_1.Ae.AD), one (Ai Aw.ck a_1.Al.At), one (Ai Ar.ck a_1.Al.Am), one (Ab .u32 a_1.Ad.AB), Af 32 a_1.Ad.As, one (Ab .u32 a_1.Ad.AJ.A1), A5 32 32 (dC 32) (AY 32) a_1.Ad.AJ.AI, one (Ai (dC 32) a_1.Ad.AP), one (Ai (dC 32) a_1.Ad.AW), Af 32 a_1.Ad.Aj, one (Ai AA.ck a_1.Ad.AS), one (Ab .u64 a_1.Ad.A8), one (An a_1.Ad.Au), one (Ab .u32 a_1.Aa.AB), one (Ab .u32 a_1.Aa.A7), Af 32 a_1.Aa.As, one (Ai (dC 32) a_1.Aa.AG), one (Ab .u64 a_1.Aa.AQ), Af 32 a_1.Aa.Aj, one (Ai Ay.ck a_1.Aa.AT), one (Ai Av.ck a_1.Aa.Az), one (An a_1.Aa.Au), one (An a_1.Aa.Bh), one (AF a_1.AZ)])] [(Cm p_0 (some L_0))] (fun _ => [Cm p_0 (some r)]) (DJ []) := by
  refine AX.intro 74 Tryd.func21 rfl Tryd.ntmps21 (Nat.le_of_ble_eq_true rfl) ?_
  intro c a w hG hn h
  unfold Be at hF
  change A0 c [.slot 0 (Bf p_0), .slot 1 (Co [one (Ab .u32 a_1.BS), one (Ab .u64 a_1.Ae.AR), one (Ab .u64 a_1.Ae.A6), one (Ab .u64 a_1.Ae.Bn), one (Ai Aq.ck a_1.Ae.Ao), one (Ai Ap.ck a_1.Ae.AD), one (Ai Aw.ck a_1.Al.At), one (Ai Ar.ck a_1.Al.Am), one (Ab .u32 a_1.Ad.AB), Af 32 a_1.Ad.As, one (Ab .u32 a_1.Ad.AJ.A1), A5 32 32 (dC 32) (AY 32) a_1.Ad.AJ.AI, one (Ai (dC 32) a_1.Ad.AP), one (Ai (dC 32) a_1.Ad.AW), Af 32 a_1.Ad.Aj, one (Ai AA.ck a_1.Ad.AS), one (Ab .u64 a_1.Ad.A8), one (An a_1.Ad.Au), one (Ab .u32 a_1.Aa.AB), one (Ab .u32 a_1.Aa.A7), Af 32 a_1.Aa.As, one (Ai (dC 32) a_1.Aa.AG), one (Ab .u64 a_1.Aa.AQ), Af 32 a_1.Aa.Aj, one (Ai Ay.ck a_1.Aa.AT), one (Ai Av.ck a_1.Aa.Az), one (An a_1.Aa.Au), one (An a_1.Aa.Bh), one (AF a_1.AZ)]), .res (Cm p_0 (some L_0))] a w at h
  refine AU mixed hn hG h [0, 501, 2, 500] (ob [1] (DL q0 (BD _)) .nil) fun b1 a w h => ?_
  refine AU mixed hn hG h [0, 505, 503, 2, 501, 500] (ov [1] (Ah (p := (b1 0)) (n := 1095) 0 8 Tryd.underlying46 rfl Tryd.sizeOf40 (by decide) q0 rfl) <| ov [500, 3] (B0 [one (Ab .u32 a_1.BS), one (Ab .u64 a_1.Ae.AR), one (Ab .u64 a_1.Ae.A6), one (Ab .u64 a_1.Ae.Bn), one (Ai Aq.ck a_1.Ae.Ao), one (Ai Ap.ck a_1.Ae.AD), one (Ai Aw.ck a_1.Al.At), one (Ai Ar.ck a_1.Al.Am)] [one (Ab .u32 a_1.Ad.AB), Af 32 a_1.Ad.As, one (Ab .u32 a_1.Ad.AJ.A1), A5 32 32 (dC 32) (AY 32) a_1.Ad.AJ.AI, one (Ai (dC 32) a_1.Ad.AP), one (Ai (dC 32) a_1.Ad.AW), Af 32 a_1.Ad.Aj, one (Ai AA.ck a_1.Ad.AS), one (Ab .u64 a_1.Ad.A8), one (An a_1.Ad.Au)] [one (Ab .u32 a_1.Aa.AB), one (Ab .u32 a_1.Aa.A7), Af 32 a_1.Aa.As, one (Ai (dC 32) a_1.Aa.AG), one (Ab .u64 a_1.Aa.AQ), Af 32 a_1.Aa.Aj, one (Ai Ay.ck a_1.Aa.AT), one (Ai Av.ck a_1.Aa.Az), one (An a_1.Aa.Au), one (An a_1.Aa.Bh), one (AF a_1.AZ)] 1 Tryd.isAgg40 Tryd.sizeOf40 q0 rfl rfl (by simp only [CQ, CP, one, Af, A5, B1])) <| ov [1] (Ah (p := (b1 0)) (n := 72) 0 1103 Tryd.underlying46 rfl Tryd.sizeOf44 (by decide) q0 rfl) <| ov [500, 3] (B0 [one (Ab .u32 a_1.BS), one (Ab .u64 a_1.Ae.AR), one (Ab .u64 a_1.Ae.A6), one (Ab .u64 a_1.Ae.Bn), one (Ai Aq.ck a_1.Ae.Ao), one (Ai Ap.ck a_1.Ae.AD), one (Ai Aw.ck a_1.Al.At), one (Ai Ar.ck a_1.Al.Am), one (Ab .u32 a_1.Ad.AB), Af 32 a_1.Ad.As, one (Ab .u32 a_1.Ad.AJ.A1), A5 32 32 (dC 32) (AY 32) a_1.Ad.AJ.AI, one (Ai (dC 32) a_1.Ad.AP), one (Ai (dC 32) a_1.Ad.AW), Af 32 a_1.Ad.Aj, one (Ai AA.ck a_1.Ad.AS), one (Ab .u64 a_1.Ad.A8), one (An a_1.Ad.Au)] [one (Ab .u32 a_1.Aa.AB), one (Ab .u32 a_1.Aa.A7), Af 32 a_1.Aa.As, one (Ai (dC 32) a_1.Aa.AG), one (Ab .u64 a_1.Aa.AQ), Af 32 a_1.Aa.Aj, one (Ai Ay.ck a_1.Aa.AT), one (Ai Av.ck a_1.Aa.Az), one (An a_1.Aa.Au), one (An a_1.Aa.Bh)] [one (AF a_1.AZ)] 1 Tryd.isAgg44 Tryd.sizeOf44 q0 rfl (by simp only [CQ, CP, one, Af, A5, B1]) rfl) <| ob [] (CJ Tryd.zeroValue40 z40) <| ob [] (CJ Tryd.zeroValue44 z44) <| og [503, 506] [502] [.res 4 100000 (fun v1_ _ => (lb (v1_) 40 [one (Ab .u32 a_1.Ad.AB), Af 32 a_1.Ad.As, one (Ab .u32 a_1.Ad.AJ.A1), A5 32 32 (dC 32) (AY 32) a_1.Ad.AJ.AI, one (Ai (dC 32) a_1.Ad.AP), one (Ai (dC 32) a_1.Ad.AW), Af 32 a_1.Ad.Aj, one (Ai AA.ck a_1.Ad.AS), one (Ab .u64 a_1.Ad.A8), one (An a_1.Ad.Au)]))] (A4.plain (CG Tryd.sizeOf40 q0 q1 (BD _)) rfl) <| og [502, 505] [501] [.res 5 100000 (fun v1_ _ => (lb (v1_) 44 [one (Ab .u32 a_1.Aa.AB), one (Ab .u32 a_1.Aa.A7), Af 32 a_1.Aa.As, one (Ai (dC 32) a_1.Aa.AG), one (Ab .u64 a_1.Aa.AQ), Af 32 a_1.Aa.Aj, one (Ai Ay.ck a_1.Aa.AT), one (Ai Av.ck a_1.Aa.Az), one (An a_1.Aa.Au), one (An a_1.Aa.Bh)]))] (A4.plain (CG Tryd.sizeOf44 q0 q1 (BD _)) rfl) .nil) fun b2 a w h => ?_
  obtain ⟨r4, hr4, hF⟩ := bind_some hF
  obtain ⟨r5, hr5, hF⟩ := bind_some hF
  obtain ⟨r6, hr6, hF⟩ := bind_some hF
  obtain ⟨r7, hr7, hF⟩ := bind_some hF
  obtain ⟨r8, hr8, hF⟩ := bind_some hF
  obtain ⟨r9, hr9, hF⟩ := bind_some hF
  refine AU mixed hn hG h [0, 2, 5, 500] (ov [0] (Ag q0) <| ov [1] (Ah (p := (b2 4)) (n := 1) 0 1058 Tryd.underlying40 rfl Tryd.sizeOf37 (by decide) q0 rfl) <| ov [500, 4] (AE [one (Ab .u32 a_1.Ad.AB), Af 32 a_1.Ad.As, one (Ab .u32 a_1.Ad.AJ.A1), A5 32 32 (dC 32) (AY 32) a_1.Ad.AJ.AI] [one (Ai (dC 32) a_1.Ad.AW), Af 32 a_1.Ad.Aj, one (Ai AA.ck a_1.Ad.AS), one (Ab .u64 a_1.Ad.A8), one (An a_1.Ad.Au)] 1 Tryd.isAgg37 q0 rfl (by simp only [CQ, CP, one, Af, A5, B1])) <| ov [500] (Bm Tryd.underlying37 q0) <| oc [500] [] Tryd.call32 (DT hr4) ⟨q0, trivial⟩ <| ov [1] (Ah (p := (b2 4)) (n := 1) 0 1059 Tryd.underlying40 rfl Tryd.sizeOf37 (by decide) q0 rfl) <| ov [500, 4] (AE [one (Ab .u32 a_1.Ad.AB), Af 32 a_1.Ad.As, one (Ab .u32 a_1.Ad.AJ.A1), A5 32 32 (dC 32) (AY 32) a_1.Ad.AJ.AI, one (Ai (dC 32) a_1.Ad.AP)] [Af 32 a_1.Ad.Aj, one (Ai AA.ck a_1.Ad.AS), one (Ab .u64 a_1.Ad.A8), one (An a_1.Ad.Au)] 1 Tryd.isAgg37 q0 rfl (by simp only [CQ, CP, one, Af, A5, B1])) <| ov [500] (Bm Tryd.underlying37 q0) <| oc [500] [] Tryd.call32 (DT hr5) ⟨q0, trivial⟩ <| ov [1] (Ah (p := (b2 4)) (n := 32) 0 1060 Tryd.underlying40 rfl Tryd.sizeOf33 (by decide) q0 rfl) <| ov [500, 4] (B0 [one (Ab .u32 a_1.Ad.AB), Af 32 a_1.Ad.As, one (Ab .u32 a_1.Ad.AJ.A1), A5 32 32 (dC 32) (AY 32) a_1.Ad.AJ.AI, one (Ai (dC 32) a_1.Ad.AP), one (Ai (dC 32) a_1.Ad.AW)] [Af 32 a_1.Ad.Aj] [one (Ai AA.ck a_1.Ad.AS), one (Ab .u64 a_1.Ad.A8), one (An a_1.Ad.Au)] 1 Tryd.isAgg33 Tryd.sizeOf33 q0 rfl (by simp only [CQ, CP, one, Af, A5, B1]) rfl) <| oc [500] [] Tryd.call36 (FJ hr6) ⟨q0, trivial⟩ <| ov [1] (Ah (p := (b2 4)) (n := 1) 0 1093 Tryd.underlying40 rfl Tryd.sizeOf23 (by decide) q0 rfl) <| ov [500, 4] (AE [one (Ab .u32 a_1.Ad.AB), Af 32 a_1.Ad.As, one (Ab .u32 a_1.Ad.AJ.A1), A5 32 32 (dC 32) (AY 32) a_1.Ad.AJ.AI, one (Ai (dC 32) a_1.Ad.AP), one (Ai (dC 32) a_1.Ad.AW), Af 32 a_1.Ad.Aj, one (Ai AA.ck a_1.Ad.AS)] [one (An a_1.Ad.Au)] 1 Tryd.isAgg23 q0 rfl (by simp only [CQ, CP, one, Af, A5, B1])) <| oc [500] [] Tryd.call19 (Cd hr7) ⟨q0, trivial⟩ <| ov [1] (Ah (p := (b2 4)) (n := 1) 0 1094 Tryd.underlying40 rfl Tryd.sizeOf4 (by decide) q0 rfl) <| ov [500, 4] (AE [one (Ab .u32 a_1.Ad.AB), Af 32 a_1.Ad.As, one (Ab .u32 a_1.Ad.AJ.A1), A5 32 32 (dC 32) (AY 32) a_1.Ad.AJ.AI, one (Ai (dC 32) a_1.Ad.AP), one (Ai (dC 32) a_1.Ad.AW), Af 32 a_1.Ad.Aj, one (Ai AA.ck a_1.Ad.AS), one (Ab .u64 a_1.Ad.A8)] [] 1 Tryd.isAgg4 q0 rfl (by simp only [CQ, CP, one, Af, A5, B1])) <| oc [500] [] Tryd.call37 (Fy hr8) ⟨q0, qb, trivial⟩ <| ov [513, 509, 506, 503, 500] (El (xs := [.const (.string ⟨#[104, 111, 109, 101]⟩), .const (.string ⟨#[108, 101, 116, 116, 101, 114, 115]⟩), .tmp 18, .const (.string ⟨#[113, 117, 101, 117, 101, 100]⟩), .tmp 22, .const (.string ⟨#[114, 111, 111, 116]⟩), .tmp 25, .const (.string ⟨#[98, 111, 110, 100]⟩), .tmp 28, .tmp 31]) (ys := [[104, 111, 109, 101], [108, 101, 116, 116, 101, 114, 115], r4, [113, 117, 101, 117, 101, 100], r5, [114, 111, 111, 116], r6, [98, 111, 110, 100], r7, r8]) _ rfl Tryd.underlying87 Tryd.sizeOf9 Tryd.zeroValue9 rfl rfl (by decide) (by decide) ⟨⟨_, (B9 (sc _ (by decide))), (Bc (Bt _))⟩, ⟨_, (B9 (sc _ (by decide))), (Bc (Bt _))⟩, ⟨_, q0, (Bc (Bt _))⟩, ⟨_, (B9 (sc _ (by decide))), (Bc (Bt _))⟩, ⟨_, q1, (Bc (Bt _))⟩, ⟨_, (B9 (sc _ (by decide))), (Bc (Bt _))⟩, ⟨_, q2, (Bc (Bt _))⟩, ⟨_, (B9 (sc _ (by decide))), (Bc (Bt _))⟩, ⟨_, q3, (Bc (Bt _))⟩, ⟨_, (opt 4 rfl), (Bc (Bt _))⟩, trivial⟩ DU) <| oc [518, 500] [3] Tryd.call17 (CF hr9) ⟨q0, q1, trivial⟩ .nil) fun _ a w h => ?_
  refine AU mixed hn hG h [0, 1, 501, 500, 2, 3] (ov [] (Ak qi) <| ov [] (Ak qi) .nil) fun _ a w h => ?_
  refine wp_seq ?_
  refine AU mixed hn hG h [0, 1, 2, 3, 502, 501, 500, 4, 5] (ov [1] (Ah (p := (b2 5)) (n := 1) 0 69 Tryd.underlying44 rfl Tryd.sizeOf42 (by decide) q0 rfl) <| ov [500, 4] (AE [one (Ab .u32 a_1.Aa.AB), one (Ab .u32 a_1.Aa.A7), Af 32 a_1.Aa.As, one (Ai (dC 32) a_1.Aa.AG), one (Ab .u64 a_1.Aa.AQ), Af 32 a_1.Aa.Aj, one (Ai Ay.ck a_1.Aa.AT)] [one (An a_1.Aa.Au), one (An a_1.Aa.Bh)] 1 Tryd.isAgg42 q0 rfl rfl) <| ov [500] (Bm Tryd.underlying42 q0) <| ov [] (Ag qi) .nil) fun _ a w h => ?_
  refine wp_block ?_
  obtain ⟨cr36, hl37, hF⟩ := bind_some hF
  refine wp_mono (Ci (R := B7) (S := Int × Int × Int) (fun s a w => A0 c [.slot 0 (Bf p_0), .slot 5 (BG (b2 5) 0), .slot 6 (Ab .i64 s.1), .slot 7 (Ab .i64 s.2.1), .slot 35 (Ai Av.ck a_1.Aa.Az), .slot 36 (Ab .i64 (a_1.Aa.Az.length : Int)), .slot 37 (Ab .i64 s.2.2), .res (lb (b2 5) 44 [one (Ab .u32 a_1.Aa.AB), one (Ab .u32 a_1.Aa.A7), Af 32 a_1.Aa.As, one (Ai (dC 32) a_1.Aa.AG), one (Ab .u64 a_1.Aa.AQ), Af 32 a_1.Aa.Aj, one (Ai Ay.ck a_1.Aa.AT), one (Ai Av.ck a_1.Aa.Az), one (An a_1.Aa.Au), one (An a_1.Aa.Bh)]), .res (Cm p_0 (some r9))] a w) (fun res e a w => match res with | .next s => e = .exit 0 ∧ A0 c [.slot 0 (Bf p_0), .slot 5 (BG (b2 5) 0), .slot 6 (Ab .i64 s.1), .slot 7 (Ab .i64 s.2.1), .res (lb (b2 5) 44 [one (Ab .u32 a_1.Aa.AB), one (Ab .u32 a_1.Aa.A7), Af 32 a_1.Aa.As, one (Ai (dC 32) a_1.Aa.AG), one (Ab .u64 a_1.Aa.AQ), Af 32 a_1.Aa.Aj, one (Ai Ay.ck a_1.Aa.AT), one (Ai Av.ck a_1.Aa.Az), one (An a_1.Aa.Au), one (An a_1.Aa.Bh)]), .res (Cm p_0 (some r9))] a w | .ret r => e = .ret ∧ DF Tryd.prog Tryd.f21 c (DJ []) (fun _ => [Cm p_0 (some r)]) a w) ?_ _ (0, 0, 0) _ _ _ (h.sub [0, 1, 2, 3, 4, 5, 6, 7, 8] (by rfl)) hl37) ?_
  · clear hl37 hF h
    intro s a w o h hF
    obtain ⟨x16, x17, x18⟩ := s
    change Be.b1 a_1 x16 x17 x18 = some o at hF
    unfold Be.b1 at hF
    change A0 c [.slot 0 (Bf p_0), .slot 5 (BG (b2 5) 0), .slot 6 (Ab .i64 x16), .slot 7 (Ab .i64 x17), .slot 35 (Ai Av.ck a_1.Aa.Az), .slot 36 (Ab .i64 (a_1.Aa.Az.length : Int)), .slot 37 (Ab .i64 x18), .res (lb (b2 5) 44 [one (Ab .u32 a_1.Aa.AB), one (Ab .u32 a_1.Aa.A7), Af 32 a_1.Aa.As, one (Ai (dC 32) a_1.Aa.AG), one (Ab .u64 a_1.Aa.AQ), Af 32 a_1.Aa.Aj, one (Ai Ay.ck a_1.Aa.AT), one (Ai Av.ck a_1.Aa.Az), one (An a_1.Aa.Au), one (An a_1.Aa.Bh)]), .res (Cm p_0 (some r9))] a w at h
    refine AU mixed hn hG h [0, 1, 2, 3, 4, 5, 6, 500, 7, 8] (ov [6, 5] (Ax B6 q0 q1) .nil) fun _ a w h => ?_
    refine wp_seq ?_
    refine DN h hF 7 [0, 1, 2, 3, 4, 5, 6, 8, 9] [0, 1, 2, 3, 4, 5, 6, 8, 9] (fun hb28 hF h => ?_) (fun hb28 hF h => ?_)
    · refine wp_skip ?_
      show Code.wp Tryd.prog _ _ a w
      refine wp_seq ?_
      refine wp_block ?_
      obtain ⟨hv29, hF⟩ := AH hF
      refine AU mixed hn hG h [0, 1, 2, 3, 502, 4, 5, 6, 7, 8, 500] (ov [4, 6] (BL Tryd.underlying42 Tryd.sizeOf85 Av.lens q0 q1 hv29) <| ov [500] (CT [Af 32 ((a_1.Aa.Az.getD x18.toNat default).E7), one (Ab .i64 ((a_1.Aa.Az.getD x18.toNat default).Dc)), Af 32 ((a_1.Aa.Az.getD x18.toNat default).Eu)] [] Tryd.isAgg85 Tryd.sizeOf85 q0 rfl) <| ob [] (CJ Tryd.zeroValue85 z85) <| og [501, 502] [500] [.res 2 100000 (fun v1_ _ => (lb (v1_) 85 [Af 32 ((a_1.Aa.Az.getD x18.toNat default).E7), one (Ab .i64 ((a_1.Aa.Az.getD x18.toNat default).Dc)), Af 32 ((a_1.Aa.Az.getD x18.toNat default).Eu)]))] (A4.plain (CG Tryd.sizeOf85 q0 q1 (BD _)) rfl) .nil) fun b30 a w h => ?_
      refine AU mixed hn hG h [0, 1, 2, 3, 5, 6, 7, 500, 8, 9] (ov [4] (Ah (p := (b30 2)) (n := 1) 0 32 Tryd.underlying85 rfl Tryd.sizeOf3 (by decide) q0 rfl) <| ov [500, 10] (AE [Af 32 ((a_1.Aa.Az.getD x18.toNat default).E7)] [Af 32 ((a_1.Aa.Az.getD x18.toNat default).Eu)] 1 Tryd.isAgg3 q0 rfl rfl) .nil) fun _ a w h => ?_
      refine wp_block ?_
      refine AU mixed hn hG h [0, 1, 2, 3, 4, 5, 6, 7, 500, 8, 9] (ov [7] (Ax B4 q0 qi) <| ov [500] (Ak q0) .nil) fun _ a w h => ?_
      refine BY (fun a w => ∃ (x32 : Int), ∃ (x33 : Int), Be.j1 x18 x32 x33 = some o ∧ A0 c [.slot 0 (Bf p_0), .slot 5 (BG (b2 5) 0), .slot 6 (Ab .i64 x32), .slot 7 (Ab .i64 x33), .slot 35 (Ai Av.ck a_1.Aa.Az), .slot 36 (Ab .i64 (a_1.Aa.Az.length : Int)), .slot 37 (Ab .i64 x18), .res (lb (b2 5) 44 [one (Ab .u32 a_1.Aa.AB), one (Ab .u32 a_1.Aa.A7), Af 32 a_1.Aa.As, one (Ai (dC 32) a_1.Aa.AG), one (Ab .u64 a_1.Aa.AQ), Af 32 a_1.Aa.Aj, one (Ai Ay.ck a_1.Aa.AT), one (Ai Av.ck a_1.Aa.Az), one (An a_1.Aa.Au), one (An a_1.Aa.Bh)]), .res (Cm p_0 (some r9))] a w) ?_ ?_
      · refine DN h hF 8 [0, 1, 2, 3, 4, 5, 6, 9, 10] [0, 1, 2, 3, 4, 5, 6, 7, 9, 10] (fun hb34 hF h => ?_) (fun hb34 hF h => ?_)
        · refine CK mixed hn hG h [0, 1, 500, 3, 4, 5, 6, 7, 8] (ov [2] (Ag q0) <| ov [500] (Ax BC q0 qi) <| od [500] 2 (Ak q0) .nil) fun _ a w h => ?_
          exact ⟨IntKind.wrap .i64 (x16 + 1), x17, hF, h.sub [0, 1, 2, 3, 4, 5, 6, 7, 8] (by rfl)⟩
        · refine AU mixed hn hG h [0, 1, 2, 3, 4, 5, 6, 500, 8, 9] (ov [7] (Ax B4 q0 qi) <| ov [500] (Ak q0) .nil) fun _ a w h => ?_
          refine DN h hF 7 [0, 1, 2, 3, 4, 5, 6, 8, 9] [0, 1, 2, 3, 4, 5, 6, 8, 9] (fun hb35 hF h => ?_) (fun hb35 hF h => ?_)
          · refine CK mixed hn hG h [0, 1, 2, 500, 4, 5, 6, 7, 8] (ov [3] (Ag q0) <| ov [500] (Ax BC q0 qi) <| od [500] 3 (Ak q0) .nil) fun _ a w h => ?_
            exact ⟨x16, IntKind.wrap .i64 (x17 + 1), hF, h.sub [0, 1, 2, 3, 4, 5, 6, 7, 8] (by rfl)⟩
          · refine wp_skip ?_
            exact ⟨x16, x17, hF, h.sub [0, 1, 2, 3, 4, 5, 6, 7, 8] (by rfl)⟩
      · clear h hF
        rintro a w ⟨x32, x33, hF, h⟩
        unfold Be.j1 at hF
        show Code.wp Tryd.prog _ _ a w
        refine CK mixed hn hG h [0, 1, 2, 3, 4, 5, 500, 7, 8] (ov [6] (Ax BC q0 qi) <| od [500] 6 (Ag q0) .nil) fun _ a w h => ?_
        obtain rfl := Option.some.inj hF
        exact ⟨rfl, h.sub [0, 1, 2, 3, 4, 5, 6, 7, 8] (by rfl)⟩
    · refine wp_exit ?_
      obtain rfl := Option.some.inj hF
      exact ⟨CV _, rfl, h.sub [0, 1, 2, 3, 7, 8] (by rfl)⟩
  · clear hl37
    intro e a w hq
    cases cr36 with
    | ret r38 =>
      obtain ⟨rfl, hq⟩ := hq
      obtain rfl := Option.some.inj hF
      exact ⟨.inl rfl, hq⟩
    | next s39 =>
      obtain ⟨y40, y41, y42⟩ := s39
      obtain ⟨rfl, h⟩ := hq
      change A0 c [.slot 0 (Bf p_0), .slot 5 (BG (b2 5) 0), .slot 6 (Ab .i64 y40), .slot 7 (Ab .i64 y41), .res (lb (b2 5) 44 [one (Ab .u32 a_1.Aa.AB), one (Ab .u32 a_1.Aa.A7), Af 32 a_1.Aa.As, one (Ai (dC 32) a_1.Aa.AG), one (Ab .u64 a_1.Aa.AQ), Af 32 a_1.Aa.Aj, one (Ai Ay.ck a_1.Aa.AT), one (Ai Av.ck a_1.Aa.Az), one (An a_1.Aa.Au), one (An a_1.Aa.Bh)]), .res (Cm p_0 (some r9))] a w at h
      refine BT ?_
      show Code.wp Tryd.prog _ _ a w
      obtain ⟨r43, hr43, hF⟩ := bind_some hF
      obtain ⟨r44, hr44, hF⟩ := bind_some hF
      obtain ⟨r45, hr45, hF⟩ := bind_some hF
      obtain ⟨r46, hr46, hF⟩ := bind_some hF
      obtain ⟨r47, hr47, hF⟩ := bind_some hF
      obtain ⟨r48, hr48, hF⟩ := bind_some hF
      obtain ⟨r49, hr49, hF⟩ := bind_some hF
      refine CK mixed hn hG h [500] (ov [0] (Ag q0) <| ov [1] (Ah (p := (b2 5)) (n := 1) 0 0 Tryd.underlying44 rfl Tryd.sizeOf22 (by decide) q0 rfl) <| ov [500, 4] (AE [] [one (Ab .u32 a_1.Aa.A7), Af 32 a_1.Aa.As, one (Ai (dC 32) a_1.Aa.AG), one (Ab .u64 a_1.Aa.AQ), Af 32 a_1.Aa.Aj, one (Ai Ay.ck a_1.Aa.AT), one (Ai Av.ck a_1.Aa.Az), one (An a_1.Aa.Au), one (An a_1.Aa.Bh)] 1 Tryd.isAgg22 q0 rfl rfl) <| oc [500] [] Tryd.call18 (D3 hr43) ⟨q0, trivial⟩ <| ov [1] (Ah (p := (b2 5)) (n := 1) 0 68 Tryd.underlying44 rfl Tryd.sizeOf41 (by decide) q0 rfl) <| ov [500, 4] (AE [one (Ab .u32 a_1.Aa.AB), one (Ab .u32 a_1.Aa.A7), Af 32 a_1.Aa.As, one (Ai (dC 32) a_1.Aa.AG), one (Ab .u64 a_1.Aa.AQ), Af 32 a_1.Aa.Aj] [one (Ai Av.ck a_1.Aa.Az), one (An a_1.Aa.Au), one (An a_1.Aa.Bh)] 1 Tryd.isAgg41 q0 rfl rfl) <| ov [500] (Bm Tryd.underlying41 q0) <| oc [500] [] Tryd.call32 (DT hr44) ⟨q0, trivial⟩ <| ov [2] (Ag q0) <| oc [500] [] Tryd.call32 (DT hr45) ⟨q0, trivial⟩ <| ov [3] (Ag q0) <| oc [500] [] Tryd.call32 (DT hr46) ⟨q0, trivial⟩ <| ov [1] (Ah (p := (b2 5)) (n := 32) 0 36 Tryd.underlying44 rfl Tryd.sizeOf33 (by decide) q0 rfl) <| ov [500, 4] (B0 [one (Ab .u32 a_1.Aa.AB), one (Ab .u32 a_1.Aa.A7), Af 32 a_1.Aa.As, one (Ai (dC 32) a_1.Aa.AG), one (Ab .u64 a_1.Aa.AQ)] [Af 32 a_1.Aa.Aj] [one (Ai Ay.ck a_1.Aa.AT), one (Ai Av.ck a_1.Aa.Az), one (An a_1.Aa.Au), one (An a_1.Aa.Bh)] 1 Tryd.isAgg33 Tryd.sizeOf33 q0 rfl rfl rfl) <| oc [500] [] Tryd.call36 (FJ hr47) ⟨q0, trivial⟩ <| ov [1] (Ah (p := (b2 5)) (n := 1) 0 70 Tryd.underlying44 rfl Tryd.sizeOf4 (by decide) q0 rfl) <| ov [500, 4] (AE [one (Ab .u32 a_1.Aa.AB), one (Ab .u32 a_1.Aa.A7), Af 32 a_1.Aa.As, one (Ai (dC 32) a_1.Aa.AG), one (Ab .u64 a_1.Aa.AQ), Af 32 a_1.Aa.Aj, one (Ai Ay.ck a_1.Aa.AT), one (Ai Av.ck a_1.Aa.Az)] [one (An a_1.Aa.Bh)] 1 Tryd.isAgg4 q0 rfl rfl) <| ov [1] (Ah (p := (b2 5)) (n := 1) 0 71 Tryd.underlying44 rfl Tryd.sizeOf4 (by decide) q0 rfl) <| ov [500, 4] (AE [one (Ab .u32 a_1.Aa.AB), one (Ab .u32 a_1.Aa.A7), Af 32 a_1.Aa.As, one (Ai (dC 32) a_1.Aa.AG), one (Ab .u64 a_1.Aa.AQ), Af 32 a_1.Aa.Aj, one (Ai Ay.ck a_1.Aa.AT), one (Ai Av.ck a_1.Aa.Az), one (An a_1.Aa.Au)] [] 1 Tryd.isAgg4 q0 rfl rfl) <| oc [502, 500] [] Tryd.call37 (Fy hr48) ⟨q0, q1, trivial⟩ <| ov [516, 512, 510, 508, 505, 500] (El (xs := [.const (.string ⟨#[114, 101, 112, 108, 105, 99, 97]⟩), .const (.string ⟨#[111, 102]⟩), .tmp 55, .const (.string ⟨#[114, 111, 111, 116, 115]⟩), .tmp 59, .const (.string ⟨#[115, 104, 111, 119, 110]⟩), .tmp 61, .const (.string ⟨#[100, 111, 110, 101]⟩), .tmp 63, .const (.string ⟨#[114, 111, 111, 116]⟩), .tmp 66, .tmp 71]) (ys := [[114, 101, 112, 108, 105, 99, 97], [111, 102], r43, [114, 111, 111, 116, 115], r44, [115, 104, 111, 119, 110], r45, [100, 111, 110, 101], r46, [114, 111, 111, 116], r47, r48]) _ rfl Tryd.underlying87 Tryd.sizeOf9 Tryd.zeroValue9 rfl rfl (by decide) (by decide) ⟨⟨_, (B9 (sc _ (by decide))), (Bc (Bt _))⟩, ⟨_, (B9 (sc _ (by decide))), (Bc (Bt _))⟩, ⟨_, q0, (Bc (Bt _))⟩, ⟨_, (B9 (sc _ (by decide))), (Bc (Bt _))⟩, ⟨_, q1, (Bc (Bt _))⟩, ⟨_, (B9 (sc _ (by decide))), (Bc (Bt _))⟩, ⟨_, q2, (Bc (Bt _))⟩, ⟨_, (B9 (sc _ (by decide))), (Bc (Bt _))⟩, ⟨_, q3, (Bc (Bt _))⟩, ⟨_, (B9 (sc _ (by decide))), (Bc (Bt _))⟩, ⟨_, (opt 4 rfl), (Bc (Bt _))⟩, ⟨_, (opt 5 rfl), (Bc (Bt _))⟩, trivial⟩ DU) <| oc [520, 500] [5] Tryd.call17 (CF hr49) ⟨q0, q1, trivial⟩ .nil) fun _ a w h => ?_
      obtain rfl := Option.some.inj hF
      exact ⟨.inr rfl, Gw h (rs := []) (Vs := []) Tryd.results21 (by decide) trivial [0] [(Cm p_0 (some r49))] rfl rfl rfl⟩

def De (a_0 : List (Ap)) : Option (List (Ap)) := (if a_0.length * 64 ≤ 140737488355328 then some a_0 else none)
theorem EX {a_0 r : List (Ap)} (hF : De a_0 = some r) : AX Tryd.prog KG 38 [(Ai Ap.ck a_0)] [] (fun _ => []) (Ai Ap.ck r) := by
  unfold De at hF
  obtain ⟨hv1, hF⟩ := AH hF
  obtain rfl := Option.some.inj hF
  refine AX.intro 8 Tryd.func38 rfl Tryd.ntmps38 (Nat.le_of_ble_eq_true rfl) ?_
  intro c a w hG hn h
  change A0 c [.slot 0 (Ai Ap.ck a_0)] a w at h
  refine wp_seq ?_
  refine Fb (n := 8) [.slot 2 100000 100000 (fun _ _ => (Bf (.slice none 0 0)))] [0] [⟨[], [], [1], [], some 2⟩] [0] mixed hn hG h (by kernel_rfl) ?_ ?_
  · exact ⟨⟨rfl, fun β => (A4.plain (Ak (B9 (ec _))) rfl)⟩, trivial⟩
  clear h
  intro β a w h
  change A0 c [.slot 0 (Ai Ap.ck a_0)] a w at h
  clear β
  show Code.wp Tryd.prog _ _ a w
  refine wp_seq ?_
  refine wp_seq ?_
  refine Fb (n := 8) [.slot 3 100000 100000 (fun _ _ => (Ai Ap.ck a_0)), .slot 4 100000 100000 (fun _ _ => (Ig a_0))] [0, 1] [⟨[0], [], [1], [], some 3⟩, ⟨[1], [], [2], [0], some 4⟩] [0, 2] mixed hn hG h (by kernel_rfl) ?_ ?_
  · exact ⟨⟨rfl, fun β => (A4.plain (Ag (opt 0 rfl)) rfl)⟩, ⟨rfl, fun β => (A4.plain (Ax (Ke Tryd.underlying25) (opt 0 rfl) (B9 (ec _))) rfl)⟩, trivial⟩
  clear h
  intro β a w h
  change A0 c [.slot 0 (Ai Ap.ck a_0), .slot 4 (Ig a_0)] a w at h
  clear β
  show Code.wp Tryd.prog _ _ a w
  obtain ⟨b0, hb0, h⟩ := h.NQ 1 rfl
  change A0 c [.slot 0 (Ai Ap.ck a_0), .slot 4 (An b0)] a w at h
  refine Jl h 1 rfl (fun hb => ?_) (fun hb => ?_)
  · obtain rfl := hb0 hb
    replace h := h.sub [] (by rfl)
    change A0 c [] a w at h
    refine wp_seq ?_
    refine Fb (n := 8) [.slot 2 100000 100000 (fun _ _ => (Bf (.slice none 0 0)))] [0] [⟨[], [], [0], [], some 2⟩] [0] mixed hn hG h (by kernel_rfl) ?_ ?_
    · exact ⟨⟨rfl, fun β => (A4.plain (Ak (B9 (ec _))) rfl)⟩, trivial⟩
    clear h
    intro β a w h
    change A0 c [.slot 2 (Bf (.slice none 0 0))] a w at h
    clear β
    show Code.wp Tryd.prog _ _ a w
    refine wp_ret ?_
    exact ⟨.inl rfl, Cv h Tryd.results38 (LV 0 rfl) [] [] rfl rfl rfl⟩
  · replace h := h.sub [0] (by rfl)
    change A0 c [.slot 0 (Ai Ap.ck a_0)] a w at h
    refine wp_skip ?_
    show Code.wp Tryd.prog _ _ a w
    refine wp_seq ?_
    refine Fb (n := 8) [.slot 5 100000 100000 (fun _ _ => K0), .slot 6 100000 100000 (fun _ _ => (Ai Ap.ck a_0)), .slot 7 100000 100000 (fun _ _ => (Ai Ap.ck a_0)), .slot 2 100000 100000 (fun _ _ => (Ai Ap.ck a_0))] [0, 1, 2, 3] [⟨[], [], [1], [], some 5⟩, ⟨[0], [], [2], [0], some 6⟩, ⟨[1, 2], [], [3], [0, 1], some 7⟩, ⟨[3], [], [4], [0, 1, 2], some 2⟩] [4] mixed hn hG h (by kernel_rfl) ?_ ?_
    · exact ⟨⟨rfl, fun β => (A4.plain (Lq Tryd.underlying25 Tryd.sizeOf48 Tryd.zeroValue48) rfl)⟩, ⟨rfl, fun β => (A4.plain (Ag (opt 0 rfl)) rfl)⟩, ⟨rfl, fun β => (A4.plain (HO (i := Tryd.t48) Tryd.underlying25 Tryd.type48 rfl Ap.lens (by decide) rfl (opt 0 rfl) (opt 1 rfl) hv1) rfl)⟩, ⟨rfl, fun β => (A4.plain (Ak (opt 0 rfl)) rfl)⟩, trivial⟩
    clear h
    intro β a w h
    change A0 c [.slot 2 (Ai Ap.ck a_0)] a w at h
    clear β
    show Code.wp Tryd.prog _ _ a w
    refine wp_ret ?_
    exact ⟨.inl rfl, Cv h Tryd.results38 (By 0 rfl) [] [] rfl rfl rfl⟩

def C7 (a_0 : List (Ap)) (a_1 : Int) : Option (List (Ap)) := (if (0 : Int) ≤ (if (0 : Int) < (IntKind.wrap .i64 ((a_0.length : Int) - (if (0 : Int) < a_1 then a_1 else (0 : Int)))) then (IntKind.wrap .i64 ((a_0.length : Int) - (if (0 : Int) < a_1 then a_1 else (0 : Int)))) else (0 : Int)) ∧ (if (0 : Int) < (IntKind.wrap .i64 ((a_0.length : Int) - (if (0 : Int) < a_1 then a_1 else (0 : Int)))) then (IntKind.wrap .i64 ((a_0.length : Int) - (if (0 : Int) < a_1 then a_1 else (0 : Int)))) else (0 : Int)) ≤ (a_0.length : Int) ∧ (a_0.length : Int) ≤ a_0.length then ((De ((a_0.take (a_0.length : Int).toNat).drop (if (0 : Int) < (IntKind.wrap .i64 ((a_0.length : Int) - (if (0 : Int) < a_1 then a_1 else (0 : Int)))) then (IntKind.wrap .i64 ((a_0.length : Int) - (if (0 : Int) < a_1 then a_1 else (0 : Int)))) else (0 : Int)).toNat)).bind fun r2 => some r2) else none)
theorem Fc {a_0 : List (Ap)} {a_1 : Int} {r : (List (Ap))} (hF : C7 a_0 a_1 = some r) : AX Tryd.prog KG 22 [(Ai Ap.ck a_0), (Ab .i64 a_1)] [] (fun _ => []) (Ai Ap.ck r) := by
  refine AX.intro 14 Tryd.func22 rfl Tryd.ntmps22 (Nat.le_of_ble_eq_true rfl) ?_
  intro c a w hG hn h
  unfold C7 at hF
  change A0 c [.slot 0 (Ai Ap.ck a_0), .slot 1 (Ab .i64 a_1)] a w at h
  refine AU mixed hn hG h [0, 1] (ov [] (Ak (B9 (ec _))) .nil) fun _ a w h => ?_
  obtain ⟨hv1, hF⟩ := AH hF
  obtain ⟨r2, hr2, hF⟩ := bind_some hF
  refine AU mixed hn hG h [500] (ov [0] (Ag q0) <| ov [0] (Ag q0) <| ov [500] (Bm Tryd.underlying25 q0) <| ov [1] (Ag q0) <| ov [500] (KF qi q0) <| ov [502, 500] (Ax DR q0 q1) <| ov [500] (KF qi q0) <| ov [506, 500] (IF (a := (if (0 : Int) < (IntKind.wrap .i64 ((a_0.length : Int) - (if (0 : Int) < a_1 then a_1 else (0 : Int)))) then (IntKind.wrap .i64 ((a_0.length : Int) - (if (0 : Int) < a_1 then a_1 else (0 : Int)))) else (0 : Int))) (b := (a_0.length : Int)) Tryd.underlying25 Tryd.sizeOf48 Ap.lens q0 ⟨_, q1⟩ rfl hv1) <| oc [500] [] Tryd.call38 (EX hr2) ⟨q0, trivial⟩ <| ov [500] (Ak q0) .nil) fun _ a w h => ?_
  refine wp_ret ?_
  obtain rfl := Option.some.inj hF
  exact ⟨.inl rfl, Cv h Tryd.results22 (By 0 rfl) [] [] rfl rfl rfl⟩

def Cz.b1 (r10 : (List (Ap))) (x16 : Int) (x17 : B7) : Option (Ds (List UInt8) (Int × B7)) := (if (decide (x16 < (r10.length : Int))) = true then (if (0 : Int) ≤ x16 ∧ x16 < r10.length then ((BN (r10.getD x16.toNat default)).bind fun r28 => ((BZ x17 [r28]).bind fun r29 => some (.cont (IntKind.wrap .i64 (x16 + 1), r29)))) else none) else some (.brk (x16, x17)))
def Cz (a_0 : AK) : Option (List UInt8) := ((Dj a_0.BS).bind fun r3 => ((Cg a_0.Ae.AR).bind fun r4 => ((Cg a_0.Ae.A6).bind fun r5 => ((Cg a_0.Ae.Bn).bind fun r6 => ((BZ ⟨[]⟩ [[99, 104, 97, 105, 110], r3, [104, 101, 105, 103, 104, 116], r4, [116, 105, 109, 101], r5, [103, 97, 115], r6]).bind fun r7 => ((A9 r7 a_0).bind fun r8 => ((Be r8 a_0).bind fun r9 => ((C7 a_0.Ae.AD 10).bind fun r10 => ((Cs (fun s : Int × B7 => Cz.b1 r10 s.1 s.2) (((r10.length : Int) - 0 : Int).toNat + 2) (0, r9)).bind fun cr => match cr with | .ret r => some r | .next (y34, y35) => ((EJ y35).bind fun r36 => some r36))))))))))
theorem Eb {a_0 : AK} {r : (List UInt8)} (hF : Cz a_0 = some r) : AX Tryd.prog KG 7 [(Co [one (Ab .u32 a_0.BS), one (Ab .u64 a_0.Ae.AR), one (Ab .u64 a_0.Ae.A6), one (Ab .u64 a_0.Ae.Bn), one (Ai Aq.ck a_0.Ae.Ao), one (Ai Ap.ck a_0.Ae.AD), one (Ai Aw.ck a_0.Al.At), one (Ai Ar.ck a_0.Al.Am), one (Ab .u32 a_0.Ad.AB), Af 32 a_0.Ad.As, one (Ab .u32 a_0.Ad.AJ.A1), A5 32 32 (dC 32) (AY 32) a_0.Ad.AJ.AI, one (Ai (dC 32) a_0.Ad.AP), one (Ai (dC 32) a_0.Ad.AW), Af 32 a_0.Ad.Aj, one (Ai AA.ck a_0.Ad.AS), one (Ab .u64 a_0.Ad.A8), one (An a_0.Ad.Au), one (Ab .u32 a_0.Aa.AB), one (Ab .u32 a_0.Aa.A7), Af 32 a_0.Aa.As, one (Ai (dC 32) a_0.Aa.AG), one (Ab .u64 a_0.Aa.AQ), Af 32 a_0.Aa.Aj, one (Ai Ay.ck a_0.Aa.AT), one (Ai Av.ck a_0.Aa.Az), one (An a_0.Aa.Au), one (An a_0.Aa.Bh), one (AF a_0.AZ)])] [] (fun _ => []) (AF r) := by
  refine AX.intro 51 Tryd.func7 rfl Tryd.ntmps7 (Nat.le_of_ble_eq_true rfl) ?_
  intro c a w hG hn h
  unfold Cz at hF
  change A0 c [.slot 0 (Co [one (Ab .u32 a_0.BS), one (Ab .u64 a_0.Ae.AR), one (Ab .u64 a_0.Ae.A6), one (Ab .u64 a_0.Ae.Bn), one (Ai Aq.ck a_0.Ae.Ao), one (Ai Ap.ck a_0.Ae.AD), one (Ai Aw.ck a_0.Al.At), one (Ai Ar.ck a_0.Al.Am), one (Ab .u32 a_0.Ad.AB), Af 32 a_0.Ad.As, one (Ab .u32 a_0.Ad.AJ.A1), A5 32 32 (dC 32) (AY 32) a_0.Ad.AJ.AI, one (Ai (dC 32) a_0.Ad.AP), one (Ai (dC 32) a_0.Ad.AW), Af 32 a_0.Ad.Aj, one (Ai AA.ck a_0.Ad.AS), one (Ab .u64 a_0.Ad.A8), one (An a_0.Ad.Au), one (Ab .u32 a_0.Aa.AB), one (Ab .u32 a_0.Aa.A7), Af 32 a_0.Aa.As, one (Ai (dC 32) a_0.Aa.AG), one (Ab .u64 a_0.Aa.AQ), Af 32 a_0.Aa.Aj, one (Ai Ay.ck a_0.Aa.AT), one (Ai Av.ck a_0.Aa.Az), one (An a_0.Aa.Au), one (An a_0.Aa.Bh), one (AF a_0.AZ)])] a w at h
  refine AU mixed hn hG h [502, 501] (ob [0] (DL q0 (BD _)) <| ov [] (Ak (B9 (sc _ (by decide)))) .nil) fun b1 a w h => ?_
  refine AU mixed hn hG h [0, 500, 1, 501] (ov [] (HB [] rfl Og ND rfl) <| ob [500] (DL q0 (BD _)) <| og [501] [] [.slot 3 1 100000 (fun v1_ _ => (BG v1_ 0))] (fun {β} => (A4.plain (Ak (V := (BG (β 1) 0)) q0) rfl)) .nil) fun b2 a w h => ?_
  replace h := h.conv 3 rfl LN
  replace h := h.Gq 1 rfl (fun _ _ h => Jh h)
  replace h := h.sub [0, 1, 2, 3] (by rfl)
  change A0 c [.slot 1 (BG (b1 0) 0), .slot 3 (Bf (b2 1)), .res (lb (b1 0) 46 [one (Ab .u32 a_0.BS), one (Ab .u64 a_0.Ae.AR), one (Ab .u64 a_0.Ae.A6), one (Ab .u64 a_0.Ae.Bn), one (Ai Aq.ck a_0.Ae.Ao), one (Ai Ap.ck a_0.Ae.AD), one (Ai Aw.ck a_0.Al.At), one (Ai Ar.ck a_0.Al.Am), one (Ab .u32 a_0.Ad.AB), Af 32 a_0.Ad.As, one (Ab .u32 a_0.Ad.AJ.A1), A5 32 32 (dC 32) (AY 32) a_0.Ad.AJ.AI, one (Ai (dC 32) a_0.Ad.AP), one (Ai (dC 32) a_0.Ad.AW), Af 32 a_0.Ad.Aj, one (Ai AA.ck a_0.Ad.AS), one (Ab .u64 a_0.Ad.A8), one (An a_0.Ad.Au), one (Ab .u32 a_0.Aa.AB), one (Ab .u32 a_0.Aa.A7), Af 32 a_0.Aa.As, one (Ai (dC 32) a_0.Aa.AG), one (Ab .u64 a_0.Aa.AQ), Af 32 a_0.Aa.Aj, one (Ai Ay.ck a_0.Aa.AT), one (Ai Av.ck a_0.Aa.Az), one (An a_0.Aa.Au), one (An a_0.Aa.Bh), one (AF a_0.AZ)]), .res (Cm (b2 1) (some ⟨[]⟩))] a w at h
  obtain ⟨r3, hr3, hF⟩ := bind_some hF
  obtain ⟨r4, hr4, hF⟩ := bind_some hF
  obtain ⟨r5, hr5, hF⟩ := bind_some hF
  obtain ⟨r6, hr6, hF⟩ := bind_some hF
  obtain ⟨r7, hr7, hF⟩ := bind_some hF
  refine AU mixed hn hG h [0, 1, 2, 500] (ov [1] (Ag q0) <| ov [0] (Ah (p := (b1 0)) (n := 1) 0 0 Tryd.underlying46 rfl Tryd.sizeOf22 (by decide) q0 rfl) <| ov [500, 2] (AE [] [one (Ab .u64 a_0.Ae.AR), one (Ab .u64 a_0.Ae.A6), one (Ab .u64 a_0.Ae.Bn), one (Ai Aq.ck a_0.Ae.Ao), one (Ai Ap.ck a_0.Ae.AD), one (Ai Aw.ck a_0.Al.At), one (Ai Ar.ck a_0.Al.Am), one (Ab .u32 a_0.Ad.AB), Af 32 a_0.Ad.As, one (Ab .u32 a_0.Ad.AJ.A1), A5 32 32 (dC 32) (AY 32) a_0.Ad.AJ.AI, one (Ai (dC 32) a_0.Ad.AP), one (Ai (dC 32) a_0.Ad.AW), Af 32 a_0.Ad.Aj, one (Ai AA.ck a_0.Ad.AS), one (Ab .u64 a_0.Ad.A8), one (An a_0.Ad.Au), one (Ab .u32 a_0.Aa.AB), one (Ab .u32 a_0.Aa.A7), Af 32 a_0.Aa.As, one (Ai (dC 32) a_0.Aa.AG), one (Ab .u64 a_0.Aa.AQ), Af 32 a_0.Aa.Aj, one (Ai Ay.ck a_0.Aa.AT), one (Ai Av.ck a_0.Aa.Az), one (An a_0.Aa.Au), one (An a_0.Aa.Bh), one (AF a_0.AZ)] 1 Tryd.isAgg22 q0 rfl rfl) <| oc [500] [] Tryd.call18 (D3 hr3) ⟨q0, trivial⟩ <| ov [0] (Ah (p := (b1 0)) (n := 5) 0 1 Tryd.underlying46 rfl Tryd.sizeOf27 (by decide) q0 rfl) <| ov [500] (Ah (p := (b1 0)) (n := 1) 1 1 Tryd.underlying27 rfl Tryd.sizeOf23 (by decide) q0 rfl) <| ov [500, 2] (AE [one (Ab .u32 a_0.BS)] [one (Ab .u64 a_0.Ae.A6), one (Ab .u64 a_0.Ae.Bn), one (Ai Aq.ck a_0.Ae.Ao), one (Ai Ap.ck a_0.Ae.AD), one (Ai Aw.ck a_0.Al.At), one (Ai Ar.ck a_0.Al.Am), one (Ab .u32 a_0.Ad.AB), Af 32 a_0.Ad.As, one (Ab .u32 a_0.Ad.AJ.A1), A5 32 32 (dC 32) (AY 32) a_0.Ad.AJ.AI, one (Ai (dC 32) a_0.Ad.AP), one (Ai (dC 32) a_0.Ad.AW), Af 32 a_0.Ad.Aj, one (Ai AA.ck a_0.Ad.AS), one (Ab .u64 a_0.Ad.A8), one (An a_0.Ad.Au), one (Ab .u32 a_0.Aa.AB), one (Ab .u32 a_0.Aa.A7), Af 32 a_0.Aa.As, one (Ai (dC 32) a_0.Aa.AG), one (Ab .u64 a_0.Aa.AQ), Af 32 a_0.Aa.Aj, one (Ai Ay.ck a_0.Aa.AT), one (Ai Av.ck a_0.Aa.Az), one (An a_0.Aa.Au), one (An a_0.Aa.Bh), one (AF a_0.AZ)] 1 Tryd.isAgg23 q0 rfl rfl) <| oc [500] [] Tryd.call19 (Cd hr4) ⟨q0, trivial⟩ <| ov [0] (Ah (p := (b1 0)) (n := 5) 0 1 Tryd.underlying46 rfl Tryd.sizeOf27 (by decide) q0 rfl) <| ov [500] (Ah (p := (b1 0)) (n := 1) 1 2 Tryd.underlying27 rfl Tryd.sizeOf23 (by decide) q0 rfl) <| ov [500, 2] (AE [one (Ab .u32 a_0.BS), one (Ab .u64 a_0.Ae.AR)] [one (Ab .u64 a_0.Ae.Bn), one (Ai Aq.ck a_0.Ae.Ao), one (Ai Ap.ck a_0.Ae.AD), one (Ai Aw.ck a_0.Al.At), one (Ai Ar.ck a_0.Al.Am), one (Ab .u32 a_0.Ad.AB), Af 32 a_0.Ad.As, one (Ab .u32 a_0.Ad.AJ.A1), A5 32 32 (dC 32) (AY 32) a_0.Ad.AJ.AI, one (Ai (dC 32) a_0.Ad.AP), one (Ai (dC 32) a_0.Ad.AW), Af 32 a_0.Ad.Aj, one (Ai AA.ck a_0.Ad.AS), one (Ab .u64 a_0.Ad.A8), one (An a_0.Ad.Au), one (Ab .u32 a_0.Aa.AB), one (Ab .u32 a_0.Aa.A7), Af 32 a_0.Aa.As, one (Ai (dC 32) a_0.Aa.AG), one (Ab .u64 a_0.Aa.AQ), Af 32 a_0.Aa.Aj, one (Ai Ay.ck a_0.Aa.AT), one (Ai Av.ck a_0.Aa.Az), one (An a_0.Aa.Au), one (An a_0.Aa.Bh), one (AF a_0.AZ)] 1 Tryd.isAgg23 q0 rfl rfl) <| oc [500] [] Tryd.call19 (Cd hr5) ⟨q0, trivial⟩ <| ov [0] (Ah (p := (b1 0)) (n := 5) 0 1 Tryd.underlying46 rfl Tryd.sizeOf27 (by decide) q0 rfl) <| ov [500] (Ah (p := (b1 0)) (n := 1) 1 3 Tryd.underlying27 rfl Tryd.sizeOf23 (by decide) q0 rfl) <| ov [500, 2] (AE [one (Ab .u32 a_0.BS), one (Ab .u64 a_0.Ae.AR), one (Ab .u64 a_0.Ae.A6)] [one (Ai Aq.ck a_0.Ae.Ao), one (Ai Ap.ck a_0.Ae.AD), one (Ai Aw.ck a_0.Al.At), one (Ai Ar.ck a_0.Al.Am), one (Ab .u32 a_0.Ad.AB), Af 32 a_0.Ad.As, one (Ab .u32 a_0.Ad.AJ.A1), A5 32 32 (dC 32) (AY 32) a_0.Ad.AJ.AI, one (Ai (dC 32) a_0.Ad.AP), one (Ai (dC 32) a_0.Ad.AW), Af 32 a_0.Ad.Aj, one (Ai AA.ck a_0.Ad.AS), one (Ab .u64 a_0.Ad.A8), one (An a_0.Ad.Au), one (Ab .u32 a_0.Aa.AB), one (Ab .u32 a_0.Aa.A7), Af 32 a_0.Aa.As, one (Ai (dC 32) a_0.Aa.AG), one (Ab .u64 a_0.Aa.AQ), Af 32 a_0.Aa.Aj, one (Ai Ay.ck a_0.Aa.AT), one (Ai Av.ck a_0.Aa.Az), one (An a_0.Aa.Au), one (An a_0.Aa.Bh), one (AF a_0.AZ)] 1 Tryd.isAgg23 q0 rfl rfl) <| oc [500] [] Tryd.call19 (Cd hr6) ⟨q0, trivial⟩ <| ov [512, 508, 504, 500] (El (xs := [.const (.string ⟨#[99, 104, 97, 105, 110]⟩), .tmp 11, .const (.string ⟨#[104, 101, 105, 103, 104, 116]⟩), .tmp 15, .const (.string ⟨#[116, 105, 109, 101]⟩), .tmp 19, .const (.string ⟨#[103, 97, 115]⟩), .tmp 23]) (ys := [[99, 104, 97, 105, 110], r3, [104, 101, 105, 103, 104, 116], r4, [116, 105, 109, 101], r5, [103, 97, 115], r6]) _ rfl Tryd.underlying87 Tryd.sizeOf9 Tryd.zeroValue9 rfl rfl (by decide) (by decide) ⟨⟨_, (B9 (sc _ (by decide))), (Bc (Bt _))⟩, ⟨_, q0, (Bc (Bt _))⟩, ⟨_, (B9 (sc _ (by decide))), (Bc (Bt _))⟩, ⟨_, q1, (Bc (Bt _))⟩, ⟨_, (B9 (sc _ (by decide))), (Bc (Bt _))⟩, ⟨_, q2, (Bc (Bt _))⟩, ⟨_, (B9 (sc _ (by decide))), (Bc (Bt _))⟩, ⟨_, q3, (Bc (Bt _))⟩, trivial⟩ DU) <| oc [516, 500] [3] Tryd.call17 (CF hr7) ⟨q0, q1, trivial⟩ .nil) fun _ a w h => ?_
  obtain ⟨r8, hr8, hF⟩ := bind_some hF
  refine AU mixed hn hG h [0, 1, 2, 500] (ov [1] (Ag q0) <| ov [0, 2] (CO 1 Tryd.isAgg46 Tryd.sizeOf46 q0 (hn := by simp only [CQ, CP, one, Af, A5, B1])) <| oc [501, 500] [3] Tryd.call20 (Fj hr8) ⟨q0, q1, trivial⟩ .nil) fun _ a w h => ?_
  obtain ⟨r9, hr9, hF⟩ := bind_some hF
  refine AU mixed hn hG h [0, 1, 2, 500] (ov [1] (Ag q0) <| ov [0, 2] (CO 1 Tryd.isAgg46 Tryd.sizeOf46 q0 (hn := by simp only [CQ, CP, one, Af, A5, B1])) <| oc [501, 500] [3] Tryd.call21 (Fk hr9) ⟨q0, q1, trivial⟩ .nil) fun _ a w h => ?_
  refine wp_seq ?_
  obtain ⟨r10, hr10, hF⟩ := bind_some hF
  refine AU mixed hn hG h [1, 502, 501, 500, 3] (ov [0] (Ah (p := (b1 0)) (n := 5) 0 1 Tryd.underlying46 rfl Tryd.sizeOf27 (by decide) q0 rfl) <| ov [500] (Ah (p := (b1 0)) (n := 1) 1 5 Tryd.underlying27 rfl Tryd.sizeOf25 (by decide) q0 rfl) <| ov [500, 2] (AE [one (Ab .u32 a_0.BS), one (Ab .u64 a_0.Ae.AR), one (Ab .u64 a_0.Ae.A6), one (Ab .u64 a_0.Ae.Bn), one (Ai Aq.ck a_0.Ae.Ao)] [one (Ai Aw.ck a_0.Al.At), one (Ai Ar.ck a_0.Al.Am), one (Ab .u32 a_0.Ad.AB), Af 32 a_0.Ad.As, one (Ab .u32 a_0.Ad.AJ.A1), A5 32 32 (dC 32) (AY 32) a_0.Ad.AJ.AI, one (Ai (dC 32) a_0.Ad.AP), one (Ai (dC 32) a_0.Ad.AW), Af 32 a_0.Ad.Aj, one (Ai AA.ck a_0.Ad.AS), one (Ab .u64 a_0.Ad.A8), one (An a_0.Ad.Au), one (Ab .u32 a_0.Aa.AB), one (Ab .u32 a_0.Aa.A7), Af 32 a_0.Aa.As, one (Ai (dC 32) a_0.Aa.AG), one (Ab .u64 a_0.Aa.AQ), Af 32 a_0.Aa.Aj, one (Ai Ay.ck a_0.Aa.AT), one (Ai Av.ck a_0.Aa.Az), one (An a_0.Aa.Au), one (An a_0.Aa.Bh), one (AF a_0.AZ)] 1 Tryd.isAgg25 q0 rfl rfl) <| oc [500] [] Tryd.call22 (Fc hr10) ⟨q0, qi, trivial⟩ <| ov [500] (Bm Tryd.underlying25 q0) <| ov [] (Ag qi) .nil) fun _ a w h => ?_
  refine wp_block ?_
  obtain ⟨cr30, hl31, hF⟩ := bind_some hF
  refine wp_mono (Ci (R := (List UInt8)) (S := Int × B7) (fun s a w => A0 c [.slot 3 (Bf (b2 1)), .slot 35 (Ai Ap.ck r10), .slot 36 (Ab .i64 (r10.length : Int)), .slot 37 (Ab .i64 s.1), .res (Cm (b2 1) (some s.2))] a w) (fun res e a w => match res with | .next s => e = .exit 0 ∧ A0 c [.slot 3 (Bf (b2 1)), .res (Cm (b2 1) (some s.2))] a w | .ret r => e = .ret ∧ DF Tryd.prog Tryd.f7 c (AF r) (fun _ => []) a w) ?_ _ (0, r9) _ _ _ (h.sub [0, 1, 2, 3, 4] (by rfl)) hl31) ?_
  · clear hl31 hF h
    intro s a w o h hF
    obtain ⟨x16, x17⟩ := s
    change Cz.b1 r10 x16 x17 = some o at hF
    unfold Cz.b1 at hF
    change A0 c [.slot 3 (Bf (b2 1)), .slot 35 (Ai Ap.ck r10), .slot 36 (Ab .i64 (r10.length : Int)), .slot 37 (Ab .i64 x16), .res (Cm (b2 1) (some x17))] a w at h
    refine AU mixed hn hG h [0, 1, 2, 3, 500, 4] (ov [3, 2] (Ax B6 q0 q1) .nil) fun _ a w h => ?_
    refine wp_seq ?_
    refine DN h hF 4 [0, 1, 2, 3, 5] [0, 1, 2, 3, 5] (fun hb25 hF h => ?_) (fun hb25 hF h => ?_)
    · refine wp_skip ?_
      show Code.wp Tryd.prog _ _ a w
      refine wp_seq ?_
      refine wp_block ?_
      obtain ⟨hv26, hF⟩ := AH hF
      refine AU mixed hn hG h [0, 502, 1, 2, 3, 4, 500] (ov [1, 3] (BL Tryd.underlying25 Tryd.sizeOf48 Ap.lens q0 q1 hv26) <| ov [500] (CT [one (Ab .i64 ((r10.getD x16.toNat default).Bv)), one (AF ((r10.getD x16.toNat default).Bb)), one (Ab .u64 ((r10.getD x16.toNat default).BB)), Af 32 ((r10.getD x16.toNat default).BH)] [] Tryd.isAgg48 Tryd.sizeOf48 q0 rfl) <| ob [] (CJ Tryd.zeroValue48 NI) <| og [501, 502] [500] [.res 2 100000 (fun v1_ _ => (lb (v1_) 48 [one (Ab .i64 ((r10.getD x16.toNat default).Bv)), one (AF ((r10.getD x16.toNat default).Bb)), one (Ab .u64 ((r10.getD x16.toNat default).BB)), Af 32 ((r10.getD x16.toNat default).BH)]))] (A4.plain (CG Tryd.sizeOf48 q0 q1 (BD _)) rfl) .nil) fun b27 a w h => ?_
      obtain ⟨r28, hr28, hF⟩ := bind_some hF
      obtain ⟨r29, hr29, hF⟩ := bind_some hF
      refine CK mixed hn hG h [0, 2, 3, 4, 500] (ov [0] (Ag q0) <| ov [1, 6] (CO 1 Tryd.isAgg48 Tryd.sizeOf48 q0) <| oc [500] [] Tryd.call9 (FA hr28) ⟨q0, trivial⟩ <| ov [500] (El (xs := [.tmp 43]) (ys := [r28]) _ rfl Tryd.underlying87 Tryd.sizeOf9 Tryd.zeroValue9 rfl rfl (by decide) (by decide) ⟨⟨_, q0, (Bc (Bt _))⟩, trivial⟩ DU) <| oc [503, 500] [5] Tryd.call17 (CF hr29) ⟨q0, q1, trivial⟩ .nil) fun _ a w h => ?_
      show Code.wp Tryd.prog _ _ a w
      refine CK mixed hn hG h [0, 1, 2, 500, 4] (ov [3] (Ax BC q0 qi) <| od [500] 3 (Ag q0) .nil) fun _ a w h => ?_
      obtain rfl := Option.some.inj hF
      exact ⟨rfl, h.sub [0, 1, 2, 3, 4] (by rfl)⟩
    · refine wp_exit ?_
      obtain rfl := Option.some.inj hF
      exact ⟨CV _, rfl, h.sub [0, 4] (by rfl)⟩
  · clear hl31
    intro e a w hq
    cases cr30 with
    | ret r32 =>
      obtain ⟨rfl, hq⟩ := hq
      obtain rfl := Option.some.inj hF
      exact ⟨.inl rfl, hq⟩
    | next s33 =>
      obtain ⟨y34, y35⟩ := s33
      obtain ⟨rfl, h⟩ := hq
      change A0 c [.slot 3 (Bf (b2 1)), .res (Cm (b2 1) (some y35))] a w at h
      refine BT ?_
      show Code.wp Tryd.prog _ _ a w
      obtain ⟨r36, hr36, hF⟩ := bind_some hF
      refine AU mixed hn hG h [500] (ov [0] (Ag q0) <| ov [500, 1] (GD 1 q0 rfl (fun Φ f w ⟨_, q⟩ => G5 Φ f w q)) <| ov [500, 1] (F5 (n := 2) 1 Tryd.underlying66 rfl rfl Tryd.sizeOf64 (by decide) q0 rfl (fun Φ f w ⟨_, q⟩ => G5 Φ f w q)) <| oc [500] [1] Tryd.call23 (Hj hr36) ⟨q0, trivial⟩ <| ov [500] (Ak q0) .nil) fun _ a w h => ?_
      refine wp_ret ?_
      obtain rfl := Option.some.inj hF
      exact ⟨.inl rfl, Cv h Tryd.results7 (By 0 rfl) [] [] rfl rfl rfl⟩

def EF (a_0 : List UInt8) : Option Int := some (Lib.countByte a_0 10 : Int)
theorem Fz {a_0 : List UInt8} {r : Int} (hF : EF a_0 = some r) : AX Tryd.prog KG 11 [(AF a_0)] [] (fun _ => []) (Ab .i64 r) := by
  refine AX.intro 5 Tryd.func11 rfl Tryd.ntmps11 (Nat.le_of_ble_eq_true rfl) ?_
  intro c a w hG hn h
  unfold EF at hF
  change A0 c [.slot 0 (AF a_0)] a w at h
  refine AU mixed hn hG h [0] (ov [] (Ak qi) .nil) fun _ a w h => ?_
  refine AU mixed hn hG h [500] (ov [0] (Ag q0) <| oc [500] [] Tryd.call30 K5 ⟨q0, (B9 (sc _ (by decide))), trivial⟩ <| ov [500] (Ak q0) .nil) fun _ a w h => ?_
  refine wp_ret ?_
  obtain rfl := Option.some.inj hF
  exact ⟨.inl rfl, Cv h Tryd.results11 (By 0 rfl) [] [] rfl rfl rfl⟩

def Fl : Option (List UInt8) := some []
theorem Hh {r : (List UInt8)} (hF : Fl = some r) : AX Tryd.prog KG 12 [(Bf (.pointer none))] [] (fun _ => []) (AF r) := by
  refine AX.intro 56 Tryd.func12 rfl Tryd.ntmps12 (Nat.le_of_ble_eq_true rfl) ?_
  intro c a w hG hn h
  unfold Fl at hF
  change A0 c [.slot 0 (Bf (.pointer none))] a w at h
  refine AU mixed hn hG h [0] (ov [] (Ak (B9 (sc _ (by decide)))) .nil) fun _ a w h => ?_
  refine wp_seq ?_
  refine AU mixed hn hG h [0, 500] (ov [0] (Ag q0) <| ov [500] (Ax (K7 Tryd.underlying89) (IE q0) (B9 (ec _))) .nil) fun _ a w h => ?_
  refine Jl h 1 rfl (fun hb1 => ?_) (fun hb1 => ?_)
  · skip
    replace h := h.sel []
    refine AU mixed hn hG h [500] (ov [] (Ak (B9 (sc _ (by decide)))) .nil) fun _ a w h => ?_
    refine wp_ret ?_
    obtain rfl := Option.some.inj hF
    exact ⟨.inl rfl, Cv h Tryd.results12 (By 0 rfl) [] [] rfl rfl rfl⟩
  · cases hb1

def Dl.j1 (x4 : Bool) : Option Bool := some x4
def Dl : Option Bool := ((Cz (AK.mk (0 : Int) (Bo.mk (0 : Int) (0 : Int) (0 : Int) [] []) (Br.mk [] []) (BA.mk (0 : Int) (List.replicate 32 0) (BE.mk (0 : Int) (List.replicate 32 (List.replicate 32 0))) [] [] (List.replicate 32 0) [] (0 : Int) false) (Bl.mk (0 : Int) (0 : Int) (List.replicate 32 0) [] (0 : Int) (List.replicate 32 0) [] [] false false) [])).bind fun r1 => ((EF r1).bind fun r2 => (if (decide (r2 = (3 : Int))) = true then ((Fl).bind fun r3 => Dl.j1 (decide (r3 = []))) else Dl.j1 false)))
theorem HE {r : Bool} (hF : Dl = some r) : AX Tryd.prog KG 5 [] [] (fun _ => []) (An r) := by
  refine AX.intro 9 Tryd.func5 rfl Tryd.ntmps5 (Nat.le_of_ble_eq_true rfl) ?_
  intro c a w hG hn h
  unfold Dl at hF
  change A0 c [] a w at h
  refine AU mixed hn hG h [] (ov [] (Ak qb) .nil) fun _ a w h => ?_
  refine wp_seq ?_
  obtain ⟨r1, hr1, hF⟩ := bind_some hF
  obtain ⟨r2, hr2, hF⟩ := bind_some hF
  refine BY (fun a w => ∃ (x4 : Bool), Dl.j1 x4 = some r ∧ A0 c [.slot 0 (An x4)] a w) ?_ ?_
  · rcases Bool.eq_false_or_eq_true (decide (r2 = (3 : Int))) with hb5 | hb5
    · replace hF := CZ hb5 hF
      obtain ⟨r3, hr3, hF⟩ := bind_some hF
      refine CK mixed hn hG h [500] (ov [] (HB [] rfl Nq z46 rfl) <| oc [500] [] Tryd.call7 (Eb hr1) ⟨q0, trivial⟩ <| oc [500] [] Tryd.call11 (Fz hr2) ⟨q0, trivial⟩ <| ov [500] (Ax B4 q0 qi) <| ov [500] (Ag q0) <| oe [500] [] (A4.AN hb5 rfl rfl rfl (CL Tryd.call12 (Hh hr3) ⟨(B9 (ec _)), trivial⟩)) <| oe [501, 500] [] (A4.AN hb5 rfl rfl rfl (Ax GP q0 (B9 (sc _ (by decide))))) <| ov [502, 500] (Bj hb5 q0 q1) <| ov [500] (Ak q0) .nil) fun _ a w h => ?_
      exact ⟨decide (r3 = []), hF, h.sub [0] (by rfl)⟩
    · replace hF := C0 hb5 hF
      refine CK mixed hn hG h [500] (ov [] (HB [] rfl Nq z46 rfl) <| oc [500] [] Tryd.call7 (Eb hr1) ⟨q0, trivial⟩ <| oc [500] [] Tryd.call11 (Fz hr2) ⟨q0, trivial⟩ <| ov [500] (Ax B4 q0 qi) <| ov [500] (Ag q0) <| oe [500] [] (A4.A2 (want := true) hb5 rfl rfl rfl rfl) <| oe [501] [] (A4.A2 (want := true) hb5 rfl rfl rfl rfl) <| ov [502] (Bd hb5 q0 qb) <| ov [500] (Ak q0) .nil) fun _ a w h => ?_
      exact ⟨false, hF, h.sub [0] (by rfl)⟩
  · clear h hF
    rintro a w ⟨x4, hF, h⟩
    unfold Dl.j1 at hF
    show Code.wp Tryd.prog _ _ a w
    refine wp_ret ?_
    obtain rfl := Option.some.inj hF
    exact ⟨.inl rfl, Cv h Tryd.results5 (By 0 rfl) [] [] rfl rfl rfl⟩

def BM.j1 (x7 : Int) (x17 : Bool) : Option (Ds Bool Int) := (if x17 = true then some (.ret false) else some (.cont (IntKind.wrap .i64 (x7 + 1))))
def BM.b1 (a_0 : Bo) (x7 : Int) : Option (Ds Bool Int) := (if (decide (x7 < (a_0.Ao.length : Int))) = true then (if (0 : Int) ≤ x7 ∧ x7 < a_0.Ao.length then (if (decide ((100 : Int) < (a_0.Ao.length : Int))) = true then BM.j1 x7 true else BM.j1 x7 (decide ((200 : Int) < (((a_0.Ao.getD x7.toNat default).Bb).length : Int)))) else none) else some (.brk x7))
def BM.j2 (x25 : Bool) : Option Bool := some x25
def BM (a_0 : Bo) : Option Bool := ((Cs (fun s : Int => BM.b1 a_0 s) (((a_0.Ao.length : Int) - 0 : Int).toNat + 2) 0).bind fun cr => match cr with | .ret r => some r | .next y24 => (if (decide ((a_0.AD.length : Int) ≤ (200 : Int))) = true then BM.j2 true else (if (decide ((4094 : Int) ≤ (a_0.AD.length : Int))) = true then BM.j2 (decide ((a_0.AD.length : Int) ≤ (4100 : Int))) else BM.j2 false)))
theorem Em {a_0 : Bo} {r : Bool} (hF : BM a_0 = some r) : AX Tryd.prog KG 13 [(Co [one (Ab .u64 a_0.AR), one (Ab .u64 a_0.A6), one (Ab .u64 a_0.Bn), one (Ai Aq.ck a_0.Ao), one (Ai Ap.ck a_0.AD)])] [] (fun _ => []) (An r) := by
  refine AX.intro 39 Tryd.func13 rfl Tryd.ntmps13 (Nat.le_of_ble_eq_true rfl) ?_
  intro c a w hG hn h
  unfold BM at hF
  change A0 c [.slot 0 (Co [one (Ab .u64 a_0.AR), one (Ab .u64 a_0.A6), one (Ab .u64 a_0.Bn), one (Ai Aq.ck a_0.Ao), one (Ai Ap.ck a_0.AD)])] a w at h
  refine AU mixed hn hG h [502, 501] (ob [0] (DL q0 (BD _)) <| ov [] (Ak qb) .nil) fun b1 a w h => ?_
  refine wp_seq ?_
  refine AU mixed hn hG h [0, 502, 501, 500, 1] (ov [0] (Ah (p := (b1 0)) (n := 1) 0 3 Tryd.underlying27 rfl Tryd.sizeOf24 (by decide) q0 rfl) <| ov [500, 1] (AE [one (Ab .u64 a_0.AR), one (Ab .u64 a_0.A6), one (Ab .u64 a_0.Bn)] [one (Ai Ap.ck a_0.AD)] 1 Tryd.isAgg24 q0 rfl rfl) <| ov [500] (Bm Tryd.underlying24 q0) <| ov [] (Ag qi) .nil) fun _ a w h => ?_
  refine wp_block ?_
  obtain ⟨cr20, hl21, hF⟩ := bind_some hF
  refine wp_mono (Ci (R := Bool) (S := Int) (fun s a w => A0 c [.slot 1 (BG (b1 0) 0), .slot 6 (Ai Aq.ck a_0.Ao), .slot 7 (Ab .i64 (a_0.Ao.length : Int)), .slot 8 (Ab .i64 s), .res (lb (b1 0) 27 [one (Ab .u64 a_0.AR), one (Ab .u64 a_0.A6), one (Ab .u64 a_0.Bn), one (Ai Aq.ck a_0.Ao), one (Ai Ap.ck a_0.AD)])] a w) (fun res e a w => match res with | .next s => e = .exit 0 ∧ A0 c [.slot 1 (BG (b1 0) 0), .res (lb (b1 0) 27 [one (Ab .u64 a_0.AR), one (Ab .u64 a_0.A6), one (Ab .u64 a_0.Bn), one (Ai Aq.ck a_0.Ao), one (Ai Ap.ck a_0.AD)])] a w | .ret r => e = .ret ∧ DF Tryd.prog Tryd.f13 c (An r) (fun _ => []) a w) ?_ _ 0 _ _ _ (h.sub [0, 1, 2, 3, 4] (by rfl)) hl21) ?_
  · clear hl21 hF h
    intro x7 a w o h hF
    change BM.b1 a_0 x7 = some o at hF
    unfold BM.b1 at hF
    change A0 c [.slot 1 (BG (b1 0) 0), .slot 6 (Ai Aq.ck a_0.Ao), .slot 7 (Ab .i64 (a_0.Ao.length : Int)), .slot 8 (Ab .i64 x7), .res (lb (b1 0) 27 [one (Ab .u64 a_0.AR), one (Ab .u64 a_0.A6), one (Ab .u64 a_0.Bn), one (Ai Aq.ck a_0.Ao), one (Ai Ap.ck a_0.AD)])] a w at h
    refine AU mixed hn hG h [0, 1, 2, 3, 500, 4] (ov [3, 2] (Ax B6 q0 q1) .nil) fun _ a w h => ?_
    refine wp_seq ?_
    refine DN h hF 4 [0, 1, 2, 3, 5] [0, 1, 2, 3, 5] (fun hb14 hF h => ?_) (fun hb14 hF h => ?_)
    · refine wp_skip ?_
      show Code.wp Tryd.prog _ _ a w
      refine wp_seq ?_
      refine wp_block ?_
      obtain ⟨hv15, hF⟩ := AH hF
      refine AU mixed hn hG h [0, 502, 1, 2, 3, 4, 500] (ov [1, 3] (BL Tryd.underlying24 Tryd.sizeOf74 Aq.lens q0 q1 hv15) <| ov [500] (CT [one (AF ((a_0.Ao.getD x7.toNat default).Bb)), Af 32 ((a_0.Ao.getD x7.toNat default).EE), one (Ab .u64 ((a_0.Ao.getD x7.toNat default).Dh)), one (Ab .u64 ((a_0.Ao.getD x7.toNat default).Di))] [] Tryd.isAgg74 Tryd.sizeOf74 q0 rfl) <| ob [] (CJ Tryd.zeroValue74 NH) <| og [501, 502] [500] [.res 2 100000 (fun v1_ _ => (lb (v1_) 74 [one (AF ((a_0.Ao.getD x7.toNat default).Bb)), Af 32 ((a_0.Ao.getD x7.toNat default).EE), one (Ab .u64 ((a_0.Ao.getD x7.toNat default).Dh)), one (Ab .u64 ((a_0.Ao.getD x7.toNat default).Di))]))] (A4.plain (CG Tryd.sizeOf74 q0 q1 (BD _)) rfl) .nil) fun b16 a w h => ?_
      refine wp_seq ?_
      refine BY (fun a w => ∃ (x17 : Bool), BM.j1 x7 x17 = some o ∧ A0 c [.slot 1 (BG (b1 0) 0), .slot 6 (Ai Aq.ck a_0.Ao), .slot 7 (Ab .i64 (a_0.Ao.length : Int)), .slot 8 (Ab .i64 x7), .slot 21 (An x17), .res (lb (b1 0) 27 [one (Ab .u64 a_0.AR), one (Ab .u64 a_0.A6), one (Ab .u64 a_0.Bn), one (Ai Aq.ck a_0.Ao), one (Ai Ap.ck a_0.AD)])] a w) ?_ ?_
      · rcases Bool.eq_false_or_eq_true (decide ((100 : Int) < (a_0.Ao.length : Int))) with hb19 | hb19
        · replace hF := CZ hb19 hF
          refine CK mixed hn hG h [0, 2, 3, 4, 500, 5] (ov [0] (Ah (p := (b1 0)) (n := 1) 0 3 Tryd.underlying27 rfl Tryd.sizeOf24 (by decide) q0 rfl) <| ov [500, 5] (AE [one (Ab .u64 a_0.AR), one (Ab .u64 a_0.A6), one (Ab .u64 a_0.Bn)] [one (Ai Ap.ck a_0.AD)] 1 Tryd.isAgg24 q0 rfl rfl) <| ov [500] (Bm Tryd.underlying24 q0) <| ov [500] (Ax CD q0 qi) <| ov [500] (Ag q0) <| oe [500] [] (A4.A2 (want := false) hb19 rfl rfl rfl rfl) <| oe [501] [] (A4.A2 (want := false) hb19 rfl rfl rfl rfl) <| oe [502] [] (A4.A2 (want := false) hb19 rfl rfl rfl rfl) <| oe [503] [] (A4.A2 (want := false) hb19 rfl rfl rfl rfl) <| ov [504] (Bj hb19 q0 qb) .nil) fun _ a w h => ?_
          exact ⟨true, hF, h.sub [0, 1, 2, 3, 4, 5] (by rfl)⟩
        · replace hF := C0 hb19 hF
          refine CK mixed hn hG h [0, 2, 3, 4, 500, 5] (ov [0] (Ah (p := (b1 0)) (n := 1) 0 3 Tryd.underlying27 rfl Tryd.sizeOf24 (by decide) q0 rfl) <| ov [500, 5] (AE [one (Ab .u64 a_0.AR), one (Ab .u64 a_0.A6), one (Ab .u64 a_0.Bn)] [one (Ai Ap.ck a_0.AD)] 1 Tryd.isAgg24 q0 rfl rfl) <| ov [500] (Bm Tryd.underlying24 q0) <| ov [500] (Ax CD q0 qi) <| ov [500] (Ag q0) <| oe [500, 1] [] (A4.AN hb19 rfl rfl rfl (Ah (p := (b16 2)) (n := 1) 0 0 Tryd.underlying74 rfl Tryd.sizeOf9 (by decide) q0 rfl)) <| oe [501, 500, 6] [] (A4.AN hb19 rfl rfl rfl (AE [] [Af 32 ((a_0.Ao.getD x7.toNat default).EE), one (Ab .u64 ((a_0.Ao.getD x7.toNat default).Dh)), one (Ab .u64 ((a_0.Ao.getD x7.toNat default).Di))] 1 Tryd.isAgg9 q0 rfl rfl)) <| oe [502, 500] [] (A4.AN hb19 rfl rfl rfl (CU Tryd.underlying9 q0)) <| oe [503, 500] [] (A4.AN hb19 rfl rfl rfl (Ax CD q0 qi)) <| ov [504, 500] (Bd hb19 q0 q1) .nil) fun _ a w h => ?_
          exact ⟨decide ((200 : Int) < (((a_0.Ao.getD x7.toNat default).Bb).length : Int)), hF, h.sub [0, 1, 2, 3, 4, 5] (by rfl)⟩
      · clear h hF
        rintro a w ⟨x17, hF, h⟩
        unfold BM.j1 at hF
        show Code.wp Tryd.prog _ _ a w
        refine DN h hF 4 [] [0, 1, 2, 3, 5] (fun hb18 hF h => ?_) (fun hb18 hF h => ?_)
        · refine AU mixed hn hG h [500] (ov [] (Ak qb) .nil) fun _ a w h => ?_
          refine wp_ret ?_
          obtain rfl := Option.some.inj hF
          exact ⟨Hv, rfl, Cv h Tryd.results13 (By 0 rfl) [] [] rfl rfl rfl⟩
        · refine wp_skip ?_
          show Code.wp Tryd.prog _ _ a w
          refine CK mixed hn hG h [0, 1, 2, 500, 4] (ov [3] (Ax BC q0 qi) <| od [500] 3 (Ag q0) .nil) fun _ a w h => ?_
          obtain rfl := Option.some.inj hF
          exact ⟨rfl, h.sub [0, 1, 2, 3, 4] (by rfl)⟩
    · refine wp_exit ?_
      obtain rfl := Option.some.inj hF
      exact ⟨CV _, rfl, h.sub [0, 4] (by rfl)⟩
  · clear hl21
    intro e a w hq
    cases cr20 with
    | ret r22 =>
      obtain ⟨rfl, hq⟩ := hq
      obtain rfl := Option.some.inj hF
      exact ⟨.inl rfl, hq⟩
    | next y24 =>
      obtain ⟨rfl, h⟩ := hq
      change A0 c [.slot 1 (BG (b1 0) 0), .res (lb (b1 0) 27 [one (Ab .u64 a_0.AR), one (Ab .u64 a_0.A6), one (Ab .u64 a_0.Bn), one (Ai Aq.ck a_0.Ao), one (Ai Ap.ck a_0.AD)])] a w at h
      refine BT ?_
      show Code.wp Tryd.prog _ _ a w
      refine wp_seq ?_
      refine BY (fun a w => ∃ (x25 : Bool), BM.j2 x25 = some r ∧ A0 c [.slot 2 (An x25)] a w) ?_ ?_
      · rcases Bool.eq_false_or_eq_true (decide ((a_0.AD.length : Int) ≤ (200 : Int))) with hb26 | hb26
        · replace hF := CZ hb26 hF
          refine CK mixed hn hG h [500] (ov [0] (Ah (p := (b1 0)) (n := 1) 0 4 Tryd.underlying27 rfl Tryd.sizeOf25 (by decide) q0 rfl) <| ov [500, 1] (AE [one (Ab .u64 a_0.AR), one (Ab .u64 a_0.A6), one (Ab .u64 a_0.Bn), one (Ai Aq.ck a_0.Ao)] [] 1 Tryd.isAgg25 q0 rfl rfl) <| ov [500] (Bm Tryd.underlying25 q0) <| ov [500] (Ax Cj q0 qi) <| ov [500] (Ag q0) <| oe [500] [] (A4.A2 (want := false) hb26 rfl rfl rfl rfl) <| oe [501] [] (A4.A2 (want := false) hb26 rfl rfl rfl rfl) <| oe [502] [] (A4.A2 (want := false) hb26 rfl rfl rfl rfl) <| oe [503] [] (A4.A2 (want := false) hb26 rfl rfl rfl rfl) <| oe [504] [] (A4.A2 (want := false) hb26 rfl rfl rfl rfl) <| oe [500] [] (A4.DA rfl rfl rfl rfl) <| oe [501] [] (A4.DA rfl rfl rfl rfl) <| oe [502] [] (A4.DA rfl rfl rfl rfl) <| oe [503] [] (A4.DA rfl rfl rfl rfl) <| oe [509] [] (A4.A2 (want := false) hb26 rfl rfl rfl rfl) <| ov [510] (Bj hb26 q0 qb) <| ov [500] (Ak q0) .nil) fun _ a w h => ?_
          exact ⟨true, hF, h.sub [0] (by rfl)⟩
        · replace hF := C0 hb26 hF
          rcases Bool.eq_false_or_eq_true (decide ((4094 : Int) ≤ (a_0.AD.length : Int))) with hb27 | hb27
          · replace hF := CZ hb27 hF
            refine CK mixed hn hG h [500] (ov [0] (Ah (p := (b1 0)) (n := 1) 0 4 Tryd.underlying27 rfl Tryd.sizeOf25 (by decide) q0 rfl) <| ov [500, 1] (AE [one (Ab .u64 a_0.AR), one (Ab .u64 a_0.A6), one (Ab .u64 a_0.Bn), one (Ai Aq.ck a_0.Ao)] [] 1 Tryd.isAgg25 q0 rfl rfl) <| ov [500] (Bm Tryd.underlying25 q0) <| ov [500] (Ax Cj q0 qi) <| ov [500] (Ag q0) <| oe [500, 0] [] (A4.AN hb26 rfl rfl rfl (Ah (p := (b1 0)) (n := 1) 0 4 Tryd.underlying27 rfl Tryd.sizeOf25 (by decide) q0 rfl)) <| oe [501, 500, 1] [] (A4.AN hb26 rfl rfl rfl (AE [one (Ab .u64 a_0.AR), one (Ab .u64 a_0.A6), one (Ab .u64 a_0.Bn), one (Ai Aq.ck a_0.Ao)] [] 1 Tryd.isAgg25 q0 rfl rfl)) <| oe [502, 500] [] (A4.AN hb26 rfl rfl rfl (Bm Tryd.underlying25 q0)) <| oe [503, 500] [] (A4.AN hb26 rfl rfl rfl (Ax CW q0 qi)) <| oe [504, 500] [] (A4.AN hb26 rfl rfl rfl (Ag q0)) <| oe [500, 0] [] (A4.AN hb27 rfl rfl rfl (Ah (p := (b1 0)) (n := 1) 0 4 Tryd.underlying27 rfl Tryd.sizeOf25 (by decide) q0 rfl)) <| oe [501, 500, 1] [] (A4.AN hb27 rfl rfl rfl (AE [one (Ab .u64 a_0.AR), one (Ab .u64 a_0.A6), one (Ab .u64 a_0.Bn), one (Ai Aq.ck a_0.Ao)] [] 1 Tryd.isAgg25 q0 rfl rfl)) <| oe [502, 500] [] (A4.AN hb27 rfl rfl rfl (Bm Tryd.underlying25 q0)) <| oe [503, 500] [] (A4.AN hb27 rfl rfl rfl (Ax Cj q0 qi)) <| oe [509, 504, 500] [] (A4.AN hb26 rfl rfl rfl (Bj hb27 q0 q1)) <| ov [510, 500] (Bd hb26 q0 q1) <| ov [500] (Ak q0) .nil) fun _ a w h => ?_
            exact ⟨decide ((a_0.AD.length : Int) ≤ (4100 : Int)), hF, h.sub [0] (by rfl)⟩
          · replace hF := C0 hb27 hF
            refine CK mixed hn hG h [500] (ov [0] (Ah (p := (b1 0)) (n := 1) 0 4 Tryd.underlying27 rfl Tryd.sizeOf25 (by decide) q0 rfl) <| ov [500, 1] (AE [one (Ab .u64 a_0.AR), one (Ab .u64 a_0.A6), one (Ab .u64 a_0.Bn), one (Ai Aq.ck a_0.Ao)] [] 1 Tryd.isAgg25 q0 rfl rfl) <| ov [500] (Bm Tryd.underlying25 q0) <| ov [500] (Ax Cj q0 qi) <| ov [500] (Ag q0) <| oe [500, 0] [] (A4.AN hb26 rfl rfl rfl (Ah (p := (b1 0)) (n := 1) 0 4 Tryd.underlying27 rfl Tryd.sizeOf25 (by decide) q0 rfl)) <| oe [501, 500, 1] [] (A4.AN hb26 rfl rfl rfl (AE [one (Ab .u64 a_0.AR), one (Ab .u64 a_0.A6), one (Ab .u64 a_0.Bn), one (Ai Aq.ck a_0.Ao)] [] 1 Tryd.isAgg25 q0 rfl rfl)) <| oe [502, 500] [] (A4.AN hb26 rfl rfl rfl (Bm Tryd.underlying25 q0)) <| oe [503, 500] [] (A4.AN hb26 rfl rfl rfl (Ax CW q0 qi)) <| oe [504, 500] [] (A4.AN hb26 rfl rfl rfl (Ag q0)) <| oe [500] [] (A4.A2 (want := true) hb27 rfl rfl rfl rfl) <| oe [501] [] (A4.A2 (want := true) hb27 rfl rfl rfl rfl) <| oe [502] [] (A4.A2 (want := true) hb27 rfl rfl rfl rfl) <| oe [503] [] (A4.A2 (want := true) hb27 rfl rfl rfl rfl) <| oe [509, 504] [] (A4.AN hb26 rfl rfl rfl (Bd hb27 q0 qb)) <| ov [510, 500] (Bd hb26 q0 q1) <| ov [500] (Ak q0) .nil) fun _ a w h => ?_
            exact ⟨false, hF, h.sub [0] (by rfl)⟩
      · clear h hF
        rintro a w ⟨x25, hF, h⟩
        unfold BM.j2 at hF
        show Code.wp Tryd.prog _ _ a w
        refine wp_ret ?_
        obtain rfl := Option.some.inj hF
        exact ⟨.inl rfl, Cv h Tryd.results13 (By 0 rfl) [] [] rfl rfl rfl⟩
end Go.Proofs.YtemnhknjphjpnaaDoor
