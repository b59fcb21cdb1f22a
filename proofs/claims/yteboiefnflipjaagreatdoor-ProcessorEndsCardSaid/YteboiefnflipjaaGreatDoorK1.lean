/- strings.Repeat, by the library's contract, laid at this dump (the laying printed by the kit's own tool, in plain words), as a contract of this session's logic. -/
import Derived.Test.YteboiefnflipjaaGreatDoorM2
import Derived.Test.YteboiefnflipjaaGreatDoorProg
import Derived.Shelf.Strings.Repeat
namespace Go.Proofs.YteboiefnflipjaaGreatDoor
open _root_.Go.Proofs.Tryz
open Go Go.Proofs Go.Shelf Go.RowKit
def G1 : Go.Shelf.Ren := ⟨fun | 105 => 141 | 212 => 145 | 99 => 146 | 165 => 147 | 166 => 128 | 170 => 148 | 169 => 111 | 263 => 149 | 264 => 150 | 206 => 151 | 240 => 132 | 241 => 152 | 276 => 142 | 277 => 153 | n => n, fun | 9 => 9 | 3 => 3 | 4 => 4 | 20 => 20 | 0 => 0 | 46 => 67 | 109 => 272 | 5 => 5 | 72 => 222 | 76 => 225 | 51 => 29 | 146 => 277 | 53 => 24 | 148 => 198 | 70 => 220 | 37 => 207 | 75 => 224 | 127 => 255 | 164 => 267 | 80 => 227 | n => n, fun | n => n⟩
theorem OX : Go.Proofs.Lays.n105 prog G1 := {
  mixed := by kernel_rfl
  f99 := func146.trans (congrArg some (by kernel_rfl))
  f105 := func141.trans (congrArg some (by kernel_rfl))
  f165 := func147.trans (congrArg some (by kernel_rfl))
  f166 := func128.trans (congrArg some (by kernel_rfl))
  f169 := func111.trans (congrArg some (by kernel_rfl))
  f170 := func148.trans (congrArg some (by kernel_rfl))
  f206 := func151.trans (congrArg some (by kernel_rfl))
  f212 := func145.trans (congrArg some (by kernel_rfl))
  f240 := func132.trans (congrArg some (by kernel_rfl))
  f241 := func152.trans (congrArg some (by kernel_rfl))
  f263 := func149.trans (congrArg some (by kernel_rfl))
  f264 := func150.trans (congrArg some (by kernel_rfl))
  f276 := func142.trans (congrArg some (by kernel_rfl))
  f277 := func153.trans (congrArg some (by kernel_rfl))
  t0 := underlying0
  a0 := isAgg0
  z0 := sizeOf0
  v0 := zeroValue0
  t3 := underlying3
  a3 := isAgg3
  z3 := sizeOf3
  v3 := zeroValue3
  t4 := underlying4
  a4 := isAgg4
  z4 := sizeOf4
  v4 := zeroValue4
  t5 := underlying5
  a5 := isAgg5
  z5 := sizeOf5
  v5 := zeroValue5
  t9 := underlying9
  a9 := isAgg9
  z9 := sizeOf9
  v9 := zeroValue9
  t20 := underlying20
  a20 := isAgg20
  z20 := sizeOf20
  v20 := zeroValue20
  t37 := underlying207
  a37 := isAgg207
  z37 := sizeOf207
  v37 := zeroValue207
  t46 := underlying67
  a46 := isAgg67
  z46 := sizeOf67
  v46 := zeroValue67
  t51 := underlying29
  a51 := isAgg29
  z51 := sizeOf29
  v51 := zeroValue29
  t53 := underlying24
  a53 := isAgg24
  z53 := sizeOf24
  v53 := zeroValue24
  t70 := underlying220
  a70 := isAgg220
  z70 := sizeOf220
  v70 := zeroValue220
  t72 := underlying222
  a72 := isAgg222
  z72 := sizeOf222
  v72 := zeroValue222
  t75 := underlying224
  a75 := isAgg224
  z75 := sizeOf224
  v75 := zeroValue224
  t76 := underlying225
  a76 := isAgg225
  z76 := sizeOf225
  v76 := zeroValue225
  t109 := underlying272
  a109 := isAgg272
  z109 := sizeOf272
  v109 := zeroValue272
  t127 := underlying255
  a127 := isAgg255
  z127 := sizeOf255
  v127 := zeroValue255
  t146 := underlying277
  a146 := isAgg277
  z146 := sizeOf277
  v146 := zeroValue277
  t148 := underlying198
  a148 := isAgg198
  z148 := sizeOf198
  v148 := zeroValue198
  t164 := underlying267
  a164 := isAgg267
  z164 := sizeOf267
  v164 := zeroValue267 }
theorem H3 : Builder.Extra prog G1 := {
  sizeBuilder := by kernel_rfl
  liesBuilder := by kernel_rfl
  t5 := underlying5
  a5 := isAgg5
  z5 := sizeOf5
  v5 := zeroValue5
  infoByte := by kernel_rfl
  cellsByte := by kernel_rfl
  sizeByte := by kernel_rfl
  neB5 := by decide }
theorem OZ : G1.f 105 = 141 := by kernel_rfl
theorem MQ {G : FP} {l : List UInt8} {n : Int} (h : 0 ≤ n ∧ l.length * n.toNat ≤ 140737488355328) : Az prog G 141 [As l, Ab .i64 n] [] (fun _ => []) (As (Lib.repeatL l n.toNat)) := by
  refine Az.OS fun Φ vs w ha => ?_
  match vs, ha with
  | [u, v], ⟨⟨hu, _⟩, ⟨hv, hr⟩, _⟩ =>
    subst hu; subst hv
    have hn : n ≤ 9223372036854775807 := by
      have := hr.2
      simpa [IntKind.max, IntKind.bits, IntKind.signed] using this
    have hc := Any.strings_Repeat OX H3 ⟨l.toArray⟩ n.toNat w (by omega) (by rw [CW]; exact h.2)
    rw [OZ, Int.toNat_of_nonneg h.1] at hc
    refine ⟨.string ⟨(Lib.repeatL l n.toNat).toArray⟩, fun _ => ⟨rfl, ?_⟩, hc⟩
    rw [Lib.repeatL_length, Nat.mul_comm]
    have := h.2
    unfold CG; omega
end Go.Proofs.YteboiefnflipjaaGreatDoor
