/- strings.Repeat, by the library's contract, laid at this dump (the laying printed by the kit's own tool, in plain words), as a contract of this session's logic. -/
import Derived.Test.YtklikgigjdgjaaaGreatDoorRRRA19
import Derived.Test.YtklikgigjdgjaaaGreatDoorRRRProg
import Derived.Shelf.Strings.Repeat
namespace Go.Proofs.YtklikgigjdgjaaaGreatDoorRRR
open Go Go.Proofs Go.Shelf Go.RowKit
def Tryz.lays105_ren : Go.Shelf.Ren := ⟨fun | 105 => 95 | 212 => 98 | 99 => 99 | 165 => 100 | 166 => 82 | 170 => 101 | 169 => 60 | 263 => 102 | 264 => 103 | 206 => 104 | 240 => 78 | 241 => 105 | 276 => 91 | 277 => 106 | n => n, fun | 9 => 9 | 3 => 3 | 4 => 4 | 20 => 20 | 0 => 0 | 46 => 151 | 109 => 181 | 5 => 5 | 72 => 121 | 76 => 124 | 51 => 31 | 146 => 186 | 53 => 32 | 148 => 111 | 70 => 118 | 37 => 119 | 75 => 123 | 127 => 149 | 164 => 171 | 80 => 126 | n => n, fun | n => n⟩
theorem Tryz.lays105 : Go.Proofs.Lays.n105 Tryz.prog Tryz.lays105_ren := {
  mixed := by kernel_rfl
  f99 := Tryz.func99.trans (congrArg some (by kernel_rfl))
  f105 := Tryz.func95.trans (congrArg some (by kernel_rfl))
  f165 := Tryz.func100.trans (congrArg some (by kernel_rfl))
  f166 := Tryz.func82.trans (congrArg some (by kernel_rfl))
  f169 := Tryz.func60.trans (congrArg some (by kernel_rfl))
  f170 := Tryz.func101.trans (congrArg some (by kernel_rfl))
  f206 := Tryz.func104.trans (congrArg some (by kernel_rfl))
  f212 := Tryz.func98.trans (congrArg some (by kernel_rfl))
  f240 := Tryz.func78.trans (congrArg some (by kernel_rfl))
  f241 := Tryz.func105.trans (congrArg some (by kernel_rfl))
  f263 := Tryz.func102.trans (congrArg some (by kernel_rfl))
  f264 := Tryz.func103.trans (congrArg some (by kernel_rfl))
  f276 := Tryz.func91.trans (congrArg some (by kernel_rfl))
  f277 := Tryz.func106.trans (congrArg some (by kernel_rfl))
  t0 := Tryz.underlying0
  a0 := Tryz.isAgg0
  z0 := Tryz.sizeOf0
  v0 := Tryz.zeroValue0
  t3 := Tryz.underlying3
  a3 := Tryz.isAgg3
  z3 := Tryz.sizeOf3
  v3 := Tryz.zeroValue3
  t4 := Tryz.underlying4
  a4 := Tryz.isAgg4
  z4 := Tryz.sizeOf4
  v4 := Tryz.zeroValue4
  t5 := Tryz.underlying5
  a5 := Tryz.isAgg5
  z5 := Tryz.sizeOf5
  v5 := Tryz.zeroValue5
  t9 := Tryz.underlying9
  a9 := Tryz.isAgg9
  z9 := Tryz.sizeOf9
  v9 := Tryz.zeroValue9
  t20 := Tryz.underlying20
  a20 := Tryz.isAgg20
  z20 := Tryz.sizeOf20
  v20 := Tryz.zeroValue20
  t37 := Tryz.underlying119
  a37 := Tryz.isAgg119
  z37 := Tryz.sizeOf119
  v37 := Tryz.zeroValue119
  t46 := Tryz.underlying151
  a46 := Tryz.isAgg151
  z46 := Tryz.sizeOf151
  v46 := Tryz.zeroValue151
  t51 := Tryz.underlying31
  a51 := Tryz.isAgg31
  z51 := Tryz.sizeOf31
  v51 := Tryz.zeroValue31
  t53 := Tryz.underlying32
  a53 := Tryz.isAgg32
  z53 := Tryz.sizeOf32
  v53 := Tryz.zeroValue32
  t70 := Tryz.underlying118
  a70 := Tryz.isAgg118
  z70 := Tryz.sizeOf118
  v70 := Tryz.zeroValue118
  t72 := Tryz.underlying121
  a72 := Tryz.isAgg121
  z72 := Tryz.sizeOf121
  v72 := Tryz.zeroValue121
  t75 := Tryz.underlying123
  a75 := Tryz.isAgg123
  z75 := Tryz.sizeOf123
  v75 := Tryz.zeroValue123
  t76 := Tryz.underlying124
  a76 := Tryz.isAgg124
  z76 := Tryz.sizeOf124
  v76 := Tryz.zeroValue124
  t109 := Tryz.underlying181
  a109 := Tryz.isAgg181
  z109 := Tryz.sizeOf181
  v109 := Tryz.zeroValue181
  t127 := Tryz.underlying149
  a127 := Tryz.isAgg149
  z127 := Tryz.sizeOf149
  v127 := Tryz.zeroValue149
  t146 := Tryz.underlying186
  a146 := Tryz.isAgg186
  z146 := Tryz.sizeOf186
  v146 := Tryz.zeroValue186
  t148 := Tryz.underlying111
  a148 := Tryz.isAgg111
  z148 := Tryz.sizeOf111
  v148 := Tryz.zeroValue111
  t164 := Tryz.underlying171
  a164 := Tryz.isAgg171
  z164 := Tryz.sizeOf171
  v164 := Tryz.zeroValue171 }
theorem Tryz.Builder_Extra_105 : Builder.Extra Tryz.prog Tryz.lays105_ren := {
  sizeBuilder := by kernel_rfl
  liesBuilder := by kernel_rfl
  t5 := Tryz.underlying5
  a5 := Tryz.isAgg5
  z5 := Tryz.sizeOf5
  v5 := Tryz.zeroValue5
  infoByte := by kernel_rfl
  cellsByte := by kernel_rfl
  sizeByte := by kernel_rfl
  neB5 := by decide }
theorem fRepeat : Tryz.lays105_ren.f 105 = 95 := by kernel_rfl
theorem repeat_ok {G : FP} {l : List UInt8} {n : Int} (h : 0 ≤ n ∧ l.length * n.toNat ≤ 140737488355328) : CallOk Tryz.prog G 95 [strVP l, intVP .i64 n] [] (fun _ => []) (strVP (Lib.repeatL l n.toNat)) := by
  refine CallOk.ofBelow fun Φ vs w ha => ?_
  match vs, ha with
  | [u, v], ⟨⟨hu, _⟩, ⟨hv, hr⟩, _⟩ =>
    subst hu; subst hv
    have hn : n ≤ 9223372036854775807 := by
      have := hr.2
      simpa [IntKind.max, IntKind.bits, IntKind.signed] using this
    have hc := Any.strings_Repeat Tryz.lays105 Tryz.Builder_Extra_105 ⟨l.toArray⟩ n.toNat w (by omega) (by rw [str_size]; exact h.2)
    rw [fRepeat, Int.toNat_of_nonneg h.1] at hc
    refine ⟨.string ⟨(Lib.repeatL l n.toNat).toArray⟩, fun _ => ⟨rfl, ?_⟩, hc⟩
    rw [Lib.repeatL_length, Nat.mul_comm]
    have := h.2
    unfold mxl; omega
end Go.Proofs.YtklikgigjdgjaaaGreatDoorRRR
