/- strings.Repeat, by the library's contract, laid at this dump (the laying printed by the kit's own tool, in plain words), as a contract of this session's logic. -/
import Derived.Test.YtnjkofmmpfehcaaGreatDoorRA19
import Derived.Test.YtnjkofmmpfehcaaGreatDoorRProg
import Derived.Shelf.Strings.Repeat
namespace Go.Proofs.YtnjkofmmpfehcaaGreatDoorR
open Go Go.Proofs Go.Shelf Go.RowKit
def Tryz.lays105_ren : Go.Shelf.Ren := ⟨fun | 105 => 129 | 212 => 133 | 99 => 134 | 165 => 135 | 166 => 117 | 170 => 136 | 169 => 118 | 263 => 137 | 264 => 138 | 206 => 139 | 240 => 127 | 241 => 140 | 276 => 130 | 277 => 141 | n => n, fun | 9 => 9 | 3 => 3 | 4 => 4 | 20 => 20 | 0 => 0 | 46 => 202 | 109 => 248 | 5 => 5 | 72 => 216 | 76 => 220 | 51 => 22 | 146 => 253 | 53 => 26 | 148 => 115 | 70 => 214 | 37 => 180 | 75 => 218 | 127 => 240 | 164 => 243 | 80 => 222 | n => n, fun | n => n⟩
theorem Tryz.lays105 : Go.Proofs.Lays.n105 Tryz.prog Tryz.lays105_ren := {
  mixed := by kernel_rfl
  f99 := Tryz.func134.trans (congrArg some (by kernel_rfl))
  f105 := Tryz.func129.trans (congrArg some (by kernel_rfl))
  f165 := Tryz.func135.trans (congrArg some (by kernel_rfl))
  f166 := Tryz.func117.trans (congrArg some (by kernel_rfl))
  f169 := Tryz.func118.trans (congrArg some (by kernel_rfl))
  f170 := Tryz.func136.trans (congrArg some (by kernel_rfl))
  f206 := Tryz.func139.trans (congrArg some (by kernel_rfl))
  f212 := Tryz.func133.trans (congrArg some (by kernel_rfl))
  f240 := Tryz.func127.trans (congrArg some (by kernel_rfl))
  f241 := Tryz.func140.trans (congrArg some (by kernel_rfl))
  f263 := Tryz.func137.trans (congrArg some (by kernel_rfl))
  f264 := Tryz.func138.trans (congrArg some (by kernel_rfl))
  f276 := Tryz.func130.trans (congrArg some (by kernel_rfl))
  f277 := Tryz.func141.trans (congrArg some (by kernel_rfl))
  t0 := Tryz.underlying0
  a0 := Tryz.isAgg0
  z0 := Tryz.sizeOf0
  v0 := Tryz.zeroValue0
  t3 := Tryz.underlying3
  a3 := Tryz.isAgg3
  z3 := Tryz.sizeOf3
  v3 := Tryz.zeroValue3
  t4 := Tryz.underlying4
  a4 := Tryz.isAgg4
  z4 := Tryz.sizeOf4
  v4 := Tryz.zeroValue4
  t5 := Tryz.underlying5
  a5 := Tryz.isAgg5
  z5 := Tryz.sizeOf5
  v5 := Tryz.zeroValue5
  t9 := Tryz.underlying9
  a9 := Tryz.isAgg9
  z9 := Tryz.sizeOf9
  v9 := Tryz.zeroValue9
  t20 := Tryz.underlying20
  a20 := Tryz.isAgg20
  z20 := Tryz.sizeOf20
  v20 := Tryz.zeroValue20
  t37 := Tryz.underlying180
  a37 := Tryz.isAgg180
  z37 := Tryz.sizeOf180
  v37 := Tryz.zeroValue180
  t46 := Tryz.underlying202
  a46 := Tryz.isAgg202
  z46 := Tryz.sizeOf202
  v46 := Tryz.zeroValue202
  t51 := Tryz.underlying22
  a51 := Tryz.isAgg22
  z51 := Tryz.sizeOf22
  v51 := Tryz.zeroValue22
  t53 := Tryz.underlying26
  a53 := Tryz.isAgg26
  z53 := Tryz.sizeOf26
  v53 := Tryz.zeroValue26
  t70 := Tryz.underlying214
  a70 := Tryz.isAgg214
  z70 := Tryz.sizeOf214
  v70 := Tryz.zeroValue214
  t72 := Tryz.underlying216
  a72 := Tryz.isAgg216
  z72 := Tryz.sizeOf216
  v72 := Tryz.zeroValue216
  t75 := Tryz.underlying218
  a75 := Tryz.isAgg218
  z75 := Tryz.sizeOf218
  v75 := Tryz.zeroValue218
  t76 := Tryz.underlying220
  a76 := Tryz.isAgg220
  z76 := Tryz.sizeOf220
  v76 := Tryz.zeroValue220
  t109 := Tryz.underlying248
  a109 := Tryz.isAgg248
  z109 := Tryz.sizeOf248
  v109 := Tryz.zeroValue248
  t127 := Tryz.underlying240
  a127 := Tryz.isAgg240
  z127 := Tryz.sizeOf240
  v127 := Tryz.zeroValue240
  t146 := Tryz.underlying253
  a146 := Tryz.isAgg253
  z146 := Tryz.sizeOf253
  v146 := Tryz.zeroValue253
  t148 := Tryz.underlying115
  a148 := Tryz.isAgg115
  z148 := Tryz.sizeOf115
  v148 := Tryz.zeroValue115
  t164 := Tryz.underlying243
  a164 := Tryz.isAgg243
  z164 := Tryz.sizeOf243
  v164 := Tryz.zeroValue243 }
theorem Tryz.Builder_Extra_105 : Builder.Extra Tryz.prog Tryz.lays105_ren := {
  sizeBuilder := by kernel_rfl
  liesBuilder := by kernel_rfl
  t5 := Tryz.underlying5
  a5 := Tryz.isAgg5
  z5 := Tryz.sizeOf5
  v5 := Tryz.zeroValue5
  infoByte := by kernel_rfl
  cellsByte := by kernel_rfl
  sizeByte := by kernel_rfl
  neB5 := by decide }
theorem fRepeat : Tryz.lays105_ren.f 105 = 129 := by kernel_rfl
theorem repeat_ok {G : FP} {l : List UInt8} {n : Int} (h : 0 ≤ n ∧ l.length * n.toNat ≤ 140737488355328) : CallOk Tryz.prog G 129 [strVP l, intVP .i64 n] [] (fun _ => []) (strVP (Lib.repeatL l n.toNat)) := by
  refine CallOk.ofBelow fun Φ vs w ha => ?_
  match vs, ha with
  | [u, v], ⟨⟨hu, _⟩, ⟨hv, hr⟩, _⟩ =>
    subst hu; subst hv
    have hn : n ≤ 9223372036854775807 := by
      have := hr.2
      simpa [IntKind.max, IntKind.bits, IntKind.signed] using this
    have hc := Any.strings_Repeat Tryz.lays105 Tryz.Builder_Extra_105 ⟨l.toArray⟩ n.toNat w (by omega) (by rw [str_size]; exact h.2)
    rw [fRepeat, Int.toNat_of_nonneg h.1] at hc
    refine ⟨.string ⟨(Lib.repeatL l n.toNat).toArray⟩, fun _ => ⟨rfl, ?_⟩, hc⟩
    rw [Lib.repeatL_length, Nat.mul_comm]
    have := h.2
    unfold mxl; omega
end Go.Proofs.YtnjkofmmpfehcaaGreatDoorR
