/- strings.Repeat, by the library's contract, laid at this dump (the laying printed by the kit's own tool, in plain words), as a contract of this session's logic. -/
import Derived.Test.YtamnmljgcmbliaaDoorA19
import Derived.Test.YtamnmljgcmbliaaDoorProg
import Derived.Shelf.Strings.Repeat
namespace Go.Proofs.YtamnmljgcmbliaaDoor
open Go Go.Proofs Go.Shelf Go.RowKit
def Tryd.lays105_ren : Go.Shelf.Ren := ⟨fun | 105 => 103 | 212 => 109 | 99 => 110 | 165 => 111 | 166 => 94 | 170 => 112 | 169 => 88 | 263 => 113 | 264 => 114 | 206 => 115 | 240 => 100 | 241 => 116 | 276 => 104 | 277 => 117 | n => n, fun | 9 => 9 | 3 => 3 | 4 => 4 | 20 => 20 | 0 => 0 | 46 => 128 | 109 => 176 | 5 => 5 | 72 => 143 | 76 => 146 | 51 => 51 | 146 => 181 | 53 => 114 | 148 => 183 | 70 => 141 | 37 => 129 | 75 => 145 | 127 => 164 | 164 => 168 | 80 => 148 | n => n, fun | n => n⟩
theorem Tryd.lays105 : Go.Proofs.Lays.n105 Tryd.prog Tryd.lays105_ren := {
  mixed := by kernel_rfl
  f99 := Tryd.func110.trans (congrArg some (by kernel_rfl))
  f105 := Tryd.func103.trans (congrArg some (by kernel_rfl))
  f165 := Tryd.func111.trans (congrArg some (by kernel_rfl))
  f166 := Tryd.func94.trans (congrArg some (by kernel_rfl))
  f169 := Tryd.func88.trans (congrArg some (by kernel_rfl))
  f170 := Tryd.func112.trans (congrArg some (by kernel_rfl))
  f206 := Tryd.func115.trans (congrArg some (by kernel_rfl))
  f212 := Tryd.func109.trans (congrArg some (by kernel_rfl))
  f240 := Tryd.func100.trans (congrArg some (by kernel_rfl))
  f241 := Tryd.func116.trans (congrArg some (by kernel_rfl))
  f263 := Tryd.func113.trans (congrArg some (by kernel_rfl))
  f264 := Tryd.func114.trans (congrArg some (by kernel_rfl))
  f276 := Tryd.func104.trans (congrArg some (by kernel_rfl))
  f277 := Tryd.func117.trans (congrArg some (by kernel_rfl))
  t0 := Tryd.underlying0
  a0 := Tryd.isAgg0
  z0 := Tryd.sizeOf0
  v0 := Tryd.zeroValue0
  t3 := Tryd.underlying3
  a3 := Tryd.isAgg3
  z3 := Tryd.sizeOf3
  v3 := Tryd.zeroValue3
  t4 := Tryd.underlying4
  a4 := Tryd.isAgg4
  z4 := Tryd.sizeOf4
  v4 := Tryd.zeroValue4
  t5 := Tryd.underlying5
  a5 := Tryd.isAgg5
  z5 := Tryd.sizeOf5
  v5 := Tryd.zeroValue5
  t9 := Tryd.underlying9
  a9 := Tryd.isAgg9
  z9 := Tryd.sizeOf9
  v9 := Tryd.zeroValue9
  t20 := Tryd.underlying20
  a20 := Tryd.isAgg20
  z20 := Tryd.sizeOf20
  v20 := Tryd.zeroValue20
  t37 := Tryd.underlying129
  a37 := Tryd.isAgg129
  z37 := Tryd.sizeOf129
  v37 := Tryd.zeroValue129
  t46 := Tryd.underlying128
  a46 := Tryd.isAgg128
  z46 := Tryd.sizeOf128
  v46 := Tryd.zeroValue128
  t51 := Tryd.underlying51
  a51 := Tryd.isAgg51
  z51 := Tryd.sizeOf51
  v51 := Tryd.zeroValue51
  t53 := Tryd.underlying114
  a53 := Tryd.isAgg114
  z53 := Tryd.sizeOf114
  v53 := Tryd.zeroValue114
  t70 := Tryd.underlying141
  a70 := Tryd.isAgg141
  z70 := Tryd.sizeOf141
  v70 := Tryd.zeroValue141
  t72 := Tryd.underlying143
  a72 := Tryd.isAgg143
  z72 := Tryd.sizeOf143
  v72 := Tryd.zeroValue143
  t75 := Tryd.underlying145
  a75 := Tryd.isAgg145
  z75 := Tryd.sizeOf145
  v75 := Tryd.zeroValue145
  t76 := Tryd.underlying146
  a76 := Tryd.isAgg146
  z76 := Tryd.sizeOf146
  v76 := Tryd.zeroValue146
  t109 := Tryd.underlying176
  a109 := Tryd.isAgg176
  z109 := Tryd.sizeOf176
  v109 := Tryd.zeroValue176
  t127 := Tryd.underlying164
  a127 := Tryd.isAgg164
  z127 := Tryd.sizeOf164
  v127 := Tryd.zeroValue164
  t146 := Tryd.underlying181
  a146 := Tryd.isAgg181
  z146 := Tryd.sizeOf181
  v146 := Tryd.zeroValue181
  t148 := Tryd.underlying183
  a148 := Tryd.isAgg183
  z148 := Tryd.sizeOf183
  v148 := Tryd.zeroValue183
  t164 := Tryd.underlying168
  a164 := Tryd.isAgg168
  z164 := Tryd.sizeOf168
  v164 := Tryd.zeroValue168 }
theorem Tryd.Builder_Extra_105 : Builder.Extra Tryd.prog Tryd.lays105_ren := {
  sizeBuilder := by kernel_rfl
  liesBuilder := by kernel_rfl
  t5 := Tryd.underlying5
  a5 := Tryd.isAgg5
  z5 := Tryd.sizeOf5
  v5 := Tryd.zeroValue5
  infoByte := by kernel_rfl
  cellsByte := by kernel_rfl
  sizeByte := by kernel_rfl
  neB5 := by decide }
theorem fRepeat : Tryd.lays105_ren.f 105 = 103 := by kernel_rfl
theorem repeat_ok {G : FP} {l : List UInt8} {n : Int} (h : 0 ≤ n ∧ l.length * n.toNat ≤ 140737488355328) : CallOk Tryd.prog G 103 [strVP l, intVP .i64 n] [] (fun _ => []) (strVP (Lib.repeatL l n.toNat)) := by
  refine CallOk.ofBelow fun Φ vs w ha => ?_
  match vs, ha with
  | [u, v], ⟨⟨hu, _⟩, ⟨hv, hr⟩, _⟩ =>
    subst hu; subst hv
    have hn : n ≤ 9223372036854775807 := by
      have := hr.2
      simpa [IntKind.max, IntKind.bits, IntKind.signed] using this
    have hc := Any.strings_Repeat Tryd.lays105 Tryd.Builder_Extra_105 ⟨l.toArray⟩ n.toNat w (by omega) (by rw [str_size]; exact h.2)
    rw [fRepeat, Int.toNat_of_nonneg h.1] at hc
    refine ⟨.string ⟨(Lib.repeatL l n.toNat).toArray⟩, fun _ => ⟨rfl, ?_⟩, hc⟩
    rw [Lib.repeatL_length, Nat.mul_comm]
    have := h.2
    unfold mxl; omega
end Go.Proofs.YtamnmljgcmbliaaDoor
