/- strings.Repeat, by the library's contract, laid at this dump (the laying printed by the kit's own tool, in plain words), as a contract of this session's logic. -/
import Derived.Test.YtnjkofmmpfehcaaDoorRA19
import Derived.Test.YtnjkofmmpfehcaaDoorRProg
import Derived.Shelf.Strings.Repeat
namespace Go.Proofs.YtnjkofmmpfehcaaDoorR
open Go Go.Proofs Go.Shelf Go.RowKit
def Tryd.lays105_ren : Go.Shelf.Ren := ⟨fun | 105 => 230 | 212 => 239 | 99 => 240 | 165 => 241 | 166 => 212 | 170 => 242 | 169 => 214 | 263 => 245 | 264 => 246 | 206 => 247 | 240 => 228 | 241 => 248 | 276 => 236 | 277 => 250 | n => n, fun | 9 => 9 | 3 => 3 | 4 => 4 | 20 => 20 | 0 => 0 | 46 => 295 | 109 => 337 | 5 => 5 | 72 => 298 | 76 => 301 | 51 => 22 | 146 => 343 | 53 => 27 | 148 => 175 | 70 => 296 | 37 => 259 | 75 => 300 | 127 => 324 | 164 => 332 | 80 => 304 | n => n, fun | n => n⟩
theorem Tryd.lays105 : Go.Proofs.Lays.n105 Tryd.prog Tryd.lays105_ren := {
  mixed := by kernel_rfl
  f99 := Tryd.func240.trans (congrArg some (by kernel_rfl))
  f105 := Tryd.func230.trans (congrArg some (by kernel_rfl))
  f165 := Tryd.func241.trans (congrArg some (by kernel_rfl))
  f166 := Tryd.func212.trans (congrArg some (by kernel_rfl))
  f169 := Tryd.func214.trans (congrArg some (by kernel_rfl))
  f170 := Tryd.func242.trans (congrArg some (by kernel_rfl))
  f206 := Tryd.func247.trans (congrArg some (by kernel_rfl))
  f212 := Tryd.func239.trans (congrArg some (by kernel_rfl))
  f240 := Tryd.func228.trans (congrArg some (by kernel_rfl))
  f241 := Tryd.func248.trans (congrArg some (by kernel_rfl))
  f263 := Tryd.func245.trans (congrArg some (by kernel_rfl))
  f264 := Tryd.func246.trans (congrArg some (by kernel_rfl))
  f276 := Tryd.func236.trans (congrArg some (by kernel_rfl))
  f277 := Tryd.func250.trans (congrArg some (by kernel_rfl))
  t0 := Tryd.underlying0
  a0 := Tryd.isAgg0
  z0 := Tryd.sizeOf0
  v0 := Tryd.zeroValue0
  t3 := Tryd.underlying3
  a3 := Tryd.isAgg3
  z3 := Tryd.sizeOf3
  v3 := Tryd.zeroValue3
  t4 := Tryd.underlying4
  a4 := Tryd.isAgg4
  z4 := Tryd.sizeOf4
  v4 := Tryd.zeroValue4
  t5 := Tryd.underlying5
  a5 := Tryd.isAgg5
  z5 := Tryd.sizeOf5
  v5 := Tryd.zeroValue5
  t9 := Tryd.underlying9
  a9 := Tryd.isAgg9
  z9 := Tryd.sizeOf9
  v9 := Tryd.zeroValue9
  t20 := Tryd.underlying20
  a20 := Tryd.isAgg20
  z20 := Tryd.sizeOf20
  v20 := Tryd.zeroValue20
  t37 := Tryd.underlying259
  a37 := Tryd.isAgg259
  z37 := Tryd.sizeOf259
  v37 := Tryd.zeroValue259
  t46 := Tryd.underlying295
  a46 := Tryd.isAgg295
  z46 := Tryd.sizeOf295
  v46 := Tryd.zeroValue295
  t51 := Tryd.underlying22
  a51 := Tryd.isAgg22
  z51 := Tryd.sizeOf22
  v51 := Tryd.zeroValue22
  t53 := Tryd.underlying27
  a53 := Tryd.isAgg27
  z53 := Tryd.sizeOf27
  v53 := Tryd.zeroValue27
  t70 := Tryd.underlying296
  a70 := Tryd.isAgg296
  z70 := Tryd.sizeOf296
  v70 := Tryd.zeroValue296
  t72 := Tryd.underlying298
  a72 := Tryd.isAgg298
  z72 := Tryd.sizeOf298
  v72 := Tryd.zeroValue298
  t75 := Tryd.underlying300
  a75 := Tryd.isAgg300
  z75 := Tryd.sizeOf300
  v75 := Tryd.zeroValue300
  t76 := Tryd.underlying301
  a76 := Tryd.isAgg301
  z76 := Tryd.sizeOf301
  v76 := Tryd.zeroValue301
  t109 := Tryd.underlying337
  a109 := Tryd.isAgg337
  z109 := Tryd.sizeOf337
  v109 := Tryd.zeroValue337
  t127 := Tryd.underlying324
  a127 := Tryd.isAgg324
  z127 := Tryd.sizeOf324
  v127 := Tryd.zeroValue324
  t146 := Tryd.underlying343
  a146 := Tryd.isAgg343
  z146 := Tryd.sizeOf343
  v146 := Tryd.zeroValue343
  t148 := Tryd.underlying175
  a148 := Tryd.isAgg175
  z148 := Tryd.sizeOf175
  v148 := Tryd.zeroValue175
  t164 := Tryd.underlying332
  a164 := Tryd.isAgg332
  z164 := Tryd.sizeOf332
  v164 := Tryd.zeroValue332 }
theorem Tryd.Builder_Extra_105 : Builder.Extra Tryd.prog Tryd.lays105_ren := {
  sizeBuilder := by kernel_rfl
  liesBuilder := by kernel_rfl
  t5 := Tryd.underlying5
  a5 := Tryd.isAgg5
  z5 := Tryd.sizeOf5
  v5 := Tryd.zeroValue5
  infoByte := by kernel_rfl
  cellsByte := by kernel_rfl
  sizeByte := by kernel_rfl
  neB5 := by decide }
theorem fRepeat : Tryd.lays105_ren.f 105 = 230 := by kernel_rfl
theorem repeat_ok {G : FP} {l : List UInt8} {n : Int} (h : 0 ≤ n ∧ l.length * n.toNat ≤ 140737488355328) : CallOk Tryd.prog G 230 [strVP l, intVP .i64 n] [] (fun _ => []) (strVP (Lib.repeatL l n.toNat)) := by
  refine CallOk.ofBelow fun Φ vs w ha => ?_
  match vs, ha with
  | [u, v], ⟨⟨hu, _⟩, ⟨hv, hr⟩, _⟩ =>
    subst hu; subst hv
    have hn : n ≤ 9223372036854775807 := by
      have := hr.2
      simpa [IntKind.max, IntKind.bits, IntKind.signed] using this
    have hc := Any.strings_Repeat Tryd.lays105 Tryd.Builder_Extra_105 ⟨l.toArray⟩ n.toNat w (by omega) (by rw [str_size]; exact h.2)
    rw [fRepeat, Int.toNat_of_nonneg h.1] at hc
    refine ⟨.string ⟨(Lib.repeatL l n.toNat).toArray⟩, fun _ => ⟨rfl, ?_⟩, hc⟩
    rw [Lib.repeatL_length, Nat.mul_comm]
    have := h.2
    unfold mxl; omega
end Go.Proofs.YtnjkofmmpfehcaaDoorR
