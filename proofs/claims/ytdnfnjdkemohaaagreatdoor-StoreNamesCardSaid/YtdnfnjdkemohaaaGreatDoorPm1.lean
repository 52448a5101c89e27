/- Contracts over the abstract heap of functions of Go's library that the logic does not walk: strings.Repeat, slices.Sorted of an empty map's keys. -/
import Derived.Test.YtdnfnjdkemohaaaGreatDoorPm0
import Derived.Test.YtdnfnjdkemohaaaGreatDoorIt1
import Derived.Test.YtdnfnjdkemohaaaGreatDoorUs1
import Derived.Shelf.Lay
import Derived.Shelf.LaySoft
import Derived.Shelf.Strings.Repeat
namespace Go.Proofs
open Go.RowKit Go.Shelf
def Tryz.lays105_ren : Go.Shelf.Ren := ⟨fun | 105 => 105 | 212 => 193 | 99 => 115 | 165 => 194 | 166 => 195 | 170 => 196 | 169 => 197 | 263 => 267 | 264 => 268 | 206 => 201 | 240 => 269 | 241 => 270 | 276 => 317 | 277 => 318 | n => n, fun | 9 => 9 | 3 => 3 | 4 => 4 | 20 => 20 | 0 => 0 | 46 => 247 | 109 => 280 | 5 => 5 | 72 => 284 | 76 => 287 | 51 => 305 | 146 => 371 | 53 => 47 | 148 => 369 | 70 => 282 | 37 => 22 | 75 => 286 | 127 => 374 | 164 => 402 | 80 => 289 | n => n, fun n => n⟩
theorem Tryz.lays105 : Lays.n105 Tryz.prog Tryz.lays105_ren where
  mixed := by kernel_rfl
  f99 := Tryz.func115.trans (congrArg some (by kernel_rfl))
  f105 := Tryz.func105.trans (congrArg some (by kernel_rfl))
  f165 := Tryz.func194.trans (congrArg some (by kernel_rfl))
  f166 := Tryz.func195.trans (congrArg some (by kernel_rfl))
  f169 := Tryz.func197.trans (congrArg some (by kernel_rfl))
  f170 := Tryz.func196.trans (congrArg some (by kernel_rfl))
  f206 := Tryz.func201.trans (congrArg some (by kernel_rfl))
  f212 := Tryz.func193.trans (congrArg some (by kernel_rfl))
  f240 := Tryz.func269.trans (congrArg some (by kernel_rfl))
  f241 := Tryz.func270.trans (congrArg some (by kernel_rfl))
  f263 := Tryz.func267.trans (congrArg some (by kernel_rfl))
  f264 := Tryz.func268.trans (congrArg some (by kernel_rfl))
  f276 := Tryz.func317.trans (congrArg some (by kernel_rfl))
  f277 := Tryz.func318.trans (congrArg some (by kernel_rfl))
  t0 := Tryz.underlying0
  a0 := Tryz.isAgg0
  z0 := Tryz.sizeOf0
  v0 := Tryz.zeroValue0
  t3 := Tryz.underlying3
  a3 := Tryz.isAgg3
  z3 := Tryz.sizeOf3
  v3 := Tryz.zeroValue3
  t4 := Tryz.underlying4
  a4 := Tryz.isAgg4
  z4 := Tryz.sizeOf4
  v4 := Tryz.zeroValue4
  t5 := Tryz.underlying5
  a5 := Tryz.isAgg5
  z5 := Tryz.sizeOf5
  v5 := Tryz.zeroValue5
  t9 := Tryz.underlying9
  a9 := Tryz.isAgg9
  z9 := Tryz.sizeOf9
  v9 := Tryz.zeroValue9
  t20 := Tryz.underlying20
  a20 := Tryz.isAgg20
  z20 := Tryz.sizeOf20
  v20 := Tryz.zeroValue20
  t37 := Tryz.underlying22
  a37 := Tryz.isAgg22
  z37 := Tryz.sizeOf22
  v37 := Tryz.zeroValue22
  t46 := Tryz.underlying247
  a46 := Tryz.isAgg247
  z46 := Tryz.sizeOf247
  v46 := Tryz.zeroValue247
  t51 := Tryz.underlying305
  a51 := Tryz.isAgg305
  z51 := Tryz.sizeOf305
  v51 := Tryz.zeroValue305
  t53 := Tryz.underlying47
  a53 := Tryz.isAgg47
  z53 := Tryz.sizeOf47
  v53 := Tryz.zeroValue47
  t70 := Tryz.underlying282
  a70 := Tryz.isAgg282
  z70 := Tryz.sizeOf282
  v70 := Tryz.zeroValue282
  t72 := Tryz.underlying284
  a72 := Tryz.isAgg284
  z72 := Tryz.sizeOf284
  v72 := Tryz.zeroValue284
  t75 := Tryz.underlying286
  a75 := Tryz.isAgg286
  z75 := Tryz.sizeOf286
  v75 := Tryz.zeroValue286
  t76 := Tryz.underlying287
  a76 := Tryz.isAgg287
  z76 := Tryz.sizeOf287
  v76 := Tryz.zeroValue287
  t109 := Tryz.underlying280
  a109 := Tryz.isAgg280
  z109 := Tryz.sizeOf280
  v109 := Tryz.zeroValue280
  t127 := Tryz.underlying374
  a127 := Tryz.isAgg374
  z127 := Tryz.sizeOf374
  v127 := Tryz.zeroValue374
  t146 := Tryz.underlying371
  a146 := Tryz.isAgg371
  z146 := Tryz.sizeOf371
  v146 := Tryz.zeroValue371
  t148 := Tryz.underlying369
  a148 := Tryz.isAgg369
  z148 := Tryz.sizeOf369
  v148 := Tryz.zeroValue369
  t164 := Tryz.underlying402
  a164 := Tryz.isAgg402
  z164 := Tryz.sizeOf402
  v164 := Tryz.zeroValue402

theorem Tryz.Builder_Extra_105 : Builder.Extra Tryz.prog Tryz.lays105_ren where
  sizeBuilder := by kernel_rfl
  liesBuilder := by kernel_rfl
  t5 := Tryz.underlying5
  a5 := Tryz.isAgg5
  z5 := Tryz.sizeOf5
  v5 := Tryz.zeroValue5
  infoByte := by kernel_rfl
  cellsByte := by kernel_rfl
  sizeByte := by kernel_rfl
  neB5 := by decide
end Go.Proofs

namespace Go.Ab.Pr
open Go.Proofs Go.RowKit Go.Ab

theorem fnOk105 : fnOk Tryz.prog 105 := ⟨Tryz.f105, _, Tryz.func105, rfl, by decide⟩
theorem fnOk199 : fnOk Tryz.prog 199 := ⟨Tryz.f199, _, Tryz.func199, rfl, by decide⟩
theorem fnOk212 : fnOk Tryz.prog 212 := ⟨Tryz.f212, _, Tryz.func212, rfl, by decide⟩

theorem repeat_tri (l : List UInt8) (c : Nat) (H : Hp) (hlen : l.length * c ≤ 140737488355328) (hc : c ≤ 9223372036854775807) :
    Tri Tryz.prog 105 [.string (str l), .int .i64 c] H fun v H' => v = .string (str (Lib.repeatL l c)) ∧ H' = H :=
  tri_sc fnOk105 rfl (fun μ => .string _) fun w => Any.strings_Repeat Tryz.lays105 Tryz.Builder_Extra_105 (str l) c w hc (by simpa [str, ByteArray.size] using hlen)

end Go.Ab.Pr
