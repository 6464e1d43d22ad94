import Derived.Shelf.Small.Strs
import Derived.Shelf.Small.Wraps
import Derived.Shelf.Strconv.Atoi
import Derived.Shelf.Strconv.Itoa0
import Derived.Shelf.Strconv.Itoa1
import Derived.Shelf.LaysM
import Derived.Shelf.Strconv.Itoa2
import Derived.Shelf.Strconv.Itoa3
import Derived.Shelf.Strconv.AtoiErrFast
import Derived.Shelf.Strconv.ParseIntEmpty
import Derived.Shelf.Strconv.AtoiFail
import Derived.Shelf.Strconv.Clone
import Derived.Shelf.Strconv.SyntaxError
import Derived.Shelf.LaysC
import Derived.Shelf.Strconv.ToError
import Derived.Shelf.Strconv.AtoiErr
import Derived.Shelf.Strconv.ErrVar
import Derived.Shelf.Strconv.Lower
import Derived.Shelf.Strconv.ParseUint10
import Derived.Shelf.Strconv.ParseUint10Empty
import Derived.Shelf.Strconv.ParseUint10Any
import Derived.Shelf.Strconv.ParseInt10
import Derived.Shelf.Strconv.AtoiLong
import Derived.Shelf.Strconv.AtoiInnerAll
import Derived.Shelf.Strconv.RangeError
import Derived.Shelf.Strconv.ToErrorRange
import Derived.Shelf.Strconv.AtoiAll
import Derived.Shelf.Strconv.ErrVarAll
import Derived.Shelf.Strings.Search1
import Derived.Shelf.Strings.Search2
import Derived.Shelf.Strings.Search3
import Derived.Shelf.Strings.Cut
import Derived.Shelf.Strings.Count
import Derived.Shelf.Strings.Shaped
import Derived.Shelf.Sort.Plain
import Derived.Shelf.Strings.Split
import Derived.Shelf.Bits.Mul64
import Derived.Shelf.Unicode.DecodeSlow
import Derived.Shelf.Slices.Equal
import Derived.Shelf.Slices.In.SortNone
import Derived.Shelf.Slices.Empties2
import Derived.Test.YtijbcdiffjjefaaGreatDoorProg
namespace Go.Proofs
open Go.Shelf
def Tryz.lays137_ren:Go.Shelf.Ren:=⟨fun | 137=>315 | 217=>288 | 266=>310 |n=>n, fun | 9=>9 | 5=>5 | 3=>3 |n=>n, fun |n=>n⟩
theorem Tryz.lays137:Go.Proofs.Lays.n137 Tryz.prog Tryz.lays137_ren:={
 mixed:=by kernel_rfl
 f137:=Tryz.func315.trans (congrArg some (by kernel_rfl))
 f217:=Tryz.func288.trans (congrArg some (by kernel_rfl))
 f266:=Tryz.func310.trans (congrArg some (by kernel_rfl))
 t3:=Tryz.underlying3
 a3:=Tryz.isAgg3
 z3:=Tryz.sizeOf3
 v3:=Tryz.zeroValue3
 t5:=Tryz.underlying5
 a5:=Tryz.isAgg5
 z5:=Tryz.sizeOf5
 v5:=Tryz.zeroValue5
 t9:=Tryz.underlying9
 a9:=Tryz.isAgg9
 z9:=Tryz.sizeOf9
 v9:=Tryz.zeroValue9 }
open Go.RowKit in
theorem Tryz.strings_IndexByte (s:ByteArray) (c:Int) (w:World) :
  Calls Tryz.prog 315 #[.string s, .int .u8 c] w fun e w'=>e= .returned (.int .i64 (Lib.indexByte s.data.toList c.toNat.toUInt8))∧w'= w:=Any.strings_IndexByte Tryz.lays137 s c w
def Tryz.laysM171_ren:Go.Shelf.Ren:=⟨fun | 171=>318 | 243=>328 | 246=>332 | 283=>335 | 284=>336 | 285=>337 | 286=>338 | 129=>223 | 317=>339 | 318=>340 | 319=>341 | 320=>342 | 337=>343 | 338=>344 |n=>n, fun | 3=>3 | 9=>9 | 2=>2 | 4=>4 | 171=>413 | 0=>0 | 53=>138 | 37=>57 | 5=>5 | 173=>415 | 212=>418 | 51=>121 | 20=>20 | 213=>419 | 46=>202 | 232=>420 | 233=>421 |n=>n, fun | 17=>5 | 18=>6 | 19=>7 |n=>n⟩
theorem Tryz.laysM171:Go.Proofs.LaysM.n171 Tryz.prog Tryz.laysM171_ren:={
 mixed:=by kernel_rfl
 f129:=Tryz.func223.trans (congrArg some (by kernel_rfl))
 f171:=Tryz.func318.trans (congrArg some (by kernel_rfl))
 f243:=Tryz.func328.trans (congrArg some (by kernel_rfl))
 f246:=Tryz.func332.trans (congrArg some (by kernel_rfl))
 f283:=Tryz.func335.trans (congrArg some (by kernel_rfl))
 f284:=Tryz.func336.trans (congrArg some (by kernel_rfl))
 f285:=Tryz.func337.trans (congrArg some (by kernel_rfl))
 f286:=Tryz.func338.trans (congrArg some (by kernel_rfl))
 f317:=Tryz.func339.trans (congrArg some (by kernel_rfl))
 f318:=Tryz.func340.trans (congrArg some (by kernel_rfl))
 f319:=Tryz.func341.trans (congrArg some (by kernel_rfl))
 f320:=Tryz.func342.trans (congrArg some (by kernel_rfl))
 f337:=Tryz.func343.trans (congrArg some (by kernel_rfl))
 f338:=Tryz.func344.trans (congrArg some (by kernel_rfl))
 t0:=Tryz.underlying0
 a0:=Tryz.isAgg0
 z0:=Tryz.sizeOf0
 v0:=Tryz.zeroValue0
 t2:=Tryz.underlying2
 a2:=Tryz.isAgg2
 z2:=Tryz.sizeOf2
 v2:=Tryz.zeroValue2
 t3:=Tryz.underlying3
 a3:=Tryz.isAgg3
 z3:=Tryz.sizeOf3
 v3:=Tryz.zeroValue3
 t4:=Tryz.underlying4
 a4:=Tryz.isAgg4
 z4:=Tryz.sizeOf4
 v4:=Tryz.zeroValue4
 t5:=Tryz.underlying5
 a5:=Tryz.isAgg5
 z5:=Tryz.sizeOf5
 v5:=Tryz.zeroValue5
 t9:=Tryz.underlying9
 a9:=Tryz.isAgg9
 z9:=Tryz.sizeOf9
 v9:=Tryz.zeroValue9
 t20:=Tryz.underlying20
 a20:=Tryz.isAgg20
 z20:=Tryz.sizeOf20
 v20:=Tryz.zeroValue20
 t37:=Tryz.underlying57
 a37:=Tryz.isAgg57
 z37:=Tryz.sizeOf57
 v37:=Tryz.zeroValue57
 t46:=Tryz.underlying202
 a46:=Tryz.isAgg202
 z46:=Tryz.sizeOf202
 v46:=Tryz.zeroValue202
 t51:=Tryz.underlying121
 a51:=Tryz.isAgg121
 z51:=Tryz.sizeOf121
 v51:=Tryz.zeroValue121
 t53:=Tryz.underlying138
 a53:=Tryz.isAgg138
 z53:=Tryz.sizeOf138
 v53:=Tryz.zeroValue138
 t171:=Tryz.underlying413
 a171:=Tryz.isAgg413
 z171:=Tryz.sizeOf413
 v171:=Tryz.zeroValue413
 t173:=Tryz.underlying415
 a173:=Tryz.isAgg415
 z173:=Tryz.sizeOf415
 v173:=Tryz.zeroValue415
 t212:=Tryz.underlying418
 a212:=Tryz.isAgg418
 z212:=Tryz.sizeOf418
 v212:=Tryz.zeroValue418
 t213:=Tryz.underlying419
 a213:=Tryz.isAgg419
 z213:=Tryz.sizeOf419
 t232:=Tryz.underlying420
 a232:=Tryz.isAgg420
 z232:=Tryz.sizeOf420
 v232:=Tryz.zeroValue420
 t233:=Tryz.underlying421
 a233:=Tryz.isAgg421
 z233:=Tryz.sizeOf421
 v233:=Tryz.zeroValue421
 g17:=by kernel_rfl
 g18:=by kernel_rfl
 g19:=by kernel_rfl
 i0:=by kernel_rfl
 i2:=by kernel_rfl
 i3:=by kernel_rfl
 i4:=by kernel_rfl
 i5:=by kernel_rfl
 i9:=by kernel_rfl
 i20:=by kernel_rfl
 i37:=by kernel_rfl
 i46:=by kernel_rfl
 i51:=by kernel_rfl
 i53:=by kernel_rfl
 i171:=by kernel_rfl
 i173:=by kernel_rfl
 i212:=by kernel_rfl
 i232:=by kernel_rfl
 i233:=by kernel_rfl
 m17:=by kernel_rfl
 m18:=by kernel_rfl
 m19:=by kernel_rfl }
open Go.RowKit Go.Sort Go.Lib in
theorem Tryz.strconv_Itoa (n : Int) (h0 : -9223372036854775808 ≤ n) (h1 : n ≤ 9223372036854775807) (w : World) (htab : Lib.TabIs Tryz.prog w "internal/strconv.uint64pow10" .u64 Lib.pow10Tab) :
  Calls Tryz.prog 318 #[.int .i64 n] w fun e w'=>e= .returned (.string ⟨(Lib.itoa n).toArray⟩)∧∃ k os, w'= grow (w.drewN k) os:=Any.strconv_Itoa Tryz.laysM171 n h0 h1 w htab
def Tryz.laysC172_ren:Go.Shelf.Ren:=⟨fun | 172=>296 | 244=>316 | 245=>317 | 247=>323 | 279=>324 | 280=>325 | 281=>326 | 282=>327 | 287=>329 | 316=>330 | 171=>318 | 205=>331 | 321=>333 | 322=>334 | 243=>328 | 246=>332 | 283=>335 | 284=>336 | 285=>337 | 286=>338 | 129=>223 | 317=>339 | 318=>340 | 319=>341 | 320=>342 | 337=>343 | 338=>344 |n=>n, fun | 9=>9 | 3=>3 | 75=>372 | 76=>373 | 4=>4 | 5=>5 | 167=>392 | 37=>57 | 0=>0 | 85=>393 | 2=>2 | 168=>395 | 53=>138 | 175=>402 | 46=>202 | 210=>405 | 127=>409 | 145=>412 | 143=>410 | 21=>21 | 171=>413 | 173=>415 | 212=>418 | 51=>121 | 20=>20 | 213=>419 | 232=>420 | 233=>421 | 80=>422 |n=>n, fun | 15=>3 | 16=>4 | 17=>5 | 18=>6 | 19=>7 |n=>n⟩
theorem Tryz.laysC172:Go.Proofs.LaysC.n172 Tryz.prog Tryz.laysC172_ren:={
 mixed:=by kernel_rfl
 f129:=Tryz.func223.trans (congrArg some (by kernel_rfl))
 f171:=Tryz.func318.trans (congrArg some (by kernel_rfl))
 f172:=Tryz.func296.trans (congrArg some (by kernel_rfl))
 f205:=Tryz.func331.trans (congrArg some (by kernel_rfl))
 f243:=Tryz.func328.trans (congrArg some (by kernel_rfl))
 f244:=Tryz.func316.trans (congrArg some (by kernel_rfl))
 f245:=Tryz.func317.trans (congrArg some (by kernel_rfl))
 f246:=Tryz.func332.trans (congrArg some (by kernel_rfl))
 f247:=Tryz.func323.trans (congrArg some (by kernel_rfl))
 f279:=Tryz.func324.trans (congrArg some (by kernel_rfl))
 f280:=Tryz.func325.trans (congrArg some (by kernel_rfl))
 f281:=Tryz.func326.trans (congrArg some (by kernel_rfl))
 f282:=Tryz.func327.trans (congrArg some (by kernel_rfl))
 f283:=Tryz.func335.trans (congrArg some (by kernel_rfl))
 f284:=Tryz.func336.trans (congrArg some (by kernel_rfl))
 f285:=Tryz.func337.trans (congrArg some (by kernel_rfl))
 f286:=Tryz.func338.trans (congrArg some (by kernel_rfl))
 f287:=Tryz.func329.trans (congrArg some (by kernel_rfl))
 f316:=Tryz.func330.trans (congrArg some (by kernel_rfl))
 f317:=Tryz.func339.trans (congrArg some (by kernel_rfl))
 f318:=Tryz.func340.trans (congrArg some (by kernel_rfl))
 f319:=Tryz.func341.trans (congrArg some (by kernel_rfl))
 f320:=Tryz.func342.trans (congrArg some (by kernel_rfl))
 f321:=Tryz.func333.trans (congrArg some (by kernel_rfl))
 f322:=Tryz.func334.trans (congrArg some (by kernel_rfl))
 f337:=Tryz.func343.trans (congrArg some (by kernel_rfl))
 f338:=Tryz.func344.trans (congrArg some (by kernel_rfl))
 t0:=Tryz.underlying0
 a0:=Tryz.isAgg0
 z0:=Tryz.sizeOf0
 v0:=Tryz.zeroValue0
 t2:=Tryz.underlying2
 a2:=Tryz.isAgg2
 z2:=Tryz.sizeOf2
 v2:=Tryz.zeroValue2
 t3:=Tryz.underlying3
 a3:=Tryz.isAgg3
 z3:=Tryz.sizeOf3
 v3:=Tryz.zeroValue3
 t4:=Tryz.underlying4
 a4:=Tryz.isAgg4
 z4:=Tryz.sizeOf4
 v4:=Tryz.zeroValue4
 t5:=Tryz.underlying5
 a5:=Tryz.isAgg5
 z5:=Tryz.sizeOf5
 v5:=Tryz.zeroValue5
 t9:=Tryz.underlying9
 a9:=Tryz.isAgg9
 z9:=Tryz.sizeOf9
 v9:=Tryz.zeroValue9
 t20:=Tryz.underlying20
 a20:=Tryz.isAgg20
 z20:=Tryz.sizeOf20
 v20:=Tryz.zeroValue20
 t21:=Tryz.underlying21
 a21:=Tryz.isAgg21
 z21:=Tryz.sizeOf21
 v21:=Tryz.zeroValue21
 t37:=Tryz.underlying57
 a37:=Tryz.isAgg57
 z37:=Tryz.sizeOf57
 v37:=Tryz.zeroValue57
 t46:=Tryz.underlying202
 a46:=Tryz.isAgg202
 z46:=Tryz.sizeOf202
 v46:=Tryz.zeroValue202
 t51:=Tryz.underlying121
 a51:=Tryz.isAgg121
 z51:=Tryz.sizeOf121
 v51:=Tryz.zeroValue121
 t53:=Tryz.underlying138
 a53:=Tryz.isAgg138
 z53:=Tryz.sizeOf138
 v53:=Tryz.zeroValue138
 t75:=Tryz.underlying372
 a75:=Tryz.isAgg372
 z75:=Tryz.sizeOf372
 v75:=Tryz.zeroValue372
 t76:=Tryz.underlying373
 a76:=Tryz.isAgg373
 z76:=Tryz.sizeOf373
 v76:=Tryz.zeroValue373
 t85:=Tryz.underlying393
 a85:=Tryz.isAgg393
 z85:=Tryz.sizeOf393
 v85:=Tryz.zeroValue393
 t127:=Tryz.underlying409
 a127:=Tryz.isAgg409
 z127:=Tryz.sizeOf409
 v127:=Tryz.zeroValue409
 t143:=Tryz.underlying410
 a143:=Tryz.isAgg410
 z143:=Tryz.sizeOf410
 v143:=Tryz.zeroValue410
 t145:=Tryz.underlying412
 a145:=Tryz.isAgg412
 z145:=Tryz.sizeOf412
 v145:=Tryz.zeroValue412
 t167:=Tryz.underlying392
 a167:=Tryz.isAgg392
 z167:=Tryz.sizeOf392
 v167:=Tryz.zeroValue392
 t168:=Tryz.underlying395
 a168:=Tryz.isAgg395
 z168:=Tryz.sizeOf395
 v168:=Tryz.zeroValue395
 t171:=Tryz.underlying413
 a171:=Tryz.isAgg413
 z171:=Tryz.sizeOf413
 v171:=Tryz.zeroValue413
 t173:=Tryz.underlying415
 a173:=Tryz.isAgg415
 z173:=Tryz.sizeOf415
 v173:=Tryz.zeroValue415
 t175:=Tryz.underlying402
 a175:=Tryz.isAgg402
 z175:=Tryz.sizeOf402
 v175:=Tryz.zeroValue402
 t210:=Tryz.underlying405
 a210:=Tryz.isAgg405
 z210:=Tryz.sizeOf405
 v210:=Tryz.zeroValue405
 t212:=Tryz.underlying418
 a212:=Tryz.isAgg418
 z212:=Tryz.sizeOf418
 v212:=Tryz.zeroValue418
 t213:=Tryz.underlying419
 a213:=Tryz.isAgg419
 z213:=Tryz.sizeOf419
 t232:=Tryz.underlying420
 a232:=Tryz.isAgg420
 z232:=Tryz.sizeOf420
 v232:=Tryz.zeroValue420
 t233:=Tryz.underlying421
 a233:=Tryz.isAgg421
 z233:=Tryz.sizeOf421
 v233:=Tryz.zeroValue421
 g15:=by kernel_rfl
 g16:=by kernel_rfl
 g17:=by kernel_rfl
 g18:=by kernel_rfl
 g19:=by kernel_rfl
 t80:=Tryz.underlying422
 a80:=Tryz.isAgg422
 z80:=Tryz.sizeOf422
 v80:=Tryz.zeroValue422
 i0:=by kernel_rfl
 i2:=by kernel_rfl
 i3:=by kernel_rfl
 i4:=by kernel_rfl
 i5:=by kernel_rfl
 i9:=by kernel_rfl
 i20:=by kernel_rfl
 i21:=by kernel_rfl
 i37:=by kernel_rfl
 i46:=by kernel_rfl
 i51:=by kernel_rfl
 i53:=by kernel_rfl
 i75:=by kernel_rfl
 i76:=by kernel_rfl
 i80:=by kernel_rfl
 i85:=by kernel_rfl
 i127:=by kernel_rfl
 i143:=by kernel_rfl
 i145:=by kernel_rfl
 i167:=by kernel_rfl
 i168:=by kernel_rfl
 i171:=by kernel_rfl
 i173:=by kernel_rfl
 i175:=by kernel_rfl
 i210:=by kernel_rfl
 i212:=by kernel_rfl
 i232:=by kernel_rfl
 i233:=by kernel_rfl
 m15:=by kernel_rfl
 m16:=by kernel_rfl
 m17:=by kernel_rfl
 m18:=by kernel_rfl
 m19:=by kernel_rfl
 c0:=by kernel_rfl
 c2:=by kernel_rfl
 c3:=by kernel_rfl
 c4:=by kernel_rfl
 c5:=by kernel_rfl
 c9:=by kernel_rfl
 c20:=by kernel_rfl
 c21:=by kernel_rfl
 c37:=by kernel_rfl
 c46:=by kernel_rfl
 c51:=by kernel_rfl
 c53:=by kernel_rfl
 c75:=by kernel_rfl
 c76:=by kernel_rfl
 c80:=by kernel_rfl
 c85:=by kernel_rfl
 c127:=by kernel_rfl
 c143:=by kernel_rfl
 c145:=by kernel_rfl
 c167:=by kernel_rfl
 c168:=by kernel_rfl
 c171:=by kernel_rfl
 c173:=by kernel_rfl
 c175:=by kernel_rfl
 c210:=by kernel_rfl
 c212:=by kernel_rfl
 c213:=by kernel_rfl
 c232:=by kernel_rfl
 c233:=by kernel_rfl }
open Go.RowKit in
theorem Tryz.strconv_Atoi_ok (s:ByteArray) (hmax:s.size ≤ 9223372036854775806) (v:Int) (h:Lib.atoiAll s.data.toList= .ok v) (w:World) :
  Calls Tryz.prog 296 #[.string s] w fun e w'=>e= .returned (.tuple #[.int .i64 v, .nilIface])∧(w'= w ∨ ∃ t, w'= Lib.bytesWorld w 5 t):=Any.strconv_Atoi_ok Tryz.laysC172 s hmax v h w
open Go.RowKit in
theorem Tryz.strconv_Atoi_syntax_var (s : ByteArray) (hlim : s.size ≤ 281474976710656) (h0 : match Lib.atoiAll s.data.toList with | .ok _=>False | .range=>False | _=>True) (tp : TypeId) (p : Value) (w : World) (hvar : w.var? Tryz.prog "strconv.ErrSyntax" = some #[.iface tp p]) :
  Calls Tryz.prog 296 #[.string s] w fun e w'=>∃ N, e= .returned (.tuple #[.int .i64 0, .iface 395 (.pointer (some ⟨N, 0, none⟩))])∧w.heap.size ≤ N∧w'.heap[N]?= some (.cells #[.string ⟨#[65, 116, 111, 105]⟩, .string s, .iface tp p] 405 (0, 0))∧Below w.heap.size w w':=by
 cases h:Lib.atoiAll s.data.toList
 case ok v=>rw [h] at h0; exact h0.elim
 case range=>rw [h] at h0; exact h0.elim
 exact Any.strconv_Atoi_syntax_var Tryz.laysC172 s hlim h tp p w hvar
open Go.RowKit in
theorem Tryz.strconv_Atoi_range_var (s : ByteArray) (hlim : s.size ≤ 281474976710656) (h : Lib.atoiAll s.data.toList = .range) (tp : TypeId) (p : Value) (w : World) (hvar : w.var? Tryz.prog "strconv.ErrRange" = some #[.iface tp p]) :
  Calls Tryz.prog 296 #[.string s] w fun e w'=>∃ N, e= .returned (.tuple #[.int .i64 (Lib.atoiSat s.data.toList), .iface 395 (.pointer (some ⟨N, 0, none⟩))])∧w.heap.size ≤ N∧w'.heap[N]?= some (.cells #[.string ⟨#[65, 116, 111, 105]⟩, .string s, .iface tp p] 405 (0, 0))∧Below w.heap.size w w':=Any.strconv_Atoi_range_var Tryz.laysC172 s hlim h tp p w hvar
def Tryz.lays145_ren:Go.Shelf.Ren:=⟨fun | 145=>185 | 220=>231 | 219=>266 | 217=>288 | 225=>289 | 224=>290 | 267=>291 | 266=>310 | 314=>311 |n=>n, fun | 9=>9 | 4=>4 | 59=>278 | 3=>3 | 5=>5 | 46=>202 | 146=>270 | 51=>121 |n=>n, fun | 1=>0 |n=>n⟩
theorem Tryz.lays145:Go.Proofs.Lays.n145 Tryz.prog Tryz.lays145_ren:={
 mixed:=by kernel_rfl
 f145:=Tryz.func185.trans (congrArg some (by kernel_rfl))
 f217:=Tryz.func288.trans (congrArg some (by kernel_rfl))
 f219:=Tryz.func266.trans (congrArg some (by kernel_rfl))
 f220:=Tryz.func231.trans (congrArg some (by kernel_rfl))
 f224:=Tryz.func290.trans (congrArg some (by kernel_rfl))
 f225:=Tryz.func289.trans (congrArg some (by kernel_rfl))
 f266:=Tryz.func310.trans (congrArg some (by kernel_rfl))
 f267:=Tryz.func291.trans (congrArg some (by kernel_rfl))
 f314:=Tryz.func311.trans (congrArg some (by kernel_rfl))
 t3:=Tryz.underlying3
 a3:=Tryz.isAgg3
 z3:=Tryz.sizeOf3
 v3:=Tryz.zeroValue3
 t4:=Tryz.underlying4
 a4:=Tryz.isAgg4
 z4:=Tryz.sizeOf4
 v4:=Tryz.zeroValue4
 t5:=Tryz.underlying5
 a5:=Tryz.isAgg5
 z5:=Tryz.sizeOf5
 v5:=Tryz.zeroValue5
 t9:=Tryz.underlying9
 a9:=Tryz.isAgg9
 z9:=Tryz.sizeOf9
 v9:=Tryz.zeroValue9
 t46:=Tryz.underlying202
 a46:=Tryz.isAgg202
 z46:=Tryz.sizeOf202
 v46:=Tryz.zeroValue202
 t51:=Tryz.underlying121
 a51:=Tryz.isAgg121
 z51:=Tryz.sizeOf121
 v51:=Tryz.zeroValue121
 t59:=Tryz.underlying278
 a59:=Tryz.isAgg278
 z59:=Tryz.sizeOf278
 v59:=Tryz.zeroValue278
 t146:=Tryz.underlying270
 a146:=Tryz.isAgg270
 z146:=Tryz.sizeOf270
 v146:=Tryz.zeroValue270
 g1:=by kernel_rfl }
open Go.RowKit Go.Lib in
theorem Tryz.strings_Cut (s sep:ByteArray) (m:Int) (w:World) (hs:s.size < 4294967281) (hm:w.cell? ⟨0, 0, none⟩= some (.int .i64 m)) :
  Calls Tryz.prog 185 #[.string s, .string sep] w fun e w'=>e= .returned (.tuple #[.string ⟨(Lib.cut s.data.toList sep.data.toList).1.toArray⟩, .string ⟨(Lib.cut s.data.toList sep.data.toList).2.1.toArray⟩, .bool (Lib.cut s.data.toList sep.data.toList).2.2])∧∃ n, w'= w.drewN n:=Any.strings_Cut Tryz.lays145 s sep m w hs hm
def Tryz.laysM145_ren:Go.Shelf.Ren:=⟨fun | 145=>185 | 220=>231 | 219=>266 | 217=>288 | 225=>289 | 224=>290 | 267=>291 | 266=>310 | 314=>311 |n=>n, fun | 9=>9 | 4=>4 | 59=>278 | 3=>3 | 5=>5 | 46=>202 | 146=>270 | 51=>121 |n=>n, fun | 1=>0 |n=>n⟩
theorem Tryz.laysM145:Go.Proofs.LaysM.n145 Tryz.prog Tryz.laysM145_ren:={
 mixed:=by kernel_rfl
 f145:=Tryz.func185.trans (congrArg some (by kernel_rfl))
 f217:=Tryz.func288.trans (congrArg some (by kernel_rfl))
 f219:=Tryz.func266.trans (congrArg some (by kernel_rfl))
 f220:=Tryz.func231.trans (congrArg some (by kernel_rfl))
 f224:=Tryz.func290.trans (congrArg some (by kernel_rfl))
 f225:=Tryz.func289.trans (congrArg some (by kernel_rfl))
 f266:=Tryz.func310.trans (congrArg some (by kernel_rfl))
 f267:=Tryz.func291.trans (congrArg some (by kernel_rfl))
 f314:=Tryz.func311.trans (congrArg some (by kernel_rfl))
 t3:=Tryz.underlying3
 a3:=Tryz.isAgg3
 z3:=Tryz.sizeOf3
 v3:=Tryz.zeroValue3
 t4:=Tryz.underlying4
 a4:=Tryz.isAgg4
 z4:=Tryz.sizeOf4
 v4:=Tryz.zeroValue4
 t5:=Tryz.underlying5
 a5:=Tryz.isAgg5
 z5:=Tryz.sizeOf5
 v5:=Tryz.zeroValue5
 t9:=Tryz.underlying9
 a9:=Tryz.isAgg9
 z9:=Tryz.sizeOf9
 v9:=Tryz.zeroValue9
 t46:=Tryz.underlying202
 a46:=Tryz.isAgg202
 z46:=Tryz.sizeOf202
 v46:=Tryz.zeroValue202
 t51:=Tryz.underlying121
 a51:=Tryz.isAgg121
 z51:=Tryz.sizeOf121
 v51:=Tryz.zeroValue121
 t59:=Tryz.underlying278
 a59:=Tryz.isAgg278
 z59:=Tryz.sizeOf278
 v59:=Tryz.zeroValue278
 t146:=Tryz.underlying270
 a146:=Tryz.isAgg270
 z146:=Tryz.sizeOf270
 v146:=Tryz.zeroValue270
 g1:=by kernel_rfl
 i3:=by kernel_rfl
 i4:=by kernel_rfl
 i5:=by kernel_rfl
 i9:=by kernel_rfl
 i46:=by kernel_rfl
 i51:=by kernel_rfl
 i59:=by kernel_rfl
 i146:=by kernel_rfl
 m1:=by kernel_rfl
 s1_3:=fun w h=>Go.Proofs.cell_of_shapedOpen_int (zero:=#[.int .i64 0]) (t:=3) h (of_decide_eq_true (by kernel_rfl)) (by kernel_rfl) rfl (by kernel_rfl) (by kernel_rfl) Tryz.underlying3 }
def Tryz.lays146_ren:Go.Shelf.Ren:=⟨fun | 146=>232 | 221=>267 | 268=>292 | 138=>293 | 143=>294 | 195=>312 | 197=>313 | 218=>314 | 219=>266 | 260=>322 | 217=>288 | 225=>289 | 224=>290 | 267=>291 | 266=>310 | 314=>311 |n=>n, fun | 9=>9 | 31=>32 | 3=>3 | 4=>4 | 0=>0 | 105=>383 | 21=>21 | 5=>5 | 46=>202 | 119=>398 | 139=>401 | 138=>400 | 146=>270 | 51=>121 |n=>n, fun | 1=>0 | 3=>1 | 4=>2 |n=>n⟩
theorem Tryz.lays146:Go.Proofs.Lays.n146 Tryz.prog Tryz.lays146_ren:={
 mixed:=by kernel_rfl
 f138:=Tryz.func293.trans (congrArg some (by kernel_rfl))
 f143:=Tryz.func294.trans (congrArg some (by kernel_rfl))
 f146:=Tryz.func232.trans (congrArg some (by kernel_rfl))
 f195:=Tryz.func312.trans (congrArg some (by kernel_rfl))
 f197:=Tryz.func313.trans (congrArg some (by kernel_rfl))
 f217:=Tryz.func288.trans (congrArg some (by kernel_rfl))
 f218:=Tryz.func314.trans (congrArg some (by kernel_rfl))
 f219:=Tryz.func266.trans (congrArg some (by kernel_rfl))
 f221:=Tryz.func267.trans (congrArg some (by kernel_rfl))
 f224:=Tryz.func290.trans (congrArg some (by kernel_rfl))
 f225:=Tryz.func289.trans (congrArg some (by kernel_rfl))
 f260:=Tryz.func322.trans (congrArg some (by kernel_rfl))
 f266:=Tryz.func310.trans (congrArg some (by kernel_rfl))
 f267:=Tryz.func291.trans (congrArg some (by kernel_rfl))
 f268:=Tryz.func292.trans (congrArg some (by kernel_rfl))
 f314:=Tryz.func311.trans (congrArg some (by kernel_rfl))
 t0:=Tryz.underlying0
 a0:=Tryz.isAgg0
 z0:=Tryz.sizeOf0
 v0:=Tryz.zeroValue0
 t3:=Tryz.underlying3
 a3:=Tryz.isAgg3
 z3:=Tryz.sizeOf3
 v3:=Tryz.zeroValue3
 t4:=Tryz.underlying4
 a4:=Tryz.isAgg4
 z4:=Tryz.sizeOf4
 v4:=Tryz.zeroValue4
 t5:=Tryz.underlying5
 a5:=Tryz.isAgg5
 z5:=Tryz.sizeOf5
 v5:=Tryz.zeroValue5
 t9:=Tryz.underlying9
 a9:=Tryz.isAgg9
 z9:=Tryz.sizeOf9
 v9:=Tryz.zeroValue9
 t21:=Tryz.underlying21
 a21:=Tryz.isAgg21
 z21:=Tryz.sizeOf21
 v21:=Tryz.zeroValue21
 t31:=Tryz.underlying32
 a31:=Tryz.isAgg32
 z31:=Tryz.sizeOf32
 v31:=Tryz.zeroValue32
 t46:=Tryz.underlying202
 a46:=Tryz.isAgg202
 z46:=Tryz.sizeOf202
 v46:=Tryz.zeroValue202
 t51:=Tryz.underlying121
 a51:=Tryz.isAgg121
 z51:=Tryz.sizeOf121
 v51:=Tryz.zeroValue121
 t105:=Tryz.underlying383
 a105:=Tryz.isAgg383
 z105:=Tryz.sizeOf383
 v105:=Tryz.zeroValue383
 t119:=Tryz.underlying398
 a119:=Tryz.isAgg398
 z119:=Tryz.sizeOf398
 t138:=Tryz.underlying400
 a138:=Tryz.isAgg400
 z138:=Tryz.sizeOf400
 v138:=Tryz.zeroValue400
 t139:=Tryz.underlying401
 a139:=Tryz.isAgg401
 z139:=Tryz.sizeOf401
 v139:=Tryz.zeroValue401
 t146:=Tryz.underlying270
 a146:=Tryz.isAgg270
 z146:=Tryz.sizeOf270
 v146:=Tryz.zeroValue270
 g1:=by kernel_rfl
 g3:=by kernel_rfl
 g4:=by kernel_rfl }
open Go.RowKit Go.Lib in
theorem Tryz.strings_Split (s sep:ByteArray) (m:Int) (w:World) (hs:s.size < 4294967281) (hm:w.cell? ⟨0, 0, none⟩= some (.int .i64 m)) (h1:1 ≤ sep.size) :
  Calls Tryz.prog 232 #[.string s, .string sep] w fun e w' =>
  e= .returned (.slice (some ⟨w.heap.size, 0, none⟩) (Lib.countB s sep + 1) (Lib.countB s sep + 1))∧w'= w.alloc (.cells ((Lib.splitB sep 0 (Lib.countB s sep) s).map Value.string).toArray 9):=Any.strings_Split Tryz.lays146 (by kernel_rfl) s sep m w hs hm h1
end Go.Proofs
