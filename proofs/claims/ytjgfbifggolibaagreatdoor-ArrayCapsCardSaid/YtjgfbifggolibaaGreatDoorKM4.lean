/- Texts SH X0 A1 A2 A3 A4 A5 A6 SQ A7 A8 A9 X1 C1 A10 A11 C2 D1 C3 C4, as far as they are used. Conditions: each lemma's own. -/
import Derived.Test.YtjgfbifggolibaaGreatDoorKM3
import Derived.Shelf.Strings.Builder1
import Derived.Shelf.Strings.Builder2
import Derived.Shelf.Strings.OnBuilder
import Derived.Shelf.Strings.BuilderF
import Derived.Shelf.Strings.BuilderK
import Derived.Shelf.Utf8.RuneCount
import Derived.Shelf.Strings.Builder2Cap
import Derived.Shelf.Strconv.Atoi
import Derived.Shelf.Strconv.Itoa0
import Derived.Shelf.Strconv.Itoa1
import Derived.Shelf.LaysM
import Derived.Shelf.Strconv.Itoa2
import Derived.Shelf.Strconv.Itoa3
import Derived.Shelf.Strconv.AtoiErrFast
import Derived.Shelf.Strconv.ParseIntEmpty
import Derived.Shelf.Strconv.AtoiFail
import Derived.Shelf.Strconv.Clone
import Derived.Shelf.Strconv.SyntaxError
import Derived.Shelf.LaysC
import Derived.Shelf.Strconv.ToError
import Derived.Shelf.Strconv.Lower
import Derived.Shelf.Strconv.ParseUint10
import Derived.Shelf.Strconv.ParseUint10Empty
import Derived.Shelf.Strconv.ParseUint10Any
import Derived.Shelf.Strconv.ParseInt10
import Derived.Shelf.Strconv.AtoiLong
import Derived.Shelf.Strconv.AtoiInnerAll
import Derived.Shelf.Strconv.RangeError
import Derived.Shelf.Strconv.ToErrorRange
import Derived.Shelf.Strconv.AtoiAll
import Derived.Shelf.Strconv.ParseUintEmpty
import Derived.Shelf.Strconv.ParseUint10b64
import Derived.Shelf.Strconv.ParseUint10b32
import Derived.Shelf.Strconv.ParseUint10b16
import Derived.Shelf.Strconv.ParseUint10b8
import Derived.Shelf.Strings.Search1
import Derived.Shelf.Strings.Search2
import Derived.Shelf.Strings.Search3
import Derived.Shelf.Strings.Cut
import Derived.Shelf.Strings.Count
import Derived.Shelf.Strings.Shaped
import Derived.Shelf.Strings.Prefix
import Derived.Shelf.Strings.Split
import Derived.Shelf.Strings.SplitShaped
import Derived.Shelf.Unicode.Decode
import Derived.Shelf.Strings.RuneCount
import Derived.Shelf.Strings.Explode
import Derived.Shelf.Unicode.DecodeSlow
import Derived.Shelf.Unicode.DecodeAny
import Derived.Shelf.Slices.Turned
import Derived.Ground.Names2Prog
import Derived.Shelf.Slices.Clone
import Derived.Ground.SlgnProg
import Derived.Shelf.SlicesE.Clone
import Derived.Test.YtjgfbifggolibaaGreatDoorProg
import Derived.Lib.AtoiAll
import Derived.Lib.ItoaNum
import Derived.Lib.Split
import Derived.Lib.CutLaws
import GoSem.Extern.MathFloatBits
import GoSem.Extern.MathSqrt
import Derived.ChangeKeysEq
import Derived.Laws.FloatArith
import Derived.Laws.Cover2
import Derived.WalkKit
import Derived.Deep.QuietTactic
import Derived.BigQuiet
import Derived.StillTail
namespace Go.Proofs
open Go.Shelf
def Tryz.lays156_ren:Go.Shelf.Ren:=⟨fun|156=>126|165=>154|166=>155|169=>156|240=>169|241=>170|276=>185|277=>186|n=>n,fun|31=>176|9=>9|3=>3|4=>4|0=>0|20=>20|72=>212|76=>216|70=>209|37=>210|75=>215|127=>230|164=>241|5=>5|80=>218|n=>n,fun|n=>n⟩
theorem Tryz.lays156:Go.Proofs.Lays.n156 Tryz.prog Tryz.lays156_ren:={
  mixed:=by kernel_rfl
  f156:=Tryz.func126.trans (congrArg some (by kernel_rfl))
  f165:=Tryz.func154.trans (congrArg some (by kernel_rfl))
  f166:=Tryz.func155.trans (congrArg some (by kernel_rfl))
  f169:=Tryz.func156.trans (congrArg some (by kernel_rfl))
  f240:=Tryz.func169.trans (congrArg some (by kernel_rfl))
  f241:=Tryz.func170.trans (congrArg some (by kernel_rfl))
  f276:=Tryz.func185.trans (congrArg some (by kernel_rfl))
  f277:=Tryz.func186.trans (congrArg some (by kernel_rfl))
  t0:=Tryz.underlying0
  a0:=Tryz.isAgg0
  z0:=Tryz.sizeOf0
  v0:=Tryz.zeroValue0
  t3:=Tryz.underlying3
  a3:=Tryz.isAgg3
  z3:=Tryz.sizeOf3
  v3:=Tryz.zeroValue3
  t4:=Tryz.underlying4
  a4:=Tryz.isAgg4
  z4:=Tryz.sizeOf4
  v4:=Tryz.zeroValue4
  t9:=Tryz.underlying9
  a9:=Tryz.isAgg9
  z9:=Tryz.sizeOf9
  v9:=Tryz.zeroValue9
  t20:=Tryz.underlying20
  a20:=Tryz.isAgg20
  z20:=Tryz.sizeOf20
  v20:=Tryz.zeroValue20
  t31:=Tryz.underlying176
  a31:=Tryz.isAgg176
  z31:=Tryz.sizeOf176
  v31:=Tryz.zeroValue176
  t37:=Tryz.underlying210
  a37:=Tryz.isAgg210
  z37:=Tryz.sizeOf210
  v37:=Tryz.zeroValue210
  t70:=Tryz.underlying209
  a70:=Tryz.isAgg209
  z70:=Tryz.sizeOf209
  v70:=Tryz.zeroValue209
  t72:=Tryz.underlying212
  a72:=Tryz.isAgg212
  z72:=Tryz.sizeOf212
  v72:=Tryz.zeroValue212
  t75:=Tryz.underlying215
  a75:=Tryz.isAgg215
  z75:=Tryz.sizeOf215
  v75:=Tryz.zeroValue215
  t76:=Tryz.underlying216
  a76:=Tryz.isAgg216
  z76:=Tryz.sizeOf216
  v76:=Tryz.zeroValue216
  t127:=Tryz.underlying230
  a127:=Tryz.isAgg230
  z127:=Tryz.sizeOf230
  v127:=Tryz.zeroValue230
  t164:=Tryz.underlying241
  a164:=Tryz.isAgg241
  z164:=Tryz.sizeOf241
  v164:=Tryz.zeroValue241}
theorem Tryz.Builder_Extra_156:Builder.Extra Tryz.prog Tryz.lays156_ren:={
  sizeBuilder:=by kernel_rfl
  liesBuilder:=by kernel_rfl
  t5:=Tryz.underlying5
  a5:=Tryz.isAgg5
  z5:=Tryz.sizeOf5
  v5:=Tryz.zeroValue5
  infoByte:=by kernel_rfl
  cellsByte:=by kernel_rfl
  sizeByte:=by kernel_rfl
  neB5:=by decide}
open Go.RowKit in
theorem Tryz.strings_Join_none (a:Option Addr) (c:Nat) (sep:ByteArray) (w:World) :
    Calls Tryz.prog 126 #[.slice a 0 c,.string sep] w fun e w'=>e=.returned (.string ⟨#[]⟩)∧w'=w:=Any.strings_Join_none Tryz.lays156 Tryz.Builder_Extra_156 a c sep w
open Go.RowKit in
theorem Tryz.strings_Join (bk o c:Nat) (xs:List ByteArray) (sep:ByteArray) (w:World) (hcells:∀(j:Nat) x,xs[j]?=some x→w.cell? ⟨bk,o+j,none⟩=some (.string x)) (hbk:bk<w.heap.size) (hN:xs.length≤140737488355328) (hcap:xs.length≤c) (hlen:(Lib.join (xs.map (·.data.toList)) sep.data.toList).length≤140737488355328) :
    Calls Tryz.prog 126 #[.slice (some ⟨bk,o,none⟩) xs.length c,.string sep] w fun e w'=>e=.returned (.string ⟨(Lib.join (xs.map (·.data.toList)) sep.data.toList).toArray⟩)∧Below w.heap.size w w':=Any.strings_Join Tryz.lays156 Tryz.Builder_Extra_156 bk o c xs sep w hcells hbk hN hcap hlen
def Tryz.laysM171_ren:Go.Shelf.Ren:=⟨fun|171=>125|243=>153|246=>168|283=>181|284=>182|285=>183|286=>184|129=>202|317=>201|318=>203|319=>204|320=>205|337=>212|338=>213|n=>n,fun|3=>3|9=>9|2=>2|4=>4|171=>236|0=>0|53=>164|37=>210|5=>5|173=>239|212=>257|51=>258|20=>20|213=>259|46=>248|232=>279|233=>280|n=>n,fun|17=>2|18=>7|19=>8|n=>n⟩
theorem Tryz.laysM171:Go.Proofs.LaysM.n171 Tryz.prog Tryz.laysM171_ren:={
  mixed:=by kernel_rfl
  f129:=Tryz.func202.trans (congrArg some (by kernel_rfl))
  f171:=Tryz.func125.trans (congrArg some (by kernel_rfl))
  f243:=Tryz.func153.trans (congrArg some (by kernel_rfl))
  f246:=Tryz.func168.trans (congrArg some (by kernel_rfl))
  f283:=Tryz.func181.trans (congrArg some (by kernel_rfl))
  f284:=Tryz.func182.trans (congrArg some (by kernel_rfl))
  f285:=Tryz.func183.trans (congrArg some (by kernel_rfl))
  f286:=Tryz.func184.trans (congrArg some (by kernel_rfl))
  f317:=Tryz.func201.trans (congrArg some (by kernel_rfl))
  f318:=Tryz.func203.trans (congrArg some (by kernel_rfl))
  f319:=Tryz.func204.trans (congrArg some (by kernel_rfl))
  f320:=Tryz.func205.trans (congrArg some (by kernel_rfl))
  f337:=Tryz.func212.trans (congrArg some (by kernel_rfl))
  f338:=Tryz.func213.trans (congrArg some (by kernel_rfl))
  t0:=Tryz.underlying0
  a0:=Tryz.isAgg0
  z0:=Tryz.sizeOf0
  v0:=Tryz.zeroValue0
  t2:=Tryz.underlying2
  a2:=Tryz.isAgg2
  z2:=Tryz.sizeOf2
  v2:=Tryz.zeroValue2
  t3:=Tryz.underlying3
  a3:=Tryz.isAgg3
  z3:=Tryz.sizeOf3
  v3:=Tryz.zeroValue3
  t4:=Tryz.underlying4
  a4:=Tryz.isAgg4
  z4:=Tryz.sizeOf4
  v4:=Tryz.zeroValue4
  t5:=Tryz.underlying5
  a5:=Tryz.isAgg5
  z5:=Tryz.sizeOf5
  v5:=Tryz.zeroValue5
  t9:=Tryz.underlying9
  a9:=Tryz.isAgg9
  z9:=Tryz.sizeOf9
  v9:=Tryz.zeroValue9
  t20:=Tryz.underlying20
  a20:=Tryz.isAgg20
  z20:=Tryz.sizeOf20
  v20:=Tryz.zeroValue20
  t37:=Tryz.underlying210
  a37:=Tryz.isAgg210
  z37:=Tryz.sizeOf210
  v37:=Tryz.zeroValue210
  t46:=Tryz.underlying248
  a46:=Tryz.isAgg248
  z46:=Tryz.sizeOf248
  v46:=Tryz.zeroValue248
  t51:=Tryz.underlying258
  a51:=Tryz.isAgg258
  z51:=Tryz.sizeOf258
  v51:=Tryz.zeroValue258
  t53:=Tryz.underlying164
  a53:=Tryz.isAgg164
  z53:=Tryz.sizeOf164
  v53:=Tryz.zeroValue164
  t171:=Tryz.underlying236
  a171:=Tryz.isAgg236
  z171:=Tryz.sizeOf236
  v171:=Tryz.zeroValue236
  t173:=Tryz.underlying239
  a173:=Tryz.isAgg239
  z173:=Tryz.sizeOf239
  v173:=Tryz.zeroValue239
  t212:=Tryz.underlying257
  a212:=Tryz.isAgg257
  z212:=Tryz.sizeOf257
  v212:=Tryz.zeroValue257
  t213:=Tryz.underlying259
  a213:=Tryz.isAgg259
  z213:=Tryz.sizeOf259
  t232:=Tryz.underlying279
  a232:=Tryz.isAgg279
  z232:=Tryz.sizeOf279
  v232:=Tryz.zeroValue279
  t233:=Tryz.underlying280
  a233:=Tryz.isAgg280
  z233:=Tryz.sizeOf280
  v233:=Tryz.zeroValue280
  g17:=by kernel_rfl
  g18:=by kernel_rfl
  g19:=by kernel_rfl
  i0:=by kernel_rfl
  i2:=by kernel_rfl
  i3:=by kernel_rfl
  i4:=by kernel_rfl
  i5:=by kernel_rfl
  i9:=by kernel_rfl
  i20:=by kernel_rfl
  i37:=by kernel_rfl
  i46:=by kernel_rfl
  i51:=by kernel_rfl
  i53:=by kernel_rfl
  i171:=by kernel_rfl
  i173:=by kernel_rfl
  i212:=by kernel_rfl
  i232:=by kernel_rfl
  i233:=by kernel_rfl
  m17:=by kernel_rfl
  m18:=by kernel_rfl
  m19:=by kernel_rfl}
def Tryz.laysC172_ren:Go.Shelf.Ren:=⟨fun|172=>159|244=>175|245=>176|247=>194|279=>195|280=>196|281=>197|282=>198|287=>209|316=>210|171=>125|205=>211|321=>214|322=>215|243=>153|246=>168|283=>181|284=>182|285=>183|286=>184|129=>202|317=>201|318=>203|319=>204|320=>205|337=>212|338=>213|n=>n,fun|9=>9|3=>3|75=>215|76=>216|4=>4|5=>5|167=>249|37=>210|0=>0|85=>250|2=>2|168=>252|53=>164|175=>263|46=>248|210=>267|127=>230|145=>278|143=>276|21=>21|171=>236|173=>239|212=>257|51=>258|20=>20|213=>259|232=>279|233=>280|80=>218|n=>n,fun|15=>3|16=>4|17=>2|18=>7|19=>8|n=>n⟩
theorem Tryz.laysC172:Go.Proofs.LaysC.n172 Tryz.prog Tryz.laysC172_ren:={
  mixed:=by kernel_rfl
  f129:=Tryz.func202.trans (congrArg some (by kernel_rfl))
  f171:=Tryz.func125.trans (congrArg some (by kernel_rfl))
  f172:=Tryz.func159.trans (congrArg some (by kernel_rfl))
  f205:=Tryz.func211.trans (congrArg some (by kernel_rfl))
  f243:=Tryz.func153.trans (congrArg some (by kernel_rfl))
  f244:=Tryz.func175.trans (congrArg some (by kernel_rfl))
  f245:=Tryz.func176.trans (congrArg some (by kernel_rfl))
  f246:=Tryz.func168.trans (congrArg some (by kernel_rfl))
  f247:=Tryz.func194.trans (congrArg some (by kernel_rfl))
  f279:=Tryz.func195.trans (congrArg some (by kernel_rfl))
  f280:=Tryz.func196.trans (congrArg some (by kernel_rfl))
  f281:=Tryz.func197.trans (congrArg some (by kernel_rfl))
  f282:=Tryz.func198.trans (congrArg some (by kernel_rfl))
  f283:=Tryz.func181.trans (congrArg some (by kernel_rfl))
  f284:=Tryz.func182.trans (congrArg some (by kernel_rfl))
  f285:=Tryz.func183.trans (congrArg some (by kernel_rfl))
  f286:=Tryz.func184.trans (congrArg some (by kernel_rfl))
  f287:=Tryz.func209.trans (congrArg some (by kernel_rfl))
  f316:=Tryz.func210.trans (congrArg some (by kernel_rfl))
  f317:=Tryz.func201.trans (congrArg some (by kernel_rfl))
  f318:=Tryz.func203.trans (congrArg some (by kernel_rfl))
  f319:=Tryz.func204.trans (congrArg some (by kernel_rfl))
  f320:=Tryz.func205.trans (congrArg some (by kernel_rfl))
  f321:=Tryz.func214.trans (congrArg some (by kernel_rfl))
  f322:=Tryz.func215.trans (congrArg some (by kernel_rfl))
  f337:=Tryz.func212.trans (congrArg some (by kernel_rfl))
  f338:=Tryz.func213.trans (congrArg some (by kernel_rfl))
  t0:=Tryz.underlying0
  a0:=Tryz.isAgg0
  z0:=Tryz.sizeOf0
  v0:=Tryz.zeroValue0
  t2:=Tryz.underlying2
  a2:=Tryz.isAgg2
  z2:=Tryz.sizeOf2
  v2:=Tryz.zeroValue2
  t3:=Tryz.underlying3
  a3:=Tryz.isAgg3
  z3:=Tryz.sizeOf3
  v3:=Tryz.zeroValue3
  t4:=Tryz.underlying4
  a4:=Tryz.isAgg4
  z4:=Tryz.sizeOf4
  v4:=Tryz.zeroValue4
  t5:=Tryz.underlying5
  a5:=Tryz.isAgg5
  z5:=Tryz.sizeOf5
  v5:=Tryz.zeroValue5
  t9:=Tryz.underlying9
  a9:=Tryz.isAgg9
  z9:=Tryz.sizeOf9
  v9:=Tryz.zeroValue9
  t20:=Tryz.underlying20
  a20:=Tryz.isAgg20
  z20:=Tryz.sizeOf20
  v20:=Tryz.zeroValue20
  t21:=Tryz.underlying21
  a21:=Tryz.isAgg21
  z21:=Tryz.sizeOf21
  v21:=Tryz.zeroValue21
  t37:=Tryz.underlying210
  a37:=Tryz.isAgg210
  z37:=Tryz.sizeOf210
  v37:=Tryz.zeroValue210
  t46:=Tryz.underlying248
  a46:=Tryz.isAgg248
  z46:=Tryz.sizeOf248
  v46:=Tryz.zeroValue248
  t51:=Tryz.underlying258
  a51:=Tryz.isAgg258
  z51:=Tryz.sizeOf258
  v51:=Tryz.zeroValue258
  t53:=Tryz.underlying164
  a53:=Tryz.isAgg164
  z53:=Tryz.sizeOf164
  v53:=Tryz.zeroValue164
  t75:=Tryz.underlying215
  a75:=Tryz.isAgg215
  z75:=Tryz.sizeOf215
  v75:=Tryz.zeroValue215
  t76:=Tryz.underlying216
  a76:=Tryz.isAgg216
  z76:=Tryz.sizeOf216
  v76:=Tryz.zeroValue216
  t85:=Tryz.underlying250
  a85:=Tryz.isAgg250
  z85:=Tryz.sizeOf250
  v85:=Tryz.zeroValue250
  t127:=Tryz.underlying230
  a127:=Tryz.isAgg230
  z127:=Tryz.sizeOf230
  v127:=Tryz.zeroValue230
  t143:=Tryz.underlying276
  a143:=Tryz.isAgg276
  z143:=Tryz.sizeOf276
  v143:=Tryz.zeroValue276
  t145:=Tryz.underlying278
  a145:=Tryz.isAgg278
  z145:=Tryz.sizeOf278
  v145:=Tryz.zeroValue278
  t167:=Tryz.underlying249
  a167:=Tryz.isAgg249
  z167:=Tryz.sizeOf249
  v167:=Tryz.zeroValue249
  t168:=Tryz.underlying252
  a168:=Tryz.isAgg252
  z168:=Tryz.sizeOf252
  v168:=Tryz.zeroValue252
  t171:=Tryz.underlying236
  a171:=Tryz.isAgg236
  z171:=Tryz.sizeOf236
  v171:=Tryz.zeroValue236
  t173:=Tryz.underlying239
  a173:=Tryz.isAgg239
  z173:=Tryz.sizeOf239
  v173:=Tryz.zeroValue239
  t175:=Tryz.underlying263
  a175:=Tryz.isAgg263
  z175:=Tryz.sizeOf263
  v175:=Tryz.zeroValue263
  t210:=Tryz.underlying267
  a210:=Tryz.isAgg267
  z210:=Tryz.sizeOf267
  v210:=Tryz.zeroValue267
  t212:=Tryz.underlying257
  a212:=Tryz.isAgg257
  z212:=Tryz.sizeOf257
  v212:=Tryz.zeroValue257
  t213:=Tryz.underlying259
  a213:=Tryz.isAgg259
  z213:=Tryz.sizeOf259
  t232:=Tryz.underlying279
  a232:=Tryz.isAgg279
  z232:=Tryz.sizeOf279
  v232:=Tryz.zeroValue279
  t233:=Tryz.underlying280
  a233:=Tryz.isAgg280
  z233:=Tryz.sizeOf280
  v233:=Tryz.zeroValue280
  g15:=by kernel_rfl
  g16:=by kernel_rfl
  g17:=by kernel_rfl
  g18:=by kernel_rfl
  g19:=by kernel_rfl
  t80:=Tryz.underlying218
  a80:=Tryz.isAgg218
  z80:=Tryz.sizeOf218
  v80:=Tryz.zeroValue218
  i0:=by kernel_rfl
  i2:=by kernel_rfl
  i3:=by kernel_rfl
  i4:=by kernel_rfl
  i5:=by kernel_rfl
  i9:=by kernel_rfl
  i20:=by kernel_rfl
  i21:=by kernel_rfl
  i37:=by kernel_rfl
  i46:=by kernel_rfl
  i51:=by kernel_rfl
  i53:=by kernel_rfl
  i75:=by kernel_rfl
  i76:=by kernel_rfl
  i80:=by kernel_rfl
  i85:=by kernel_rfl
  i127:=by kernel_rfl
  i143:=by kernel_rfl
  i145:=by kernel_rfl
  i167:=by kernel_rfl
  i168:=by kernel_rfl
  i171:=by kernel_rfl
  i173:=by kernel_rfl
  i175:=by kernel_rfl
  i210:=by kernel_rfl
  i212:=by kernel_rfl
  i232:=by kernel_rfl
  i233:=by kernel_rfl
  m15:=by kernel_rfl
  m16:=by kernel_rfl
  m17:=by kernel_rfl
  m18:=by kernel_rfl
  m19:=by kernel_rfl
  c0:=by kernel_rfl
  c2:=by kernel_rfl
  c3:=by kernel_rfl
  c4:=by kernel_rfl
  c5:=by kernel_rfl
  c9:=by kernel_rfl
  c20:=by kernel_rfl
  c21:=by kernel_rfl
  c37:=by kernel_rfl
  c46:=by kernel_rfl
  c51:=by kernel_rfl
  c53:=by kernel_rfl
  c75:=by kernel_rfl
  c76:=by kernel_rfl
  c80:=by kernel_rfl
  c85:=by kernel_rfl
  c127:=by kernel_rfl
  c143:=by kernel_rfl
  c145:=by kernel_rfl
  c167:=by kernel_rfl
  c168:=by kernel_rfl
  c171:=by kernel_rfl
  c173:=by kernel_rfl
  c175:=by kernel_rfl
  c210:=by kernel_rfl
  c212:=by kernel_rfl
  c213:=by kernel_rfl
  c232:=by kernel_rfl
  c233:=by kernel_rfl}
open Go.RowKit in
theorem Tryz.strconv_Atoi_ok (s:ByteArray) (hmax:s.size≤9223372036854775806) (v:Int) (h:Lib.atoiAll s.data.toList=.ok v) (w:World) :
    Calls Tryz.prog 159 #[.string s] w fun e w'=>e=.returned (.tuple #[.int .i64 v,.nilIface])∧(w'=w∨∃t,w'=Lib.bytesWorld w 5 t):=Any.strconv_Atoi_ok Tryz.laysC172 s hmax v h w
open Go.RowKit in
theorem Tryz.strconv_Atoi_syntax (s:ByteArray) (hlim:s.size≤281474976710656) (h0:∀v,Lib.atoiAll s.data.toList≠.ok v) (h1:Lib.atoiAll s.data.toList≠.range) (ev:Value) (w:World) (hv:w.cell? ⟨3,0,none⟩=some ev) (hev:ev=.nilIface∨∃te pe,ev=.iface te pe) :
    Calls Tryz.prog 159 #[.string s] w fun e w'=>∃N,e=.returned (.tuple #[.int .i64 (0),.iface 252 (.pointer (some ⟨N,0,none⟩))])∧w.heap.size≤N∧w'.heap[N]?=some (.cells #[.string ⟨#[65,116,111,105]⟩,.string s,ev] 267 (0,0))∧Below w.heap.size w w':=Any.strconv_Atoi_syntax Tryz.laysC172 s hlim (by cases hx:Lib.atoiAll s.data.toList with|ok v=>exact absurd hx (h0 v)|range=>exact absurd hx h1 | _=>rfl) ev w hv hev
open Go.RowKit in
theorem Tryz.strconv_Atoi_range (s:ByteArray) (hlim:s.size≤281474976710656) (h:Lib.atoiAll s.data.toList=.range) (ev:Value) (w:World) (hv:w.cell? ⟨4,0,none⟩=some ev) (hev:ev=.nilIface∨∃te pe,ev=.iface te pe) :
    Calls Tryz.prog 159 #[.string s] w fun e w'=>∃N,e=.returned (.tuple #[.int .i64 (Lib.atoiSat s.data.toList),.iface 252 (.pointer (some ⟨N,0,none⟩))])∧w.heap.size≤N∧w'.heap[N]?=some (.cells #[.string ⟨#[65,116,111,105]⟩,.string s,ev] 267 (0,0))∧Below w.heap.size w w':=Any.strconv_Atoi_range Tryz.laysC172 s hlim h ev w hv hev
def Tryz.lays145_ren:Go.Shelf.Ren:=⟨fun|145=>128|220=>158|219=>174|217=>190|225=>191|224=>192|267=>193|266=>207|314=>208|n=>n,fun|9=>9|4=>4|59=>180|3=>3|5=>5|46=>248|146=>261|51=>258|n=>n,fun|1=>1|n=>n⟩
theorem Tryz.lays145:Go.Proofs.Lays.n145 Tryz.prog Tryz.lays145_ren:={
  mixed:=by kernel_rfl
  f145:=Tryz.func128.trans (congrArg some (by kernel_rfl))
  f217:=Tryz.func190.trans (congrArg some (by kernel_rfl))
  f219:=Tryz.func174.trans (congrArg some (by kernel_rfl))
  f220:=Tryz.func158.trans (congrArg some (by kernel_rfl))
  f224:=Tryz.func192.trans (congrArg some (by kernel_rfl))
  f225:=Tryz.func191.trans (congrArg some (by kernel_rfl))
  f266:=Tryz.func207.trans (congrArg some (by kernel_rfl))
  f267:=Tryz.func193.trans (congrArg some (by kernel_rfl))
  f314:=Tryz.func208.trans (congrArg some (by kernel_rfl))
  t3:=Tryz.underlying3
  a3:=Tryz.isAgg3
  z3:=Tryz.sizeOf3
  v3:=Tryz.zeroValue3
  t4:=Tryz.underlying4
  a4:=Tryz.isAgg4
  z4:=Tryz.sizeOf4
  v4:=Tryz.zeroValue4
  t5:=Tryz.underlying5
  a5:=Tryz.isAgg5
  z5:=Tryz.sizeOf5
  v5:=Tryz.zeroValue5
  t9:=Tryz.underlying9
  a9:=Tryz.isAgg9
  z9:=Tryz.sizeOf9
  v9:=Tryz.zeroValue9
  t46:=Tryz.underlying248
  a46:=Tryz.isAgg248
  z46:=Tryz.sizeOf248
  v46:=Tryz.zeroValue248
  t51:=Tryz.underlying258
  a51:=Tryz.isAgg258
  z51:=Tryz.sizeOf258
  v51:=Tryz.zeroValue258
  t59:=Tryz.underlying180
  a59:=Tryz.isAgg180
  z59:=Tryz.sizeOf180
  v59:=Tryz.zeroValue180
  t146:=Tryz.underlying261
  a146:=Tryz.isAgg261
  z146:=Tryz.sizeOf261
  v146:=Tryz.zeroValue261
  g1:=by kernel_rfl}
open Go.RowKit Go.Lib in
theorem Tryz.strings_Cut (s sep:ByteArray) (m:Int) (w:World) (hs:s.size<4294967281) (hm:w.cell? ⟨1,0,none⟩=some (.int .i64 m)) :
    Calls Tryz.prog 128 #[.string s,.string sep] w fun e w'=>e=.returned (.tuple #[.string ⟨(Lib.cut s.data.toList sep.data.toList).1.toArray⟩,.string ⟨(Lib.cut s.data.toList sep.data.toList).2.1.toArray⟩,.bool (Lib.cut s.data.toList sep.data.toList).2.2])∧∃n,w'=w.drewN n:=Any.strings_Cut Tryz.lays145 s sep m w hs hm
def Tryz.lays101_ren:Go.Shelf.Ren:=⟨fun|101=>160|208=>177|206=>199|n=>n,fun|9=>9|4=>4|3=>3|n=>n,fun|n=>n⟩
theorem Tryz.lays101:Go.Proofs.Lays.n101 Tryz.prog Tryz.lays101_ren:={
  mixed:=by kernel_rfl
  f101:=Tryz.func160.trans (congrArg some (by kernel_rfl))
  f206:=Tryz.func199.trans (congrArg some (by kernel_rfl))
  f208:=Tryz.func177.trans (congrArg some (by kernel_rfl))
  t3:=Tryz.underlying3
  a3:=Tryz.isAgg3
  z3:=Tryz.sizeOf3
  v3:=Tryz.zeroValue3
  t4:=Tryz.underlying4
  a4:=Tryz.isAgg4
  z4:=Tryz.sizeOf4
  v4:=Tryz.zeroValue4
  t9:=Tryz.underlying9
  a9:=Tryz.isAgg9
  z9:=Tryz.sizeOf9
  v9:=Tryz.zeroValue9}
open Go.RowKit Go.Lib in
theorem Tryz.strings_TrimPrefix (s p:ByteArray) (w:World) :
    Calls Tryz.prog 160 #[.string s,.string p] w fun e w'=>e=.returned (.string ⟨(Lib.trimPrefix s.data.toList p.data.toList).toArray⟩)∧w'=w:=Any.strings_TrimPrefix Tryz.lays101 s p w
def Tryz.lays146_ren:Go.Shelf.Ren:=⟨fun|146=>127|221=>157|268=>171|138=>172|143=>173|195=>187|197=>188|218=>189|219=>174|260=>206|217=>190|225=>191|224=>192|267=>193|266=>207|314=>208|n=>n,fun|9=>9|31=>176|3=>3|4=>4|0=>0|105=>245|21=>21|5=>5|46=>248|119=>270|139=>273|138=>272|146=>261|51=>258|n=>n,fun|1=>1|3=>5|4=>6|n=>n⟩
theorem Tryz.lays146:Go.Proofs.Lays.n146 Tryz.prog Tryz.lays146_ren:={
  mixed:=by kernel_rfl
  f138:=Tryz.func172.trans (congrArg some (by kernel_rfl))
  f143:=Tryz.func173.trans (congrArg some (by kernel_rfl))
  f146:=Tryz.func127.trans (congrArg some (by kernel_rfl))
  f195:=Tryz.func187.trans (congrArg some (by kernel_rfl))
  f197:=Tryz.func188.trans (congrArg some (by kernel_rfl))
  f217:=Tryz.func190.trans (congrArg some (by kernel_rfl))
  f218:=Tryz.func189.trans (congrArg some (by kernel_rfl))
  f219:=Tryz.func174.trans (congrArg some (by kernel_rfl))
  f221:=Tryz.func157.trans (congrArg some (by kernel_rfl))
  f224:=Tryz.func192.trans (congrArg some (by kernel_rfl))
  f225:=Tryz.func191.trans (congrArg some (by kernel_rfl))
  f260:=Tryz.func206.trans (congrArg some (by kernel_rfl))
  f266:=Tryz.func207.trans (congrArg some (by kernel_rfl))
  f267:=Tryz.func193.trans (congrArg some (by kernel_rfl))
  f268:=Tryz.func171.trans (congrArg some (by kernel_rfl))
  f314:=Tryz.func208.trans (congrArg some (by kernel_rfl))
  t0:=Tryz.underlying0
  a0:=Tryz.isAgg0
  z0:=Tryz.sizeOf0
  v0:=Tryz.zeroValue0
  t3:=Tryz.underlying3
  a3:=Tryz.isAgg3
  z3:=Tryz.sizeOf3
  v3:=Tryz.zeroValue3
  t4:=Tryz.underlying4
  a4:=Tryz.isAgg4
  z4:=Tryz.sizeOf4
  v4:=Tryz.zeroValue4
  t5:=Tryz.underlying5
  a5:=Tryz.isAgg5
  z5:=Tryz.sizeOf5
  v5:=Tryz.zeroValue5
  t9:=Tryz.underlying9
  a9:=Tryz.isAgg9
  z9:=Tryz.sizeOf9
  v9:=Tryz.zeroValue9
  t21:=Tryz.underlying21
  a21:=Tryz.isAgg21
  z21:=Tryz.sizeOf21
  v21:=Tryz.zeroValue21
  t31:=Tryz.underlying176
  a31:=Tryz.isAgg176
  z31:=Tryz.sizeOf176
  v31:=Tryz.zeroValue176
  t46:=Tryz.underlying248
  a46:=Tryz.isAgg248
  z46:=Tryz.sizeOf248
  v46:=Tryz.zeroValue248
  t51:=Tryz.underlying258
  a51:=Tryz.isAgg258
  z51:=Tryz.sizeOf258
  v51:=Tryz.zeroValue258
  t105:=Tryz.underlying245
  a105:=Tryz.isAgg245
  z105:=Tryz.sizeOf245
  v105:=Tryz.zeroValue245
  t119:=Tryz.underlying270
  a119:=Tryz.isAgg270
  z119:=Tryz.sizeOf270
  t138:=Tryz.underlying272
  a138:=Tryz.isAgg272
  z138:=Tryz.sizeOf272
  v138:=Tryz.zeroValue272
  t139:=Tryz.underlying273
  a139:=Tryz.isAgg273
  z139:=Tryz.sizeOf273
  v139:=Tryz.zeroValue273
  t146:=Tryz.underlying261
  a146:=Tryz.isAgg261
  z146:=Tryz.sizeOf261
  v146:=Tryz.zeroValue261
  g1:=by kernel_rfl
  g3:=by kernel_rfl
  g4:=by kernel_rfl}
open Go.RowKit Go.Lib in
theorem Tryz.strings_Split (s sep:ByteArray) (m:Int) (w:World) (hs:s.size<4294967281) (hm:w.cell? ⟨1,0,none⟩=some (.int .i64 m)) (h1:1≤sep.size) :
    Calls Tryz.prog 127 #[.string s,.string sep] w fun e w'=>
      e=.returned (.slice (some ⟨w.heap.size,0,none⟩) (Lib.countB s sep+1) (Lib.countB s sep+1))∧w'=w.alloc (.cells ((Lib.splitB sep 0 (Lib.countB s sep) s).map Value.string).toArray 9):=Any.strings_Split Tryz.lays146 (by kernel_rfl) s sep m w hs hm h1
end Go.Proofs
namespace Go.Eng
open Go.Lib
set_option linter.all false
def bA (l:List UInt8):ByteArray:=⟨l.toArray⟩
abbrev bL (s:ByteArray):List UInt8:=s.data.toList
theorem zbZ (l:List UInt8):bL (bA l)=l:=by simp[bA]
theorem zte (s:ByteArray):bA (bL s)=s:=by cases s;simp[bA]
theorem zfD (s:ByteArray):(bL s).length=s.size:=Array.length_toList
theorem zca (l:List UInt8):(bA l).size=l.length:=by show l.toArray.size=_;simp
theorem zb6 (s u:ByteArray):bL (s++u)=bL s++bL u:=by show (s++u).data.toList=_;rw[ByteArray.data_append];exact Array.toList_append
theorem zkw {s u:ByteArray} (h:bL s=bL u):s=u:=by rw[←zte s,h,zte]
theorem zjk (l m:List UInt8):bA l++bA m=bA (l++m):=zkw (by rw[zb6,zbZ,zbZ,zbZ])
theorem zkx (s:ByteArray) (a b:Nat):bL (s.extract a b)=((bL s).drop a).take (b - a):=by show (s.extract a b).data.toList=_;rw[ByteArray.data_extract];simp[List.extract_eq_take_drop]
/-! ### Pieces -/
def zat (c:UInt8):List UInt8→List (List UInt8)
  | []=>[[]]
  | b::l=>if b=c then []::zat c l else match zat c l with
    | p::r=>(b::p)::r
    | []=>[[b]]
theorem zeN (c:UInt8):∀l,zat c l≠[]
  | []=>by simp[zat]
  | b::l=>by
    simp only[zat]
    split
    · simp
    · split<;>simp
theorem zjW (c:UInt8):∀l,(zat c l).length≤l.length+1
  | []=>by simp[zat]
  | b :: l=>by
    have:=zjW c l
    simp only[zat]
    split
    · simp only[List.length_cons];omega
    · split
      · rename_i p r h;rw[h] at this;simp only[List.length_cons] at this ⊢;omega
      · simp
theorem zmM (c b:UInt8) (l:List UInt8):index (b::l) [c]=if b=c then 0 else if index l [c] = -1 then -1 else index l [c]+1:=by
  by_cases h:b=c
  · subst h;simp[index]
  · have h':¬c=b:=fun e=>h e.symm
    simp[index,h,h',List.isPrefixOf]
theorem zqc (c:UInt8):index [] [c] = -1:=rfl
theorem zc9 (c:UInt8):∀l,index l [c] = -1→zat c l=[l]
  | [],_=>rfl
  | b :: l,h=>by
    rw[zmM] at h
    have hb:¬b=c:=fun e=>by rw[if_pos e] at h;omega
    rw[if_neg hb] at h
    have hl:index l [c] = -1:=by
      by_cases h1:index l [c] = -1
      · exact h1
      · rw[if_neg h1] at h
        have:=index_ge l [c]
        omega
    simp only[zat]
    rw[if_neg hb,zc9 c l hl]
theorem zc6 (c:UInt8):∀(l:List UInt8) (i:Nat),index l [c]=i→zat c l=l.take i::zat c (l.drop (i+1))
  | [],i,h=>by rw[zqc] at h;omega
  | b :: l,i,h=>by
    rw[zmM] at h
    by_cases hb:b=c
    · rw[if_pos hb] at h
      obtain rfl:i=0:=by omega
      simp only[zat]
      rw[if_pos hb];rfl
    · rw [if_neg hb] at h
      by_cases h1:index l [c] = -1
      · rw[if_pos h1] at h;omega
      · rw[if_neg h1] at h
        have hg:=index_ge l [c]
        obtain⟨j,rfl⟩:∃j,i=j+1:=⟨i - 1,by omega⟩
        have ih:=zc6 c l j (by omega)
        simp only[zat]
        rw[if_neg hb,ih]
        rfl
theorem zlY (c:UInt8):∀(n:Nat) (l:List UInt8),l.length≤n→splitK [c] 0 (count l [c]) l=zat c l:=by
  intro n
  induction n with
  | zero=>
    intro l hl
    obtain rfl:l=[]:=List.eq_nil_of_length_eq_zero (by omega)
    rfl
  | succ n ih=>
    intro l hl
    rcases index_spec l [c] with ⟨h,_⟩|⟨i,h,hi,ho,_⟩
    · rw[count_miss h,zc9 c l h];rfl
    · have hroom:=index_room l [c] (by omega)
      rw[count_hit (by simp) h,Nat.add_comm 1,splitK]
      rw[if_neg (by simp[h])]
      have e:(index l [c]).toNat=i:=by omega
      rw[e,zc6 c l i h]
      simp only[List.length_cons,List.length_nil] at hroom ⊢
      rw[ih _ (by simp only[List.length_drop];omega)]
      rfl
theorem zmm (c:UInt8):∀(n:Nat) (l:List UInt8),l.length≤n→(zat c l).length=count l [c]+1:=by
  intro n
  induction n with
  | zero=>
    intro l hl
    obtain rfl:l=[]:=List.eq_nil_of_length_eq_zero (by omega)
    rfl
  | succ n ih=>
    intro l hl
    rcases index_spec l [c] with ⟨h,_⟩|⟨i,h,hi,ho,_⟩
    · rw[count_miss h,zc9 c l h];rfl
    · have hroom:=index_room l [c] (by omega)
      simp only[List.length_cons,List.length_nil] at hroom
      rw[count_hit (by simp) h,zc6 c l i h,List.length_cons]
      simp only[List.length_cons,List.length_nil,Nat.zero_add]
      rw[ih _ (by simp only[List.length_drop];omega)]
      omega
def cutB (c:UInt8) (s:ByteArray):List ByteArray:=(zat c (bL s)).map bA
theorem zpS (c:UInt8) (s:ByteArray):splitB (bA [c]) 0 (countB s (bA [c])) s=cutB c s:=by
  have h1:=splitB_data (bA [c]) 0 (countB s (bA [c])) s
  rw[show (bA [c]).data.toList=[c] from zbZ [c]] at h1
  have h2:=zlY c _ (bL s) (Nat.le_refl _)
  have h3:countB s (bA [c])=count (bL s) [c]:=by show count s.data.toList (bA [c]).data.toList=_;rw[show (bA [c]).data.toList=[c] from zbZ [c]]
  rw[h3] at h1 ⊢
  rw[show s.data.toList=bL s from rfl,h2] at h1
  simp only[cutB,←h1,List.map_map]
  have:(bA ∘ fun x:ByteArray=>x.data.toList)=id:=by funext x;exact zte x
  rw[this,List.map_id]
theorem zql (c:UInt8) (s:ByteArray):(cutB c s).length=countB s (bA [c])+1:=by
  have h3:countB s (bA [c])=count (bL s) [c]:=by show count s.data.toList (bA [c]).data.toList=_;rw[show (bA [c]).data.toList=[c] from zbZ [c]]
  rw[h3,cutB,List.length_map,zmm c _ (bL s) (Nat.le_refl _)]
theorem zjX (c:UInt8):∀(l m:List UInt8),zat c (l++m)=(zat c l).dropLast++(match zat c m with|p::r=>((zat c l).getLastD []++p)::r | []=>[])
  | [],m=>by
    cases h:zat c m with
    | nil=>exact absurd h (zeN c m)
    | cons p r=>simp[zat,h]
  | b :: l,m=>by
    have ih:=zjX c l m
    obtain ⟨q,t,hl⟩:∃q t,zat c l=q::t:=by
      cases h:zat c l with
      | nil=>exact absurd h (zeN c l)
      | cons q t=>exact⟨q,t,rfl⟩
    obtain ⟨p,r,hm⟩:∃p r,zat c m=p::r:=by
      cases h:zat c m with
      | nil=>exact absurd h (zeN c m)
      | cons q t=>exact⟨q,t,rfl⟩
    simp only[List.cons_append,zat]
    rw[ih,hl,hm]
    by_cases hb:b=c
    · rw[if_pos hb,if_pos hb]
      simp
    · rw[if_neg hb,if_neg hb]
      cases t with
      | nil=>simp
      | cons u t=>simp
theorem ziB (c:UInt8):∀l:List UInt8,c ∉ l→zat c l=[l]
  | [],_=>rfl
  | b::l,h=>by
    simp only[List.mem_cons,not_or] at h
    simp only[zat]
    rw[if_neg (fun e=>h.1 e.symm),ziB c l h.2]
/-! ### Numerals -/
def zb4 (b:UInt8):Bool:=decide (48≤b.toNat∧b.toNat≤57)
def dval (l:List UInt8):Nat:=l.foldl (fun n b=>10*n+(b.toNat - 48)) 0
theorem ze4 (l:List UInt8) (b:UInt8):dval (l++[b])=10*dval l+(b.toNat - 48):=by simp[dval]
theorem zkI {α:Type} {p:List α→Prop} (h0:p []) (h1:∀l b,p l→p (l++[b])):∀l,p l:=by
  intro l
  have h:∀l:List α,p l.reverse:=by
    intro l
    induction l with
    | nil=>exact h0
    | cons b l ih=>rw[List.reverse_cons];exact h1 _ _ ih
  have:=h l.reverse
  rwa [List.reverse_reverse] at this
theorem zlJ {l:List UInt8} {b:UInt8} (h:(l++[b]).all zb4=true):l.all zb4=true∧48≤b.toNat∧b.toNat≤57:=by
  simp only[List.all_append,List.all_cons,List.all_nil,Bool.and_true,Bool.and_eq_true] at h
  exact⟨h.1,of_decide_eq_true h.2⟩
theorem zoe:∀l:List UInt8,l.all zb4=true→dval l<10 ^ l.length:=by
  refine zkI (fun _=>by decide) fun l b ih h=>?_
  obtain⟨h1,h2,h3⟩:=zlJ h
  have:=ih h1
  rw[ze4,List.length_append,List.length_singleton,Nat.pow_succ]
  omega
def zpk (d:List UInt8):Prop:=d≠[]∧(d.head?=some 48→d.length=1)
theorem zse {l:List UInt8} {b:UInt8} (h:zpk (l++[b])) (hl:l≠[]):zpk l∧l.head?≠some 48:=by
  obtain⟨c,r,rfl⟩:=List.exists_cons_of_ne_nil hl
  have h2:¬((c::r)++[b]).head?=some 48:=fun e=>by have:=h.2 e;simp at this
  exact⟨⟨by simp,fun e=>absurd e h2⟩,h2⟩
theorem zpx:∀l:List UInt8,l.all zb4=true→l≠[]→l.head?≠some 48→0<dval l:=by
  refine zkI (fun _ h=>absurd rfl h) fun l b ih h hn h0=>?_
  obtain⟨h1,h2,h3⟩:=zlJ h
  rw[ze4]
  cases l with
  | nil=>
    have:¬b=48:=fun e=>h0 (by simp[e])
    have:b.toNat≠48:=fun e=>this (UInt8.toNat_inj.1 e)
    omega
  | cons c r=>
    have:=ih h1 (by simp) h0
    omega
theorem zpz {b:UInt8} (h:48≤b.toNat∧b.toNat≤57):UInt8.ofNat (48+(b.toNat - 48))=b:=by
  rw[show 48+(b.toNat - 48)=b.toNat by omega]
  exact UInt8.ofNat_toNat
theorem zpD:∀l:List UInt8,l.all zb4=true→zpk l→decDigits (dval l)=l:=by
  refine zkI (fun _ h=>absurd rfl h.1) fun l b ih h hl=>?_
  obtain⟨h1,h2,h3⟩:=zlJ h
  rw[ze4]
  cases hlc:l with
  | nil=>
    rw[decDigits,dif_pos (by simp[dval];omega)]
    show [UInt8.ofNat (48+(10*0+(b.toNat - 48)))]=[b]
    rw[Nat.mul_zero,Nat.zero_add,zpz ⟨h2,h3⟩]
  | cons c r=>
    rw[←hlc]
    have hne:l≠[]:=by rw[hlc];simp
    obtain⟨h4,h5⟩:=zse hl hne
    have hp:=zpx l h1 hne h5
    rw[decDigits,dif_neg (by omega),show (10*dval l+(b.toNat - 48)) / 10=dval l by omega,show (10*dval l+(b.toNat - 48)) % 10=b.toNat - 48 by omega,ih h1 h4,zpz ⟨h2,h3⟩]
theorem zvp {k:Nat} (h:k<10):(UInt8.ofNat (48+k)).toNat=48+k:=by
  rw[UInt8.toNat_ofNat'];omega
theorem zgw:∀(n u:Nat),u<n→(decDigits u).all zb4=true∧zpk (decDigits u)∧dval (decDigits u)=u∧(0<u→(decDigits u).head?≠some 48)
  | 0,u,h=>absurd h (Nat.not_lt_zero u)
  | n + 1,u,h=>by
    rw[decDigits]
    split
    · rename_i hu
      have hd:=zvp hu
      refine⟨by simp[zb4,hd];omega,⟨by simp,fun _=>rfl⟩,by show 10*0+((UInt8.ofNat (48+u)).toNat - 48)=u;rw[hd];omega,fun h0 he=>?_⟩
      have:UInt8.ofNat (48+u)=48:=by simpa using he
      have:(UInt8.ofNat (48+u)).toNat=48:=by rw[this];rfl
      omega
    · rename_i hu
      obtain⟨i1,i2,i3,i4⟩:=zgw n (u / 10) (by omega)
      have hd:=zvp (Nat.mod_lt u (show 0<10 by decide))
      have i4:=i4 (by omega)
      obtain⟨c,r,hcr⟩:=List.exists_cons_of_ne_nil i2.1
      rw[hcr] at i4
      refine⟨?_,⟨by simp,fun he=>?_⟩,?_,fun _ he=>?_⟩
      · rw[List.all_append,i1];simp[zb4,hd];omega
      · exfalso;rw[hcr] at he;exact i4 (by simpa using he)
      · rw[ze4,i3,hd];omega
      · rw[hcr] at he;exact i4 (by simpa using he)
theorem zjZ:∀(l:List UInt8) (acc:Nat),l.all zb4=true→l.foldl (fun n b=>10*n+(b.toNat - 48)) acc<18446744073709551616→parseUint10 acc l=.ok (l.foldl (fun n b=>10*n+(b.toNat - 48)) acc)
  | [],acc,_,_=>rfl
  | b :: l,acc,h,hv=>by
    simp only[List.all_cons,Bool.and_eq_true] at h
    have hb:48≤b.toNat∧b.toNat≤57:=of_decide_eq_true h.1
    have hmono:∀(l:List UInt8) (a:Nat),a≤l.foldl (fun n b=>10*n+(b.toNat - 48)) a:=by
      intro l
      induction l with
      | nil=>intro a;exact Nat.le_refl _
      | cons c r ih=>intro a;have:=ih (10*a+(c.toNat - 48));simp only[List.foldl_cons];omega
    have h1:=hmono l (10*acc+(b.toNat - 48))
    simp only[List.foldl_cons] at hv ⊢
    simp only[parseUint10]
    rw[if_pos hb,if_neg (by omega),if_neg (by omega),show acc*10+(b.toNat - 48)=10*acc+(b.toNat - 48) by omega]
    exact zjZ l _ h.2 hv
theorem zr8 (u:Nat) (hu:u<18446744073709551616):parseMag (decDigits u)=.ok u:=by
  obtain⟨h1,h2,h3,_⟩:=zgw (u+1) u (Nat.lt_succ_self u)
  unfold parseMag
  rw[if_neg h2.1,zjZ _ 0 h1 (by show dval _<_;rw[h3];exact hu)]
  show NumEnd.ok (dval _)=_
  rw[h3]
theorem ztf {n:Int} (h0 : -9223372036854775808≤n) (h1:n≤9223372036854775807):atoiAll (itoa n)=.ok n:=by
  unfold itoa
  by_cases hn:n<0
  · rw[if_pos hn]
    have hm:=zr8 n.natAbs (by omega)
    simp only[atoiAll]
    rw[if_pos (by right;decide),hm]
    simp only
    rw[if_neg (fun h=>h.1 (by decide)),if_neg (fun h=>by omega),if_pos (by decide)]
    congr 1;omega
  · rw [if_neg hn]
    have hm:=zr8 n.toNat (by omega)
    obtain⟨d1,d2,_,_⟩:=zgw (n.toNat+1) n.toNat (Nat.lt_succ_self _)
    cases hd:decDigits n.toNat with
    | nil=>exact absurd hd d2.1
    | cons c r=>
      rw[hd] at hm d1
      simp only[List.all_cons,Bool.and_eq_true] at d1
      have hc:48≤c.toNat∧c.toNat≤57:=of_decide_eq_true d1.1
      simp only[atoiAll]
      rw[if_neg (by omega),hm]
      simp only
      rw[if_neg (fun h=>by omega),if_neg (fun h=>by omega),if_neg (by omega)]
      congr 1;omega
def zaA:List UInt8→Bool×List UInt8
  | 45::d=>(true,d)
  | d=>(false,d)
def zba (l:List UInt8) (k:Nat):Bool:=(zaA l).2.all zb4 && !(zaA l).2.isEmpty&&decide ((zaA l).2.length≤k) && !(decide ((zaA l).2.head?=some 48)&&decide (1<l.length))
def numV (l:List UInt8):Int:=if (zaA l).1 then -(dval (zaA l).2:Int) else dval (zaA l).2
theorem zf0 (d:List UInt8):zaA (45::d)=(true,d):=rfl
theorem zl6 {l:List UInt8} (h:l.head?≠some 45):zaA l=(false,l):=by
  unfold zaA
  split
  · exact absurd rfl h
  · rfl
theorem zl5 (l:List UInt8):(zaA l).2=trimPrefix l [45]:=by
  unfold zaA trimPrefix hasPrefix
  split
  · rfl
  · rename_i h
    cases l with
    | nil=>rfl
    | cons b r=>
      have:¬(45:UInt8)=b:=fun e=>h r (by rw[e])
      simp[List.isPrefixOf,this]
theorem znQ {n:Int} {k:Nat} (hk:(trimPrefix (itoa n) [45]).length≤k):zba (itoa n) k=true∧numV (itoa n)=n:=by
  rw[←zl5] at hk
  unfold itoa at hk ⊢
  by_cases hn:n<0
  · rw [if_pos hn] at hk ⊢
    obtain⟨d1,d2,d3,d4⟩:=zgw (n.natAbs+1) n.natAbs (Nat.lt_succ_self _)
    have d4:=d4 (by omega)
    rw[zf0] at hk
    refine⟨?_,?_⟩
    · simp only[zba,zf0]
      simp[d1,d2.1,hk,d4]
    · simp only[numV,zf0,d3]
      simp;omega
  · rw [if_neg hn] at hk ⊢
    obtain⟨d1,d2,d3,d4⟩:=zgw (n.toNat+1) n.toNat (Nat.lt_succ_self _)
    obtain⟨c,r,hcr⟩:=List.exists_cons_of_ne_nil d2.1
    have hc:48≤c.toNat∧c.toNat≤57:=by rw[hcr,List.all_cons,Bool.and_eq_true] at d1;exact of_decide_eq_true d1.1
    have hs:zaA (decDigits n.toNat)=(false,decDigits n.toNat):=zl6 (by
      rw[hcr];intro e
      have:c=45:=by simpa using e
      subst this
      exact absurd hc.1 (by decide))
    rw[hs] at hk
    refine⟨?_,?_⟩
    · simp only[zba,hs]
      have:¬((decDigits n.toNat).head?=some 48∧1<(decDigits n.toNat).length):=fun h=>by have:=d2.2 h.1;omega
      simp only[d1,Bool.true_and,Bool.and_eq_true,Bool.not_eq_true',List.isEmpty_eq_false_iff,decide_eq_true_eq]
      refine⟨⟨d2.1,hk⟩,?_⟩
      by_cases h:(decDigits n.toNat).head?=some 48
      · have:=d2.2 h;simp[this]
      · simp[h]
    · simp only[numV,hs,d3]
      simp;omega
theorem zn3 {l:List UInt8} {k:Nat} (h:zba l k=true):itoa (numV l)=l∧(trimPrefix l [45]).length≤k:=by
  rw[←zl5]
  simp only[zba,Bool.and_eq_true,Bool.not_eq_true',List.isEmpty_eq_false_iff,decide_eq_true_eq,Bool.and_eq_false_imp,decide_eq_false_iff_not] at h
  obtain⟨⟨⟨h1,h2⟩,h3⟩,h4⟩:=h
  refine⟨?_,h3⟩
  cases hs:(zaA l).1 with
  | true=>
    obtain ⟨d,rfl⟩:∃d,l=45::d:=by
      unfold zaA at hs
      split at hs
      · exact⟨_,rfl⟩
      · cases hs
    rw[zf0] at h1 h2 h4
    dsimp only at h1 h2 h4
    have h0:d.head?≠some 48:=fun e=>by
      obtain⟨c,r,rfl⟩:=List.exists_cons_of_ne_nil h2
      exact h4 e (by simp)
    have hp:=zpx d h1 h2 h0
    have e:numV (45::d) = -(dval d:Int):=rfl
    rw[e]
    unfold itoa
    rw[if_pos (by omega),show (-(dval d:Int)).natAbs=dval d by omega,zpD d h1 ⟨h2,fun e=>absurd e h0⟩]
  | false=>
    have hl:zaA l=(false,l):=by
      unfold zaA at hs ⊢
      split at hs
      · cases hs
      · rfl
    rw[hl] at h1 h2 h4
    dsimp only at h1 h2 h4
    have e:numV l=(dval l:Int):=by simp only[numV,hl];rfl
    rw[e]
    unfold itoa
    rw [if_neg (by omega),show ((dval l:Int)).toNat=dval l by omega,zpD l h1 ⟨h2,fun e=>by
      have:=h4 e
      have:=List.length_pos_iff.2 h2
      omega⟩]
theorem zwl {l:List UInt8} {k:Nat} (h:zba l k=true) : -(10 ^ k:Nat)<numV l∧numV l<(10 ^ k:Nat):=by
  simp only[zba,Bool.and_eq_true,decide_eq_true_eq] at h
  have h1:=zoe _ h.1.1.1
  have h2:10 ^ (zaA l).2.length≤10 ^ k:=Nat.pow_le_pow_right (by decide) h.1.2
  simp only[numV]
  split<;>omega
end Go.Eng
namespace Go.Eng.Ar
open Go.Eng Go.Proofs
set_option linter.all false
theorem zB:(∀ {α β:Type} {a c:α} {b d:β},((a,b)=(c,d))=(a=c∧b=d))∧((!true)=false)∧((!false)=true)∧(∀ {b:Bool},(true=b)=(b=true))∧(∀ {p:Prop} [Decidable p],(decide p=true)=p)∧(∀ {p:Prop} [Decidable p],decide p=false↔¬p)∧(∀(b:Bool),((!b)=true)=(b=false))∧(∀(b:Bool),((!b)=false)=(b=true))∧(∀(a b:Bool),((a&&b)=true)=(a=true∧b=true))∧(∀(p:Prop),(p∧True)=p)∧(∀(p:Prop),(True∧p)=p)∧(∀ {a b:Int},¬a<b↔b≤a)∧(∀ {a b:Int},¬a≤b↔b<a)∧(∀ {α:Type} [LT α] {a b:α},a>b↔b<a)∧(∀ {α:Type} [LE α] {a b:α},a≥b↔b≤a):=
  ⟨Prod.mk.injEq _ _ _ _,Bool.not_true,Bool.not_false,Bool.true_eq _,decide_eq_true_eq,decide_eq_false_iff_not,Bool.not_eq_true',Bool.not_eq_false',Bool.and_eq_true,and_true,true_and,Int.not_lt,Int.not_le,gt_iff_lt,ge_iff_le⟩
abbrev I64:Ty:=.int .i64
abbrev F64:Ty:=.flt .f64
abbrev C128:Ty:=.cpx .f64
abbrev zaD:Ty:=.cons I64 (.cons I64 .nil)
abbrev zdn:Ty:=zaD
abbrev zxl:Ty:=.cons zdn (.cons zdn .nil)
abbrev zbA:Ty:=.cons I64 (.cons I64 (.cons I64 .nil))
abbrev SpkT:Ty:=.cons zbA (.cons I64 (.cons I64 .nil))
abbrev ArrT:Ty:=.cons I64 (.cons I64 (.cons (.sl SpkT) .nil))
abbrev WayT:Ty:=.cons zbA (.cons zbA .nil)
abbrev RayT:Ty:=.cons SpkT (.cons zdn (.cons zdn .nil))
abbrev zeq:Ty:=.cons (.sl (.sl I64)) (.cons I64 .nil)
abbrev zhN:Ty:=.cons I64 (.cons (.sl I64) .nil)
abbrev zc2:Ty:=.cons I64 (.cons (.sl I64) (.cons (.sl I64) (.cons (.sl I64) .nil)))
abbrev zkz:Ty:=.cons (.sl I64) (.cons I64 .nil)
abbrev zlM:Ty:=.cons I64 (.cons I64 (.cons (.sl zkz) .nil))
abbrev zor:Ty:=.cons (.sl I64) (.cons I64 (.cons (.sl I64) (.cons I64 .nil)))
abbrev sI (t:Nat) (n:Int):Fact:=.slot t (.one (.d I64 n))
abbrev sB (t:Nat) (b:Bool):Fact:=.slot t (.one (.d .bool b))
abbrev cI (k off:Nat) (n:Int):Fact:=.cell k off (.d I64 n)
theorem zfR (w:World) (d:Nat) (xs ys:Array Value) (nm tag pk:String) (off bo:Nat) (e:Bool) (r:List Field) {x y:Int} (hn:nm ≠ "_") (hx:xs[off]?=some (.int .i64 x)) (hy:ys[off]?=some (.int .i64 y)) :
    (Op.eqFields (d+1) xs ys (⟨nm,3,off,e,tag,pk,bo⟩::r)).run Tryz.prog w=if x=y then (Op.eqFields (d+1) xs ys r).run Tryz.prog w else .ok false w:=by
  have p1:(part 3 xs off).run Tryz.prog w=.ok (.int .i64 x) w:=by rw[zbU row3,hx];rfl
  have p2:(part 3 ys off).run Tryz.prog w=.ok (.int .i64 y) w:=by rw[zbU row3,hy];rfl
  have p3:=run_equalIn_int (P:=Tryz.prog) w d 3 .i64 .i64 x y Tryz.underlying3
  simp only[Op.eqFields]
  rw[if_pos hn]
  simp only[Sem.run_bind,p1,p2,p3,Result.andThen_ok]
  by_cases h:x=y
  · simp[h]
  · simp[h]
theorem eqOf {t:Nat} {ty:Ty} (hg:Tryz.prog.eqGuardType Tryz.prog.depth t=false)
    (hE:∀(w:World) (V:View) (x y:ty.Den) (l m:List Value),Rep V ty x l→Rep V ty y m→(Op.equalIn 10000 t (.agg l.toArray) (.agg m.toArray)).run Tryz.prog w=.ok (ty.beq x y) w):EqOk Tryz.prog t ty:=by
  intro w V x y l m o p hx hy
  refine⟨fun op=>run_eqGuard_agg w op t o p _ _ hg,?_,?_⟩
  · rw[run_eql_struct,hE w V x y l m hx hy];rfl
  · rw[run_neq_struct,hE w V x y l m hx hy];rfl
theorem eq82:EqOk Tryz.prog 82 zaD:=by
  refine eqOf (by kernel_rfl) fun w V x y l m hx hy=>?_
  obtain⟨l1,l2,rfl,h1,l3,l4,rfl,h2,h3⟩:=hx
  obtain⟨m1,m2,rfl,g1,m3,m4,rfl,g2,g3⟩:=hy
  obtain⟨x1,x2,u⟩:=x
  obtain⟨y1,y2,u'⟩:=y
  subst h1 h2 h3 g1 g2 g3
  obtain⟨ti,hi,_⟩:=row3.info
  have hc:Tryz.prog.cellsOf 3=1:=by kernel_rfl
  have p1:(part 3 #[.int .i64 x1,.int .i64 x2] 0).run Tryz.prog w=.ok (.int .i64 x1) w:=by rw[zbU row3];rfl
  have p2:(part 3 #[.int .i64 y1,.int .i64 y2] 0).run Tryz.prog w=.ok (.int .i64 y1) w:=by rw[zbU row3];rfl
  have p3:(part 3 #[.int .i64 x1,.int .i64 x2] 1).run Tryz.prog w=.ok (.int .i64 x2) w:=by rw[zbU row3];rfl
  have p4:(part 3 #[.int .i64 y1,.int .i64 y2] 1).run Tryz.prog w=.ok (.int .i64 y2) w:=by rw[zbU row3];rfl
  rw[run_equalIn_array w 9999 _ _ (show Tryz.prog.underlying 82=some (.array 2 3) from zx6.desc) hi,hc,show List.range 2=[0,1] from rfl]
  show (Op.eqItems 9999 3 1 #[.int .i64 x1,.int .i64 x2] #[.int .i64 y1,.int .i64 y2] [0,1]).run Tryz.prog w=_
  simp only[Op.eqItems,Sem.run_bind,Nat.zero_mul,Nat.one_mul,p1,p2,p3,p4,Result.andThen_ok,run_equalIn_int w 9998 3 .i64 .i64 _ _ Tryz.underlying3]
  simp only[Ty.beq,Bool.and_true]
  by_cases e1:x1=y1
  · subst e1
    by_cases e2:x2=y2
    · subst e2
      simp[Sem.run_bind,p3,p4,run_equalIn_int w 9998 3 .i64 .i64 _ _ Tryz.underlying3]
    · simp[e2,Sem.run_bind,p3,p4,run_equalIn_int w 9998 3 .i64 .i64 _ _ Tryz.underlying3]
  · simp[e1]
theorem eq28:EqOk Tryz.prog 28 zdn:=by
  refine eqOf Tryz.eqGuardType28 fun w V x y l m hx hy=>?_
  obtain⟨l1,l2,rfl,h1,l3,l4,rfl,h2,h4⟩:=hx
  obtain⟨m1,m2,rfl,g1,m3,m4,rfl,g2,g4⟩:=hy
  obtain⟨x1,x2,u⟩:=x
  obtain⟨y1,y2,u'⟩:=y
  subst h1 h2 h4 g1 g2 g4
  have hS:Tryz.prog.fieldsOf 28 = #[⟨"Lo", 3,0,false, "", "", 0⟩,⟨"Hi", 3,1,false, "", "", 8⟩]:=by kernel_rfl
  rw[run_equalIn_struct w 9999 28 _ _ (by rw[Tryz.underlying28,hS]) Tryz.stoodInHeld28,hS]
  rw[zfR w 9998 _ _ "Lo" "" "" 0 0 false _ (by decide) (x:=x1) (y:=y1) rfl rfl,zfR w 9998 _ _ "Hi" "" "" 1 8 false _ (by decide) (x:=x2) (y:=y2) rfl rfl]
  simp only[Ty.beq,Op.eqFields,Sem.run_pure,Bool.and_true]
  by_cases e1:x1=y1<;>by_cases e2:x2=y2<;>simp[e1,e2]
theorem zwQ:∀t∈([28,82]:List Nat),∀ty,tyOf tt 20 t=some ty→EqOk Tryz.prog t ty:=by
  intro t ht ty h
  have h28:tyOf tt 20 28=some zdn:=by kernel_rfl
  have h82:tyOf tt 20 82=some zaD:=by kernel_rfl
  simp only[List.mem_cons,List.not_mem_nil,or_false] at ht
  rcases ht with rfl|rfl
  · rw[h28] at h;cases h;exact eq28
  · rw[h82] at h;cases h;exact eq82
theorem zzm:∃fn,Tryz.prog.funcs[166]?=some fn∧(fn.name == "runtime.NumGoroutine")=false∧fn.body.isNone=true∧Extern.findNext fn=none∧Extern.find fn=some Extern.MathSqrt.sqrt:=
  ⟨Tryz.f166,Tryz.func166,by kernel_rfl,by kernel_rfl,by kernel_rfl,by kernel_rfl⟩
def OB (_:Nat) (_:Obj):Prop:=False
def Ok (f:Nat) (sp:Spec):Prop:=zuJ Tryz.prog OB f sp∧zdA Tryz.prog f
def All:List (Nat×Spec)→Prop
  | []=>True
  | p::r=>Ok p.1 p.2∧All r
theorem zoo:∀ {ctr:List (Nat×Spec)} {f:Nat} {sp:Spec},All ctr→zeg f ctr=some sp→Ok f sp
  | [],_,_,_,h=>by simp[zeg] at h
  | (g, s)::r,f,sp,ha,h=>by
    simp only[zeg] at h
    cases hb:Nat.beq g f with
    | true=>
      rw[hb] at h
      have:=Nat.eq_of_beq_eq_true hb
      subst this
      simp only[cond_true,Option.some.injEq] at h
      subst h
      exact ha.1
    | false=>rw[hb] at h;exact zoo ha.2 h
structure Xt where
  its:List (Nat×ISpec):=[]
  clos:List (Nat×List Ty):=[]
  fuel:Nat:=0
@[reducible] def cfg (X:Xt) (ctr:List (Nat×Spec)) (nt:Nat):Cfg:={tt:=tt,eqs:=[28,82],ctr:=ctr,nt:=nt,ext:=[166],extb:=[(110,.f64)],its:=X.its,clos:=X.clos,fuel:=X.fuel}
def zcM (f:Func):Code:=match f.body with|some b=>b|none=>.skip
def Its:List (Nat×ISpec)→Prop
  | []=>True
  | p::r=>(zpQ Tryz.prog p.1 p.2∧zdA Tryz.prog p.1)∧Its r
theorem zlc:∀ {l:List (Nat×ISpec)} {g:Nat} {sp:ISpec},Its l→zn6 g l=some sp→zpQ Tryz.prog g sp∧zdA Tryz.prog g
  | [],_,_,_,h=>by simp[zn6] at h
  | (g, s)::r,f,sp,ha,h=>by
    simp only[zn6] at h
    cases hb:Nat.beq g f with
    | true=>
      rw[hb] at h
      have:=Nat.eq_of_beq_eq_true hb
      subst this
      simp only[cond_true,Option.some.injEq] at h
      subst h
      exact ha.1
    | false=>rw[hb] at h;exact zlc ha.2 h
theorem mixed:Tryz.prog.follows .mixedOrders=true:=by kernel_rfl
theorem zwO (f:Nat) (k:FloatKind) (h:zsy f [(110,.f64)]=some k):∃fn F,Tryz.prog.funcs[f]?=some fn∧(fn.name == "runtime.NumGoroutine")=false∧fn.body.isNone=true∧Extern.findNext fn=none∧Extern.find fn=some F∧
    ∀(n:Nat) w,(F #[.float k n]).run Tryz.prog w=.ok (.int (bitK k) n) w:=by
  simp only[zsy] at h
  cases h1:Nat.beq 110 f with
  | true=>
    rw[h1] at h
    have:=Nat.eq_of_beq_eq_true h1
    subst this
    simp only[cond_true,Option.some.injEq] at h
    subst h
    exact⟨Tryz.f110,Extern.MathFloatBits.float64bits,Tryz.func110,by kernel_rfl,by kernel_rfl,by kernel_rfl,by kernel_rfl,fun n w=>rfl⟩
  | false=>rw[h1] at h;simp at h
theorem zhH {X:Xt} (hX:Its X.its) {ctr:List (Nat×Spec)} {nt:Nat} (h:All ctr):CfgOk Tryz.prog OB (cfg X ctr nt) where
  tbl:=tbl
  eqs:=zwQ
  ctr:=fun f sp hf=>zoo h hf
  ext:=fun f hf=>by
    have:f=166:=by simpa [zaw] using hf
    subst this
    exact zzm
  extb:=zwO
  obs:=fun t i hi=>by simp[obOf] at hi
  its:=fun g isp h=>zlc hX h
theorem mkX {X:Xt} (hX:Its X.its) {ctr:List (Nat×Spec)} (hctr:All ctr) {f nt:Nat} {fn:Func} {sp:Spec} (hf:Tryz.prog.funcs[f]?=some fn) (hb:fn.body=some (zcM fn)) (hnt:fn.ntmps=nt) (hps:(Nat.ble sp.pats.length nt&&Nat.ble nt 1000000)=true)
    (hob:Nat.ble (zb9 sp.pats) 1=true) (hd:zcZ nt (zcM fn)=true) (hn:(fn.name == "runtime.NumGoroutine")=false) (anns:(zac sp.pats).Den→List (St→LoopAnn))
    (h:∀x,sp.pre x→zpK (cfg X ctr nt) (par (cfg X ctr nt)) (anns x) fn.results.toList (zcM fn) sp x):Ok f sp:=
  ⟨zps (zhH hX hctr) (zb3 mixed (zhH hX hctr)) hf hb hnt (Nat.le_of_ble_eq_true (Bool.and_eq_true _ _▸hps:_∧_).1) (Nat.le_of_ble_eq_true (Bool.and_eq_true _ _▸hps:_∧_).2) (Nat.le_of_ble_eq_true hob) rfl hd anns h,fn,hf,hn,by rw[hb];rfl⟩
theorem mk {ctr:List (Nat×Spec)} (hctr:All ctr) {f nt:Nat} {fn:Func} {sp:Spec} (hf:Tryz.prog.funcs[f]?=some fn) (hb:fn.body=some (zcM fn)) (hnt:fn.ntmps=nt) (hps:(Nat.ble sp.pats.length nt&&Nat.ble nt 1000000)=true)
    (hob:Nat.ble (zb9 sp.pats) 1=true) (hd:zcZ nt (zcM fn)=true) (hn:(fn.name == "runtime.NumGoroutine")=false) (anns:(zac sp.pats).Den→List (St→LoopAnn))
    (h:∀x,sp.pre x→zpK (cfg {} ctr nt) (par (cfg {} ctr nt)) (anns x) fn.results.toList (zcM fn) sp x):Ok f sp:=mkX (X:={}) True.intro hctr hf hb hnt hps hob hd hn anns h
end Go.Eng.Ar
namespace Go.Eng.Ar
open Go.Eng Go.Proofs
set_option linter.all false
set_option maxRecDepth 100000
set_option maxHeartbeats 8000000
abbrev zal (n lo hi:Int):Bool:=decide (lo≤n∧n≤hi)
@[reducible] def zbi:Spec:={pats:=[.dat I64,.dat I64,.dat I64],res:=[{t:=.bool}],pre:=fun _=>True,f:=fun x=>(zal x.1 x.2.1 x.2.2.1,())}
theorem h88:Ok 88 zbi:=by
  refine mk (ctr:=[]) trivial (nt:=15) Tryz.func88 rfl rfl rfl rfl (by kernel_rfl) (by kernel_rfl) (fun _=>[]) ?_
  rintro⟨(n:Int),(lo:Int),(hi:Int),_⟩ _
  repeat' (intro hzz;(try (rename Two=>hq;cases hq));(try dsimp only at hzz);(try simp only[zad,zac,eqD,inR,big,zab,zB] at hzz);(try simp only[zad,zac,eqD,inR,big,zab,zB,zal] at hzz);(try (revert hzz;intro _)))
  all_goals try (rename Unit=>hq;clear hq)
  all_goals try ((with_reducible refine Held.mk ?_);(with_reducible (first|refine Frz.mk ?_|refine And.intro (Frz.mk ?_) ?_|refine And.intro ?_ (Frz.mk ?_)));repeat' first|exact True.intro|(change _=_;with_reducible rfl)|refine And.intro ?_ ?_|(with_reducible refine Frz.mk ?_))
  all_goals try (refine Held.mk ?_;(try dsimp only at *);(try simp only[zad,zac,eqD,inR,big,zab,zB] at *);(try simp only[zad,zac,eqD,inR,big,zab,zB,zal] at *))
  all_goals (first|(simp only[decide_eq_decide];omega)|(symm;simp only[decide_eq_false_iff_not];omega)|trace_state)
theorem h29:Ok 29 zbi:=by
  refine mk (ctr:=[]) trivial (nt:=15) Tryz.func29 rfl rfl rfl rfl (by kernel_rfl) (by kernel_rfl) (fun _=>[]) ?_
  rintro⟨(n:Int),(lo:Int),(hi:Int),_⟩ _
  repeat' (intro hzz;(try (rename Two=>hq;cases hq));(try dsimp only at hzz);(try simp only[zad,zac,eqD,inR,big,zab,zB] at hzz);(try simp only[zad,zac,eqD,inR,big,zab,zB,zal] at hzz);(try (revert hzz;intro _)))
  all_goals try (rename Unit=>hq;clear hq)
  all_goals try ((with_reducible refine Held.mk ?_);(with_reducible (first|refine Frz.mk ?_|refine And.intro (Frz.mk ?_) ?_|refine And.intro ?_ (Frz.mk ?_)));repeat' first|exact True.intro|(change _=_;with_reducible rfl)|refine And.intro ?_ ?_|(with_reducible refine Frz.mk ?_))
  all_goals try (refine Held.mk ?_;(try dsimp only at *);(try simp only[zad,zac,eqD,inR,big,zab,zB] at *);(try simp only[zad,zac,eqD,inR,big,zab,zB,zal] at *))
  all_goals (first|(simp only[decide_eq_decide];omega)|(symm;simp only[decide_eq_false_iff_not];omega)|trace_state)
abbrev zmq (m:Int):Prop:=0≤m∧m≤9000000000000000000
@[reducible] def zuZ:Spec:={pats:=[.dat I64,.dat I64],res:=[{t:=.bool}],pre:=fun x=>zmq x.2.1,f:=fun x=>(zal x.1 (-x.2.1) x.2.1,())}
theorem h134:Ok 134 zuZ:=by
  refine mk (ctr:=[(88,zbi)]) ⟨h88,trivial⟩ (nt:=10) Tryz.func134 rfl rfl rfl rfl (by kernel_rfl) (by kernel_rfl) (fun _=>[]) ?_
  rintro⟨(n:Int),(m:Int),_⟩ ⟨h1,h2⟩
  repeat' (intro hzz;(try (rename Two=>hq;cases hq));(try dsimp only at hzz);(try simp only[zad,zac,eqD,inR,big,zab,zB] at hzz);(try simp only[zad,zac,eqD,inR,big,zab,zB,zmq,zal] at hzz);(try (revert hzz;intro _)))
  all_goals try (rename Unit=>hq;clear hq)
  all_goals try ((with_reducible refine Held.mk ?_);(with_reducible (first|refine Frz.mk ?_|refine And.intro (Frz.mk ?_) ?_|refine And.intro ?_ (Frz.mk ?_)));repeat' first|exact True.intro|(change _=_;with_reducible rfl)|refine And.intro ?_ ?_|(with_reducible refine Frz.mk ?_))
  all_goals try (refine Held.mk ?_;(try dsimp only at *);(try simp only[zad,zac,eqD,inR,big,zab,zB] at *);(try simp only[zad,zac,eqD,inR,big,zab,zB,zmq,zal] at *))
  all_goals (first|omega|trace_state)
@[reducible] def zb7:Spec:={pats:=[.dat .bool,.dat I64],res:=[{t:=I64}],pre:=fun _=>True,f:=fun x=>(cond x.1 0 x.2.1,())}
theorem h85:Ok 85 zb7:=by
  refine mk (ctr:=[]) trivial (nt:=7) Tryz.func85 rfl rfl rfl rfl (by kernel_rfl) (by kernel_rfl) (fun _=>[]) ?_
  rintro⟨(b:Bool),(e:Int),_⟩ _
  repeat' (intro hzz;(try (rename Two=>hq;cases hq));(try dsimp only at hzz);(try simp only[zad,zac,eqD,inR,big,zab,zB] at hzz);(try (revert hzz;intro _)))
  all_goals try (rename Unit=>hq;clear hq)
  all_goals try ((with_reducible refine Held.mk ?_);(with_reducible (first|refine Frz.mk ?_|refine And.intro (Frz.mk ?_) ?_|refine And.intro ?_ (Frz.mk ?_)));repeat' first|exact True.intro|(change _=_;with_reducible rfl)|refine And.intro ?_ ?_|(with_reducible refine Frz.mk ?_))
  all_goals try (refine Held.mk ?_;(try dsimp only at *);(try simp only[zad,zac,eqD,inR,big,zab,zB] at *))
  all_goals (first|(rename_i h;rw[h];rfl)|trace_state)
end Go.Eng.Ar
namespace Go.Eng.Ar
open Go.Eng Go.Proofs
set_option linter.all false
set_option maxRecDepth 100000
set_option maxHeartbeats 8000000
def zdC (x y z:Int):Int:=if (-5000≤x∧x≤5000)∧(-5000≤y∧y≤5000)∧(-5000≤z∧z≤5000) then 0 else 2
@[reducible] def zim:Spec:={pats:=[.dat zbA],res:=[{t:=I64}],pre:=fun _=>True,f:=fun x=>(zdC x.1.1 x.1.2.1 x.1.2.2.1,())}
theorem h74:Ok 74 zim:=by
  refine mk (ctr:=[(134,zuZ),(85,zb7)]) ⟨h134,h85,trivial⟩ (nt:=17) Tryz.func74 rfl rfl rfl rfl (by kernel_rfl) (by kernel_rfl) (fun _=>[]) ?_
  rintro⟨⟨(x:Int),(y:Int),(z:Int),_⟩,_⟩ _
  repeat' (intro hzz;(try (rename Two=>hq;cases hq));(try dsimp only at hzz);(try simp only[zad,zac,eqD,inR,big,zab,zB] at hzz);(try simp only[zad,zac,eqD,inR,big,zab,zB,zmq,zal] at hzz);(try (revert hzz;intro _)))
  all_goals try (rename Unit=>hq;clear hq)
  all_goals try ((with_reducible refine Held.mk ?_);(with_reducible (first|refine Frz.mk ?_|refine And.intro (Frz.mk ?_) ?_|refine And.intro ?_ (Frz.mk ?_)));repeat' first|exact True.intro|(change _=_;with_reducible rfl)|refine And.intro ?_ ?_|(with_reducible refine Frz.mk ?_))
  all_goals try (refine Held.mk ?_;(try dsimp only at *);(try simp only[zad,zac,eqD,inR,big,zab,zB] at *);(try simp only[zad,zac,eqD,inR,big,zab,zB,zmq,zal] at *))
  all_goals try omega
  all_goals (simp only[zdC];split<;>first|rfl|(exfalso;omega)|(rw[decide_eq_true (by omega)];rfl)|(rw[decide_eq_false (by omega)];rfl))
def zgI (r v:Int):Int:=if (8000≤r∧r≤192000)∧(30000≤v∧v≤40000) then 0 else 2
@[reducible] def zma:Spec:={pats:=[.dat zaD],res:=[{t:=I64}],pre:=fun _=>True,f:=fun x=>(zgI x.1.1 x.1.2.1,())}
theorem h75:Ok 75 zma:=by
  refine mk (ctr:=[(88,zbi),(85,zb7)]) ⟨h88,h85,trivial⟩ (nt:=12) Tryz.func75 rfl rfl rfl rfl (by kernel_rfl) (by kernel_rfl) (fun _=>[]) ?_
  rintro⟨⟨(x:Int),(y:Int),_⟩,_⟩ _
  repeat' (intro hzz;(try (rename Two=>hq;cases hq));(try dsimp only at hzz);(try simp only[zad,zac,eqD,inR,big,zab,zB] at hzz);(try simp only[zad,zac,eqD,inR,big,zab,zB,zal] at hzz);(try (revert hzz;intro _)))
  all_goals try (rename Unit=>hq;clear hq)
  all_goals try ((with_reducible refine Held.mk ?_);(with_reducible (first|refine Frz.mk ?_|refine And.intro (Frz.mk ?_) ?_|refine And.intro ?_ (Frz.mk ?_)));repeat' first|exact True.intro|(change _=_;with_reducible rfl)|refine And.intro ?_ ?_|(with_reducible refine Frz.mk ?_))
  all_goals try (refine Held.mk ?_;(try dsimp only at *);(try simp only[zad,zac,eqD,inR,big,zab,zB] at *);(try simp only[zad,zac,eqD,inR,big,zab,zB,zal] at *))
  all_goals try omega
  all_goals (simp only[zgI];split<;>first|rfl|(exfalso;omega)|(rw[decide_eq_true (by omega)];rfl)|(rw[decide_eq_false (by omega)];rfl))
end Go.Eng.Ar
namespace Go.Eng.Ar
open Go.Eng Go.Proofs
set_option linter.all false
set_option maxRecDepth 100000
set_option maxHeartbeats 8000000
def zcO (g d:Int):Int:=if (0≤g∧g≤1000)∧(0≤d∧d≤10000) then 0 else 2
@[reducible] def zfr:Spec:={pats:=[.dat I64,.dat I64],res:=[{t:=I64}],pre:=fun _=>True,f:=fun x=>(zcO x.1 x.2.1,())}
theorem h86:Ok 86 zfr:=by
  refine mk (ctr:=[(88,zbi),(85,zb7)]) ⟨h88,h85,trivial⟩ (nt:=12) Tryz.func86 rfl rfl rfl rfl (by kernel_rfl) (by kernel_rfl) (fun _=>[]) ?_
  rintro⟨(x:Int),(y:Int),_⟩ _
  repeat' (intro hzz;(try (rename Two=>hq;cases hq));(try dsimp only at hzz);(try simp only[zad,zac,eqD,inR,big,zab,zB] at hzz);(try simp only[zad,zac,eqD,inR,big,zab,zB,zal] at hzz);(try (revert hzz;intro _)))
  all_goals try (rename Unit=>hq;clear hq)
  all_goals try ((with_reducible refine Held.mk ?_);(with_reducible (first|refine Frz.mk ?_|refine And.intro (Frz.mk ?_) ?_|refine And.intro ?_ (Frz.mk ?_)));repeat' first|exact True.intro|(change _=_;with_reducible rfl)|refine And.intro ?_ ?_|(with_reducible refine Frz.mk ?_))
  all_goals try (refine Held.mk ?_;(try dsimp only at *);(try simp only[zad,zac,eqD,inR,big,zab,zB] at *);(try simp only[zad,zac,eqD,inR,big,zab,zB,zal] at *))
  all_goals try omega
  all_goals (simp only[zcO];split<;>first|rfl|(exfalso;omega)|(rw[decide_eq_true (by omega)];rfl)|(rw[decide_eq_false (by omega)];rfl))
end Go.Eng.Ar
namespace Go.Eng.Ar
open Go.Eng Go.Proofs
set_option linter.all false
set_option maxRecDepth 100000
set_option maxHeartbeats 8000000
def za8:List Int→Int
  | []=>0
  | e::r=>if e=0 then za8 r else e
theorem zls {xs:List Int} {i:Nat} (h:i<xs.length):xs.drop i=xs.getD i 0::xs.drop (i+1):=by
  rw[List.drop_eq_getElem_cons h]
  simp[List.getD,List.getElem?_eq_getElem h]
theorem zaz (xs:List Int) (i:Nat):List.getD xs ((i:Int)).toNat (Ty.dflt I64)=xs.getD i 0:=rfl
theorem ziZ {xs:List Int} {i:Nat} (h:i<xs.length):za8 (xs.drop i)=if xs.getD i 0=0 then za8 (xs.drop (i+1)) else xs.getD i 0:=by
  rw[zls h];rfl
def pLen (n:Nat):Prop:=(n:Int)≤4611686018427387904
theorem pLen.out {n:Nat} (h:pLen n):(n:Int)≤4611686018427387904:=h
@[reducible] def zeJ:Spec:={pats:=[.dat (.sl I64)],res:=[{t:=I64}],pre:=fun x=>pLen (List.length (α:=Int) x.1),f:=fun x=>(za8 x.1,())}
def zpu (xs:List Int):LoopAnn:={σ:=Nat×Unit,pat:=fun i=>[sI 7 i.1],inv:=fun i=>i.1≤xs.length∧za8 (xs.drop i.1)=za8 xs,meas:=fun i=>xs.length - i.1}
theorem h73:Ok 73 zeJ:=by
  refine mk (ctr:=[]) trivial (nt:=15) Tryz.func73 rfl rfl rfl rfl (by kernel_rfl) (by kernel_rfl) (fun x=>[fun _=>zpu x.1]) ?_
  rintro⟨(xs:List Int),_⟩ (hp:pLen xs.length)
  repeat' (intro hzz;(try (rename Two=>hq;cases hq));(try dsimp only at hzz);(try simp only[zad,zac,eqD,inR,big,zab,zB] at hzz);(try simp only[zad,zac,eqD,inR,big,zab,zB,zaz] at hzz);(try (revert hzz;intro _)))
  all_goals try (rename Unit=>hq;clear hq)
  all_goals try ((with_reducible refine Held.mk ?_);(with_reducible (first|refine Frz.mk ?_|refine And.intro (Frz.mk ?_) ?_|refine And.intro ?_ (Frz.mk ?_)));repeat' first|exact True.intro|(change _=_;with_reducible rfl)|refine And.intro ?_ ?_|(with_reducible refine Frz.mk ?_))
  all_goals try (refine Held.mk ?_;(try dsimp only at *);(try simp only[zad,zac,eqD,inR,big,zab,zB] at *);(try simp only[zad,zac,eqD,inR,big,zab,zB,zaz] at *))
  ·
    refine zai.mk ?_
    refine Exists.intro (0,()) ?_
    refine And.intro (Leaf.mk ?_) ?_
    · repeat' first|exact True.intro|refine And.intro ?_ ?_
      all_goals try ((change _=_<;>try dsimp only)<;>try with_reducible rfl)
      all_goals try omega
    exact⟨Nat.zero_le _,rfl⟩
  · rename_i s hi hg
    obtain⟨i,u⟩:=s
    dsimp only at hi hg
    exact⟨Int.natCast_nonneg i,hg⟩
  · rename_i s hi hg hg'
    obtain⟨i,u⟩:=s
    dsimp only at hi hg hg'
    try simp only[zaz] at hg' ⊢
    have hlt:i<xs.length:=by have:(i:Int)<xs.length:=hg;omega
    have h1:=ziZ hlt
    replace hg':¬xs.getD i 0=0:=by simpa using hg'
    rw[if_neg hg',hi.2] at h1
    exact h1.symm
  · rename_i s hi hg hg'
    obtain⟨i,u⟩:=s
    dsimp only at hi hg hg'
    try simp only[zaz] at hg' ⊢
    have:=hp.out
    have:(i:Int)<xs.length:=hg
    have h0:(0:Int)≤(i:Int):=Int.natCast_nonneg i
    omega
  · rename_i s hi hg hg'
    obtain⟨i,u⟩:=s
    dsimp only at hi hg hg'
    try simp only[zaz] at hg' ⊢
    all_goals try dsimp only at hg hg'
    all_goals try simp only[zad,zac,eqD,inR,big,zab,zB] at hg hg'
    all_goals try simp only[zad,zac,eqD,inR,big,zab,zB,zaz] at hg hg'
    have hlt:i<xs.length:=by have:(i:Int)<xs.length:=hg;omega
    have h1:=ziZ hlt
    refine zai.mk ?_
    refine Exists.intro (i+1,()) ?_
    refine And.intro (Leaf.mk ?_) ?_
    · repeat' first|exact True.intro|refine And.intro ?_ ?_
      all_goals try ((change _=_<;>try dsimp only)<;>try with_reducible rfl)
      all_goals try omega
    replace hg':xs.getD i 0=0:=by simpa using hg'
    rw[if_pos hg'] at h1
    exact⟨⟨hlt,h1.symm.trans hi.2⟩,by simp only[zpu];omega⟩
  · rename_i s hi hg
    obtain⟨i,u⟩:=s
    dsimp only at hi hg
    have h1:=hi.2
    rw[List.drop_eq_nil_of_le (by have:(xs.length:Int)≤(i:Int):=hg;omega)] at h1
    exact h1
end Go.Eng.Ar
namespace Go.Eng.Ar
open Go.Eng Go.Proofs
set_option linter.all false
set_option maxRecDepth 100000
set_option maxHeartbeats 8000000
abbrev SpkD:Type:=SpkT.Den
abbrev spkZ:SpkD:=Ty.dflt SpkT
def zeA (s:SpkD):Int:=if zdC s.1.1 s.1.2.1 s.1.2.2.1=0 then zcO s.2.1 s.2.2.1 else zdC s.1.1 s.1.2.1 s.1.2.2.1
theorem zfG (s:SpkD):za8 [zdC s.1.1 s.1.2.1 s.1.2.2.1,zcO s.2.1 s.2.2.1]=zeA s:=by
  simp only[za8,zeA]
  split
  · split<;>simp_all
  · rfl
def zg8 (xs:List SpkD):Nat→Nat→Int×Int
  | 0,_=>(0,0)
  | k+1,i=>if zeA (xs.getD i spkZ)=0 then zg8 xs k (i+1) else ((i:Int),zeA (xs.getD i spkZ))
def ziW (r v:Int) (n:Nat):Int:=if zgI r v=0 then (if n=0 then 10 else if n≤8 then 0 else 8) else zgI r v
theorem zy3 (r v:Int) (n:Nat):za8 [zgI r v,bif decide ((0:Int)<(n:Int)) then 0 else 10,bif decide ((n:Int)≤8) then 0 else 8]=ziW r v n:=by
  simp only[za8,ziW]
  split
  · by_cases h1:n=0
    · subst h1;rfl
    · rw[decide_eq_true (show (0:Int)<(n:Int) by omega),if_neg h1]
      by_cases h2:n≤8
      · rw[decide_eq_true (show (n:Int)≤8 by omega),if_pos h2];rfl
      · rw[decide_eq_false (show ¬(n:Int)≤8 by omega),if_neg h2];rfl
  · rfl
def chkA (r v:Int) (xs:List SpkD):Int×Int:=if ziW r v xs.length=0 then zg8 xs xs.length 0 else (0,ziW r v xs.length)
theorem zdT {xs:List SpkD} {i:Nat} (h:i<xs.length):zg8 xs (xs.length - i) i=if zeA (xs.getD i spkZ)=0 then zg8 xs (xs.length - (i+1)) (i+1) else ((i:Int),zeA (xs.getD i spkZ)):=by
  obtain⟨k,hk⟩:∃k,xs.length - i=k+1:=⟨xs.length - i - 1,by omega⟩
  rw[hk,show xs.length - (i+1)=k by omega];rfl
@[reducible] def zf3:Spec:={pats:=[.dat ArrT],res:=[{t:=zaD}],pre:=fun _=>True,f:=fun x=>((x.1.1,x.1.2.1,()),())}
theorem h84:Ok 84 zf3:=by
  refine mk (ctr:=[]) trivial (nt:=8) Tryz.func84 rfl rfl rfl rfl (by kernel_rfl) (by kernel_rfl) (fun _=>[]) ?_
  rintro⟨⟨(r:Int),(v:Int),(xs:List SpkD),_⟩,_⟩ _
  repeat' (intro hzz;(try (rename Two=>hq;cases hq));(try dsimp only at hzz);(try simp only[zad,zac,eqD,inR,big,zab,zB] at hzz);(try (revert hzz;intro _)))
  all_goals try (rename Unit=>hq;clear hq)
  all_goals try ((with_reducible refine Held.mk ?_);(with_reducible (first|refine Frz.mk ?_|refine And.intro (Frz.mk ?_) ?_|refine And.intro ?_ (Frz.mk ?_)));repeat' first|exact True.intro|(change _=_;with_reducible rfl)|refine And.intro ?_ ?_|(with_reducible refine Frz.mk ?_))
  all_goals try (refine Held.mk ?_;(try dsimp only at *);(try simp only[zad,zac,eqD,inR,big,zab,zB] at *))
  all_goals try omega
@[reducible] def zoR:Spec:={pats:=[.dat ArrT],res:=[{t:=I64},{t:=I64}],pre:=fun x=>pLen (List.length (α:=SpkD) x.1.2.2.1),f:=fun x=>((chkA x.1.1 x.1.2.1 x.1.2.2.1).1,(chkA x.1.1 x.1.2.1 x.1.2.2.1).2,())}
def zzE (r v:Int) (xs:List SpkD):LoopAnn:={σ:=Nat,pat:=fun k=>[sI 29 k],inv:=fun k=>k≤xs.length∧zg8 xs (xs.length - k) k=chkA r v xs,meas:=fun k=>xs.length - k}
theorem h25:Ok 25 zoR:=by
  refine mk (ctr:=[(73,zeJ),(74,zim),(75,zma),(84,zf3),(85,zb7),(86,zfr)]) ⟨h73,h74,h75,h84,h85,h86,trivial⟩ (nt:=49) Tryz.func25 rfl rfl rfl rfl (by kernel_rfl) (by kernel_rfl) (fun x=>[fun _=>zzE x.1.1 x.1.2.1 x.1.2.2.1]) ?_
  rintro⟨⟨(r:Int),(v:Int),(xs:List SpkD),_⟩,_⟩ (hp:pLen xs.length)
  have hp':=hp.out
  repeat' (intro hzz;(try (rename Two=>hq;cases hq));(try dsimp only at hzz);(try simp only[zad,zac,eqD,inR,big,zab,zB] at hzz);(try simp only[zad,zac,eqD,inR,big,zab,zB,zy3] at hzz);(try (revert hzz;intro _)))
  all_goals try (rename Unit=>hq;clear hq)
  all_goals try ((with_reducible refine Held.mk ?_);(with_reducible (first|refine Frz.mk ?_|refine And.intro (Frz.mk ?_) ?_|refine And.intro ?_ (Frz.mk ?_)));repeat' first|exact True.intro|(change _=_;with_reducible rfl)|refine And.intro ?_ ?_|(with_reducible refine Frz.mk ?_))
  all_goals try (refine Held.mk ?_;(try dsimp only at *);(try simp only[zad,zac,eqD,inR,big,zab,zB] at *);(try simp only[zad,zac,eqD,inR,big,zab,zB,zy3] at *))
  all_goals try omega
  · show ((3:Nat):Int)≤4611686018427387904
    decide
  · rename_i h
    unfold chkA;rw[if_neg h];exact⟨rfl,rfl⟩
  · rename_i h
    refine zai.mk ?_
    refine Exists.intro (0:Nat) ?_
    refine And.intro (Leaf.mk ?_) ?_
    · repeat' first|exact True.intro|refine And.intro ?_ ?_
      all_goals try ((change _=_<;>try dsimp only)<;>try with_reducible rfl)
      all_goals try omega
      all_goals (rfl)
    exact⟨Nat.zero_le _,by unfold chkA;rw[if_pos h];rfl⟩
  · show ((2:Nat):Int)≤4611686018427387904
    decide
  · rename_i k hk hlt h
    have e:=hk.2
    have hlt:k<xs.length:=by omega
    have h:¬zeA (xs.getD k spkZ)=0:=fun h'=>h ((zfG _).trans h')
    rw[zdT hlt,if_neg h] at e
    rw[←e]
    exact⟨rfl,zfG _⟩
  · rename_i k hk hlt h
    have e:=hk.2
    have hlt:k<xs.length:=by omega
    have h:zeA (xs.getD k spkZ)=0:=(zfG _).symm.trans h
    rw[zdT hlt,if_pos h] at e
    refine zai.mk ?_
    refine Exists.intro (k+1) ?_
    refine And.intro (Leaf.mk ?_) ?_
    · repeat' first|exact True.intro|refine And.intro ?_ ?_
      all_goals try ((change _=_<;>try dsimp only)<;>try with_reducible rfl)
      all_goals try omega
      all_goals (rfl)
    exact⟨⟨hlt,e⟩,(show xs.length - (k+1)<xs.length - k by omega)⟩
  · rename_i k hk hlt
    have e:=hk.2
    rw[show xs.length - k=0 by omega] at e
    rw[←e];exact⟨rfl,rfl⟩
end Go.Eng.Ar
namespace Go.Eng
open Ieee
set_option linter.all false
theorem zzz {n drop B:Nat} {neg:Bool} (h:n<2 ^ (B+drop)):Toward.even.cut neg n drop≤2 ^ B:=by
  unfold Toward.cut
  dsimp only
  have hgap:∀g:Nat,0<g→n / g+(if (decide (g<2*(n % g)) || (g == 2*(n % g)&&n / g % 2 == 1))=true then 1 else 0)≤n / g+1:=fun g _=>by split<;>omega
  rw[Nat.one_shiftLeft]
  have hb:∀b:Bool,b.toNat≤1:=fun b=>by cases b<;>decide
  refine Nat.le_trans (Nat.add_le_add_left (hb _) _) ?_
  rcases Nat.le_total drop (n.log2+2) with hd|hd
  · rw [Nat.min_eq_left hd]
    have:n / 2 ^ drop<2 ^ B:=by
      rw[Nat.div_lt_iff_lt_mul (Nat.two_pow_pos _),←Nat.pow_add];exact h
    omega
  · rw [Nat.min_eq_right hd]
    have : n / 2 ^ (n.log2+2)=0:=by
      refine Nat.div_eq_of_lt ?_
      have:=Nat.lt_log2_self (n:=n)
      calc n<2 ^ (n.log2+1):=this
        _≤2 ^ (n.log2+2):=Nat.pow_le_pow_right (by decide) (by omega)
    rw[this]
    have:=Nat.two_pow_pos B
    omega
theorem zk4 {mag:Nat} {place:Int} {R:Nat} (h1R:1≤R) (hR:place+mag.log2+1022<R):∃r,double.nearest false mag place=r∧r≤(R+1)*2 ^ 52:=by
  refine⟨_,rfl,?_⟩
  unfold Format.nearest
  split
  · exact Nat.zero_le _
  dsimp only
  have hw:∀x,double.word false x=x:=fun x=>rfl
  rw[hw]
  refine Nat.le_trans (Nat.min_le_left _ _) ?_
  have hl:double.leastPlace = -1074:=by decide
  have hf:double.fractionBits=52:=rfl
  have hbn:double.binade=2 ^ 52:=rfl
  rw[hl,hf,hbn]
  obtain⟨last,hlast⟩:∃last,max (place+(mag.log2:Int) - ((52:Nat):Int)) (-1074)=last:=⟨_,rfl⟩
  rw[hlast]
  have hk:Toward.even.cut false (mag <<< (place - last).toNat) (last - place).toNat≤2 ^ 53:=by
    refine zzz ?_
    rw[Nat.shiftLeft_eq]
    have hm:=Nat.lt_log2_self (n:=mag)
    calc mag*2 ^ (place - last).toNat<2 ^ (mag.log2+1)*2 ^ (place - last).toNat:=Nat.mul_lt_mul_of_pos_right hm (Nat.two_pow_pos _)
      _=2 ^ (mag.log2+1+(place - last).toNat):=(Nat.pow_add ..).symm
      _≤2 ^ (53+(last - place).toNat):=Nat.pow_le_pow_right (by decide) (by omega)
  have h53:2 ^ 53=2*2 ^ 52:=rfl
  rw[h53] at hk
  have hx:(last - -1074).toNat+2≤R+1:=by omega
  refine Nat.le_trans (Nat.add_le_add_left hk _) ?_
  rw[←Nat.add_mul]
  exact Nat.mul_le_mul_right _ hx
theorem zru {r R:Nat} (h1:1≤R) (hR:R≤2000) (h:r≤R*2 ^ 52):∃m p,double.read r=.number false m p∧m<2 ^ 53∧p≤(R:Int) - 1075:=by
  have hs:double.signWeight=2 ^ 63:=by decide
  have hb:double.binade=2 ^ 52:=rfl
  have hi:double.infRung=2047*2 ^ 52:=by decide
  have hl:double.leastPlace = -1074:=by decide
  unfold Format.read
  rw[hs,hb,hi,hl]
  have hr:r<2 ^ 63:=by omega
  have e1:r / 2 ^ 63=0:=Nat.div_eq_of_lt hr
  have e2:r % 2 ^ 63=r:=Nat.mod_eq_of_lt hr
  rw[e1,e2]
  dsimp only
  have hn:(0 % 2 == 1)=false:=rfl
  rw[hn]
  split
  · rename_i h2
    exact⟨r,-1074,rfl,by omega,by omega⟩
  · rw[if_pos (by omega)]
    refine⟨_,_,rfl,by omega,?_⟩
    omega
theorem zd2 (n:Nat):∀(todo root:Nat),Datum.rootFrom n todo root<root+2 ^ todo
  | 0,root=>by simp[Datum.rootFrom]
  | todo+1,root=>by
    unfold Datum.rootFrom
    dsimp only
    rw[Nat.one_shiftLeft,Nat.pow_succ]
    split
    · have:=zd2 n todo (root+2 ^ todo);omega
    · have:=zd2 n todo root
      have:=Nat.two_pow_pos todo
      omega
theorem log2_lt {m k:Nat} (h:m<2 ^ k) (hk:1≤k):m.log2≤k - 1:=by
  rcases Nat.eq_zero_or_pos m with rfl|hm
  · simp
  · have:=(Nat.log2_lt (by omega)).2 h
    omega
theorem zv0 {m:Nat} {i:Int} (hm:m<2 ^ 53) (hi:i≤-2):∃m' p',(Datum.number false m i).root 54=some (.number false m' p')∧(m'=0∨p'+m'.log2+1022<1048):=by
  simp only[Datum.root,Bool.false_eq_true,if_false]
  split
  · rename_i h;exact⟨m,i,rfl,.inl h⟩
  · rename_i hne
    have hl:m.log2≤52:=log2_lt hm (by decide)
    obtain⟨more,hmore⟩:∃more,2*54 - m.log2+((i - ((2*54 - m.log2:Nat):Int)) % 2).toNat=more:=⟨_,rfl⟩
    rw[hmore]
    have h1:56≤more:=by omega
    have h2:m.log2+more≤109:=by omega
    obtain⟨n,hn⟩:∃n,m <<< more=n:=⟨_,rfl⟩
    rw[hn]
    have hnl:n.log2≤109:=by
      have : n<2 ^ 110:=by
        rw[←hn,Nat.shiftLeft_eq]
        have hm':=Nat.lt_log2_self (n:=m)
        calc m*2 ^ more<2 ^ (m.log2+1)*2 ^ more:=Nat.mul_lt_mul_of_pos_right hm' (Nat.two_pow_pos _)
          _=2 ^ (m.log2+1+more):=(Nat.pow_add ..).symm
          _≤2 ^ 110:=Nat.pow_le_pow_right (by decide) (by omega)
      exact log2_lt this (by decide)
    refine⟨_,_,rfl,.inr ?_⟩
    have hw:=zd2 n (n.log2 / 2+1) 0
    have hw2:Datum.rootFrom n (n.log2 / 2+1) 0<2 ^ 55:=by
      refine Nat.lt_of_lt_of_le (by simpa using hw) (Nat.pow_le_pow_right (by decide) (by omega))
    have hb:∀b:Bool,b.toNat≤1:=fun b=>by cases b<;>decide
    have hmag:2*Datum.rootFrom n (n.log2 / 2+1) 0+(Datum.rootFrom n (n.log2 / 2+1) 0*Datum.rootFrom n (n.log2 / 2+1) 0 != n).toNat<2 ^ 56:=by
      have:=hb (Datum.rootFrom n (n.log2 / 2+1) 0*Datum.rootFrom n (n.log2 / 2+1) 0 != n)
      omega
    have hlm:=log2_lt hmag (by decide)
    omega
theorem zwY {m drop:Nat} (hm:m<2 ^ 53) (hd:26≤drop):Toward.zero.cut false m drop≤134217728:=by
  unfold Toward.cut
  dsimp only
  rw[Nat.one_shiftLeft]
  show m / 2 ^ min drop (m.log2+2)+0≤_
  rcases Nat.le_total drop (m.log2+2) with h|h
  · rw[Nat.min_eq_left h]
    have h1:m / 2 ^ drop≤m / 2 ^ 26:=Nat.div_le_div_left (Nat.pow_le_pow_right (by decide) hd) (Nat.two_pow_pos _)
    have h2:m / 2 ^ 26<2 ^ 27:=by omega
    omega
  · rw [Nat.min_eq_right h]
    have : m / 2 ^ (m.log2+2)=0:=by
      refine Nat.div_eq_of_lt ?_
      have:=Nat.lt_log2_self (n:=m)
      calc m<2 ^ (m.log2+1):=this
        _≤2 ^ (m.log2+2):=Nat.pow_le_pow_right (by decide) (by omega)
    omega
theorem zxI {n:Int} (h0:0≤n) (h1:n<1125899906842624):∃r v,FloatKind.f64.format.sqrt (floatOfInt .f64 n)=some r∧floatToIntVal .f64 r .i64=some v∧0≤v∧v≤134217728:=by
  have e0:floatOfInt .f64 n=double.nearest false n.natAbs 0:=by
    show double.nearest (decide (n<0)) n.natAbs 0=_
    rw[decide_eq_false (by omega)]
  have hl:n.natAbs.log2≤49:=log2_lt (k:=50) (by omega) (by decide)
  obtain⟨x,hx,hxr⟩:=zk4 (mag:=n.natAbs) (place:=0) (R:=1072) (by decide) (by omega)
  obtain⟨m,i,hr,hm,hi⟩:=zru (R:=1073) (by decide) (by decide) hxr
  obtain⟨m',p',hroot,hcase⟩:=zv0 (m:=m) (i:=i) hm (by omega)
  have hs:FloatKind.f64.format.sqrt (floatOfInt .f64 n)=some (double.nearest false m' p'):=by
    rw[e0,hx]
    show ((double.read x).root 54).map double.write=_
    rw[hr,hroot];rfl
  have hy:double.nearest false m' p'≤1049*2 ^ 52:=by
    rcases hcase with h|h
    · subst h
      have:double.nearest false 0 p'=0:=by unfold Format.nearest;rw[if_pos rfl];rfl
      rw[this];exact Nat.zero_le _
    · obtain⟨y,hy,hyr⟩:=zk4 (mag:=m') (place:=p') (R:=1048) (by decide) h
      rw[hy];exact hyr
  obtain⟨m2,p2,hr2,hm2,hp2⟩:=zru (R:=1049) (by decide) (by decide) hy
  have hz:p2.toNat=0:=by omega
  have hc:=zwY (m:=m2) (drop:=(-p2).toNat) hm2 (by omega)
  refine⟨_,(Toward.zero.cut false m2 (-p2).toNat:Nat),hs,?_,by omega,by omega⟩
  unfold floatToIntVal
  have ht:(FloatKind.f64.decode (double.nearest false m' p')).toInt .zero=some ((Toward.zero.cut false m2 (-p2).toNat:Nat):Int):=by
    show (double.read (double.nearest false m' p')).toInt .zero=_
    rw[hr2]
    simp only[Datum.toInt,Datum.integral,hz,Nat.shiftLeft_zero,signed,Bool.false_eq_true,if_false]
  rw[ht]
  have hmin:IntKind.min .i64 = -9223372036854775808:=by decide
  have hmax:IntKind.max .i64=9223372036854775807:=by decide
  dsimp only
  rw[if_pos (by rw[hmin,hmax];omega)]
end Go.Eng
namespace Go.Eng.Ar
open Go.Eng Go.Proofs
set_option linter.all false
set_option maxRecDepth 100000
set_option maxHeartbeats 8000000
@[reducible] def zvQ:Spec:={pats:=[.dat (.flt .f64)],res:=[{t:=.flt .f64}],pre:=fun x=>(FloatKind.f64.format.sqrt x.1).isSome=true,f:=fun x=>((FloatKind.f64.format.sqrt x.1).getD 0,())}
theorem h149:Ok 149 zvQ:=by
  refine mk (ctr:=[]) trivial (nt:=5) Tryz.func149 rfl rfl rfl rfl (by kernel_rfl) (by kernel_rfl) (fun _=>[]) ?_
  rintro⟨(x:Nat),_⟩ h
  repeat' (intro hzz;(try (rename Two=>hq;cases hq));(try dsimp only at hzz);(try simp only[zad,zac,eqD,inR,big,zab,zB] at hzz);(try (revert hzz;intro _)))
  all_goals try (rename Unit=>hq;clear hq)
  all_goals try ((with_reducible refine Held.mk ?_);(with_reducible (first|refine Frz.mk ?_|refine And.intro (Frz.mk ?_) ?_|refine And.intro ?_ (Frz.mk ?_)));repeat' first|exact True.intro|(change _=_;with_reducible rfl)|refine And.intro ?_ ?_|(with_reducible refine Frz.mk ?_))
  all_goals try (refine Held.mk ?_;(try dsimp only at *);(try simp only[zad,zac,eqD,inR,big,zab,zB] at *))
  all_goals (first|exact h|trace_state)
def rtGo:Nat→Nat→Nat→Nat
  | 0,r,_=>r
  | k+1,r,n=>bif Nat.ble ((r+2 ^ k)*(r+2 ^ k)) n then rtGo k (r+2 ^ k) n else rtGo k r n
def rt (n:Nat):Nat:=rtGo 31 0 n
theorem zis:∀(k r n:Nat),r*r≤n→n<(r+2 ^ k)*(r+2 ^ k)→rtGo k r n*rtGo k r n≤n∧n<(rtGo k r n+1)*(rtGo k r n+1)
  | 0,r,n,h1,h2=>⟨h1,by simpa [rtGo] using h2⟩
  | k + 1,r,n,h1,h2=>by
    simp only[rtGo]
    cases hb:Nat.ble ((r+2 ^ k)*(r+2 ^ k)) n with
    | true=>
      have:=Nat.le_of_ble_eq_true hb
      refine zis k _ n this ?_
      rw[show r+2 ^ k+2 ^ k=r+2 ^ (k+1) by rw[Nat.pow_succ];omega]
      exact h2
    | false=>
      refine zis k r n h1 ?_
      rcases Nat.lt_or_ge n ((r+2 ^ k)*(r+2 ^ k)) with h|h
      · exact h
      · rw[Nat.ble_eq_true_of_le h] at hb;cases hb
theorem zkT {n:Nat} (h:n<2 ^ 62):rt n*rt n≤n∧n<(rt n+1)*(rt n+1):=zis 31 0 n (by omega) (by simpa using h)
theorem zqU {n a b:Nat} (h1:a*a≤n) (h2:n<(a+1)*(a+1)) (h3:b*b≤n) (h4:n<(b+1)*(b+1)):a=b:=by
  rcases Nat.lt_trichotomy a b with h|h|h
  · have:=Nat.mul_le_mul (show a+1≤b by omega) (show a+1≤b by omega);omega
  · exact h
  · have:=Nat.mul_le_mul (show b+1≤a by omega) (show b+1≤a by omega);omega
abbrev zdD (n:Int):Prop:=0≤n∧n<1125899906842624
def rtI (n:Int):Int:=(rt n.toNat:Int)
theorem zf5 {n:Int} (h:zdD n):0≤rtI n∧rtI n*rtI n≤n∧n<(rtI n+1)*(rtI n+1)∧rtI n<33554432:=by
  obtain⟨e1,e2⟩:=zkT (n:=n.toNat) (by omega)
  have g1:((rt n.toNat*rt n.toNat:Nat):Int)=rtI n*rtI n:=by simp[rtI]
  have g2:(((rt n.toNat+1)*(rt n.toNat+1):Nat):Int)=(rtI n+1)*(rtI n+1):=by simp[rtI]
  have g3:((rt n.toNat:Nat):Int)=rtI n:=rfl
  have g4:rt n.toNat<33554432:=by
    rcases Nat.lt_or_ge (rt n.toNat) 33554432 with h'|h'
    · exact h'
    · have:=Nat.mul_le_mul h' h';omega
  exact⟨by omega,by omega,by omega,by omega⟩
theorem zx5 {n:Int} (h:zdD n) {r:Nat} (h1:(r:Int)*r≤n) (h2:n<((r:Int)+1)*((r:Int)+1)):(r:Int)=rtI n:=by
  obtain⟨e1,e2⟩:=zkT (n:=n.toNat) (by omega)
  have g1:((r*r:Nat):Int)=(r:Int)*r:=by simp
  have g2:(((r+1)*(r+1):Nat):Int)=((r:Int)+1)*((r:Int)+1):=by simp
  have:=zqU (n:=n.toNat) (a:=r) (b:=rt n.toNat) (by omega) (by omega) e1 e2
  rw[this];rfl
theorem zqV {n:Int} {r:Nat} (h:zdD n) (h1:(r:Int)*r≤n):r<33554432:=by
  have g1:((r*r:Nat):Int)=(r:Int)*r:=by simp
  rcases Nat.lt_or_ge r 33554432 with h'|h'
  · exact h'
  · have:=Nat.mul_le_mul h' h';omega
theorem zxK {r:Nat} (h:r≤134217728):0≤(r:Int)*r∧(r:Int)*r≤18014398509481984:=by
  have g1:((r*r:Nat):Int)=(r:Int)*r:=by simp
  have:=Nat.mul_le_mul h h
  omega
@[reducible] def ztI:Spec:={pats:=[.dat I64],res:=[{t:=I64}],pre:=fun x=>zdD x.1,f:=fun x=>(rtI x.1,())}
def ztP (n:Int):LoopAnn:={σ:=Nat,pat:=fun r=>[sI 3 r],inv:=fun r=>r≤134217728,meas:=fun r=>r}
def ztO (n:Int):LoopAnn:={σ:=Nat,pat:=fun r=>[sI 3 r],inv:=fun r=>(r:Int)*r≤n,meas:=fun r=>33554432 - r}
theorem h112:Ok 112 ztI:=by
  refine mk (ctr:=[(149,zvQ)]) ⟨h149,trivial⟩ (nt:=25) Tryz.func112 rfl rfl rfl rfl (by kernel_rfl) (by kernel_rfl) (fun x=>[fun _=>ztP x.1,fun _=>ztO x.1]) ?_
  rintro⟨(n:Int),_⟩ (hn:zdD n)
  obtain⟨x,v,hx,hv,hv0,hv1⟩:=zxI hn.1 hn.2
  repeat' (intro hzz;(try (rename Two=>hq;cases hq));(try dsimp only at hzz);(try simp only[zad,zac,eqD,inR,big,zab,zB] at hzz);(try simp only[zad,zac,eqD,inR,big,zab,zB,hx,Option.getD_some,Option.isSome_some] at hzz);(try (revert hzz;intro _)))
  all_goals try (rename Unit=>hq;clear hq)
  all_goals try ((with_reducible refine Held.mk ?_);(with_reducible (first|refine Frz.mk ?_|refine And.intro (Frz.mk ?_) ?_|refine And.intro ?_ (Frz.mk ?_)));repeat' first|exact True.intro|(change _=_;with_reducible rfl)|refine And.intro ?_ ?_|(with_reducible refine Frz.mk ?_))
  all_goals try (refine Held.mk ?_;(try dsimp only at *);(try simp only[zad,zac,eqD,inR,big,zab,zB] at *);(try simp only[zad,zac,eqD,inR,big,zab,zB,hx,Option.getD_some,Option.isSome_some] at *))
  all_goals try omega
  · rw[hv];rfl
  ·
    refine zai.mk ?_
    refine Exists.intro v.toNat ?_
    refine And.intro (Leaf.mk ?_) ?_
    · repeat' first|exact True.intro|refine And.intro ?_ ?_
      all_goals try ((change _=_<;>try dsimp only)<;>try with_reducible rfl)
      all_goals try omega
      all_goals ((rw[hx,Option.getD_some,hv,Option.getD_some];omega))
    omega
  · rename_i r hr
    have:=zxK hr;omega
  · rename_i r hr h
    have h0:r≠0:=fun e=>by subst e;have:=hn.1;simp at h;omega
    refine zai.mk ?_
    refine Exists.intro (r - 1) ?_
    refine And.intro (Leaf.mk ?_) ?_
    · repeat' first|exact True.intro|refine And.intro ?_ ?_
      all_goals try ((change _=_<;>try dsimp only)<;>try with_reducible rfl)
      all_goals try omega
      all_goals (omega)
    exact⟨(show r - 1≤134217728 by omega),(show r - 1<r by omega)⟩
  · rename_i r hr h
    refine zai.mk ?_
    refine Exists.intro r ?_
    refine And.intro (Leaf.mk ?_) ?_
    · repeat' first|exact True.intro|refine And.intro ?_ ?_
      all_goals try ((change _=_<;>try dsimp only)<;>try with_reducible rfl)
      all_goals try omega
      all_goals (rfl)
    exact h
  · rename_i q hq hqn r h
    have:=zqV hn h;omega
  · rename_i q hq hqn r h
    have:=zqV hn h;omega
  · rename_i q hq hqn r h
    have hlt:=zqV hn h
    have:=zxK (r:=r+1) (by omega)
    push_cast at this
    omega
  · rename_i q hq hqn r h1 h
    have:=zqV hn h1;omega
  · rename_i q hq hqn r h1 h
    have hlt:=zqV hn (r:=r+1) (by push_cast;exact h)
    refine zai.mk ?_
    refine Exists.intro (r+1) ?_
    refine And.intro (Leaf.mk ?_) ?_
    · repeat' first|exact True.intro|refine And.intro ?_ ?_
      all_goals try ((change _=_<;>try dsimp only)<;>try with_reducible rfl)
      all_goals try omega
      all_goals ((push_cast;rfl))
    exact⟨(show ((r+1:Nat):Int)*((r+1:Nat):Int)≤n by push_cast;exact h),(show 33554432 - (r+1)<33554432 - r by omega)⟩
  · rename_i q hq hqn r h1 h
    exact zx5 hn h1 h
end Go.Eng.Ar
namespace Go.Eng.Ar
open Go.Eng Go.Proofs
set_option linter.all false
set_option maxRecDepth 100000
set_option maxHeartbeats 8000000
theorem zwi {f:Nat} {pats:List Pat} {res:List RC} {pre pre':(zac pats).Den→Prop} {F F':(zac pats).Den→(zad res).Den} (h:Ok f {pats:=pats,res:=res,pre:=pre,f:=F}) (hp:∀x,pre' x→pre x) (hf:∀x,pre' x→F x=F' x):Ok f {pats:=pats,res:=res,pre:=pre',f:=F'}:=by
  refine⟨fun w M x vs bs hM hA hx=>?_,h.2⟩
  have h1:=h.1 w M x vs bs hM hA (hp x hx)
  have h2:F x=F' x:=hf x hx
  refine h1.mono fun e w' ⟨rs,g,e1,e2,e3⟩=>⟨rs,g,e1,e2,?_⟩
  have e3:zgE w' _ _ res (F x) rs g:=e3
  rw[h2] at e3;exact e3
abbrev zan:Type:=zbA.Den
abbrev wr (n:Int):Int:=RowKit.wrap64 n
theorem ztt {n:Int} (h : -9223372036854775808≤n∧n≤9223372036854775807):wr n=n:=by
  unfold wr RowKit.wrap64;omega
def dW (x y:Int):Int:=wr (wr (x - y)*wr (x - y))
def dP (x y:Int):Int:=(x - y)*(x - y)
def sqWC (a1 a2 a3 b1 b2 b3:Int):Int:=wr (wr (dW a1 b1+dW a2 b2)+dW a3 b3)
def sqC (a1 a2 a3 b1 b2 b3:Int):Int:=dP a1 b1+dP a2 b2+dP a3 b3
def sqW (a b:zan):Int:=sqWC a.1 a.2.1 a.2.2.1 b.1 b.2.1 b.2.2.1
def sqP (a b:zan):Int:=sqC a.1 a.2.1 a.2.2.1 b.1 b.2.1 b.2.2.1
def inC (x:Int):Prop:=-5000≤x∧x≤5000
def inP (p:zan):Prop:=inC p.1∧inC p.2.1∧inC p.2.2.1
theorem zhw {p:zan} (h:zdC p.1 p.2.1 p.2.2.1=0):inP p:=by
  simp only[zdC] at h
  split at h
  · assumption
  · cases h
theorem zo0 {p:zan} (h:inP p):zdC p.1 p.2.1 p.2.2.1=0:=by
  simp only[zdC];exact if_pos h
theorem sq_b {x:Int} (h1 : -10000≤x) (h2:x≤10000):0≤x*x∧x*x≤100000000:=by
  by_cases h:0≤x
  · exact⟨Int.mul_nonneg h h,Int.mul_le_mul h2 h2 h (by omega)⟩
  · have e:x*x=(-x)*(-x):=by rw[Int.neg_mul_neg]
    have h3 : -x≤10000:=by omega
    have h4:0≤-x:=by omega
    rw[e]
    exact⟨Int.mul_nonneg h4 h4,Int.mul_le_mul h3 h3 h4 (by decide)⟩
theorem zjI {x y:Int} (hx:inC x) (hy:inC y):0≤dP x y∧dP x y≤100000000:=by
  obtain⟨h1,h2⟩:=hx
  obtain⟨h3,h4⟩:=hy
  exact sq_b (by omega) (by omega)
theorem zwV {x y:Int} (hx:inC x) (hy:inC y):dW x y=dP x y:=by
  have h:=zjI hx hy
  obtain⟨h1,h2⟩:=hx
  obtain⟨h3,h4⟩:=hy
  unfold dW dP at *
  rw[ztt (n:=x - y) (by omega),ztt (by omega)]
theorem zqW {a b:zan} (ha:inP a) (hb:inP b):0≤sqP a b∧sqP a b≤300000000:=by
  have h1:=zjI ha.1 hb.1
  have h2:=zjI ha.2.1 hb.2.1
  have h3:=zjI ha.2.2 hb.2.2
  unfold sqP sqC;omega
theorem zuT {a b:zan} (ha:inP a) (hb:inP b):sqW a b=sqP a b:=by
  have h1:=zjI ha.1 hb.1
  have h2:=zjI ha.2.1 hb.2.1
  have h3:=zjI ha.2.2 hb.2.2
  unfold sqW sqP sqWC sqC
  rw[zwV ha.1 hb.1,zwV ha.2.1 hb.2.1,zwV ha.2.2 hb.2.2]
  rw[ztt (n:=dP a.1 b.1+dP a.2.1 b.2.1) (by omega)]
  exact ztt (by omega)
@[reducible] def znz:Spec:={pats:=[.dat WayT],res:=[{t:=I64}],pre:=fun _=>True,f:=fun x=>(sqW x.1.1 x.1.2.1,())}
def cl (n b:Int):Int:=-(-n / b)
theorem zs0 {n b:Int} (hn:0≤n) (hb:0<b):(n+b - 1).tdiv b=cl n b:=by
  rw[Int.tdiv_eq_ediv_of_nonneg (by omega)]
  unfold cl
  have h1:=Int.emod_nonneg (n+b - 1) (show b≠0 by omega)
  have h2:=Int.emod_lt_of_pos (n+b - 1) hb
  have h3:=Int.emod_def (n+b - 1) b
  have h4:(-n) / b = -((n+b - 1) / b):=by
    refine Int.ediv_eq_iff_of_pos hb |>.2 ⟨?_,?_⟩
    · rw[Int.neg_mul];rw[Int.mul_comm] ;omega
    · rw[Int.neg_mul,Int.mul_comm];omega
  omega
abbrev pNs (n:Int):Prop:=0≤n∧n≤1000000000000000000
abbrev pAb (n b:Int):Prop:=(0≤n∧n≤1000000000000000000)∧(0<b∧b≤1000000000000000000)
@[reducible] def zri:Spec:={pats:=[.dat I64,.dat I64],res:=[{t:=I64}],pre:=fun x=>pAb x.1 x.2.1,f:=fun x=>(cl x.1 x.2.1,())}
theorem zpy {n b:Int} (hn:0≤n) (hb:0<b):0≤n / b∧n / b≤n:=⟨Int.ediv_nonneg hn (by omega),Int.ediv_le_self _ hn⟩
theorem zuA {n b:Int} (hn:0≤n) (hb:0<b):0≤cl n b∧cl n b≤n:=by
  rw[←zs0 hn hb,Int.tdiv_eq_ediv_of_nonneg (by omega)]
  refine⟨Int.ediv_nonneg (by omega) (by omega),?_⟩
  by_cases h0:n=0
  · subst h0
    have:=Int.ediv_eq_zero_of_lt (a:=0+b - 1) (b:=b) (by omega) (by omega)
    omega
  · refine Int.lt_add_one_iff.1 (Int.ediv_lt_of_lt_mul hb ?_)
    have:1*(b - 1)≤n*(b - 1):=Int.mul_le_mul_of_nonneg_right (by omega) (by omega)
    rw[Int.one_mul,Int.mul_sub,Int.mul_one] at this
    rw[Int.add_mul,Int.one_mul]
    omega
theorem h136:Ok 136 zri:=by
  refine mk (ctr:=[]) trivial (nt:=11) Tryz.func136 rfl rfl rfl rfl (by kernel_rfl) (by kernel_rfl) (fun _=>[]) ?_
  rintro⟨(n:Int),(b:Int),_⟩ ⟨(h1:0≤n∧n≤1000000000000000000),(h2:0<b∧b≤1000000000000000000)⟩
  have e:=zs0 h1.1 h2.1
  have e2:=zuA h1.1 h2.1
  repeat' (intro hzz;(try (rename Two=>hq;cases hq));(try dsimp only at hzz);(try simp only[zad,zac,eqD,inR,big,zab,zB] at hzz);(try simp only[zad,zac,eqD,inR,big,zab,zB,e] at hzz);(try (revert hzz;intro _)))
  all_goals try (rename Unit=>hq;clear hq)
  all_goals try ((with_reducible refine Held.mk ?_);(with_reducible (first|refine Frz.mk ?_|refine And.intro (Frz.mk ?_) ?_|refine And.intro ?_ (Frz.mk ?_)));repeat' first|exact True.intro|(change _=_;with_reducible rfl)|refine And.intro ?_ ?_|(with_reducible refine Frz.mk ?_))
  all_goals try (refine Held.mk ?_;(try dsimp only at *);(try simp only[zad,zac,eqD,inR,big,zab,zB] at *);(try simp only[zad,zac,eqD,inR,big,zab,zB,e] at *))
  all_goals try omega
def rtU (n:Int):Int:=if rtI n*rtI n<n then rtI n+1 else rtI n
@[reducible] def zq7:Spec:={ztI with f:=fun x=>(rtU x.1,())}
theorem h113:Ok 113 zq7:=by
  refine mk (ctr:=[(112,ztI)]) ⟨h112,trivial⟩ (nt:=14) Tryz.func113 rfl rfl rfl rfl (by kernel_rfl) (by kernel_rfl) (fun _=>[]) ?_
  rintro⟨(n:Int),_⟩ (hn:zdD n)
  have h1:=zf5 hn
  have h2:0≤rtI n*rtI n:=Int.mul_nonneg h1.1 h1.1
  have h3:=hn.2
  repeat' (intro hzz;(try (rename Two=>hq;cases hq));(try dsimp only at hzz);(try simp only[zad,zac,eqD,inR,big,zab,zB] at hzz);(try simp only[zad,zac,eqD,inR,big,zab,zB,zdD] at hzz);(try (revert hzz;intro _)))
  all_goals try (rename Unit=>hq;clear hq)
  all_goals try ((with_reducible refine Held.mk ?_);(with_reducible (first|refine Frz.mk ?_|refine And.intro (Frz.mk ?_) ?_|refine And.intro ?_ (Frz.mk ?_)));repeat' first|exact True.intro|(change _=_;with_reducible rfl)|refine And.intro ?_ ?_|(with_reducible refine Frz.mk ?_))
  all_goals try (refine Held.mk ?_;(try dsimp only at *);(try simp only[zad,zac,eqD,inR,big,zab,zB] at *);(try simp only[zad,zac,eqD,inR,big,zab,zB,zdD] at *))
  all_goals first|exact hn|omega|(simp only[rtU];split<;>omega)|trace_state
theorem ztB (a b c d e f:Int) (w:World):Calls Tryz.prog 138 #[.agg #[.int .i64 a,.int .i64 b,.int .i64 c,.int .i64 d,.int .i64 e,.int .i64 f]] w fun r w'=>r=.returned (.int .i64 (sqW (a,b,c,()) (d,e,f,())))∧∃o nq,w'=(w.alloc o).drewN nq:=by
  have mixed:=mixed
  have t3:=Tryz.underlying3
  have hn:Tryz.f138.ntmps=38:=rfl
  go_enter Tryz.func138,hn
  go_wp2
  go_quiet (fail)
  go_wp2
  go_ret
  exact⟨rfl,_,_,rfl⟩
theorem h138:Ok 138 znz:=by
  refine⟨?_,Tryz.f138,Tryz.func138,by kernel_rfl,by kernel_rfl⟩
  rintro w M ⟨⟨⟨a,b,c,_⟩,⟨d,e,f,_⟩,_⟩,_⟩ vs bs hM ⟨v,vs',rfl,hv,rfl,rfl⟩ _
  have hv:v=.agg #[.int .i64 a,.int .i64 b,.int .i64 c,.int .i64 d,.int .i64 e,.int .i64 f]:=by
    obtain⟨l,h1,h2⟩:=hv
    obtain⟨l1,l2,rfl,⟨m1,m2,rfl,h11,m3,m4,rfl,h12,m5,m6,rfl,h13,h14⟩,l3,l4,rfl,⟨n1,n2,rfl,h21,n3,n4,rfl,h22,n5,n6,rfl,h23,h24⟩,h5⟩:=h1
    subst h11 h12 h13 h14 h21 h22 h23 h24 h5
    rcases h2 with ⟨_,h⟩|⟨h,_⟩
    · exact h
    · cases h
  subst hv
  refine (ztB a b c d e f w).mono ?_
  rintro r w' ⟨rfl,o,nq,rfl⟩
  refine⟨[_],none,rfl,?_,_,_,rfl,RepV.mk1 rfl rfl,rfl,rfl⟩
  refine⟨rfl,rfl,rfl,?_,fun b hb _=>?_,fun b hb=>by cases hb⟩
  · show w.heap.size≤(w.heap.push o).size
    rw[Array.size_push];exact Nat.le_succ _
  · show (w.heap.push o)[b]?=w.heap[b]?
    rw[Array.getElem?_push,if_neg (Nat.ne_of_lt hb)]
@[reducible] def pW (x:WayT.Den):Prop:=inP x.1∧inP x.2.1
@[reducible] def zoH:Spec:={znz with pre:=fun x=>pW x.1,f:=fun x=>(sqP x.1.1 x.1.2.1,())}
theorem zAy:Ok 138 zoH:=zwi h138 (fun _ _=>trivial) (fun x h=>congrArg (fun n=>(n,())) (zuT h.1 h.2))
def zhF (a b:zan):Bool:=decide (sqW a b<100)
@[reducible] def zvU:Spec:={pats:=[.dat WayT],res:=[{t:=.bool}],pre:=fun _=>True,f:=fun x=>(zhF x.1.1 x.1.2.1,())}
theorem h78:Ok 78 zvU:=by
  refine mk (ctr:=[(138,znz)]) ⟨h138,trivial⟩ (nt:=6) Tryz.func78 rfl rfl rfl rfl (by kernel_rfl) (by kernel_rfl) (fun _=>[]) ?_
  rintro⟨⟨(a:zan),(b:zan),_⟩,_⟩ _
  repeat' (intro hzz;(try (rename Two=>hq;cases hq));(try dsimp only at hzz);(try simp only[zad,zac,eqD,inR,big,zab,zB] at hzz);(try simp only[zad,zac,eqD,inR,big,zab,zB,sqW] at hzz);(try (revert hzz;intro _)))
  all_goals try (rename Unit=>hq;clear hq)
  all_goals try ((with_reducible refine Held.mk ?_);(with_reducible (first|refine Frz.mk ?_|refine And.intro (Frz.mk ?_) ?_|refine And.intro ?_ (Frz.mk ?_)));repeat' first|exact True.intro|(change _=_;with_reducible rfl)|refine And.intro ?_ ?_|(with_reducible refine Frz.mk ?_))
  all_goals try (refine Held.mk ?_;(try dsimp only at *);(try simp only[zad,zac,eqD,inR,big,zab,zB] at *);(try simp only[zad,zac,eqD,inR,big,zab,zB,sqW] at *))
  all_goals rfl
def farN (a b:zan):Int:=sqC a.1 a.2.1 a.2.2.1 b.1 b.2.1 b.2.2.1*1000*1000
def zwM (a1 a2 a3 b1 b2 b3:Int):Int:=rtI (sqC a1 a2 a3 b1 b2 b3*1000*1000)
def zwK (a1 a2 a3 b1 b2 b3:Int):Int:=rtU (sqC a1 a2 a3 b1 b2 b3*1000*1000)
def farL (a b:zan):Int:=zwM a.1 a.2.1 a.2.2.1 b.1 b.2.1 b.2.2.1
def farU (a b:zan):Int:=zwK a.1 a.2.1 a.2.2.1 b.1 b.2.1 b.2.2.1
theorem zwL (a b:zan):farN a b=sqP a b*1000*1000:=rfl
theorem zgq {a b:zan} (ha:inP a) (hb:inP b):zdD (farN a b)∧farN a b≤300000000000000:=by
  have:=zqW ha hb
  rw[zwL];unfold zdD;omega
theorem zx4 {n:Int} (h:zdD n):rtI n≤rtU n∧rtU n≤rtI n+1:=by
  simp only[rtU];split<;>omega
theorem zzZ {n r:Int} (h:zdD n) (hr:0≤r) (hn:n<r*r):rtI n<r:=by
  obtain⟨h1,h2,h3,h4⟩:=zf5 h
  by_cases hl:rtI n<r
  · exact hl
  · have:=Int.mul_le_mul (show r≤rtI n by omega) (show r≤rtI n by omega) hr h1
    omega
theorem zz0 {n r:Int} (h:zdD n) (hr:0≤r) (hn:r*r≤n):r≤rtI n:=by
  obtain⟨h1,h2,h3,h4⟩:=zf5 h
  by_cases hl:r≤rtI n
  · exact hl
  · have:=Int.mul_le_mul (show rtI n+1≤r by omega) (show rtI n+1≤r by omega) (by omega) hr
    omega
theorem zkk {a b:zan} (ha:inP a) (hb:inP b):(0≤farL a b∧farL a b<17320509)∧(farL a b≤farU a b∧farU a b≤farL a b+1):=by
  obtain⟨h1,h2⟩:=zgq ha hb
  exact⟨⟨(zf5 h1).1,zzZ h1 (by decide) (Int.lt_of_le_of_lt h2 (by decide))⟩,zx4 h1⟩
theorem zvm {a b:zan} (ha:inP a) (hb:inP b) (h:100≤sqP a b):10000≤farL a b:=
  zz0 (zgq ha hb).1 (by decide) (by show 10000*10000≤sqP a b*1000*1000;omega)
@[reducible] def sFar:Spec:={pats:=[.dat WayT],res:=[{t:=zdn}],pre:=fun x=>pW x.1,f:=fun x=>((farL x.1.1 x.1.2.1,farU x.1.1 x.1.2.1,()),())}
theorem h135:Ok 135 sFar:=by
  refine mk (ctr:=[(138,zoH),(112,ztI),(113,zq7)]) ⟨zAy,h112,h113,trivial⟩ (nt:=13) Tryz.func135 rfl rfl rfl rfl (by kernel_rfl) (by kernel_rfl) (fun _=>[]) ?_
  rintro⟨⟨(a:zan),(b:zan),_⟩,_⟩ ⟨(ha:inP a),(hb:inP b)⟩
  have h1:=zqW ha hb
  have h2:=(zgq ha hb).1
  repeat' (intro hzz;(try (rename Two=>hq;cases hq));(try dsimp only at hzz);(try simp only[zad,zac,eqD,inR,big,zab,zB] at hzz);(try simp only[zad,zac,eqD,inR,big,zab,zB,sqW,sqP,farL,farU,pAb,pNs] at hzz);(try (revert hzz;intro _)))
  all_goals try (rename Unit=>hq;clear hq)
  all_goals try ((with_reducible refine Held.mk ?_);(with_reducible (first|refine Frz.mk ?_|refine And.intro (Frz.mk ?_) ?_|refine And.intro ?_ (Frz.mk ?_)));repeat' first|exact True.intro|(change _=_;with_reducible rfl)|refine And.intro ?_ ?_|(with_reducible refine Frz.mk ?_))
  all_goals try (refine Held.mk ?_;(try dsimp only at *);(try simp only[zad,zac,eqD,inR,big,zab,zB] at *);(try simp only[zad,zac,eqD,inR,big,zab,zB,sqW,sqP,farL,farU,pAb,pNs] at *))
  all_goals try simp only[farN] at h2
  all_goals first|omega|exact h2|exact⟨ha,hb⟩|exact⟨rfl,rfl⟩|trace_state
abbrev SndD:Type:=zaD.Den
def inS (x:SndD):Prop:=(8000≤x.1∧x.1≤192000)∧(30000≤x.2.1∧x.2.1≤40000)
theorem zvi {x:SndD} (h:zgI x.1 x.2.1=0):inS x:=by
  simp only[zgI] at h
  split at h
  · assumption
  · cases h
def trL (a b:zan) (x:SndD):Int:=(farL a b*x.1) / (1000*x.2.1)
def trU (a b:zan) (x:SndD):Int:=cl (farU a b*x.1) (1000*x.2.1)
@[reducible] def pWX (w:WayT.Den) (x:SndD):Prop:=(inP w.1∧inP w.2.1)∧inS x
theorem zmP {n r:Int} (h1:0≤n) (h2:n≤17320509) (h3:8000≤r∧r≤192000):0≤n*r∧n*r≤3325537728000:=by
  refine⟨Int.mul_nonneg h1 (by omega),?_⟩
  have:=Int.mul_le_mul h2 h3.2 (by omega) (show (0:Int)≤17320509 by omega)
  omega
def nuL (a b:zan) (x:SndD):Int:=((farL a b*x.1) / x.2.1+500) / 1000
def nuU (a b:zan) (x:SndD):Int:=(cl (farU a b*x.1) x.2.1+500) / 1000
@[reducible] def zvT:Spec:={pats:=[.dat WayT,.dat zaD],res:=[{t:=zdn}],pre:=fun x=>pWX x.1 x.2.1,f:=fun x=>((nuL x.1.1 x.1.2.1 x.2.1,nuU x.1.1 x.1.2.1 x.2.1,()),())}
@[reducible] def zoO:Spec:={pats:=[.dat I64],res:=[{t:=I64}],pre:=fun x=>pNs x.1,f:=fun x=>((x.1+500) / 1000,())}
theorem h137:Ok 137 zoO:=by
  refine mk (ctr:=[]) trivial (nt:=6) Tryz.func137 rfl rfl rfl rfl (by kernel_rfl) (by kernel_rfl) (fun _=>[]) ?_
  rintro⟨(n:Int),_⟩ ⟨(h1:0≤n),(h2:n≤1000000000000000000)⟩
  have e1:(n+500).tdiv 1000=(n+500) / 1000:=Int.tdiv_eq_ediv_of_nonneg (by omega)
  repeat' (intro hzz;(try (rename Two=>hq;cases hq));(try dsimp only at hzz);(try simp only[zad,zac,eqD,inR,big,zab,zB] at hzz);(try simp only[zad,zac,eqD,inR,big,zab,zB,sqW,sqP,farL,farU,e1] at hzz);(try (revert hzz;intro _)))
  all_goals try (rename Unit=>hq;clear hq)
  all_goals try ((with_reducible refine Held.mk ?_);(with_reducible (first|refine Frz.mk ?_|refine And.intro (Frz.mk ?_) ?_|refine And.intro ?_ (Frz.mk ?_)));repeat' first|exact True.intro|(change _=_;with_reducible rfl)|refine And.intro ?_ ?_|(with_reducible refine Frz.mk ?_))
  all_goals try (refine Held.mk ?_;(try dsimp only at *);(try simp only[zad,zac,eqD,inR,big,zab,zB] at *);(try simp only[zad,zac,eqD,inR,big,zab,zB,sqW,sqP,farL,farU,e1] at *))
  all_goals try omega
theorem h77:Ok 77 zvT:=by
  refine mk (ctr:=[(135,sFar),(136,zri),(137,zoO)]) ⟨h135,h136,h137,trivial⟩ (nt:=30) Tryz.func77 rfl rfl rfl rfl (by kernel_rfl) (by kernel_rfl) (fun _=>[]) ?_
  rintro⟨⟨(a:zan),(b:zan),_⟩,⟨(r:Int),(v:Int),_⟩,_⟩ ⟨⟨(ha:inP a),(hb:inP b)⟩,(hx:(8000≤r∧r≤192000)∧(30000≤v∧v≤40000))⟩
  have h1:=zkk ha hb
  have h2:=zmP (n:=farL a b) (r:=r) (by omega) (by omega) hx.1
  have h3:=zmP (n:=farU a b) (r:=r) (by omega) (by omega) hx.1
  have e1:(farL a b*r).tdiv v=(farL a b*r) / v:=Int.tdiv_eq_ediv_of_nonneg h2.1
  have h4:=zpy (b:=v) h2.1 (by omega)
  have h5:=zuA (b:=v) h3.1 (by omega)
  repeat' (intro hzz;(try (rename Two=>hq;cases hq));(try dsimp only at hzz);(try simp only[zad,zac,eqD,inR,big,zab,zB] at hzz);(try simp only[zad,zac,eqD,inR,big,zab,zB,sqW,sqP,farL,farU,pAb,pNs,e1] at hzz);(try (revert hzz;intro _)))
  all_goals try (rename Unit=>hq;clear hq)
  all_goals try ((with_reducible refine Held.mk ?_);(with_reducible (first|refine Frz.mk ?_|refine And.intro (Frz.mk ?_) ?_|refine And.intro ?_ (Frz.mk ?_)));repeat' first|exact True.intro|(change _=_;with_reducible rfl)|refine And.intro ?_ ?_|(with_reducible refine Frz.mk ?_))
  all_goals try (refine Held.mk ?_;(try dsimp only at *);(try simp only[zad,zac,eqD,inR,big,zab,zB] at *);(try simp only[zad,zac,eqD,inR,big,zab,zB,sqW,sqP,farL,farU,pAb,pNs,e1] at *))
  all_goals first|omega|exact⟨ha,hb⟩|exact⟨rfl,rfl⟩|trace_state
def stL (a b:zan):Int:=1000000000 / farU a b
def stU (a b:zan):Int:=cl 1000000000 (farL a b)
@[reducible] def pWN (w:WayT.Den):Prop:=(inP w.1∧inP w.2.1)∧100≤sqP w.1 w.2.1
@[reducible] def sStr:Spec:={pats:=[.dat WayT],res:=[{t:=zdn}],pre:=fun x=>pWN x.1,f:=fun x=>((stL x.1.1 x.1.2.1,stU x.1.1 x.1.2.1,()),())}
theorem h79:Ok 79 sStr:=by
  refine mk (ctr:=[(135,sFar),(136,zri)]) ⟨h135,h136,trivial⟩ (nt:=13) Tryz.func79 rfl rfl rfl rfl (by kernel_rfl) (by kernel_rfl) (fun _=>[]) ?_
  rintro⟨⟨(a:zan),(b:zan),_⟩,_⟩ ⟨⟨(ha:inP a),(hb:inP b)⟩,(hn:100≤sqP a b)⟩
  have h1:=zkk ha hb
  have h2:=zvm ha hb hn
  have e1:(1000000000:Int).tdiv (farU a b)=1000000000 / farU a b:=Int.tdiv_eq_ediv_of_nonneg (by decide)
  have h4:=zpy (n:=1000000000) (b:=farU a b) (by omega) (by omega)
  repeat' (intro hzz;(try (rename Two=>hq;cases hq));(try dsimp only at hzz);(try simp only[zad,zac,eqD,inR,big,zab,zB] at hzz);(try simp only[zad,zac,eqD,inR,big,zab,zB,sqW,sqP,farL,farU,pAb,pNs,e1] at hzz);(try (revert hzz;intro _)))
  all_goals try (rename Unit=>hq;clear hq)
  all_goals try ((with_reducible refine Held.mk ?_);(with_reducible (first|refine Frz.mk ?_|refine And.intro (Frz.mk ?_) ?_|refine And.intro ?_ (Frz.mk ?_)));repeat' first|exact True.intro|(change _=_;with_reducible rfl)|refine And.intro ?_ ?_|(with_reducible refine Frz.mk ?_))
  all_goals try (refine Held.mk ?_;(try dsimp only at *);(try simp only[zad,zac,eqD,inR,big,zab,zB] at *);(try simp only[zad,zac,eqD,inR,big,zab,zB,sqW,sqP,farL,farU,pAb,pNs,e1] at *))
  all_goals first|omega|exact⟨ha,hb⟩|exact⟨rfl,rfl⟩|trace_state
theorem zhO {a b:zan} (ha:inP a) (hb:inP b):zhF a b=decide (sqP a b<100):=by
  unfold zhF;rw[zuT ha hb]
theorem zzh {a b x:Int} (h:za8 [a,b,x]=0):a=0∧b=0∧x=0:=by
  simp only[za8] at h
  split at h
  · split at h
    · split at h
      · exact⟨by assumption,by assumption,by assumption⟩
      · exact absurd h (by assumption)
    · exact absurd h (by assumption)
  · exact absurd h (by assumption)
theorem zzi {a b:Int} (h:za8 [a,b]=0):a=0∧b=0:=by
  simp only[za8] at h
  split at h
  · split at h
    · exact⟨by assumption,by assumption⟩
    · exact absurd h (by assumption)
  · exact absurd h (by assumption)
def err3 (a b:zan) (x:SndD):Int:=za8 [zdC a.1 a.2.1 a.2.2.1,zdC b.1 b.2.1 b.2.2.1,zgI x.1 x.2.1]
def err2 (a b:zan):Int:=za8 [zdC a.1 a.2.1 a.2.2.1,zdC b.1 b.2.1 b.2.2.1]
abbrev RngD:Type:=zdn.Den
def trvR (a b:zan) (x:SndD):RngD×Int×Unit:=if err3 a b x=0 then ((trL a b x,trU a b x,()),0,()) else ((0,0,()),err3 a b x,())
def nusR (a b:zan) (x:SndD):RngD×Int×Unit:=if err3 a b x=0 then ((nuL a b x,nuU a b x,()),0,()) else ((0,0,()),err3 a b x,())
def strR (a b:zan):RngD×Int×Unit:=if err2 a b=0 then (if sqP a b<100 then ((0,0,()),11,()) else ((stL a b,stU a b,()),0,())) else ((0,0,()),err2 a b,())
@[reducible] def zvP:Spec:={pats:=[.dat zbA,.dat zbA,.dat zaD],res:=[{t:=zdn},{t:=I64}],pre:=fun _=>True,f:=fun x=>trvR x.1 x.2.1 x.2.2.1}
@[reducible] def zpW:Spec:={zvP with f:=fun x=>nusR x.1 x.2.1 x.2.2.1}
@[reducible] def zl9:Spec:={pats:=[.dat zbA,.dat zbA],res:=[{t:=zdn},{t:=I64}],pre:=fun _=>True,f:=fun x=>strR x.1 x.2.1}
theorem h16:Ok 16 zpW:=by
  refine mk (ctr:=[(73,zeJ),(74,zim),(75,zma),(77,zvT)]) ⟨h73,h74,h75,h77,trivial⟩ (nt:=26) Tryz.func16 rfl rfl rfl rfl (by kernel_rfl) (by kernel_rfl) (fun _=>[]) ?_
  rintro⟨(a:zan),(b:zan),(x:SndD),_⟩ _
  repeat' (intro hzz;(try (rename Two=>hq;cases hq));(try dsimp only at hzz);(try simp only[zad,zac,eqD,inR,big,zab,zB] at hzz);(try simp only[zad,zac,eqD,inR,big,zab,zB,sqW,sqP,farL,farU,pAb,pNs] at hzz);(try (revert hzz;intro _)))
  all_goals try (rename Unit=>hq;clear hq)
  all_goals try ((with_reducible refine Held.mk ?_);(with_reducible (first|refine Frz.mk ?_|refine And.intro (Frz.mk ?_) ?_|refine And.intro ?_ (Frz.mk ?_)));repeat' first|exact True.intro|(change _=_;with_reducible rfl)|refine And.intro ?_ ?_|(with_reducible refine Frz.mk ?_))
  all_goals try (refine Held.mk ?_;(try dsimp only at *);(try simp only[zad,zac,eqD,inR,big,zab,zB] at *);(try simp only[zad,zac,eqD,inR,big,zab,zB,sqW,sqP,farL,farU,pAb,pNs] at *))
  all_goals first|(show ((3:Nat):Int)≤4611686018427387904;decide)|(rename_i h;have e:nusR a b x=((0,0,()),err3 a b x,()):=if_neg h;rw[e];exact⟨⟨rfl,rfl⟩,rfl⟩)|(rename_i h;obtain⟨e1,e2,e3⟩:=zzh h;exact⟨⟨zhw e1,zhw e2⟩,zvi e3⟩)|(rename_i h;have e:nusR a b x=((nuL a b x,nuU a b x,()),0,()):=if_pos h;rw[e];exact⟨⟨rfl,rfl⟩,rfl⟩)|trace_state
theorem zzT {a b:zan} (h:¬err2 a b=0):strR a b=((0,0,()),err2 a b,()):=if_neg h
theorem zrU {a b:zan} (h:err2 a b=0):(inP a∧inP b)∧zhF a b=decide (sqP a b<100):=by
  obtain⟨e1,e2⟩:=zzi h
  exact⟨⟨zhw e1,zhw e2⟩,zhO (zhw e1) (zhw e2)⟩
theorem zzS {a b:zan} (h:err2 a b=0) (hn:zhF a b=true):strR a b=((0,0,()),11,()):=by
  have h1:sqP a b<100:=by rw[(zrU h).2] at hn;exact of_decide_eq_true hn
  unfold strR;rw[if_pos h,if_pos h1]
theorem zvf {a b:zan} (h:err2 a b=0) (hn:zhF a b=false):100≤sqP a b:=by
  have h1:¬sqP a b<100:=by rw[(zrU h).2] at hn;exact of_decide_eq_false hn
  omega
theorem zzR {a b:zan} (h:err2 a b=0) (hn:zhF a b=false):strR a b=((stL a b,stU a b,()),0,()):=by
  have h1:=zvf h hn
  unfold strR;rw[if_pos h,if_neg (by omega)]
theorem h17:Ok 17 zl9:=by
  refine mk (ctr:=[(73,zeJ),(74,zim),(78,zvU),(79,sStr)]) ⟨h73,h74,h78,h79,trivial⟩ (nt:=26) Tryz.func17 rfl rfl rfl rfl (by kernel_rfl) (by kernel_rfl) (fun _=>[]) ?_
  rintro⟨(a:zan),(b:zan),_⟩ _
  repeat' (intro hzz;(try (rename Two=>hq;cases hq));(try dsimp only at hzz);(try simp only[zad,zac,eqD,inR,big,zab,zB] at hzz);(try simp only[zad,zac,eqD,inR,big,zab,zB,sqW,sqP,farL,farU,pAb,pNs] at hzz);(try (revert hzz;intro _)))
  all_goals try (rename Unit=>hq;clear hq)
  all_goals try ((with_reducible refine Held.mk ?_);(with_reducible (first|refine Frz.mk ?_|refine And.intro (Frz.mk ?_) ?_|refine And.intro ?_ (Frz.mk ?_)));repeat' first|exact True.intro|(change _=_;with_reducible rfl)|refine And.intro ?_ ?_|(with_reducible refine Frz.mk ?_))
  all_goals try (refine Held.mk ?_;(try dsimp only at *);(try simp only[zad,zac,eqD,inR,big,zab,zB] at *);(try simp only[zad,zac,eqD,inR,big,zab,zB,sqW,sqP,farL,farU,pAb,pNs] at *))
  all_goals first|(show ((2:Nat):Int)≤4611686018427387904;decide)|(rename_i h;rw[zzT (a:=a) (b:=b) h];exact⟨⟨rfl,rfl⟩,rfl⟩)|(rename_i h hn;rw[zzS (a:=a) (b:=b) h hn];exact⟨⟨rfl,rfl⟩,rfl⟩)|(rename_i h hn;exact⟨(zrU (a:=a) (b:=b) h).1,zvf (a:=a) (b:=b) h hn⟩)|(rename_i h hn;rw[zzR (a:=a) (b:=b) h hn];exact⟨⟨rfl,rfl⟩,rfl⟩)|trace_state
end Go.Eng.Ar
namespace Go.Eng.Ar
open Go.Eng Go.Proofs
set_option linter.all false
set_option maxRecDepth 100000
set_option maxHeartbeats 8000000
theorem zoA {n b:Int} (hb:0<b) (h:n.tmod b<0):n.tdiv b - 1=n / b:=by
  have h1:=Int.tmod_eq_emod (a:=n) (b:=b)
  have h2:=Int.tdiv_eq_ediv (a:=n) (b:=b)
  have h3:=Int.emod_nonneg n (show b≠0 by omega)
  split at h1
  · omega
  · rename_i hc
    rw[if_neg hc] at h2
    have:b.sign=1:=Int.sign_eq_one_of_pos hb
    omega
theorem zoz {n b:Int} (hb:0<b) (h:0≤n.tmod b):n.tdiv b=n / b:=by
  have h1:=Int.tmod_eq_emod (a:=n) (b:=b)
  have h2:=Int.tdiv_eq_ediv (a:=n) (b:=b)
  have h3:=Int.emod_lt_of_pos n hb
  split at h1
  · rename_i hc
    rw[if_pos hc] at h2
    omega
  · omega
theorem zqL {n b:Int} (h1 : -9000000000000000000≤n) (h2:n≤9000000000000000000) : -9000000000000000000≤n.tdiv b∧n.tdiv b≤9000000000000000000:=by
  have h3:=Int.natAbs_tdiv_le_natAbs n b
  omega
theorem zzu {n b:Int} (hb:0<b) (h1 : -9000000000000000000≤n) (h2:n≤9000000000000000000) : -9000000000000000001≤n / b∧n / b≤9000000000000000000:=by
  have h3:=zqL (b:=b) h1 h2
  by_cases h:n.tmod b<0
  · rw[←zoA hb h];omega
  · rw[←zoz hb (by omega)];omega
abbrev zgb (n b:Int):Prop:=0<b∧-9000000000000000000≤n∧n≤9000000000000000000
abbrev zeY (n b:Int):Int:=n / b
@[reducible] def zin:Spec:={pats:=[.dat I64,.dat I64],res:=[{t:=I64}],pre:=fun x=>zgb x.1 x.2.1,f:=fun x=>(zeY x.1 x.2.1,())}
theorem h82:Ok 82 zin:=by
  refine mk (ctr:=[]) trivial (nt:=16) Tryz.func82 rfl rfl rfl rfl (by kernel_rfl) (by kernel_rfl) (fun _=>[]) ?_
  rintro⟨(n:Int),(b:Int),_⟩ ⟨h1,h2,h3⟩
  repeat' (intro hzz;(try (rename Two=>hq;cases hq));(try dsimp only at hzz);(try simp only[zad,zac,eqD,inR,big,zab,zB] at hzz);(try simp only[zad,zac,eqD,inR,big,zab,zB,zgb,zeY] at hzz);(try (revert hzz;intro _)))
  all_goals try (rename Unit=>hq;clear hq)
  all_goals try ((with_reducible refine Held.mk ?_);(with_reducible (first|refine Frz.mk ?_|refine And.intro (Frz.mk ?_) ?_|refine And.intro ?_ (Frz.mk ?_)));repeat' first|exact True.intro|(change _=_;with_reducible rfl)|refine And.intro ?_ ?_|(with_reducible refine Frz.mk ?_))
  all_goals try (refine Held.mk ?_;(try dsimp only at *);(try simp only[zad,zac,eqD,inR,big,zab,zB] at *);(try simp only[zad,zac,eqD,inR,big,zab,zB,zgb,zeY] at *))
  all_goals have hd:=zqL (b:=b) h2 h3
  · omega
  · omega
  · omega
  · rename_i h;exact zoA h1 h
  · rename_i h;exact zoz h1 h
@[reducible] def zvY:Spec:={zin with f:=fun x=>(cl x.1 x.2.1,())}
theorem h83:Ok 83 zvY:=by
  refine mk (ctr:=[(82,zin)]) ⟨h82,trivial⟩ (nt:=10) Tryz.func83 rfl rfl rfl rfl (by kernel_rfl) (by kernel_rfl) (fun _=>[]) ?_
  rintro⟨(n:Int),(b:Int),_⟩ ⟨h1,h2,h3⟩
  repeat' (intro hzz;(try (rename Two=>hq;cases hq));(try dsimp only at hzz);(try simp only[zad,zac,eqD,inR,big,zab,zB] at hzz);(try simp only[zad,zac,eqD,inR,big,zab,zB,zgb,zeY,cl] at hzz);(try (revert hzz;intro _)))
  all_goals try (rename Unit=>hq;clear hq)
  all_goals try ((with_reducible refine Held.mk ?_);(with_reducible (first|refine Frz.mk ?_|refine And.intro (Frz.mk ?_) ?_|refine And.intro ?_ (Frz.mk ?_)));repeat' first|exact True.intro|(change _=_;with_reducible rfl)|refine And.intro ?_ ?_|(with_reducible refine Frz.mk ?_))
  all_goals try (refine Held.mk ?_;(try dsimp only at *);(try simp only[zad,zac,eqD,inR,big,zab,zB] at *);(try simp only[zad,zac,eqD,inR,big,zab,zB,zgb,zeY,cl] at *))
  all_goals have hd:=zzu (n:=-n) h1 (by omega) (by omega)
  all_goals omega
def bitI (k:Nat):Int:=((2 ^ k / 2:Nat):Int)
def ztL (n:Int):LoopAnn:={σ:=Nat×Nat,pat:=fun s=>[sI 3 s.2,sI 4 (bitI s.1)],inv:=fun s=>rtGo s.1 s.2 n.toNat=rt n.toNat∧s.1≤31∧s.2+2 ^ s.1≤2147483648,meas:=fun s=>s.1}
@[reducible] def zoL:Spec:={pats:=[.dat I64],res:=[{t:=I64}],pre:=fun x=>zdD x.1,f:=fun x=>(rtI x.1,())}
theorem zlD (k:Nat):bitI (k+1)=(2 ^ k:Nat):=by
  simp only[bitI]
  rw[Nat.pow_succ,Nat.mul_div_cancel _ (by decide)]
abbrev znF (n:Int) (k r:Nat):Prop:=rtGo k r n.toNat=rt n.toNat∧k≤31∧r+2 ^ k≤2147483648
theorem zf7 {n:Int} (hn:0≤n) {k r:Nat} (h:znF n k r) (hb:0<bitI k):∃j p:Nat,k=j+1∧bitI k=p∧(bitI k).tdiv 2=bitI j∧1≤p∧p≤1073741824∧r+2*p≤2147483648∧
    (((r:Int)+p)*((r:Int)+p)≤n→znF n j (r+p))∧(n<((r:Int)+p)*((r:Int)+p)→znF n j r):=by
  obtain⟨h1,h2,h3⟩:=h
  cases k with
  | zero=>simp[bitI] at hb
  | succ j=>
    have hp:=Nat.two_pow_pos j
    have hle:2 ^ j≤2 ^ 30:=Nat.pow_le_pow_right (by decide) (by omega)
    rw[Nat.pow_succ] at h3
    have hc:(((r+2 ^ j)*(r+2 ^ j):Nat):Int)=((r:Int)+(2 ^ j:Nat))*((r:Int)+(2 ^ j:Nat)):=by push_cast;rfl
    have e3:(bitI (j+1)).tdiv 2=bitI j:=by
      rw[zlD,Int.tdiv_eq_ediv_of_nonneg (by omega)]
      simp only[bitI];omega
    simp only[rtGo] at h1
    refine⟨j,2 ^ j,rfl,zlD j,e3,hp,by simpa using hle,by omega,fun hx=>?_,fun hx=>?_⟩
    · have:Nat.ble ((r+2 ^ j)*(r+2 ^ j)) n.toNat=true:=Nat.ble_eq_true_of_le (by omega)
      rw[this] at h1
      exact⟨h1,by omega,by omega⟩
    · have:Nat.ble ((r+2 ^ j)*(r+2 ^ j)) n.toNat=false:=by
        cases hb:Nat.ble ((r+2 ^ j)*(r+2 ^ j)) n.toNat with
        | false=>rfl
        | true=>have:=Nat.le_of_ble_eq_true hb;omega
      rw[this] at h1
      exact⟨h1,by omega,by omega⟩
theorem zeH {x B:Int} (h1:0≤x) (h2:x≤B):0≤x*x∧x*x≤B*B:=⟨Int.mul_nonneg h1 h1,Int.mul_le_mul h2 h2 h1 (by omega)⟩
theorem h122:Ok 122 zoL:=by
  refine mk (ctr:=[]) trivial (nt:=22) Tryz.func122 rfl rfl rfl rfl (by kernel_rfl) (by kernel_rfl) (fun x=>[fun _=>ztL x.1]) ?_
  rintro⟨(n:Int),_⟩ (hn':zdD n)
  have hn:=hn'.1
  repeat' (intro hzz;(try (rename Two=>hq;cases hq));(try dsimp only at hzz);(try simp only[zad,zac,eqD,inR,big,zab,zB] at hzz);(try (revert hzz;intro _)))
  all_goals try (rename Unit=>hq;clear hq)
  all_goals try ((with_reducible refine Held.mk ?_);(with_reducible (first|refine Frz.mk ?_|refine And.intro (Frz.mk ?_) ?_|refine And.intro ?_ (Frz.mk ?_)));repeat' first|exact True.intro|(change _=_;with_reducible rfl)|refine And.intro ?_ ?_|(with_reducible refine Frz.mk ?_))
  all_goals try (refine Held.mk ?_;(try dsimp only at *);(try simp only[zad,zac,eqD,inR,big,zab,zB] at *))
  all_goals try omega
  ·
    refine zai.mk ?_
    refine Exists.intro (31,0) ?_
    refine And.intro (Leaf.mk ?_) ?_
    · repeat' first|exact True.intro|refine And.intro ?_ ?_
      all_goals try ((change _=_<;>try dsimp only)<;>try with_reducible rfl)
      all_goals try omega
      all_goals (rfl)
    exact⟨rfl,by decide,by decide⟩
  all_goals try
    (rename_i s h1 h2
     obtain⟨k,r⟩:=s
     obtain⟨j,p,g1,g2,g3,g4,g5,g6,g7,g8⟩:=zf7 hn h1 h2
     dsimp only at *
     rw[g2]
     have:=zeH (x:=(r:Int)+p) (B:=2147483648) (by omega) (by omega)
     omega)
  all_goals try
    (rename_i s h1 h2 h3
     obtain⟨k,r⟩:=s
     obtain⟨j,p,g1,g2,g3,g4,g5,g6,g7,g8⟩:=zf7 hn h1 h2
     dsimp only at *
     try rw[g3]
     try rw[g2]
     have e0:bitI j=(p:Int).tdiv 2:=by rw[←g3,g2]
     rw[Int.tdiv_eq_ediv_of_nonneg (by omega)] at e0
     try rw[e0]
     omega)
  · rename_i s h1 h2 h3
    obtain⟨k,r⟩:=s
    obtain⟨j,p,g1,g2,g3,g4,g5,g6,g7,g8⟩:=zf7 hn h1 h2
    dsimp only at h3
    rw[g2] at h3
    have e1:(r:Int)+bitI k=((r+p:Nat):Int):=by rw[g2];push_cast;rfl
    refine zai.mk ?_
    refine Exists.intro (j,r+p) ?_
    refine And.intro (Leaf.mk ?_) ?_
    · repeat' first|exact True.intro|refine And.intro ?_ ?_
      all_goals try ((change _=_<;>try dsimp only)<;>try with_reducible rfl)
      all_goals try omega
      all_goals (first|exact e1|exact g3)
    exact⟨g7 h3,by subst g1;exact Nat.lt_succ_self j⟩
  · rename_i s h1 h2 h3
    obtain⟨k,r⟩:=s
    obtain⟨j,p,g1,g2,g3,g4,g5,g6,g7,g8⟩:=zf7 hn h1 h2
    dsimp only at h3
    rw[g2] at h3
    refine zai.mk ?_
    refine Exists.intro (j,r) ?_
    refine And.intro (Leaf.mk ?_) ?_
    · repeat' first|exact True.intro|refine And.intro ?_ ?_
      all_goals try ((change _=_<;>try dsimp only)<;>try with_reducible rfl)
      all_goals try omega
      all_goals (exact g3)
    exact⟨g8 h3,by subst g1;exact Nat.lt_succ_self j⟩
  · rename_i s h1 h2
    obtain⟨k,r⟩:=s
    obtain⟨g1,g2,g3⟩:=h1
    dsimp only at *
    have hk:k=0:=by
      cases k with
      | zero=>rfl
      | succ j=>rw[zlD] at h2;have:=Nat.two_pow_pos j;omega
    subst hk
    simp only[rtI,←g1,rtGo]
@[reducible] def zoK:Spec:={zoL with f:=fun x=>(rtU x.1,())}
theorem h123:Ok 123 zoK:=by
  refine mk (ctr:=[(122,zoL)]) ⟨h122,trivial⟩ (nt:=14) Tryz.func123 rfl rfl rfl rfl (by kernel_rfl) (by kernel_rfl) (fun _=>[]) ?_
  rintro⟨(n:Int),_⟩ (hn:zdD n)
  have h1:=zf5 hn
  have h2:0≤rtI n*rtI n:=Int.mul_nonneg h1.1 h1.1
  have h3:=hn.2
  repeat' (intro hzz;(try (rename Two=>hq;cases hq));(try dsimp only at hzz);(try simp only[zad,zac,eqD,inR,big,zab,zB] at hzz);(try simp only[zad,zac,eqD,inR,big,zab,zB,zdD] at hzz);(try (revert hzz;intro _)))
  all_goals try (rename Unit=>hq;clear hq)
  all_goals try ((with_reducible refine Held.mk ?_);(with_reducible (first|refine Frz.mk ?_|refine And.intro (Frz.mk ?_) ?_|refine And.intro ?_ (Frz.mk ?_)));repeat' first|exact True.intro|(change _=_;with_reducible rfl)|refine And.intro ?_ ?_|(with_reducible refine Frz.mk ?_))
  all_goals try (refine Held.mk ?_;(try dsimp only at *);(try simp only[zad,zac,eqD,inR,big,zab,zB] at *);(try simp only[zad,zac,eqD,inR,big,zab,zB,zdD] at *))
  all_goals first|exact hn|omega|(simp only[rtU];split<;>omega)|trace_state
theorem h18:Ok 18 zim:=by
  refine mk (ctr:=[(29,zbi)]) ⟨h29,trivial⟩ (nt:=19) Tryz.func18 rfl rfl rfl rfl (by kernel_rfl) (by kernel_rfl) (fun _=>[]) ?_
  rintro⟨⟨(x:Int),(y:Int),(z:Int),_⟩,_⟩ _
  repeat' (intro hzz;(try (rename Two=>hq;cases hq));(try dsimp only at hzz);(try simp only[zad,zac,eqD,inR,big,zab,zB] at hzz);(try simp only[zad,zac,eqD,inR,big,zab,zB,zal] at hzz);(try (revert hzz;intro _)))
  all_goals try (rename Unit=>hq;clear hq)
  all_goals try ((with_reducible refine Held.mk ?_);(with_reducible (first|refine Frz.mk ?_|refine And.intro (Frz.mk ?_) ?_|refine And.intro ?_ (Frz.mk ?_)));repeat' first|exact True.intro|(change _=_;with_reducible rfl)|refine And.intro ?_ ?_|(with_reducible refine Frz.mk ?_))
  all_goals try (refine Held.mk ?_;(try dsimp only at *);(try simp only[zad,zac,eqD,inR,big,zab,zB] at *);(try simp only[zad,zac,eqD,inR,big,zab,zB,zal] at *))
  all_goals try omega
  all_goals (simp only[zdC];split<;>first|rfl|(exfalso;omega)|(rw[decide_eq_true (by omega)];rfl)|(rw[decide_eq_false (by omega)];rfl))
theorem h21:Ok 21 zma:=by
  refine mk (ctr:=[(29,zbi)]) ⟨h29,trivial⟩ (nt:=13) Tryz.func21 rfl rfl rfl rfl (by kernel_rfl) (by kernel_rfl) (fun _=>[]) ?_
  rintro⟨⟨(x:Int),(y:Int),_⟩,_⟩ _
  repeat' (intro hzz;(try (rename Two=>hq;cases hq));(try dsimp only at hzz);(try simp only[zad,zac,eqD,inR,big,zab,zB] at hzz);(try simp only[zad,zac,eqD,inR,big,zab,zB,zal] at hzz);(try (revert hzz;intro _)))
  all_goals try (rename Unit=>hq;clear hq)
  all_goals try ((with_reducible refine Held.mk ?_);(with_reducible (first|refine Frz.mk ?_|refine And.intro (Frz.mk ?_) ?_|refine And.intro ?_ (Frz.mk ?_)));repeat' first|exact True.intro|(change _=_;with_reducible rfl)|refine And.intro ?_ ?_|(with_reducible refine Frz.mk ?_))
  all_goals try (refine Held.mk ?_;(try dsimp only at *);(try simp only[zad,zac,eqD,inR,big,zab,zB] at *);(try simp only[zad,zac,eqD,inR,big,zab,zB,zal] at *))
  all_goals try omega
  all_goals (simp only[zgI];split<;>first|rfl|(exfalso;omega)|(rw[decide_eq_true (by omega)];rfl)|(rw[decide_eq_false (by omega)];rfl))
theorem h92:Ok 92 zfr:=by
  refine mk (ctr:=[(29,zbi)]) ⟨h29,trivial⟩ (nt:=13) Tryz.func92 rfl rfl rfl rfl (by kernel_rfl) (by kernel_rfl) (fun _=>[]) ?_
  rintro⟨(x:Int),(y:Int),_⟩ _
  repeat' (intro hzz;(try (rename Two=>hq;cases hq));(try dsimp only at hzz);(try simp only[zad,zac,eqD,inR,big,zab,zB] at hzz);(try simp only[zad,zac,eqD,inR,big,zab,zB,zal] at hzz);(try (revert hzz;intro _)))
  all_goals try (rename Unit=>hq;clear hq)
  all_goals try ((with_reducible refine Held.mk ?_);(with_reducible (first|refine Frz.mk ?_|refine And.intro (Frz.mk ?_) ?_|refine And.intro ?_ (Frz.mk ?_)));repeat' first|exact True.intro|(change _=_;with_reducible rfl)|refine And.intro ?_ ?_|(with_reducible refine Frz.mk ?_))
  all_goals try (refine Held.mk ?_;(try dsimp only at *);(try simp only[zad,zac,eqD,inR,big,zab,zB] at *);(try simp only[zad,zac,eqD,inR,big,zab,zB,zal] at *))
  all_goals try omega
  all_goals (simp only[zcO];split<;>first|rfl|(exfalso;omega)|(rw[decide_eq_true (by omega)];rfl)|(rw[decide_eq_false (by omega)];rfl))
abbrev pPP (a b:zan):Prop:=inP a∧inP b
@[reducible] def zkP:Spec:={pats:=[.dat zbA,.dat zbA],res:=[{t:=I64}],pre:=fun x=>pPP x.1 x.2.1,f:=fun x=>(sqP x.1 x.2.1,())}
theorem h80:Ok 80 zkP:=by
  refine mk (ctr:=[]) trivial (nt:=34) Tryz.func80 rfl rfl rfl rfl (by kernel_rfl) (by kernel_rfl) (fun _=>[]) ?_
  rintro⟨(a:zan),(b:zan),_⟩ ⟨ha,hb⟩
  have h1:=zjI ha.1 hb.1
  have h2:=zjI ha.2.1 hb.2.1
  have h3:=zjI ha.2.2 hb.2.2
  obtain⟨⟨a1,a2⟩,⟨a3,a4⟩,⟨a5,a6⟩⟩:=ha
  obtain⟨⟨b1,b2⟩,⟨b3,b4⟩,⟨b5,b6⟩⟩:=hb
  unfold dP at *
  repeat' (intro hzz;(try (rename Two=>hq;cases hq));(try dsimp only at hzz);(try simp only[zad,zac,eqD,inR,big,zab,zB] at hzz);(try simp only[zad,zac,eqD,inR,big,zab,zB,sqP,sqC,dP] at hzz);(try (revert hzz;intro _)))
  all_goals try (rename Unit=>hq;clear hq)
  all_goals try ((with_reducible refine Held.mk ?_);(with_reducible (first|refine Frz.mk ?_|refine And.intro (Frz.mk ?_) ?_|refine And.intro ?_ (Frz.mk ?_)));repeat' first|exact True.intro|(change _=_;with_reducible rfl)|refine And.intro ?_ ?_|(with_reducible refine Frz.mk ?_))
  all_goals try (refine Held.mk ?_;(try dsimp only at *);(try simp only[zad,zac,eqD,inR,big,zab,zB] at *);(try simp only[zad,zac,eqD,inR,big,zab,zB,sqP,sqC,dP] at *))
  all_goals first|omega|rfl|trace_state
@[reducible] def zxT:Spec:={pats:=[.dat zbA,.dat zbA],res:=[{t:=.bool}],pre:=fun x=>pPP x.1 x.2.1,f:=fun x=>(zhF x.1 x.2.1,())}
theorem h19:Ok 19 zxT:=by
  refine mk (ctr:=[(80,zkP)]) ⟨h80,trivial⟩ (nt:=9) Tryz.func19 rfl rfl rfl rfl (by kernel_rfl) (by kernel_rfl) (fun _=>[]) ?_
  rintro⟨(a:zan),(b:zan),_⟩ ⟨ha,hb⟩
  have e:=zhO ha hb
  repeat' (intro hzz;(try (rename Two=>hq;cases hq));(try dsimp only at hzz);(try simp only[zad,zac,eqD,inR,big,zab,zB] at hzz);(try simp only[zad,zac,eqD,inR,big,zab,zB,sqP] at hzz);(try (revert hzz;intro _)))
  all_goals try (rename Unit=>hq;clear hq)
  all_goals try ((with_reducible refine Held.mk ?_);(with_reducible (first|refine Frz.mk ?_|refine And.intro (Frz.mk ?_) ?_|refine And.intro ?_ (Frz.mk ?_)));repeat' first|exact True.intro|(change _=_;with_reducible rfl)|refine And.intro ?_ ?_|(with_reducible refine Frz.mk ?_))
  all_goals try (refine Held.mk ?_;(try dsimp only at *);(try simp only[zad,zac,eqD,inR,big,zab,zB] at *);(try simp only[zad,zac,eqD,inR,big,zab,zB,sqP] at *))
  all_goals first|exact⟨ha,hb⟩|exact e.symm|trace_state
@[reducible] def zrb:Spec:={pats:=[.dat zbA,.dat zbA],res:=[{t:=zdn}],pre:=fun x=>pPP x.1 x.2.1,f:=fun x=>((farL x.1 x.2.1,farU x.1 x.2.1,()),())}
theorem h81:Ok 81 zrb:=by
  refine mk (ctr:=[(80,zkP),(122,zoL),(123,zoK)]) ⟨h80,h122,h123,trivial⟩ (nt:=15) Tryz.func81 rfl rfl rfl rfl (by kernel_rfl) (by kernel_rfl) (fun _=>[]) ?_
  rintro⟨(a:zan),(b:zan),_⟩ ⟨ha,hb⟩
  have h1:=zqW ha hb
  have h2:=(zgq ha hb).1
  have e:1000000*sqP a b=sqP a b*1000*1000:=by omega
  have h3:zdD (sqP a b*1000*1000):=h2
  repeat' (intro hzz;(try (rename Two=>hq;cases hq));(try dsimp only at hzz);(try simp only[zad,zac,eqD,inR,big,zab,zB] at hzz);(try simp only[zad,zac,eqD,inR,big,zab,zB,sqP,farL,farU,zwM,zwK] at hzz);(try (revert hzz;intro _)))
  all_goals try (rename Unit=>hq;clear hq)
  all_goals try ((with_reducible refine Held.mk ?_);(with_reducible (first|refine Frz.mk ?_|refine And.intro (Frz.mk ?_) ?_|refine And.intro ?_ (Frz.mk ?_)));repeat' first|exact True.intro|(change _=_;with_reducible rfl)|refine And.intro ?_ ?_|(with_reducible refine Frz.mk ?_))
  all_goals try (refine Held.mk ?_;(try dsimp only at *);(try simp only[zad,zac,eqD,inR,big,zab,zB] at *);(try simp only[zad,zac,eqD,inR,big,zab,zB,sqP,farL,farU,zwM,zwK] at *))
  all_goals first|exact⟨ha,hb⟩|omega|(rw[e];exact h3)|(rw[e];exact⟨rfl,rfl⟩)|trace_state
abbrev pPPX (a b:zan) (x:SndD):Prop:=(inP a∧inP b)∧inS x
@[reducible] def zuW:Spec:={pats:=[.dat zbA,.dat zbA,.dat zaD],res:=[{t:=zdn}],pre:=fun x=>pPPX x.1 x.2.1 x.2.2.1,f:=fun x=>((trL x.1 x.2.1 x.2.2.1,trU x.1 x.2.1 x.2.2.1,()),())}
theorem h22:Ok 22 zuW:=by
  refine mk (ctr:=[(81,zrb),(82,zin),(83,zvY)]) ⟨h81,h82,h83,trivial⟩ (nt:=30) Tryz.func22 rfl rfl rfl rfl (by kernel_rfl) (by kernel_rfl) (fun _=>[]) ?_
  rintro⟨(a:zan),(b:zan),⟨(r:Int),(v:Int),_⟩,_⟩ ⟨⟨(ha:inP a),(hb:inP b)⟩,(hx:(8000≤r∧r≤192000)∧(30000≤v∧v≤40000))⟩
  have h1:=zkk ha hb
  have h2:=zmP (n:=farL a b) (r:=r) (by omega) (by omega) hx.1
  have h3:=zmP (n:=farU a b) (r:=r) (by omega) (by omega) hx.1
  repeat' (intro hzz;(try (rename Two=>hq;cases hq));(try dsimp only at hzz);(try simp only[zad,zac,eqD,inR,big,zab,zB] at hzz);(try simp only[zad,zac,eqD,inR,big,zab,zB,farL,farU,zgb] at hzz);(try (revert hzz;intro _)))
  all_goals try (rename Unit=>hq;clear hq)
  all_goals try ((with_reducible refine Held.mk ?_);(with_reducible (first|refine Frz.mk ?_|refine And.intro (Frz.mk ?_) ?_|refine And.intro ?_ (Frz.mk ?_)));repeat' first|exact True.intro|(change _=_;with_reducible rfl)|refine And.intro ?_ ?_|(with_reducible refine Frz.mk ?_))
  all_goals try (refine Held.mk ?_;(try dsimp only at *);(try simp only[zad,zac,eqD,inR,big,zab,zB] at *);(try simp only[zad,zac,eqD,inR,big,zab,zB,farL,farU,zgb] at *))
  all_goals first|omega|exact⟨ha,hb⟩|exact⟨rfl,rfl⟩|trace_state
@[reducible] def zxR:Spec:={zuW with f:=fun x=>((nuL x.1 x.2.1 x.2.2.1,nuU x.1 x.2.1 x.2.2.1,()),())}
theorem h23:Ok 23 zxR:=by
  refine mk (ctr:=[(81,zrb),(82,zin),(83,zvY)]) ⟨h81,h82,h83,trivial⟩ (nt:=32) Tryz.func23 rfl rfl rfl rfl (by kernel_rfl) (by kernel_rfl) (fun _=>[]) ?_
  rintro⟨(a:zan),(b:zan),⟨(r:Int),(v:Int),_⟩,_⟩ ⟨⟨(ha:inP a),(hb:inP b)⟩,(hx:(8000≤r∧r≤192000)∧(30000≤v∧v≤40000))⟩
  have h1:=zkk ha hb
  have h2:=zmP (n:=farL a b) (r:=r) (by omega) (by omega) hx.1
  have h3:=zmP (n:=farU a b) (r:=r) (by omega) (by omega) hx.1
  have h4:=zpy (b:=v) h2.1 (by omega)
  have h5:=zuA (b:=v) h3.1 (by omega)
  repeat' (intro hzz;(try (rename Two=>hq;cases hq));(try dsimp only at hzz);(try simp only[zad,zac,eqD,inR,big,zab,zB] at hzz);(try simp only[zad,zac,eqD,inR,big,zab,zB,farL,farU,zgb,zeY] at hzz);(try (revert hzz;intro _)))
  all_goals try (rename Unit=>hq;clear hq)
  all_goals try ((with_reducible refine Held.mk ?_);(with_reducible (first|refine Frz.mk ?_|refine And.intro (Frz.mk ?_) ?_|refine And.intro ?_ (Frz.mk ?_)));repeat' first|exact True.intro|(change _=_;with_reducible rfl)|refine And.intro ?_ ?_|(with_reducible refine Frz.mk ?_))
  all_goals try (refine Held.mk ?_;(try dsimp only at *);(try simp only[zad,zac,eqD,inR,big,zab,zB] at *);(try simp only[zad,zac,eqD,inR,big,zab,zB,farL,farU,zgb,zeY] at *))
  all_goals first|omega|exact⟨ha,hb⟩|exact⟨rfl,rfl⟩|trace_state
end Go.Eng.Ar
namespace Go.Eng.Ar
open Go.Eng Go.Proofs Go.Lib
set_option linter.all false
set_option maxRecDepth 100000
set_option maxHeartbeats 8000000
abbrev PowT:Ty:=zbs (List.replicate 20 (.int .u64))
def powD:PowT.Den:=((1:Int),(10:Int),(100:Int),(1000:Int),(10000:Int),(100000:Int),(1000000:Int),(10000000:Int),(100000000:Int),(1000000000:Int),(10000000000:Int),(100000000000:Int),(1000000000000:Int),(10000000000000:Int),(100000000000000:Int),(1000000000000000:Int),(10000000000000000:Int),(100000000000000000:Int),(1000000000000000000:Int),(10000000000000000000:Int),())
theorem zoT {V:View} {k:IntKind}:∀(n:Nat) (x:(zbs (List.replicate n (.int k))).Den) (l:List Value),Rep V (zbs (List.replicate n (.int k))) x l→l=(chL (.int k) n x).map (Value.int k)
  | 0,_,l,h=>h
  | n+1,x,l,h=>by
    obtain⟨l1,l2,rfl,h1,h2⟩:=h
    have h1:l1=[.int k x.1]:=h1
    rw[h1,zoT n x.2 l2 h2]
    rfl
theorem zv6 {V:View} {l:List Value} (h:Rep V PowT powD l):l=pow10Tab.map (Value.int .u64):=by
  rw[zoT 20 powD l h]
  have:chL (.int .u64) 20 powD=pow10Tab:=by decide +kernel
  rw[this]
theorem zxm {V:View} {k:IntKind} {n:Int} {v:Value} (h:RepV V (.int k) n v):v=.int k n:=by
  obtain⟨l,h1,⟨h2,_⟩|⟨_,h2⟩⟩:=h
  · cases h2
  · have h1:l=[.int k n]:=h1
    rw[h1] at h2;simpa using h2.symm
theorem zhi {V:View} {s:ByteArray} {v:Value} (h:RepV V .str s v):v=.string s:=by
  obtain⟨l,h1,⟨h2,_⟩|⟨_,h2⟩⟩:=h
  · cases h2
  · have h1:l=[.string s]:=h1
    rw[h1] at h2;simpa using h2.symm
theorem zgF {OB:Nat→Obj→Prop} {w:World}:CPost OB w w []:=⟨rfl,rfl,rfl,Nat.le_refl _,fun _ _ _=>rfl,fun _ h=>by cases h⟩
theorem zp0 {OB:Nat→Obj→Prop} {w:World} {e:TypeId} {t:ByteArray}:CPost OB w (bytesWorld w e t) []:=by
  refine⟨rfl,rfl,rfl,?_,fun b hb _=>bytesWorld_at_old w e t b hb,fun _ h=>by cases h⟩
  simp[bytesWorld,World.freeze,World.alloc,World.drew,-World.alloc_eq,-World.drew_eq]
theorem zfa {OB:Nat→Obj→Prop} {w w':World} (h:RowKit.Below w.heap.size w w'):CPost OB w w' []:=
  ⟨h.os,h.tape,h.output,h.size,fun b hb _=>h.block b hb,fun _ h=>by cases h⟩
@[reducible] def zvV:Spec:={pats:=[.dat I64,.gw 2 PowT],res:=[{t:=.str}],pre:=fun x=>(-9223372036854775808≤x.1∧x.1≤9223372036854775807)∧x.2.1=powD,f:=fun x=>(bA (itoa x.1),())}
theorem zy8:Ok 125 zvV:=by
  refine⟨?_,Tryz.f125,Tryz.func125,by kernel_rfl,by kernel_rfl⟩
  rintro w M ⟨(n:Int),(x:PowT.Den),_⟩ vs bs hM ⟨v,vs',rfl,hv,⟨c,el,f,h1,h2,h3,h4⟩,rfl,rfl⟩ ⟨⟨(hn0 : -9223372036854775808≤n),(hn1:n≤9223372036854775807)⟩,(hx:x=powD)⟩
  obtain rfl:=zxm hv
  subst hx
  have hc:=zv6 h4
  refine (Any.strconv_Itoa Tryz.laysM171 n hn0 hn1 w ?_).mono ?_
  · unfold Lib.TabIs World.var?
    rw[show Tryz.prog.globalNamed _=some 2 from by kernel_rfl]
    simp only[Option.bind_some,h1]
    congr 1
    exact Array.toList_inj.1 (by rw[hc])
  rintro e w' ⟨rfl,k,os,rfl⟩
  refine⟨[.string _],none,rfl,⟨rfl,rfl,rfl,(by show w.heap.size≤(w.heap++os).size;simp),fun b hb _=>?_,fun _ h=>by cases h⟩,_,_,rfl,RepV.mk1 rfl rfl,rfl,rfl⟩
  show (w.heap++os)[b]?=w.heap[b]?
  exact Array.getElem?_append_left hb
def zeF (l:List UInt8):Int×Bool×Unit:=match atoiAll l with
  | .ok v=>(v,false,())
  | .range=>(atoiSat l,true,())
  | _=>(0,true,())
theorem zpw {V:View} {w:World} {M:Nat→Prop} {g:Nat} {b:Bool} (h:∃c el f,w.heap[g]?=some (.cells c el f)∧¬M g∧c.size=Ty.size .err∧Rep V .err b c.toList) :
    ∃ev,w.cell? ⟨g,0,none⟩=some ev∧(ev=.nilIface∨∃te pe,ev=.iface te pe):=by
  obtain⟨c,el,f,h1,_,_,h4⟩:=h
  have key:∀ev,c.toList=[ev]→w.cell? ⟨g,0,none⟩=some ev:=fun ev he=>by
    rw[zbz h1,←Array.getElem?_toList,he];rfl
  rcases h4 with ⟨_,h5⟩|⟨_,t,u,h5⟩
  · exact⟨_,key _ h5,.inl rfl⟩
  · exact⟨_,key _ h5,.inr ⟨t,u,rfl⟩⟩
@[reducible] def zrg:Spec:={pats:=[.dat .str,.gw 3 .err,.gw 4 .err],res:=[{t:=I64},{t:=.err}],pre:=fun x=>x.1.size≤1000000,f:=fun x=>zeF (bL x.1)}
theorem zAv:Ok 159 zrg:=by
  refine⟨?_,Tryz.f159,Tryz.func159,by kernel_rfl,by kernel_rfl⟩
  rintro w M ⟨(s:ByteArray),(b0:Bool),(b1:Bool),_⟩ vs bs hM ⟨v,vs',rfl,hv,g0,g1,rfl,rfl⟩ (hs:s.size≤1000000)
  obtain rfl:=zhi hv
  obtain⟨e0,hv0,he0⟩:=zpw g0
  obtain⟨e1,hv1,he1⟩:=zpw g1
  cases hr:atoiAll s.data.toList with
  | ok n=>
    refine (Tryz.strconv_Atoi_ok s (by omega) n hr w).mono ?_
    rintro e w' ⟨rfl,hw⟩
    have hf:zrg.f (s,b0,b1,())=(n,false,()):=by show zeF s.data.toList=_;simp only[zeF,hr]
    rw[hf]
    refine⟨[.int .i64 n,.nilIface],none,rfl,?_,_,_,rfl,RepV.mk1 rfl rfl,_,_,rfl,RepV.mk1 rfl (.inl ⟨rfl,rfl⟩),rfl,rfl⟩
    rcases hw with rfl|⟨t,rfl⟩
    · exact zgF
    · exact zp0
  | range=>
    refine (Tryz.strconv_Atoi_range s (by omega) hr e1 w hv1 he1).mono ?_
    rintro e w' ⟨N,rfl,hN,hN2,hB⟩
    have hf:zrg.f (s,b0,b1,())=(atoiSat s.data.toList,true,()):=by show zeF s.data.toList=_;simp only[zeF,hr]
    rw[hf]
    refine⟨[.int .i64 _,.iface 252 (.pointer (some ⟨N,0,none⟩))],none,rfl,zfa hB,_,_,rfl,RepV.mk1 rfl rfl,_,_,rfl,RepV.mk1 rfl (.inr ⟨rfl,_,_,rfl⟩),rfl,rfl⟩
  | _=>
    refine (Tryz.strconv_Atoi_syntax s (by omega) (fun v h=>by rw[hr] at h;cases h) (fun h=>by rw[hr] at h;cases h) e0 w hv0 he0).mono ?_
    rintro e w' ⟨N,rfl,hN,hN2,hB⟩
    have hf:zrg.f (s,b0,b1,())=(0,true,()):=by show zeF s.data.toList=_;simp only[zeF,hr]
    rw[hf]
    refine⟨[.int .i64 0,.iface 252 (.pointer (some ⟨N,0,none⟩))],none,rfl,zfa hB,_,_,rfl,RepV.mk1 rfl rfl,_,_,rfl,RepV.mk1 rfl (.inr ⟨rfl,_,_,rfl⟩),rfl,rfl⟩
@[reducible] def zxN:Spec:={pats:=[.dat .str,.dat .str],res:=[{t:=.str}],pre:=fun _=>True,f:=fun x=>(bA (trimPrefix (bL x.1) (bL x.2.1)),())}
theorem zAq:Ok 160 zxN:=by
  refine⟨?_,Tryz.f160,Tryz.func160,by kernel_rfl,by kernel_rfl⟩
  rintro w M ⟨(s:ByteArray),(p:ByteArray),_⟩ vs bs hM ⟨v,vs',rfl,hv,u,us,rfl,hu,rfl,rfl⟩ _
  obtain rfl:=zhi hv
  obtain rfl:=zhi hu
  refine (Tryz.strings_TrimPrefix s p w).mono ?_
  rintro e w' ⟨rfl,rfl⟩
  exact⟨[.string _],none,rfl,zgF,_,_,rfl,RepV.mk1 rfl rfl,rfl,rfl⟩
theorem zlx (c:UInt8) (s:ByteArray):(cutB c s).length≤s.size+1:=by
  have:=zjW c (bL s)
  rw[zfD] at this
  simpa [cutB] using this
theorem v_sl {V:View} {e:Ty} {xs:List e.Den} {v:Value} (h:RepV V (.sl e) xs v):Rep V (.sl e) xs [v]:=by
  obtain⟨l,h1,⟨h2,_⟩|⟨_,h2⟩⟩:=h
  · cases h2
  · rw[←h2];exact h1
def zn2 (xs:List ByteArray) (c:UInt8):ByteArray:=bA (Lib.join (xs.map bL) [c])
@[reducible] def zxW:Spec:={pats:=[.dat (.sl .str),.dat .str],res:=[{t:=.str}],pre:=fun x=>x.2.1=bA [59]∧List.length (α:=ByteArray) x.1≤1000000∧(zn2 x.1 59).size≤1000000,f:=fun x=>(zn2 x.1 59,())}
theorem zAt:Ok 126 zxW:=by
  refine⟨?_,Tryz.f126,Tryz.func126,by kernel_rfl,by kernel_rfl⟩
  rintro w M ⟨(xs:List ByteArray),(p:ByteArray),_⟩ vs bs hM ⟨v,vs',rfl,hv,u,us,rfl,hu,rfl,rfl⟩ ⟨(hp:p=bA [59]),(hl:List.length (α:=ByteArray) xs≤1000000),(hj:(zn2 xs 59).size≤1000000)⟩
  obtain rfl:=zhi hu
  subst hp
  obtain⟨a,cap,e1,e2,e3,e4,e5⟩:=v_sl hv
  have e1:v=.slice a (List.length (α:=ByteArray) xs) cap:=(List.cons.inj e1).1
  subst e1
  by_cases hx:xs=[]
  · subst hx
    refine (Tryz.strings_Join_none a cap (bA [59]) w).mono ?_
    rintro e w' ⟨rfl,rfl⟩
    exact⟨[.string _],none,rfl,zgF,_,_,rfl,RepV.mk1 rfl rfl,rfl,rfl⟩
  · cases a with
    | none=>exact absurd (e4 rfl).1 hx
    | some ad=>
      obtain⟨hsp,c,⟨hM',el,f,hh⟩,hsz,hi⟩:=e5 ad rfl hx
      obtain⟨bk,o,sp⟩:=ad
      have hsp:sp=none:=hsp
      subst hsp
      have hcells:∀(j:Nat) (x:ByteArray),xs[j]?=some x→w.cell? ⟨bk,o+j,none⟩=some (.string x):=fun j x hx=>by
        have h:=hi j x hx
        have h:(c.toList.drop (o+j*1)).take 1=[.string x]:=h
        rw[zbz hh,←Array.getElem?_toList]
        have h2:((c.toList.drop (o+j*1)).take 1)[0]?=some (.string x):=by rw[h];rfl
        rw[List.getElem?_take,if_pos (by decide),List.getElem?_drop] at h2
        simpa using h2
      have hb:bk<w.heap.size:=zag hh
      have hjl:(Lib.join (xs.map (·.data.toList)) (bA [59]).data.toList).length≤140737488355328:=by
        have:(zn2 xs 59).size=(Lib.join (xs.map bL) [59]).length:=zca _
        have e:(Lib.join (xs.map (·.data.toList)) (bA [59]).data.toList)=Lib.join (xs.map bL) [59]:=by rw[show (bA [59]).data.toList=[59] from zbZ [59]]
        rw[e];omega
      refine (Tryz.strings_Join bk o cap xs (bA [59]) w hcells hb (by omega) e2 hjl).mono ?_
      rintro e w' ⟨rfl,hB⟩
      refine⟨[.string _],none,rfl,zfa hB,_,_,rfl,RepV.mk1 rfl ?_,rfl,rfl⟩
      show [Value.string _]=[Value.string (zn2 xs 59)]
      rw[show (bA [59]).data.toList=[59] from zbZ [59]]
      rfl
@[reducible] def zuY:Spec:={pats:=[.dat .str,.dat .str,.gw 1 I64],res:=[{t:=.sl .str}],pre:=fun x=>x.1.size≤1000000∧x.2.1=bA [59],f:=fun x=>(cutB 59 x.1,())}
theorem zy4:Ok 127 zuY:=by
  refine⟨?_,Tryz.f127,Tryz.func127,by kernel_rfl,by kernel_rfl⟩
  rintro w M ⟨(s:ByteArray),(p:ByteArray),(m:Int),_⟩ vs bs hM ⟨v,vs',rfl,hv,u,us,rfl,hu,⟨c,el,f,h1,_,_,h4⟩,rfl,rfl⟩ ⟨(hs:s.size≤1000000),(hp:p=bA [59])⟩
  obtain rfl:=zhi hv
  obtain rfl:=zhi hu
  subst hp
  have hm:w.cell? ⟨1,0,none⟩=some (.int .i64 m):=by
    have h4:c.toList=[.int .i64 m]:=h4
    rw[zbz h1,←Array.getElem?_toList,h4];rfl
  refine (Tryz.strings_Split s (bA [59]) m w (by omega) hm (by rw[zca];decide)).mono ?_
  rintro e w' ⟨rfl,rfl⟩
  rw[zpS]
  have hlen:=zql 59 s
  have hle:=zlx 59 s
  refine ⟨[.slice (some ⟨w.heap.size,0,none⟩) (countB s (bA [59])+1) (countB s (bA [59])+1)],none,rfl,⟨rfl,rfl,rfl,by simp,fun b hb _=>heap_alloc_old w _ hb,fun _ h=>by cases h⟩,_,_,rfl,
    RepV.mk1 rfl ⟨some ⟨w.heap.size,0,none⟩,countB s (bA [59])+1,?_,?_,?_,(fun h=>by cases h),fun ad had _=>?_⟩,rfl,rfl⟩
  · show [_]=[Value.slice _ (cutB 59 s).length _]
    rw[hlen]
  · show (cutB 59 s).length≤_
    omega
  · unfold maxLen;omega
  · obtain rfl:=Option.some.inj had
    refine⟨rfl,((cutB 59 s).map Value.string).toArray,⟨fun hh=>absurd (hM _ hh) (Nat.lt_irrefl _),by simp,_,_,heap_alloc_new w _⟩,?_,fun i y hy=>?_⟩
    · show 0+(cutB 59 s).length*1≤((cutB 59 s).map Value.string).toArray.size
      simp
    · have hi:=(List.getElem?_eq_some_iff.1 hy).1
      have hc:((cutB 59 s).map Value.string)[i]?=some (.string y):=by rw[List.getElem?_map];show Option.map _ (lget (α:=ByteArray) (cutB 59 s) i)=_;rw[hy];rfl
      have hlt:=(List.getElem?_eq_some_iff.1 hc).1
      show Rep _ .str y ((((cutB 59 s).map Value.string).toArray.toList.drop (0+i*1)).take 1)
      rw[Nat.zero_add,Nat.mul_one,List.toList_toArray,List.drop_eq_getElem_cons hlt]
      simp only[List.take_succ_cons,List.take_zero]
      rw[List.getElem?_eq_getElem hlt] at hc
      rw[Option.some.inj hc]
      rfl
def cutP (s:ByteArray):ByteArray×ByteArray×Bool×Unit:=(bA (Lib.cut (bL s) [32]).1,bA (Lib.cut (bL s) [32]).2.1,(Lib.cut (bL s) [32]).2.2,())
theorem zrz {OB:Nat→Obj→Prop} {w:World} {n:Nat}:CPost OB w (w.drewN n) []:=zfa (Go.RowKit.Below.trans (⟨rfl,rfl,rfl,Nat.le_refl _,fun _ _=>rfl⟩:RowKit.Below w.heap.size w w) ⟨rfl,rfl,rfl,Nat.le_refl _,fun _ _=>rfl⟩)
@[reducible] def sCut:Spec:={pats:=[.dat .str,.dat .str,.gw 1 I64],res:=[{t:=.str},{t:=.str},{t:=.bool}],pre:=fun x=>x.1.size≤1000000∧x.2.1=bA [32],f:=fun x=>cutP x.1}
theorem hCut:Ok 128 sCut:=by
  refine⟨?_,Tryz.f128,Tryz.func128,by kernel_rfl,by kernel_rfl⟩
  rintro w M ⟨(s:ByteArray),(p:ByteArray),(m:Int),_⟩ vs bs hM ⟨v,vs',rfl,hv,u,us,rfl,hu,⟨c,el,f,h1,_,_,h4⟩,rfl,rfl⟩ ⟨(hs:s.size≤1000000),(hp:p=bA [32])⟩
  obtain rfl:=zhi hv
  obtain rfl:=zhi hu
  subst hp
  have hm:w.cell? ⟨1,0,none⟩=some (.int .i64 m):=by
    have h4:c.toList=[.int .i64 m]:=h4
    rw[zbz h1,←Array.getElem?_toList,h4];rfl
  refine (Tryz.strings_Cut s (bA [32]) m w (by omega) hm).mono ?_
  rintro e w' ⟨rfl,n,rfl⟩
  refine⟨[.string _,.string _,.bool _],none,rfl,zrz,_,_,rfl,RepV.mk1 rfl rfl,_,_,rfl,RepV.mk1 rfl rfl,_,_,rfl,RepV.mk1 rfl rfl,rfl,rfl⟩
end Go.Eng.Ar
namespace Go.Eng.Ar
open Go.Eng Go.Proofs
set_option linter.all false
set_option maxRecDepth 100000
set_option maxHeartbeats 8000000
theorem zvo (ad:Option Addr) (n c:Nat) (w:World):(binOp .eql 76 (.slice ad n c) (.slice none 0 0)).run Tryz.prog w=.ok (.bool ad.isNone) w:=by
  have hr:=run_equal_slice_nil (P:=Tryz.prog) w 76 3 ad n c Tryz.underlying76
  simp[binOp,hr]
theorem zzB (w:World):Calls Tryz.prog 145 #[.slice none 0 0] w fun r w'=>r=.returned (.slice none 0 0)∧w'=w:=by
  have mixed:=mixed
  have t3:=Tryz.underlying3
  have t76:=Tryz.underlying76
  have hq:(binOp .eql 76 (.slice none 0 0) (.slice none 0 0)).run Tryz.prog w=.ok (.bool true) w:=zvo none 0 0 w
  have hn:Tryz.f145.ntmps=8:=rfl
  go_enter Tryz.func145,hn
  go_wp2
  go_ret
  exact⟨rfl,rfl⟩
theorem zzC (ad:Addr) (c:Nat) (w:World):Calls Tryz.prog 145 #[.slice (some ad) 0 c] w fun r w'=>r=.returned (.slice (some ⟨w.heap.size,0,none⟩) 0 0)∧w'=w.alloc (.cells #[] 3 (0,0)):=by
  have mixed:=mixed
  have t3:=Tryz.underlying3
  have t76:=Tryz.underlying76
  have hq:(binOp .eql 76 (.slice (some ad) 0 c) (.slice none 0 0)).run Tryz.prog w=.ok (.bool false) w:=zvo (some ad) 0 c w
  have hn:Tryz.f145.ntmps=8:=rfl
  go_enter Tryz.func145,hn
  go_wp2
  go_ret
  exact⟨rfl,rfl⟩
abbrev zyJ (n:Nat):Prop:=n≤2000000000
abbrev zrD (n:Nat):Prop:=0<n∧n≤2000000000
@[reducible] def zho:Spec:={pats:=[.dat (.sl I64)],res:=[{own:=some 3,t:=.sl I64}],pre:=fun x=>zyJ (List.length (α:=Int) x.1),f:=fun x=>(x.1,())}
@[reducible] def zvX:Spec:={zho with pre:=fun x=>zrD (List.length (α:=Int) x.1)}
theorem zza:Ok 145 zvX:=by
  refine mk (ctr:=[]) trivial (nt:=8) Tryz.func145 rfl rfl rfl rfl (by kernel_rfl) (by kernel_rfl) (fun _=>[]) ?_
  rintro⟨(xs:List Int),_⟩ ⟨(h0:0<xs.length),(h:xs.length≤2000000000)⟩
  repeat' (intro hzz;(try (rename Two=>hq;cases hq));(try dsimp only at hzz);(try simp only[zad,zac,eqD,inR,big,zab,zB] at hzz);(try (revert hzz;intro _)))
  all_goals try (rename Unit=>hq;clear hq)
  all_goals try ((with_reducible refine Held.mk ?_);(with_reducible (first|refine Frz.mk ?_|refine And.intro (Frz.mk ?_) ?_|refine And.intro ?_ (Frz.mk ?_)));repeat' first|exact True.intro|(change _=_;with_reducible rfl)|refine And.intro ?_ ?_|(with_reducible refine Frz.mk ?_))
  all_goals try (refine Held.mk ?_;(try dsimp only at *);(try simp only[zad,zac,eqD,inR,big,zab,zB] at *))
  all_goals first|exact h0|exact List.nil_append _|(show ([]:List Int).length+xs.length≤2147483648;simp;omega)
theorem zry {OB:Nat→Obj→Prop} {w:World}:CPost OB w w []:=⟨rfl,rfl,rfl,Nat.le_refl _,fun _ _ _=>rfl,fun _ h=>by cases h⟩
theorem zp1 {OB:Nat→Obj→Prop} {w:World} {o:Obj}:CPost OB w (w.alloc o) []:=by
  refine⟨rfl,rfl,rfl,?_,fun b hb _=>?_,fun b hb=>by cases hb⟩
  · show w.heap.size≤(w.heap.push o).size
    rw[Array.size_push];exact Nat.le_succ _
  · show (w.heap.push o)[b]?=w.heap[b]?
    rw[Array.getElem?_push,if_neg (Nat.ne_of_lt hb)]
theorem h145:Ok 145 zho:=by
  refine⟨?_,zza.2⟩
  rintro w M ⟨(xs:List Int),u⟩ vs bs hM hA (hp:xs.length≤2000000000)
  by_cases h0:0<xs.length
  · exact zza.1 w M (xs,u) vs bs hM hA ⟨h0,hp⟩
  · have hx:xs=[]:=List.length_eq_zero_iff.1 (by omega)
    subst hx
    obtain⟨v,vs',rfl,⟨l,hl,h2⟩,rfl,rfl⟩:=hA
    obtain⟨a,cap,rfl,h3,h4,h5,h6⟩:=hl
    have hv:v=.slice a 0 cap:=by
      rcases h2 with ⟨h,_⟩|⟨_,h⟩
      · cases h
      · simpa using h.symm
    subst hv
    cases a with
    | none=>
      have:=(h5 rfl).2
      subst this
      refine (zzB w).mono ?_
      rintro e w' ⟨rfl,rfl⟩
      exact⟨[.slice none 0 0],none,rfl,zry,_,_,rfl,⟨rfl,rfl⟩,.inl ⟨rfl,rfl,rfl⟩⟩
    | some ad=>
      refine (zzC ad cap w).mono ?_
      rintro e w' ⟨rfl,rfl⟩
      refine⟨[.slice (some ⟨w.heap.size,0,none⟩) 0 0],some w.heap.size,rfl,zp1,_,_,rfl,⟨rfl,rfl⟩,.inr ⟨w.heap.size,0,#[],rfl,rfl,Nat.le_refl _,?_,?_⟩⟩
      · show (w.heap.push _)[w.heap.size]?=_
        simp
      · exact⟨rfl,Nat.le_refl _,Nat.zero_le _,fun i x h=>by simp at h⟩
def tab {α:Type} (f:Nat→α):Nat→List α
  | 0=>[]
  | k+1=>tab f k++[f k]
def sm (f:Nat→Int):Nat→Int
  | 0=>0
  | k+1=>sm f k+f k
theorem zam {α:Type} (f:Nat→α):∀k,(tab f k).length=k
  | 0=>rfl
  | k+1=>by simp[tab,zam f k]
theorem zaE {α:Type} (f:Nat→α) (d:α):∀k i,i<k→(tab f k).getD i d=f i
  | 0,i,h=>by omega
  | k + 1,i,h=>by
    simp only[tab,List.getD_eq_getElem?_getD]
    by_cases hi:i<k
    · rw[List.getElem?_append_left (by rw[zam];exact hi)]
      have:=zaE f d k i hi
      rwa [List.getD_eq_getElem?_getD] at this
    · have:i=k:=by omega
      subst this
      rw[List.getElem?_append_right (by rw[zam];omega),zam]
      simp
theorem zh8 {α:Type} {f g:Nat→α}:∀k,(∀i,i<k→f i=g i)→tab f k=tab g k
  | 0,_=>rfl
  | k+1,h=>by simp only[tab];rw[zh8 k (fun i hi=>h i (by omega)),h k (by omega)]
theorem zap {f g:Nat→Int}:∀k,(∀i,i<k→f i=g i)→sm f k=sm g k
  | 0,_=>rfl
  | k+1,h=>by simp only[sm];rw[zap k (fun i hi=>h i (by omega)),h k (by omega)]
theorem zjv {f:Nat→Int} {B:Int}:∀k:Nat,(∀i,i<k→-B≤f i∧f i≤B)→-(k*B)≤sm f k∧sm f k≤k*B
  | 0,_=>by simp[sm]
  | k+1,h=>by
    have ih:=zjv k (fun i hi=>h i (by omega))
    have:=h k (by omega)
    simp only[sm]
    have e:(((k+1:Nat):Int)*B)=(k:Int)*B+B:=by rw[Int.natCast_add,Int.add_mul];simp
    rw[e]
    omega
theorem zk8 {α:Type} (d:α):∀(xs:List α),xs=tab (fun i=>xs.getD i d) xs.length:=by
  intro xs
  apply List.ext_getElem?
  intro i
  by_cases hi:i<xs.length
  · have h1:=zaE (fun i=>xs.getD i d) d xs.length i hi
    rw[List.getD_eq_getElem?_getD] at h1
    have h2:(tab (fun i=>xs.getD i d) xs.length)[i]?=some ((tab (fun i=>xs.getD i d) xs.length)[i]'(by rw[zam];exact hi)):=List.getElem?_eq_getElem _
    rw[h2] at h1 ⊢
    simp only[Option.getD_some] at h1
    rw[h1]
    simp[List.getD,List.getElem?_eq_getElem hi]
  · rw[List.getElem?_eq_none (by omega),List.getElem?_eq_none (by rw[zam];omega)]
theorem zco {α:Type} {f:Nat→α}:∀ {k:Nat} {x:α},x∈tab f k→∃i,i<k∧x=f i
  | 0,x,h=>by simp[tab] at h
  | k + 1,x,h=>by
    simp only[tab,List.mem_append,List.mem_singleton] at h
    rcases h with h|h
    · obtain⟨i,h1,h2⟩:=zco h
      exact⟨i,by omega,h2⟩
    · exact⟨k,by omega,h⟩
abbrev vI (xs:List Int) (i:Nat):Int:=xs.getD i 0
def dotI (a b:List Int):Int:=sm (fun i=>vI a i*vI b i) a.length
def sumI (a:List Int):Int:=sm (fun i=>vI a i) a.length
abbrev pDot (a b:List Int):Prop:=a.length≤b.length∧a.length≤9∧∀i,i<a.length→-1000000000000000000≤vI a i*vI b i∧vI a i*vI b i≤1000000000000000000
abbrev pSum (a:List Int):Prop:=a.length≤9∧∀i,i<a.length→-1000000000000000000≤vI a i∧vI a i≤1000000000000000000
@[reducible] def sDot:Spec:={pats:=[.dat (.sl I64),.dat (.sl I64)],res:=[{t:=I64}],pre:=fun x=>pDot x.1 x.2.1,f:=fun x=>(dotI x.1 x.2.1,())}
@[reducible] def sSum:Spec:={pats:=[.dat (.sl I64)],res:=[{t:=I64}],pre:=fun x=>pSum x.1,f:=fun x=>(sumI x.1,())}
theorem sm_9 {f:Nat→Int} {k:Nat} (h:∀i,i<k→-1000000000000000000≤f i∧f i≤1000000000000000000) (hk:k≤9) : -9000000000000000000≤sm f k∧sm f k≤9000000000000000000:=by
  have:=zjv (f:=f) (B:=1000000000000000000) k h
  omega
def zzt (a b:List Int):LoopAnn:={σ:=Nat,pat:=fun k=>[sI 9 k,sI 5 (sm (fun i=>vI a i*vI b i) k)],inv:=fun k=>k≤a.length,meas:=fun k=>a.length - k}
def zxF (a:List Int):LoopAnn:={σ:=Nat,pat:=fun k=>[sI 8 k,sI 3 (sm (fun i=>vI a i) k)],inv:=fun k=>k≤a.length,meas:=fun k=>a.length - k}
theorem h105:Ok 105 sDot:=by
  refine mk (ctr:=[]) trivial (nt:=25) Tryz.func105 rfl rfl rfl rfl (by kernel_rfl) (by kernel_rfl) (fun x=>[fun _=>zzt x.1 x.2.1]) ?_
  rintro⟨(a:List Int),(b:List Int),_⟩ ⟨(h1:a.length≤b.length),(h2:a.length≤9),(h3:∀i,i<a.length→-1000000000000000000≤vI a i*vI b i∧vI a i*vI b i≤1000000000000000000)⟩
  repeat' (intro hzz;(try (rename Two=>hq;cases hq));(try dsimp only at hzz);(try simp only[zad,zac,eqD,inR,big,zab,zB] at hzz);(try simp only[zad,zac,eqD,inR,big,zab,zB,zaz] at hzz);(try (revert hzz;intro _)))
  all_goals try (rename Unit=>hq;clear hq)
  all_goals try ((with_reducible refine Held.mk ?_);(with_reducible (first|refine Frz.mk ?_|refine And.intro (Frz.mk ?_) ?_|refine And.intro ?_ (Frz.mk ?_)));repeat' first|exact True.intro|(change _=_;with_reducible rfl)|refine And.intro ?_ ?_|(with_reducible refine Frz.mk ?_))
  all_goals try (refine Held.mk ?_;(try dsimp only at *);(try simp only[zad,zac,eqD,inR,big,zab,zB] at *);(try simp only[zad,zac,eqD,inR,big,zab,zB,zaz] at *))
  all_goals try omega
  ·
    refine zai.mk ?_
    refine Exists.intro 0 ?_
    refine And.intro (Leaf.mk ?_) ?_
    · repeat' first|exact True.intro|refine And.intro ?_ ?_
      all_goals try ((change _=_<;>try dsimp only)<;>try with_reducible rfl)
      all_goals try omega
      all_goals (rfl)
    exact Nat.zero_le _
  · rename_i k hk hg
    exact⟨by have:=(h3 k (by omega)).1;exact Int.le_trans (by decide) this,by have:=(h3 k (by omega)).2;exact Int.le_trans this (by decide)⟩
  · rename_i k hk hg
    have:=sm_9 (f:=fun i=>vI a i*vI b i) (k:=k+1) (fun i hi=>h3 i (by omega)) (by omega)
    simp only[sm,vI] at this ⊢
    omega
  · rename_i k hk hg
    refine zai.mk ?_
    refine Exists.intro (k+1) ?_
    refine And.intro (Leaf.mk ?_) ?_
    · repeat' first|exact True.intro|refine And.intro ?_ ?_
      all_goals try ((change _=_<;>try dsimp only)<;>try with_reducible rfl)
      all_goals try omega
      all_goals (rfl)
    exact⟨by show k+1≤a.length;omega,by show a.length - (k+1)<a.length - k;omega⟩
  · rename_i k hk hg
    rw[show k=a.length by omega];rfl
theorem h124:Ok 124 sSum:=by
  refine mk (ctr:=[]) trivial (nt:=17) Tryz.func124 rfl rfl rfl rfl (by kernel_rfl) (by kernel_rfl) (fun x=>[fun _=>zxF x.1]) ?_
  rintro⟨(a:List Int),_⟩ ⟨(h2:a.length≤9),(h3:∀i,i<a.length→-1000000000000000000≤vI a i∧vI a i≤1000000000000000000)⟩
  repeat' (intro hzz;(try (rename Two=>hq;cases hq));(try dsimp only at hzz);(try simp only[zad,zac,eqD,inR,big,zab,zB] at hzz);(try simp only[zad,zac,eqD,inR,big,zab,zB,zaz] at hzz);(try (revert hzz;intro _)))
  all_goals try (rename Unit=>hq;clear hq)
  all_goals try ((with_reducible refine Held.mk ?_);(with_reducible (first|refine Frz.mk ?_|refine And.intro (Frz.mk ?_) ?_|refine And.intro ?_ (Frz.mk ?_)));repeat' first|exact True.intro|(change _=_;with_reducible rfl)|refine And.intro ?_ ?_|(with_reducible refine Frz.mk ?_))
  all_goals try (refine Held.mk ?_;(try dsimp only at *);(try simp only[zad,zac,eqD,inR,big,zab,zB] at *);(try simp only[zad,zac,eqD,inR,big,zab,zB,zaz] at *))
  all_goals try omega
  ·
    refine zai.mk ?_
    refine Exists.intro 0 ?_
    refine And.intro (Leaf.mk ?_) ?_
    · repeat' first|exact True.intro|refine And.intro ?_ ?_
      all_goals try ((change _=_<;>try dsimp only)<;>try with_reducible rfl)
      all_goals try omega
      all_goals (rfl)
    exact Nat.zero_le _
  · rename_i k hk hg
    have:=sm_9 (f:=fun i=>vI a i) (k:=k+1) (fun i hi=>h3 i (by omega)) (by omega)
    simp only[sm,vI] at this ⊢
    omega
  · rename_i k hk hg
    refine zai.mk ?_
    refine Exists.intro (k+1) ?_
    refine And.intro (Leaf.mk ?_) ?_
    · repeat' first|exact True.intro|refine And.intro ?_ ?_
      all_goals try ((change _=_<;>try dsimp only)<;>try with_reducible rfl)
      all_goals try omega
      all_goals (rfl)
    exact⟨by show k+1≤a.length;omega,by show a.length - (k+1)<a.length - k;omega⟩
  · rename_i k hk hg
    rw[show k=a.length by omega];rfl
def mx (xs:List Int):Nat→Int
  | 0=>xs.getD 0 0
  | k+1=>if xs.getD (k+1) 0>mx xs k then xs.getD (k+1) 0 else mx xs k
def mn (xs:List Int):Nat→Int
  | 0=>xs.getD 0 0
  | k+1=>if xs.getD (k+1) 0<mn xs k then xs.getD (k+1) 0 else mn xs k
abbrev pMx (n:Nat):Prop:=0<n∧pLen n
@[reducible] def sMax:Spec:={pats:=[.dat (.sl I64)],res:=[{t:=I64}],pre:=fun x=>pMx (List.length (α:=Int) x.1),f:=fun x=>(mx x.1 (List.length (α:=Int) x.1 - 1),())}
@[reducible] def sMin:Spec:={sMax with f:=fun x=>(mn x.1 (List.length (α:=Int) x.1 - 1),())}
theorem h106:Ok 106 sMax:=by
  refine mk (ctr:=[]) trivial (nt:=25) Tryz.func106 rfl rfl rfl rfl (by kernel_rfl) (by kernel_rfl) (fun x=>[fun _=>{σ:=Nat,pat:=fun k=>[sI 3 (mx x.1 k),sI 4 (k+1:Int)],inv:=fun k=>k+1≤List.length (α:=Int) x.1,meas:=fun k=>List.length (α:=Int) x.1 - k}]) ?_
  rintro⟨(xs:List Int),_⟩ ⟨(h1:0<xs.length),(h2:pLen xs.length)⟩
  have:=h2.out
  repeat' (intro hzz;(try (rename Two=>hq;cases hq));(try dsimp only at hzz);(try simp only[zad,zac,eqD,inR,big,zab,zB] at hzz);(try simp only[zad,zac,eqD,inR,big,zab,zB,zaz] at hzz);(try (first|contradiction|(exfalso;omega)));(try (revert hzz;intro _)))
  all_goals try (rename Unit=>hq;clear hq)
  all_goals try ((with_reducible refine Held.mk ?_);(with_reducible (first|refine Frz.mk ?_|refine And.intro (Frz.mk ?_) ?_|refine And.intro ?_ (Frz.mk ?_)));repeat' first|exact True.intro|(change _=_;with_reducible rfl)|refine And.intro ?_ ?_|(with_reducible refine Frz.mk ?_))
  all_goals try (refine Held.mk ?_;(try dsimp only at *);(try simp only[zad,zac,eqD,inR,big,zab,zB] at *);(try simp only[zad,zac,eqD,inR,big,zab,zB,zaz] at *))
  all_goals try omega
  ·
    refine zai.mk ?_
    refine Exists.intro 0 ?_
    refine And.intro (Leaf.mk ?_) ?_
    · repeat' first|exact True.intro|refine And.intro ?_ ?_
      all_goals try ((change _=_<;>try dsimp only)<;>try with_reducible rfl)
      all_goals try omega
      all_goals (rfl)
    exact h1
  · rename_i k hk hg
    refine zai.mk ?_
    refine Exists.intro (k+1) ?_
    refine And.intro (Leaf.mk ?_) ?_
    · repeat' first|exact True.intro|refine And.intro ?_ ?_
      all_goals try ((change _=_<;>try dsimp only)<;>try with_reducible rfl)
      all_goals try omega
      all_goals (rfl)
    exact⟨by show k+1+1≤xs.length;omega,by show xs.length - (k+1)<xs.length - k;omega⟩
  · rename_i k hk hg
    rw[show xs.length - 1=k from by omega]
theorem h108:Ok 108 sMin:=by
  refine mk (ctr:=[]) trivial (nt:=25) Tryz.func108 rfl rfl rfl rfl (by kernel_rfl) (by kernel_rfl) (fun x=>[fun _=>{σ:=Nat,pat:=fun k=>[sI 3 (mn x.1 k),sI 4 (k+1:Int)],inv:=fun k=>k+1≤List.length (α:=Int) x.1,meas:=fun k=>List.length (α:=Int) x.1 - k}]) ?_
  rintro⟨(xs:List Int),_⟩ ⟨(h1:0<xs.length),(h2:pLen xs.length)⟩
  have:=h2.out
  repeat' (intro hzz;(try (rename Two=>hq;cases hq));(try dsimp only at hzz);(try simp only[zad,zac,eqD,inR,big,zab,zB] at hzz);(try simp only[zad,zac,eqD,inR,big,zab,zB,zaz] at hzz);(try (first|contradiction|(exfalso;omega)));(try (revert hzz;intro _)))
  all_goals try (rename Unit=>hq;clear hq)
  all_goals try ((with_reducible refine Held.mk ?_);(with_reducible (first|refine Frz.mk ?_|refine And.intro (Frz.mk ?_) ?_|refine And.intro ?_ (Frz.mk ?_)));repeat' first|exact True.intro|(change _=_;with_reducible rfl)|refine And.intro ?_ ?_|(with_reducible refine Frz.mk ?_))
  all_goals try (refine Held.mk ?_;(try dsimp only at *);(try simp only[zad,zac,eqD,inR,big,zab,zB] at *);(try simp only[zad,zac,eqD,inR,big,zab,zB,zaz] at *))
  all_goals try omega
  ·
    refine zai.mk ?_
    refine Exists.intro 0 ?_
    refine And.intro (Leaf.mk ?_) ?_
    · repeat' first|exact True.intro|refine And.intro ?_ ?_
      all_goals try ((change _=_<;>try dsimp only)<;>try with_reducible rfl)
      all_goals try omega
      all_goals (rfl)
    exact h1
  · rename_i k hk hg
    refine zai.mk ?_
    refine Exists.intro (k+1) ?_
    refine And.intro (Leaf.mk ?_) ?_
    · repeat' first|exact True.intro|refine And.intro ?_ ?_
      all_goals try ((change _=_<;>try dsimp only)<;>try with_reducible rfl)
      all_goals try omega
      all_goals (rfl)
    exact⟨by show k+1+1≤xs.length;omega,by show xs.length - (k+1)<xs.length - k;omega⟩
  · rename_i k hk hg
    rw[show xs.length - 1=k from by omega]
def gf (xs:List Int):Nat→Nat
  | 0=>0
  | k+1=>Nat.gcd (gf xs k) (vI xs k).natAbs
abbrev pDiv (xs:List Int):Prop:=pLen xs.length∧∀i,i<xs.length→(vI xs i).natAbs≤9000000000000000000
@[reducible] def sDiv:Spec:={pats:=[.dat (.sl I64)],res:=[{t:=I64}],pre:=fun x=>pDiv x.1,f:=fun x=>((gf x.1 (List.length (α:=Int) x.1):Int),())}
def zzv (st:St):LoopAnn:=zju 3 st fun g=>zju 5 st fun n=>{σ:=Int×Int,pat:=fun s=>[sI 3 s.1,sI 5 s.2],inv:=fun s=>Nat.gcd s.1.natAbs s.2.natAbs=Nat.gcd g.natAbs n.natAbs∧s.1.natAbs≤9000000000000000000∧s.2.natAbs≤9000000000000000000,meas:=fun s=>s.2.natAbs}
def zzw (xs:List Int):LoopAnn:={σ:=Nat×Int,pat:=fun s=>[sI 8 s.1,sI 3 s.2],inv:=fun s=>s.1≤xs.length∧s.2.natAbs=gf xs s.1∧s.2.natAbs≤9000000000000000000,meas:=fun s=>xs.length - s.1}
theorem h148:Ok 148 sDiv:=by
  refine mk (ctr:=[]) trivial (nt:=23) Tryz.func148 rfl rfl rfl rfl (by kernel_rfl) (by kernel_rfl) (fun x=>[fun _=>zzw x.1,zzv]) ?_
  rintro⟨(xs:List Int),_⟩ ⟨(h1:pLen xs.length),(h2:∀i,i<xs.length→(vI xs i).natAbs≤9000000000000000000)⟩
  have:=h1.out
  repeat' (intro hzz;(try (rename Two=>hq;cases hq));(try dsimp only at hzz);(try simp only[zad,zac,eqD,inR,big,zab,zB] at hzz);(try simp only[zad,zac,eqD,inR,big,zab,zB,zaz] at hzz);(try (revert hzz;intro _)))
  all_goals try (rename Unit=>hq;clear hq)
  all_goals try ((with_reducible refine Held.mk ?_);(with_reducible (first|refine Frz.mk ?_|refine And.intro (Frz.mk ?_) ?_|refine And.intro ?_ (Frz.mk ?_)));repeat' first|exact True.intro|(change _=_;with_reducible rfl)|refine And.intro ?_ ?_|(with_reducible refine Frz.mk ?_))
  all_goals try (refine Held.mk ?_;(try dsimp only at *);(try simp only[zad,zac,eqD,inR,big,zab,zB] at *);(try simp only[zad,zac,eqD,inR,big,zab,zB,zaz] at *))
  all_goals try omega
  ·
    refine zai.mk ?_
    refine Exists.intro ((0:Nat),(0:Int)) ?_
    refine And.intro (Leaf.mk ?_) ?_
    · repeat' first|exact True.intro|refine And.intro ?_ ?_
      all_goals try ((change _=_<;>try dsimp only)<;>try with_reducible rfl)
      all_goals try omega
      all_goals (rfl)
    exact⟨Nat.zero_le _,rfl,Nat.zero_le _⟩
  · rename_i s hs hg
    refine zai.mk ?_
    refine Exists.intro (s.2,xs.getD s.1 0) ?_
    refine And.intro (Leaf.mk ?_) ?_
    · repeat' first|exact True.intro|refine And.intro ?_ ?_
      all_goals try ((change _=_<;>try dsimp only)<;>try with_reducible rfl)
      all_goals try omega
      all_goals (rfl)
    exact⟨rfl,hs.2.2,h2 s.1 (by omega)⟩
  · rename_i s hs hg t ht hn
    refine zai.mk ?_
    refine Exists.intro (t.2,t.1.tmod t.2) ?_
    refine And.intro (Leaf.mk ?_) ?_
    · repeat' first|exact True.intro|refine And.intro ?_ ?_
      all_goals try ((change _=_<;>try dsimp only)<;>try with_reducible rfl)
      all_goals try omega
      all_goals (rfl)
    refine⟨⟨?_,ht.2.2,?_⟩,?_⟩
    · refine Eq.trans ?_ ht.1
      show Nat.gcd t.2.natAbs (t.1.tmod t.2).natAbs=_
      rw[Int.natAbs_tmod,Nat.gcd_comm,←Nat.gcd_rec,Nat.gcd_comm]
    · show (t.1.tmod t.2).natAbs≤_
      rw[Int.natAbs_tmod]
      exact Nat.le_trans (Nat.mod_le _ _) ht.2.1
    · show (t.1.tmod t.2).natAbs<t.2.natAbs
      rw[Int.natAbs_tmod]
      exact Nat.mod_lt _ (Nat.pos_of_ne_zero (fun h=>hn (Int.natAbs_eq_zero.1 h)))
  · rename_i s hs hg t ht hn
    refine zai.mk ?_
    refine Exists.intro (s.1+1,t.1) ?_
    refine And.intro (Leaf.mk ?_) ?_
    · repeat' first|exact True.intro|refine And.intro ?_ ?_
      all_goals try ((change _=_<;>try dsimp only)<;>try with_reducible rfl)
      all_goals try omega
      all_goals (rfl)
    have e:=ht.1
    have hn:t.2=0:=hn
    rw[hn] at e
    have e:t.1.natAbs=Nat.gcd s.2.natAbs (xs.getD s.1 0).natAbs:=by simpa using e
    refine⟨⟨?_,?_,ht.2.1⟩,?_⟩
    · show s.1+1≤xs.length;omega
    · show t.1.natAbs=gf xs (s.1+1)
      rw[e,hs.2.1];rfl
    · show xs.length - (s.1+1)<xs.length - s.1;omega
  · rename_i s hs hg
    have e:s.1=xs.length:=by have:=hs.1;omega
    have e2:=hs.2.1
    rw[e] at e2
    rw[←e2]
    simp only[cond_true]
    split<;>omega
end Go.Eng.Ar
namespace Go.Eng.Ar
open Go.Eng Go.Proofs
set_option linter.all false
set_option maxRecDepth 100000
set_option maxHeartbeats 8000000
abbrev ArrD:Type:=ArrT.Den
abbrev spkN (xs:List SpkD) (i:Nat):SpkD:=xs.getD i spkZ
@[reducible] def zkR:Spec:={pats:=[.dat ArrT],res:=[{t:=I64}],pre:=fun x=>pLen (List.length (α:=SpkD) x.1.2.2.1),f:=fun x=>((chkA x.1.1 x.1.2.1 x.1.2.2.1).2,())}
theorem h87:Ok 87 zkR:=by
  refine mk (ctr:=[(25,zoR)]) ⟨h25,trivial⟩ (nt:=11) Tryz.func87 rfl rfl rfl rfl (by kernel_rfl) (by kernel_rfl) (fun _=>[]) ?_
  rintro⟨⟨(r:Int),(v:Int),(xs:List SpkD),_⟩,_⟩ (hp:pLen xs.length)
  repeat' (intro hzz;(try (rename Two=>hq;cases hq));(try dsimp only at hzz);(try simp only[zad,zac,eqD,inR,big,zab,zB] at hzz);(try (revert hzz;intro _)))
  all_goals try (rename Unit=>hq;clear hq)
  all_goals try ((with_reducible refine Held.mk ?_);(with_reducible (first|refine Frz.mk ?_|refine And.intro (Frz.mk ?_) ?_|refine And.intro ?_ (Frz.mk ?_)));repeat' first|exact True.intro|(change _=_;with_reducible rfl)|refine And.intro ?_ ?_|(with_reducible refine Frz.mk ?_))
  all_goals try (refine Held.mk ?_;(try dsimp only at *);(try simp only[zad,zac,eqD,inR,big,zab,zB] at *))
  · exact hp
def zjC (p:SpkD→Bool):List SpkD→Nat→Int
  | [],_=>-1
  | x::r,i=>if p x=true then i else zjC p r (i+1)
theorem zsN {xs:List SpkD} {i:Nat} (h:i<xs.length):xs.drop i=spkN xs i::xs.drop (i+1):=by
  rw[List.drop_eq_getElem_cons h]
  simp[spkN,List.getD,List.getElem?_eq_getElem h]
theorem zkg {p:SpkD→Bool} {xs:List SpkD} {i:Nat} (h:i<xs.length):zjC p (xs.drop i) i=if p (spkN xs i)=true then (i:Int) else zjC p (xs.drop (i+1)) (i+1):=by
  rw[zsN h];rfl
theorem zmS (p:SpkD→Bool):∀(xs:List SpkD) (i:Nat),decide (zjC p xs i≥0)=xs.any p
  | [],i=>by simp[zjC]
  | x :: r,i=>by
    simp only[zjC,List.any_cons]
    by_cases h:p x=true
    · have h2:(if p x=true then (i:Int) else zjC p r (i+1))=i:=if_pos h
      simp only[h,if_true,Bool.true_or,decide_eq_true_eq]
      omega
    · have h':p x=false:=by simpa using h
      simp only[h',Bool.false_eq_true,if_false,Bool.false_or]
      exact zmS p r (i+1)
abbrev clN:Ty:=.clo 161 (.cons (.ptr zbA) .nil)
def nrS (seat:zan) (s:SpkD):Bool:=zhF s.1 seat
@[reducible] def zxU:Spec:={pats:=[.dat SpkT,.dat (.ptr zbA)],res:=[{t:=.bool}],pre:=fun _=>True,f:=fun x=>(nrS x.2.1 x.1,())}
theorem h161:Ok 161 zxU:=by
  refine mk (ctr:=[(78,zvU)]) ⟨h78,trivial⟩ (nt:=9) Tryz.func161 rfl rfl rfl rfl (by kernel_rfl) (by kernel_rfl) (fun _=>[]) ?_
  rintro⟨⟨(a:zan),(g:Int),(d:Int),_⟩,(p:zan),_⟩ _
  repeat' (intro hzz;(try (rename Two=>hq;cases hq));(try dsimp only at hzz);(try simp only[zad,zac,eqD,inR,big,zab,zB] at hzz);(try (revert hzz;intro _)))
  all_goals try (rename Unit=>hq;clear hq)
  all_goals try ((with_reducible refine Held.mk ?_);(with_reducible (first|refine Frz.mk ?_|refine And.intro (Frz.mk ?_) ?_|refine And.intro ?_ (Frz.mk ?_)));repeat' first|exact True.intro|(change _=_;with_reducible rfl)|refine And.intro ?_ ?_|(with_reducible refine Frz.mk ?_))
  all_goals try (refine Held.mk ?_;(try dsimp only at *);(try simp only[zad,zac,eqD,inR,big,zab,zB] at *))
  all_goals rfl
@[reducible] def zxX:Spec:={pats:=[.dat (.sl SpkT),.dat clN],res:=[{t:=I64}],pre:=fun x=>pLen (List.length (α:=SpkD) x.1),f:=fun x=>(zjC (nrS x.2.1.1) x.1 0,())}
theorem h141:Ok 141 zxX:=by
  refine mk (ctr:=[(161,zxU)]) ⟨h161,trivial⟩ (nt:=19) Tryz.func141 rfl rfl rfl rfl (by kernel_rfl) (by kernel_rfl) (fun x=>[fun _=>{σ:=Nat,pat:=fun i=>[sI 8 i],inv:=fun i=>i≤List.length (α:=SpkD) x.1∧zjC (nrS x.2.1.1) (List.drop (α:=SpkD) i x.1) i=zjC (nrS x.2.1.1) x.1 0,meas:=fun i=>List.length (α:=SpkD) x.1 - i}]) ?_
  rintro⟨(xs:List SpkD),⟨(m:zan),_⟩,_⟩ (hp:pLen xs.length)
  have:=hp.out
  repeat' (intro hzz;(try (rename Two=>hq;cases hq));(try dsimp only at hzz);(try simp only[zad,zac,eqD,inR,big,zab,zB] at hzz);(try (first|contradiction|(exfalso;omega)));(try (revert hzz;intro _)))
  all_goals try (rename Unit=>hq;clear hq)
  all_goals try ((with_reducible refine Held.mk ?_);(with_reducible (first|refine Frz.mk ?_|refine And.intro (Frz.mk ?_) ?_|refine And.intro ?_ (Frz.mk ?_)));repeat' first|exact True.intro|(change _=_;with_reducible rfl)|refine And.intro ?_ ?_|(with_reducible refine Frz.mk ?_))
  all_goals try (refine Held.mk ?_;(try dsimp only at *);(try simp only[zad,zac,eqD,inR,big,zab,zB] at *))
  all_goals try omega
  ·
    refine zai.mk ?_
    refine Exists.intro 0 ?_
    refine And.intro (Leaf.mk ?_) ?_
    · repeat' first|exact True.intro|refine And.intro ?_ ?_
      all_goals try ((change _=_<;>try dsimp only)<;>try with_reducible rfl)
      all_goals try omega
    exact⟨Nat.zero_le _,rfl⟩
  · rename_i i hi hg h
    have h1:=zkg (p:=nrS m) (xs:=xs) (i:=i) (by omega)
    rw[if_pos (show nrS m (spkN xs i)=true from h)] at h1
    exact h1.symm.trans hi.2
  · rename_i i hi hg h
    have h1:=zkg (p:=nrS m) (xs:=xs) (i:=i) (by omega)
    have h:nrS m (spkN xs i)=false:=h
    rw[if_neg (by rw[h];decide)] at h1
    refine zai.mk ?_
    refine Exists.intro (i+1) ?_
    refine And.intro (Leaf.mk ?_) ?_
    · repeat' first|exact True.intro|refine And.intro ?_ ?_
      all_goals try ((change _=_<;>try dsimp only)<;>try with_reducible rfl)
      all_goals try omega
    exact⟨⟨by show i+1≤xs.length;omega,h1.symm.trans hi.2⟩,by show xs.length - (i+1)<xs.length - i;omega⟩
  · rename_i i hi hg
    have h1:=hi.2
    rw[List.drop_eq_nil_of_le (by omega)] at h1
    exact h1
@[reducible] def zu7:Spec:={pats:=[.dat (.sl SpkT),.dat clN],res:=[{t:=.bool}],pre:=fun x=>pLen (List.length (α:=SpkD) x.1),f:=fun x=>(List.any (α:=SpkD) x.1 (nrS x.2.1.1),())}
theorem h95:Ok 95 zu7:=by
  refine mk (ctr:=[(141,zxX)]) ⟨h141,trivial⟩ (nt:=9) Tryz.func95 rfl rfl rfl rfl (by kernel_rfl) (by kernel_rfl) (fun _=>[]) ?_
  rintro⟨(xs:List SpkD),⟨(m:zan),_⟩,_⟩ (hp:pLen xs.length)
  repeat' (intro hzz;(try (rename Two=>hq;cases hq));(try dsimp only at hzz);(try simp only[zad,zac,eqD,inR,big,zab,zB] at hzz);(try (revert hzz;intro _)))
  all_goals try (rename Unit=>hq;clear hq)
  all_goals try ((with_reducible refine Held.mk ?_);(with_reducible (first|refine Frz.mk ?_|refine And.intro (Frz.mk ?_) ?_|refine And.intro ?_ (Frz.mk ?_)));repeat' first|exact True.intro|(change _=_;with_reducible rfl)|refine And.intro ?_ ?_|(with_reducible refine Frz.mk ?_))
  all_goals try (refine Held.mk ?_;(try dsimp only at *);(try simp only[zad,zac,eqD,inR,big,zab,zB] at *))
  · exact hp
  · exact zmS _ _ _
def zk5 (xs:List SpkD) (seat:zan):Bool:=xs.any (nrS seat)
def zhB (xs:List SpkD) (seat:zan):Int:=if zdC seat.1 seat.2.1 seat.2.2.1=0 then (if zk5 xs seat=true then 11 else 0) else zdC seat.1 seat.2.1 seat.2.2.1
@[reducible] def xCN:Xt:={clos:=[(161,[zbA])]}
theorem zxn:Its xCN.its:=True.intro
@[reducible] def zu3:Spec:={pats:=[.dat ArrT,.dat zbA],res:=[{t:=I64}],pre:=fun x=>pLen (List.length (α:=SpkD) x.1.2.2.1),f:=fun x=>(zhB x.1.2.2.1 x.2.1,())}
theorem h140:Ok 140 zu3:=by
  refine mkX (X:=xCN) (hX:=zxn) (ctr:=[(73,zeJ),(74,zim),(85,zb7),(95,zu7)]) ⟨h73,h74,h85,h95,trivial⟩ (nt:=17) Tryz.func140 rfl rfl rfl rfl (by kernel_rfl) (by kernel_rfl) (fun _=>[]) ?_
  rintro⟨⟨(r:Int),(v:Int),(xs:List SpkD),_⟩,(p:zan),_⟩ (hp:pLen xs.length)
  repeat' (intro hzz;(try (rename Two=>hq;cases hq));(try dsimp only at hzz);(try simp only[zad,zac,eqD,inR,big,zab,zB] at hzz);(try (revert hzz;intro _)))
  all_goals try (rename Unit=>hq;clear hq)
  all_goals try ((with_reducible refine Held.mk ?_);(with_reducible (first|refine Frz.mk ?_|refine And.intro (Frz.mk ?_) ?_|refine And.intro ?_ (Frz.mk ?_)));repeat' first|exact True.intro|(change _=_;with_reducible rfl)|refine And.intro ?_ ?_|(with_reducible refine Frz.mk ?_))
  all_goals try (refine Held.mk ?_;(try dsimp only at *);(try simp only[zad,zac,eqD,inR,big,zab,zB] at *))
  · exact hp
  · show ((2:Nat):Int)≤4611686018427387904;decide
  · show za8 [zdC p.1 p.2.1 p.2.2.1,bif !zk5 xs p then 0 else 11]=zhB xs p
    simp only[za8,zhB]
    split
    · cases zk5 xs p<;>rfl
    · rfl
abbrev RayD:Type:=RayT.Den
def inSp (s:SpkD):Prop:=inP s.1∧(0≤(s.2.1:Int)∧(s.2.1:Int)≤1000)∧(0≤(s.2.2.1:Int)∧(s.2.2.1:Int)≤10000)
theorem zAC {g d:Int} (h:zcO g d=0):(0≤g∧g≤1000)∧(0≤d∧d≤10000):=by
  simp only[zcO] at h
  split at h
  · assumption
  · cases h
theorem zwD {s:SpkD} (h:zeA s=0):inSp s:=by
  unfold zeA at h
  split at h
  · rename_i h1;exact⟨zhw h1,zAC h⟩
  · rename_i h1;exact absurd h h1
theorem zpH {xs:List SpkD}:∀(k i:Nat),i+k=xs.length→(zg8 xs k i).2=0→∀j,i≤j→j<xs.length→inSp (spkN xs j)
  | 0,i,hk,_,j,h1,h2=>by omega
  | k + 1,i,hk,h,j,h1,h2=>by
    simp only[zg8] at h
    split at h
    · rename_i hs
      by_cases e:j=i
      · subst e;exact zwD hs
      · exact zpH k (i+1) (by omega) h j (by omega) h2
    · rename_i hs;exact absurd h hs
structure goodArr (r v:Int) (xs:List SpkD):Prop where
  snd:(8000≤r∧r≤192000)∧(30000≤v∧v≤40000)
  pos:0<xs.length
  le:xs.length≤8
  sp:∀i,i<xs.length→inSp (spkN xs i)
theorem zjo {r v:Int} {xs:List SpkD} (h:(chkA r v xs).2=0):goodArr r v xs:=by
  unfold chkA at h
  split at h
  · rename_i h0
    unfold ziW at h0
    split at h0
    · rename_i h1
      split at h0
      · cases h0
      · split at h0
        · rename_i h2 h3
          refine⟨?_,by omega,h3,fun i hi=>zpH xs.length 0 (by omega) h i (Nat.zero_le _) hi⟩
          have:=zvi (x:=(r,v,())) h1
          exact this
        · cases h0
    · rename_i h1;exact absurd h0 h1
  · rename_i h0;exact absurd h h0
theorem zkN {xs:List SpkD} {p:zan} (h:zhB xs p=0):inP p∧∀i,i<xs.length→zhF (spkN xs i).1 p=false:=by
  unfold zhB at h
  split at h
  · rename_i h1
    split at h
    · cases h
    · rename_i h2
      refine⟨zhw h1,fun i hi=>?_⟩
      have h3:zk5 xs p=false:=by simpa using h2
      have h4:=List.any_eq_false.1 h3 (spkN xs i) (by
        have:spkN xs i=xs[i]:=by simp[spkN,List.getD,List.getElem?_eq_getElem hi]
        rw[this];exact List.getElem_mem hi)
      simpa [nrS] using h4
  · rename_i h1;exact absurd h h1
theorem zsF {a b:zan} (ha:inP a) (hb:inP b) (h:zhF a b=false):100≤sqP a b:=by
  rw[zhO ha hb] at h
  have:=of_decide_eq_false h
  omega
def zkY (r v:Int) (p:zan) (s:SpkD):RayD:=(s,(stL s.1 p,stU s.1 p,()),(nuL s.1 p (r,v,()),nuU s.1 p (r,v,()),()),())
def zcG (r v:Int) (xs:List SpkD) (p:zan):Int:=if (chkA r v xs).2=0 then zhB xs p else (chkA r v xs).2
def zgO (r v:Int) (xs:List SpkD) (p:zan) (k:Nat):List RayD:=tab (fun i=>zkY r v p (spkN xs i)) k
def zcr (r v:Int) (xs:List SpkD) (p:zan):List RayD×Int×Unit:=if zcG r v xs p=0 then (zgO r v xs p xs.length,0,()) else ([],zcG r v xs p,())
@[reducible] def zvS:Spec:={pats:=[.dat ArrT,.dat zbA],res:=[{t:=.sl RayT},{t:=I64}],pre:=fun x=>pLen (List.length (α:=SpkD) x.1.2.2.1),f:=fun x=>zcr x.1.1 x.1.2.1 x.1.2.2.1 x.2.1}
def zAn (r v:Int) (xs:List SpkD) (p:zan):LoopAnn:={σ:=Nat,pat:=fun k=>[sI 26 k,.slot 8 (.one (.o 60008 k)),.row 60008 147 RayT (zgO r v xs p k)],inv:=fun k=>k≤xs.length,meas:=fun k=>xs.length - k}
theorem h93:Ok 93 zvS:=by
  refine mk (ctr:=[(77,zvT),(79,sStr),(84,zf3),(87,zkR),(140,zu3)]) ⟨h77,h79,h84,h87,h140,trivial⟩ (nt:=47) Tryz.func93 rfl rfl rfl rfl (by kernel_rfl) (by kernel_rfl) (fun x=>[fun _=>zAn x.1.1 x.1.2.1 x.1.2.2.1 x.2.1]) ?_
  rintro⟨⟨(r:Int),(v:Int),(xs:List SpkD),_⟩,(p:zan),_⟩ (hp:pLen xs.length)
  repeat' (intro hzz;(try (rename Two=>hq;cases hq));(try dsimp only at hzz);(try simp only[zad,zac,eqD,inR,big,zab,zB] at hzz);(try (revert hzz;intro _)))
  all_goals try (rename Unit=>hq;clear hq)
  all_goals try ((with_reducible refine Held.mk ?_);(with_reducible (first|refine Frz.mk ?_|refine And.intro (Frz.mk ?_) ?_|refine And.intro ?_ (Frz.mk ?_)));repeat' first|exact True.intro|(change _=_;with_reducible rfl)|refine And.intro ?_ ?_|(with_reducible refine Frz.mk ?_))
  all_goals try (refine Held.mk ?_;(try dsimp only at *);(try simp only[zad,zac,eqD,inR,big,zab,zB] at *))
  · exact hp
  · rename_i h
    have e:zcG r v xs p=(chkA r v xs).2:=if_neg h
    have e2:zcr r v xs p=([],(chkA r v xs).2,()):=by unfold zcr;rw[e,if_neg h]
    rw[e2];exact⟨rfl,rfl⟩
  · exact hp
  · rename_i h1 h
    have h:¬zhB xs p=0:=h
    have e:zcG r v xs p=zhB xs p:=if_pos h1
    have e2:zcr r v xs p=([],zhB xs p,()):=by unfold zcr;rw[e,if_neg h]
    rw[e2];exact⟨rfl,rfl⟩
  · rename_i h1 h
    refine zai.mk ?_
    refine Exists.intro (0:Nat) ?_
    refine And.intro (Leaf.mk ?_) ?_
    · repeat' first|exact True.intro|refine And.intro ?_ ?_
      all_goals try ((change _=_<;>try dsimp only)<;>try with_reducible rfl)
      all_goals try omega
      all_goals (rfl)
    exact Nat.zero_le _
  · rename_i h1 h k hk hg;omega
  · rename_i h1 h k hk hg
    have ha:=zjo h1
    have hs:=zkN h
    have h2:=(ha.sp k (by omega)).1
    exact⟨⟨h2,hs.1⟩,zsF h2 hs.1 (hs.2 k (by omega))⟩
  · rename_i h1 h k hk hg
    have ha:=zjo h1
    have hs:=zkN h
    exact⟨⟨(ha.sp k (by omega)).1,hs.1⟩,ha.snd⟩
  · rename_i h1 h k hk hg
    have e:(zgO r v xs p k).length=k:=zam _ _
    have ha:=(zjo h1).le
    refine⟨e.symm,?_⟩
    rw[e];show k+1≤2147483648;omega
  · rename_i h1 h k hk hg
    have:=hp.out
    omega
  · rename_i h1 h k hk hg
    have e:(zgO r v xs p (k+1)).length=k+1:=zam _ _
    refine zai.mk ?_
    refine Exists.intro (k+1) ?_
    refine And.intro (Leaf.mk ?_) ?_
    · repeat' first|exact True.intro|refine And.intro ?_ ?_
      all_goals try ((change _=_<;>try dsimp only)<;>try with_reducible rfl)
      all_goals try omega
      all_goals (first|rfl|exact e.symm|exact e|(rw[List.length_append,zam];rfl))
    exact⟨by show k+1≤xs.length;omega,by show xs.length - (k+1)<xs.length - k;omega⟩
  all_goals try exact (zam _ _).symm
  · rename_i h1 h k hk hg
    have h:zhB xs p=0:=h
    have e:zcG r v xs p=0:=(if_pos h1).trans h
    have e2:zcr r v xs p=(zgO r v xs p xs.length,0,()):=if_pos e
    rw[e2,show k=xs.length by omega];exact⟨rfl,rfl⟩
def shr (m z:Int):Int×Int:=if m % 4=0 then (z,0) else if m % 4=1 then (0,-z) else if m % 4=2 then (-z,0) else (0,z)
abbrev pShr (n d z:Int):Prop:=(0≤n+d∧n+d≤1000000000000000000)∧(0≤z∧z≤1000000000000000000)
@[reducible] def zq5:Spec:={pats:=[.dat RayT,.dat I64,.dat I64],res:=[{t:=zaD}],pre:=fun x=>pShr x.2.1 x.1.1.2.2.1 x.2.2.1,f:=fun x=>(((shr (x.2.1+x.1.1.2.2.1) x.2.2.1).1,(shr (x.2.1+x.1.1.2.2.1) x.2.2.1).2,()),())}
theorem h98:Ok 98 zq5:=by
  refine mk (ctr:=[]) trivial (nt:=29) Tryz.func98 rfl rfl rfl rfl (by kernel_rfl) (by kernel_rfl) (fun _=>[]) ?_
  rintro⟨⟨⟨(a:zan),(g:Int),(d:Int),_⟩,s,n,_⟩,(m:Int),(z:Int),_⟩ ⟨(h1:0≤m+d∧m+d≤1000000000000000000),(h2:0≤z∧z≤1000000000000000000)⟩
  have e:(m+d).tmod 4=(m+d) % 4:=Int.tmod_eq_emod_of_nonneg h1.1
  repeat' (intro hzz;(try (rename Two=>hq;cases hq));(try dsimp only at hzz);(try simp only[zad,zac,eqD,inR,big,zab,zB] at hzz);(try simp only[zad,zac,eqD,inR,big,zab,zB,e] at hzz);(try (revert hzz;intro _)))
  all_goals try (rename Unit=>hq;clear hq)
  all_goals try ((with_reducible refine Held.mk ?_);(with_reducible (first|refine Frz.mk ?_|refine And.intro (Frz.mk ?_) ?_|refine And.intro ?_ (Frz.mk ?_)));repeat' first|exact True.intro|(change _=_;with_reducible rfl)|refine And.intro ?_ ?_|(with_reducible refine Frz.mk ?_))
  all_goals try (refine Held.mk ?_;(try dsimp only at *);(try simp only[zad,zac,eqD,inR,big,zab,zB] at *);(try simp only[zad,zac,eqD,inR,big,zab,zB,e] at *))
  all_goals try omega
  · rename_i h
    have e:shr (m+d) z=(z,0):=if_pos h
    rw[e];exact⟨rfl,rfl⟩
  · rename_i h1 h
    have e:shr (m+d) z=(0,-z):=(if_neg h1).trans (if_pos h)
    rw[e];exact⟨rfl,rfl⟩
  · rename_i h1 h2 h
    have e:shr (m+d) z=(-z,0):=(if_neg h1).trans ((if_neg h2).trans (if_pos h))
    rw[e];exact⟨rfl,rfl⟩
  · rename_i h1 h2 h
    have e:shr (m+d) z=(0,z):=(if_neg h1).trans ((if_neg h2).trans (if_neg h))
    rw[e];exact⟨rfl,rfl⟩
end Go.Eng.Ar
namespace Go.Eng.Ar
open Go.Eng Go.Proofs
set_option linter.all false
set_option maxRecDepth 100000
set_option maxHeartbeats 8000000
@[reducible] def xF4:Xt:={fuel:=4}
theorem zot:Its xF4.its:=True.intro
abbrev rayZ:RayD:=Ty.dflt RayT
abbrev rayN (l:List RayD) (i:Nat):RayD:=l.getD i rayZ
def giv (x:RayD):Int×Int:=shr (x.2.2.1.1+x.1.2.2.1) (x.1.2.1*x.2.1.1)
def reT (l:List RayD) (k:Nat):Int:=sm (fun i=>(giv (rayN l i)).1) k
def imT (l:List RayD) (k:Nat):Int:=sm (fun i=>(giv (rayN l i)).2) k
theorem zuU {m z B:Int} (h:0≤z∧z≤B):(-B≤(shr m z).1∧(shr m z).1≤B)∧(-B≤(shr m z).2∧(shr m z).2≤B):=by
  unfold shr
  split
  · show (-B≤z∧z≤B)∧(-B≤0∧0≤B);omega
  · split
    · show (-B≤0∧0≤B)∧(-B≤-z∧-z≤B);omega
    · split
      · show (-B≤-z∧-z≤B)∧(-B≤0∧0≤B);omega
      · show (-B≤0∧0≤B)∧(-B≤z∧z≤B);omega
structure goodRay (x:RayD):Prop where
  g:0≤(x.1.2.1:Int)∧(x.1.2.1:Int)≤1000
  d:0≤(x.1.2.2.1:Int)∧(x.1.2.2.1:Int)≤10000
  s:0≤(x.2.1.1:Int)∧(x.2.1.1:Int)≤100000
  su:(x.2.1.1:Int)≤(x.2.1.2.1:Int)∧(x.2.1.2.1:Int)≤100000
  n:0≤(x.2.2.1.1:Int)∧(x.2.2.1.1:Int)≤1000000000
  nu:(x.2.2.1.1:Int)≤(x.2.2.1.2.1:Int)∧(x.2.2.1.2.1:Int)≤1000000000
theorem ziJ {a b A B:Int} (h1:0≤a∧a≤A) (h2:0≤b∧b≤B):0≤a*b∧a*b≤A*B:=⟨Int.mul_nonneg h1.1 h2.1,Int.mul_le_mul h1.2 h2.2 h2.1 (Int.le_trans h1.1 h1.2)⟩
abbrev CD:Type:=Nat×Nat
def cpxI (re im:Int):CD:=(floatOfInt .f64 re,floatOfInt .f64 im)
@[reducible] def sNum:Spec:={pats:=[.dat I64,.dat I64],res:=[{t:=C128}],pre:=fun _=>True,f:=fun x=>(cpxI x.1 x.2.1,())}
theorem h49:Ok 49 sNum:=by
  refine mk (ctr:=[]) trivial (nt:=10) Tryz.func49 rfl rfl rfl rfl (by kernel_rfl) (by kernel_rfl) (fun _=>[]) ?_
  rintro⟨(a:Int),(b:Int),_⟩ _
  repeat' (intro hzz;(try (rename Two=>hq;cases hq));(try dsimp only at hzz);(try simp only[zad,zac,eqD,inR,big,zab,zB] at hzz);(try (revert hzz;intro _)))
  all_goals try (rename Unit=>hq;clear hq)
  all_goals try ((with_reducible refine Held.mk ?_);(with_reducible (first|refine Frz.mk ?_|refine And.intro (Frz.mk ?_) ?_|refine And.intro ?_ (Frz.mk ?_)));repeat' first|exact True.intro|(change _=_;with_reducible rfl)|refine And.intro ?_ ?_|(with_reducible refine Frz.mk ?_))
  all_goals try (refine Held.mk ?_;(try dsimp only at *);(try simp only[zad,zac,eqD,inR,big,zab,zB] at *))
  all_goals rfl
def zlj (a b:Nat×Nat):Bool:=decide (a.1=b.1)&&decide (a.2=b.2)
@[reducible] def zvR:Spec:={pats:=[.dat C128,.dat C128],res:=[{t:=.bool}],pre:=fun _=>True,f:=fun x=>(zlj x.1 x.2.1,())}
theorem h46:Ok 46 zvR:=by
  refine mk (ctr:=[]) trivial (nt:=21) Tryz.func46 rfl rfl rfl rfl (by kernel_rfl) (by kernel_rfl) (fun _=>[]) ?_
  rintro⟨⟨a,b⟩,⟨c,d⟩,_⟩ _
  repeat' (intro hzz;(try (rename Two=>hq;cases hq));(try dsimp only at hzz);(try simp only[zad,zac,eqD,inR,big,zab,zB] at hzz);(try (revert hzz;intro _)))
  all_goals try (rename Unit=>hq;clear hq)
  all_goals try ((with_reducible refine Held.mk ?_);(with_reducible (first|refine Frz.mk ?_|refine And.intro (Frz.mk ?_) ?_|refine And.intro ?_ (Frz.mk ?_)));repeat' first|exact True.intro|(change _=_;with_reducible rfl)|refine And.intro ?_ ?_|(with_reducible refine Frz.mk ?_))
  all_goals try (refine Held.mk ?_;(try dsimp only at *);(try simp only[zad,zac,eqD,inR,big,zab,zB] at *))
  · rename_i h
    have h:a=c:=Int.ofNat_inj.1 h
    show decide ((b:Int)=(d:Int))=zlj (a,b) (c,d)
    subst h
    by_cases hb:b=d<;>simp[zlj,hb,Int.ofNat_inj]
  · rename_i h
    have h:¬a=c:=fun e=>h (by rw[e])
    show false=zlj (a,b) (c,d)
    simp[zlj,h]
theorem zxG {a b:zan} (ha:inP a) (hb:inP b) (h:100≤sqP a b):(0≤stL a b∧stL a b≤100000)∧(stL a b≤stU a b∧stU a b≤100000):=by
  have h1:=zkk ha hb
  have h2:=zvm ha hb h
  have e1:stU a b=(1000000000+farL a b - 1) / farL a b:=by
    have:=zs0 (n:=1000000000) (b:=farL a b) (by decide) (by omega)
    rw[Int.tdiv_eq_ediv_of_nonneg (by omega)] at this
    exact this.symm
  have h3:stL a b≤100000:=Int.ediv_le_of_le_mul (by omega) (by omega)
  have h4:0≤stL a b:=Int.ediv_nonneg (by decide) (by omega)
  have h5:stU a b≤100000:=by
    rw[e1]
    refine Int.lt_add_one_iff.1 (Int.ediv_lt_of_lt_mul (by omega) ?_)
    omega
  have h6:stL a b≤stU a b:=by
    rw[e1]
    have q0:stL a b*farU a b≤1000000000:=Int.ediv_mul_le _ (by omega)
    have q1:stL a b*farL a b≤stL a b*farU a b:=Int.mul_le_mul_of_nonneg_left (by omega) h4
    exact Int.le_ediv_of_mul_le (by omega) (by omega)
  exact⟨⟨h4,h3⟩,h6,h5⟩
theorem zjU {r v:Int} {p:zan} {s:SpkD} (hx:inS (r,v,())) (hs:inSp s) (hp:inP p) (hn:100≤sqP s.1 p):goodRay (zkY r v p s):=by
  have h1:=zkk hs.1 hp
  have h2:0≤farL s.1 p*r∧farL s.1 p*r≤3325537728000:=zmP (by omega) (by omega) hx.1
  have h3:0≤farU s.1 p*r∧farU s.1 p*r≤3325537728000:=zmP (by omega) (by omega) hx.1
  have hv:(30000:Int)≤v∧v≤40000:=hx.2
  have hr:(8000:Int)≤r∧r≤192000:=hx.1
  have h4:=zpy (b:=v) h2.1 (by omega)
  have h5:=zuA (b:=v) h3.1 (by omega)
  have h6:(farL s.1 p*r) / v≤cl (farU s.1 p*r) v:=by
    have q:=zs0 (n:=farU s.1 p*r) (b:=v) h3.1 (by omega)
    rw[Int.tdiv_eq_ediv_of_nonneg (by omega)] at q
    rw[←q]
    refine Int.ediv_le_ediv (by omega) ?_
    have:=Int.mul_le_mul_of_nonneg_right h1.2.1 (show 0≤r by omega)
    omega
  have h7:=zxG hs.1 hp hn
  have h8:(farL s.1 p*r) / v≤200000000:=Int.ediv_le_of_le_mul (by omega) (by omega)
  have h9:cl (farU s.1 p*r) v≤200000000:=by
    have q:=zs0 (n:=farU s.1 p*r) (b:=v) h3.1 (by omega)
    rw[Int.tdiv_eq_ediv_of_nonneg (by omega)] at q
    rw[←q]
    exact Int.ediv_le_of_le_mul (by omega) (by omega)
  refine⟨hs.2.1,hs.2.2,h7.1,h7.2,?_,?_⟩
  · show 0≤((farL s.1 p*r) / v+500) / 1000∧((farL s.1 p*r) / v+500) / 1000≤1000000000
    omega
  · show ((farL s.1 p*r) / v+500) / 1000≤(cl (farU s.1 p*r) v+500) / 1000∧(cl (farU s.1 p*r) v+500) / 1000≤1000000000
    omega
theorem ziD (r v:Int) (xs:List SpkD) (p:zan):∃L e,zcr r v xs p=(L,e,())∧L.length≤8∧(∀i,i<L.length→goodRay (rayN L i))∧e=zcG r v xs p:=by
  unfold zcr
  split
  · rename_i h
    refine⟨_,_,rfl,?_,?_,h.symm⟩
    all_goals
      unfold zcG at h
      split at h
      · rename_i h1
        have ha:=zjo h1
        have hs:=zkN h
        first
        | (rw[zgO,zam];exact ha.le)
        | (intro i hi
           rw[zgO,zam] at hi
           have q:rayN (zgO r v xs p xs.length) i=zkY r v p (spkN xs i):=zaE _ _ _ _ hi
           rw[q]
           exact zjU ha.snd (ha.sp i hi) hs.1 (zsF (ha.sp i hi).1 hs.1 (hs.2 i hi)))
      · rename_i h1;exact absurd h h1
  · exact⟨_,_,rfl,Nat.zero_le _,fun i hi=>absurd hi (Nat.not_lt_zero _),rfl⟩
theorem zvj {x:RayD} (h:goodRay x):(-100000000≤(giv x).1∧(giv x).1≤100000000)∧(-100000000≤(giv x).2∧(giv x).2≤100000000):=zuU (ziJ h.g h.s)
theorem zvb {L:List RayD} {k:Nat} (h:∀i,i<k→goodRay (rayN L i)) (hk:k≤8):(-800000000≤reT L k∧reT L k≤800000000)∧(-800000000≤imT L k∧imT L k≤800000000):=by
  have h1:=zjv (f:=fun i=>(giv (rayN L i)).1) (B:=100000000) k fun i hi=>(zvj (h i hi)).1
  have h2:=zjv (f:=fun i=>(giv (rayN L i)).2) (B:=100000000) k fun i hi=>(zvj (h i hi)).2
  unfold reT imT
  omega
def prC (o:List RayD×Int×Unit):CD:=if o.2.1=0 then cpxI (reT o.1 o.1.length) (imT o.1 o.1.length) else (0,0)
@[reducible] def zq8:Spec:={pats:=[.dat ArrT,.dat zbA],res:=[{t:=C128},{t:=I64}],pre:=fun x=>pLen (List.length (α:=SpkD) x.1.2.2.1),f:=fun x=>(prC (zcr x.1.1 x.1.2.1 x.1.2.2.1 x.2.1),zcG x.1.1 x.1.2.1 x.1.2.2.1 x.2.1,())}
def zAf (l:List RayD):LoopAnn:={σ:=Nat,pat:=fun k=>[sI 24 k,cI 8 0 (reT l k),cI 8 1 (imT l k)],inv:=fun k=>k≤l.length,meas:=fun k=>l.length - k}
theorem h34:Ok 34 zq8:=by
  refine mkX (X:=xF4) (hX:=zot) (ctr:=[(93,zvS),(98,zq5)]) ⟨h93,h98,trivial⟩ (nt:=59) Tryz.func34 rfl rfl rfl rfl (by kernel_rfl) (by kernel_rfl) (fun x=>[fun _=>zAf (zcr x.1.1 x.1.2.1 x.1.2.2.1 x.2.1).1]) ?_
  rintro⟨⟨(r:Int),(v:Int),(xs:List SpkD),⟨⟩⟩,⟨(pa:Int),(pb:Int),(pc:Int),⟨⟩⟩,⟨⟩⟩ (hp:pLen xs.length)
  obtain⟨L,e,he,hl,hg,hz⟩:=ziD r v xs (pa,pb,pc,())
  have hb:=fun (k:Nat) (hk:k≤L.length)=>zvb (L:=L) (k:=k) (fun i hi=>hg i (by omega)) (by omega)
  repeat' (intro hzz;(try (rename Two=>hq;cases hq));(try dsimp only at hzz);(try simp only[zad,zac,eqD,inR,big,zab,zB] at hzz);(try simp only[zad,zac,eqD,inR,big,zab,zB,he,pLen,Int.toNat_natCast] at hzz);(try (revert hzz;intro _)))
  all_goals try (rename Unit=>hq;clear hq)
  all_goals try ((with_reducible refine Held.mk ?_);(with_reducible (first|refine Frz.mk ?_|refine And.intro (Frz.mk ?_) ?_|refine And.intro ?_ (Frz.mk ?_)));repeat' first|exact True.intro|(change _=_;with_reducible rfl)|refine And.intro ?_ ?_|(with_reducible refine Frz.mk ?_))
  all_goals try (refine Held.mk ?_;(try dsimp only at *);(try simp only[zad,zac,eqD,inR,big,zab,zB] at *);(try simp only[zad,zac,eqD,inR,big,zab,zB,he,pLen,Int.toNat_natCast] at *))
  all_goals try omega
  all_goals try simp only[he,Int.toNat_natCast]
  · rename_i h
    refine⟨?_,hz⟩
    exact (if_neg h).symm
  · rename_i h
    refine zai.mk ?_
    refine Exists.intro (0:Nat) ?_
    refine And.intro (Leaf.mk ?_) ?_
    · repeat' first|exact True.intro|refine And.intro ?_ ?_
      all_goals try ((change _=_<;>try dsimp only)<;>try with_reducible rfl)
      all_goals try omega
      all_goals (first|rfl|exact e)
    exact Nat.zero_le _
  · rename_i k hk hlt
    have q:=hg k (by omega)
    have:=ziJ q.g q.s
    exact⟨Int.le_trans (by decide) this.1,Int.le_trans this.2 (by decide)⟩
  · rename_i k hk hlt
    have q:=hg k (by omega)
    have:=ziJ q.g q.s
    exact⟨⟨Int.add_nonneg q.n.1 q.d.1,Int.le_trans (Int.add_le_add q.n.2 q.d.2) (by decide)⟩,this.1,Int.le_trans this.2 (by decide)⟩
  · rename_i k hk hlt _
    have:=(hb (k+1) (by omega)).1
    exact⟨Int.le_trans (by decide) this.1,Int.le_trans this.2 (by decide)⟩
  · rename_i k hk hlt _ _
    have:=(hb (k+1) (by omega)).2
    exact⟨Int.le_trans (by decide) this.1,Int.le_trans this.2 (by decide)⟩
  · rename_i k hk hlt _ _ _
    refine zai.mk ?_
    refine Exists.intro (k+1) ?_
    refine And.intro (Leaf.mk ?_) ?_
    · repeat' first|exact True.intro|refine And.intro ?_ ?_
      all_goals try ((change _=_<;>try dsimp only)<;>try with_reducible rfl)
      all_goals try omega
      all_goals (first|rfl|exact e)
    exact⟨by show k+1≤L.length;omega,by show L.length - (k+1)<L.length - k;omega⟩
  · rename_i h k hk hlt
    refine⟨?_,h.symm.trans hz⟩
    have e2:k=L.length:=by omega
    subst e2
    exact (if_pos h).symm
def zjx:ArrD:=(34000,34000,([((0,0,0,()),1000,0,()),((0,0,100,()),500,400,())]:List SpkD),())
@[reducible] def zxQ:Spec:={pats:=[],res:=[{t:=ArrT}],pre:=fun _=>True,f:=fun _=>(zjx,())}
theorem h72:Ok 72 zxQ:=by
  refine mk (ctr:=[]) trivial (nt:=6) Tryz.func72 rfl rfl rfl rfl (by kernel_rfl) (by kernel_rfl) (fun _=>[]) ?_
  rintro⟨⟩ _
  repeat' (intro hzz;(try (rename Two=>hq;cases hq));(try dsimp only at hzz);(try simp only[zad,zac,eqD,inR,big,zab,zB] at hzz);(try (revert hzz;intro _)))
  all_goals try (rename Unit=>hq;clear hq)
  all_goals try ((with_reducible refine Held.mk ?_);(with_reducible (first|refine Frz.mk ?_|refine And.intro (Frz.mk ?_) ?_|refine And.intro ?_ (Frz.mk ?_)));repeat' first|exact True.intro|(change _=_;with_reducible rfl)|refine And.intro ?_ ?_|(with_reducible refine Frz.mk ?_))
  all_goals try (refine Held.mk ?_;(try dsimp only at *);(try simp only[zad,zac,eqD,inR,big,zab,zB] at *))
  all_goals exact⟨rfl,rfl,rfl⟩
end Go.Eng.Ar
namespace Go.Eng.Ar
open Go.Eng Go.Proofs
set_option linter.all false
set_option maxRecDepth 100000
set_option maxHeartbeats 8000000
abbrev sOwn (t k el:Nat) (xs:List Int):St:=[.slot t (.one (.o k xs.length)),.row k el I64 xs]
abbrev zra (t k el:Nat) (xs:List (List Int)):St:=[.slot t (.one (.o k xs.length)),.row k el (.sl I64) xs]
abbrev MatT:Ty:=.sl (.sl I64)
abbrev zyI (n at':Int):Prop:=0≤n∧n≤1000∧0≤at'∧at'<n
def zbM (n at' v:Int):List Int:=(repl n (0:Int)).set at'.toNat v
@[reducible] def zvO:Spec:={pats:=[.dat I64,.dat I64,.dat I64],res:=[{own:=some 3,t:=.sl I64}],pre:=fun x=>zyI x.1 x.2.1,f:=fun x=>(zbM x.1 x.2.1 x.2.2.1,())}
theorem h162:Ok 162 zvO:=by
  refine mk (ctr:=[]) trivial (nt:=15) Tryz.func162 rfl rfl rfl rfl (by kernel_rfl) (by kernel_rfl) (fun _=>[]) ?_
  rintro⟨(n:Int),(k:Int),(v:Int),_⟩ ⟨h1,h2,h3,h4⟩
  have e:((repl n (0:Int)).length:Int)=n:=by rw[zcT];omega
  repeat' (intro hzz;(try (rename Two=>hq;cases hq));(try dsimp only at hzz);(try simp only[zad,zac,eqD,inR,big,zab,zB] at hzz);(try (revert hzz;intro _)))
  all_goals try (rename Unit=>hq;clear hq)
  all_goals try ((with_reducible refine Held.mk ?_);(with_reducible (first|refine Frz.mk ?_|refine And.intro (Frz.mk ?_) ?_|refine And.intro ?_ (Frz.mk ?_)));repeat' first|exact True.intro|(change _=_;with_reducible rfl)|refine And.intro ?_ ?_|(with_reducible refine Frz.mk ?_))
  all_goals try (refine Held.mk ?_;(try dsimp only at *);(try simp only[zad,zac,eqD,inR,big,zab,zB] at *))
  all_goals first|(exact⟨h1,Int.le_trans h2 (by decide)⟩)|(rw[e];exact⟨h3,h4⟩)|(exact⟨by rw[List.length_set],rfl⟩)|trace_state
theorem zsv {xs:List Int} {k:Nat} (h:vI xs k≠0):(gf xs (k+1):Int)≠0:=by
  simp only[gf]
  intro e
  have e:Nat.gcd (gf xs k) (vI xs k).natAbs=0:=by omega
  exact h (Int.natAbs_eq_zero.1 (Nat.gcd_eq_zero_iff.1 e).2)
theorem zlS {n b:Int} (h1:n.natAbs≤9000000000000000000) : -9223372036854775808≤n.tdiv b∧n.tdiv b≤9223372036854775807:=by
  have h3:=Int.natAbs_tdiv_le_natAbs n b
  omega
def gcd2 (a b:Int):Int:=((Nat.gcd a.natAbs b.natAbs:Nat):Int)
abbrev pLow (a b:Int):Prop:=a.natAbs≤9000000000000000000∧b.natAbs≤9000000000000000000∧b≠0
@[reducible] def sLow:Spec:={pats:=[.dat I64,.dat I64],res:=[{t:=zaD}],pre:=fun x=>pLow x.1 x.2.1,f:=fun x=>((Int.tdiv x.1 (gcd2 x.1 x.2.1),Int.tdiv x.2.1 (gcd2 x.1 x.2.1),()),())}
theorem h107:Ok 107 sLow:=by
  refine mk (ctr:=[(148,sDiv)]) ⟨h148,trivial⟩ (nt:=17) Tryz.func107 rfl rfl rfl rfl (by kernel_rfl) (by kernel_rfl) (fun _=>[]) ?_
  rintro⟨(a:Int),(b:Int),_⟩ ⟨h1,h2,h3⟩
  have e:(gf [a,b] [a,b].length:Int)=gcd2 a b:=by
    show ((Nat.gcd (Nat.gcd 0 a.natAbs) b.natAbs:Nat):Int)=_
    rw[Nat.gcd_zero_left];rfl
  have e2:gcd2 a b≠0:=by rw[←e];exact zsv (xs:=[a,b]) (k:=1) h3
  have hd:pDiv [a,b]:=⟨by show ((2:Nat):Int)≤4611686018427387904;decide,fun i hi=>by
    have:i=0∨i=1:=by simp at hi;omega
    rcases this with rfl|rfl
    · exact h1
    · exact h2⟩
  repeat' (intro hzz;(try (rename Two=>hq;cases hq));(try dsimp only at hzz);(try simp only[zad,zac,eqD,inR,big,zab,zB] at hzz);(try simp only[zad,zac,eqD,inR,big,zab,zB,e] at hzz);(try (revert hzz;intro _)))
  all_goals try (rename Unit=>hq;clear hq)
  all_goals try ((with_reducible refine Held.mk ?_);(with_reducible (first|refine Frz.mk ?_|refine And.intro (Frz.mk ?_) ?_|refine And.intro ?_ (Frz.mk ?_)));repeat' first|exact True.intro|(change _=_;with_reducible rfl)|refine And.intro ?_ ?_|(with_reducible refine Frz.mk ?_))
  all_goals try (refine Held.mk ?_;(try dsimp only at *);(try simp only[zad,zac,eqD,inR,big,zab,zB] at *);(try simp only[zad,zac,eqD,inR,big,zab,zB,e] at *))
  all_goals first|exact hd|exact⟨e2,zlS h1⟩|exact⟨e2,zlS h2⟩|exact⟨rfl,rfl⟩|trace_state
def redG (l:List Int) (d:Int):Int:=(gf (l++[d]) (l++[d]).length:Int)
def redL (l:List Int) (d:Int):List Int×Int:=(tab (fun i=>Int.tdiv (vI l i) (redG l d)) l.length,Int.tdiv d (redG l d))
abbrev pRed (l:List Int) (d:Int):Prop:=l.length≤1000∧(∀i,i<l.length→(vI l i).natAbs≤9000000000000000000)∧d.natAbs≤9000000000000000000∧d≠0
@[reducible] def sRed:Spec:={pats:=[.dat (.sl I64),.dat I64],res:=[{own:=some 3,t:=.sl I64},{t:=I64}],pre:=fun x=>pRed x.1 x.2.1,f:=fun x=>((redL x.1 x.2.1).1,(redL x.1 x.2.1).2,())}
def zyt (l:List Int) (d:Int):LoopAnn:={σ:=Nat,pat:=fun k=>sI 18 k::sOwn 7 60007 3 (tab (fun i=>Int.tdiv (vI l i) (redG l d)) k),inv:=fun k=>k≤l.length,meas:=fun k=>l.length - k}
end Go.Eng.Ar
namespace Go.Eng.Ar
open Go.Eng Go.Proofs
set_option linter.all false
set_option maxRecDepth 100000
set_option maxHeartbeats 8000000
def zjD (p:Int→Bool):List Int→Nat→Int
  | [],_=>-1
  | x::r,i=>if p x=true then i else zjD p r (i+1)
theorem zkj {p:Int→Bool} {xs:List Int} {i:Nat} (h:i<xs.length):zjD p (xs.drop i) i=if p (xs.getD i 0)=true then (i:Int) else zjD p (xs.drop (i+1)) (i+1):=by
  rw[zls h];rfl
theorem zmT (p:Int→Bool):∀(xs:List Int) (i:Nat),decide (zjD p xs i≥0)=xs.any p
  | [],i=>by simp[zjD]
  | x :: r,i=>by
    simp only[zjD,List.any_cons]
    by_cases h:p x=true
    · have h2:(if p x=true then (i:Int) else zjD p r (i+1))=i:=if_pos h
      simp only[h,if_true,Bool.true_or,decide_eq_true_eq]
      omega
    · have h':p x=false:=by simpa using h
      simp only[h',Bool.false_eq_true,if_false,Bool.false_or]
      exact zmT p r (i+1)
abbrev clM:Ty:=.clo 147 (.cons (.ptr I64) .nil)
abbrev outM (m n:Int):Bool:=!zal n 0 m
@[reducible] def zxV:Spec:={pats:=[.dat I64,.dat (.ptr I64)],res:=[{t:=.bool}],pre:=fun _=>True,f:=fun x=>(outM x.2.1 x.1,())}
theorem h147:Ok 147 zxV:=by
  refine mk (ctr:=[(88,zbi)]) ⟨h88,trivial⟩ (nt:=8) Tryz.func147 rfl rfl rfl rfl (by kernel_rfl) (by kernel_rfl) (fun _=>[]) ?_
  rintro⟨(n:Int),(m:Int),_⟩ _
  repeat' (intro hzz;(try (rename Two=>hq;cases hq));(try dsimp only at hzz);(try simp only[zad,zac,eqD,inR,big,zab,zB] at hzz);(try (revert hzz;intro _)))
  all_goals try (rename Unit=>hq;clear hq)
  all_goals try ((with_reducible refine Held.mk ?_);(with_reducible (first|refine Frz.mk ?_|refine And.intro (Frz.mk ?_) ?_|refine And.intro ?_ (Frz.mk ?_)));repeat' first|exact True.intro|(change _=_;with_reducible rfl)|refine And.intro ?_ ?_|(with_reducible refine Frz.mk ?_))
  all_goals try (refine Held.mk ?_;(try dsimp only at *);(try simp only[zad,zac,eqD,inR,big,zab,zB] at *))
@[reducible] def zxY:Spec:={pats:=[.dat (.sl I64),.dat clM],res:=[{t:=I64}],pre:=fun x=>pLen (List.length (α:=Int) x.1),f:=fun x=>(zjD (outM x.2.1.1) x.1 0,())}
theorem h165:Ok 165 zxY:=by
  refine mk (ctr:=[(147,zxV)]) ⟨h147,trivial⟩ (nt:=19) Tryz.func165 rfl rfl rfl rfl (by kernel_rfl) (by kernel_rfl) (fun x=>[fun _=>{σ:=Nat,pat:=fun i=>[sI 8 i],inv:=fun i=>i≤List.length (α:=Int) x.1∧zjD (outM x.2.1.1) (List.drop (α:=Int) i x.1) i=zjD (outM x.2.1.1) x.1 0,meas:=fun i=>List.length (α:=Int) x.1 - i}]) ?_
  rintro⟨(xs:List Int),⟨(m:Int),_⟩,_⟩ (hp:pLen xs.length)
  have:=hp.out
  repeat' (intro hzz;(try (rename Two=>hq;cases hq));(try dsimp only at hzz);(try simp only[zad,zac,eqD,inR,big,zab,zB] at hzz);(try simp only[zad,zac,eqD,inR,big,zab,zB,zaz] at hzz);(try (first|contradiction|(exfalso;omega)));(try (revert hzz;intro _)))
  all_goals try (rename Unit=>hq;clear hq)
  all_goals try ((with_reducible refine Held.mk ?_);(with_reducible (first|refine Frz.mk ?_|refine And.intro (Frz.mk ?_) ?_|refine And.intro ?_ (Frz.mk ?_)));repeat' first|exact True.intro|(change _=_;with_reducible rfl)|refine And.intro ?_ ?_|(with_reducible refine Frz.mk ?_))
  all_goals try (refine Held.mk ?_;(try dsimp only at *);(try simp only[zad,zac,eqD,inR,big,zab,zB] at *);(try simp only[zad,zac,eqD,inR,big,zab,zB,zaz] at *))
  all_goals try omega
  ·
    refine zai.mk ?_
    refine Exists.intro 0 ?_
    refine And.intro (Leaf.mk ?_) ?_
    · repeat' first|exact True.intro|refine And.intro ?_ ?_
      all_goals try ((change _=_<;>try dsimp only)<;>try with_reducible rfl)
      all_goals try omega
    exact⟨Nat.zero_le _,rfl⟩
  · rename_i i hi hg h
    have h1:=zkj (p:=outM m) (xs:=xs) (i:=i) (by omega)
    have h2:outM m (xs.getD i 0)=true:=by
      have h':zal (xs.getD i 0) 0 m=false:=decide_eq_false h
      simp only[outM,h',Bool.not_false]
    rw[if_pos h2] at h1
    exact h1.symm.trans hi.2
  · rename_i i hi hg h
    have h1:=zkj (p:=outM m) (xs:=xs) (i:=i) (by omega)
    have h2:¬outM m (xs.getD i 0)=true:=by
      have h':zal (xs.getD i 0) 0 m=true:=decide_eq_true h
      simp only[outM,h',Bool.not_true];decide
    rw[if_neg h2] at h1
    refine zai.mk ?_
    refine Exists.intro (i+1) ?_
    refine And.intro (Leaf.mk ?_) ?_
    · repeat' first|exact True.intro|refine And.intro ?_ ?_
      all_goals try ((change _=_<;>try dsimp only)<;>try with_reducible rfl)
      all_goals try omega
    exact⟨⟨by show i+1≤xs.length;omega,h1.symm.trans hi.2⟩,by show xs.length - (i+1)<xs.length - i;omega⟩
  · rename_i i hi hg
    have h1:=hi.2
    rw[List.drop_eq_nil_of_le (by omega)] at h1
    exact h1
@[reducible] def zu8:Spec:={pats:=[.dat (.sl I64),.dat clM],res:=[{t:=.bool}],pre:=fun x=>pLen (List.length (α:=Int) x.1),f:=fun x=>(List.any (α:=Int) x.1 (outM x.2.1.1),())}
theorem h146:Ok 146 zu8:=by
  refine mk (ctr:=[(165,zxY)]) ⟨h165,trivial⟩ (nt:=9) Tryz.func146 rfl rfl rfl rfl (by kernel_rfl) (by kernel_rfl) (fun _=>[]) ?_
  rintro⟨(xs:List Int),⟨(m:Int),_⟩,_⟩ (hp:pLen xs.length)
  repeat' (intro hzz;(try (rename Two=>hq;cases hq));(try dsimp only at hzz);(try simp only[zad,zac,eqD,inR,big,zab,zB] at hzz);(try (revert hzz;intro _)))
  all_goals try (rename Unit=>hq;clear hq)
  all_goals try ((with_reducible refine Held.mk ?_);(with_reducible (first|refine Frz.mk ?_|refine And.intro (Frz.mk ?_) ?_|refine And.intro ?_ (Frz.mk ?_)));repeat' first|exact True.intro|(change _=_;with_reducible rfl)|refine And.intro ?_ ?_|(with_reducible refine Frz.mk ?_))
  all_goals try (refine Held.mk ?_;(try dsimp only at *);(try simp only[zad,zac,eqD,inR,big,zab,zB] at *))
  · exact hp
  · exact zmT _ _ _
def allE (l:List Int) (m:Int):Int:=if l.any (outM m)=true then 2 else 0
@[reducible] def xCM:Xt:={clos:=[(147,[I64])]}
theorem zxo:Its xCM.its:=True.intro
@[reducible] def zrh:Spec:={pats:=[.dat (.sl I64),.dat I64],res:=[{t:=I64}],pre:=fun x=>pLen (List.length (α:=Int) x.1),f:=fun x=>(allE x.1 x.2.1,())}
theorem h104:Ok 104 zrh:=by
  refine mkX (X:=xCM) (hX:=zxo) (ctr:=[(146,zu8),(85,zb7)]) ⟨h146,h85,trivial⟩ (nt:=10) Tryz.func104 rfl rfl rfl rfl (by kernel_rfl) (by kernel_rfl) (fun _=>[]) ?_
  rintro⟨(xs:List Int),(m:Int),_⟩ (hp:pLen xs.length)
  repeat' (intro hzz;(try (rename Two=>hq;cases hq));(try dsimp only at hzz);(try simp only[zad,zac,eqD,inR,big,zab,zB] at hzz);(try (revert hzz;intro _)))
  all_goals try (rename Unit=>hq;clear hq)
  all_goals try ((with_reducible refine Held.mk ?_);(with_reducible (first|refine Frz.mk ?_|refine And.intro (Frz.mk ?_) ?_|refine And.intro ?_ (Frz.mk ?_)));repeat' first|exact True.intro|(change _=_;with_reducible rfl)|refine And.intro ?_ ?_|(with_reducible refine Frz.mk ?_))
  all_goals try (refine Held.mk ?_;(try dsimp only at *);(try simp only[zad,zac,eqD,inR,big,zab,zB] at *))
  · exact hp
  · unfold allE
    cases xs.any (outM m)<;>rfl
theorem zep {l:List Int} {m:Int} (h:allE l m=0):∀i,i<l.length→0≤vI l i∧vI l i≤m:=by
  unfold allE at h
  split at h
  · cases h
  · rename_i hn
    intro i hi
    have h1:l.any (outM m)=false:=by simpa using hn
    have h2:=List.any_eq_false.1 h1 (vI l i) (by
      have:vI l i=l[i]:=by simp[vI,List.getD,List.getElem?_eq_getElem hi]
      rw[this];exact List.getElem_mem hi)
    simp only[outM,Bool.not_eq_true',Bool.not_eq_false] at h2
    exact of_decide_eq_true (by simpa using h2)
abbrev ncol (t:List (List Int)):Nat:=(t.getD 0 []).length
abbrev rowN (m:List (List Int)) (i:Nat):List Int:=m.getD i []
def zcl (n0:Nat):List (List Int)→Int
  | []=>0
  | r::t=>if r.length=n0 then (if allE r 100=0 then zcl n0 t else allE r 100) else 10
def chkT (t:List (List Int)) (cap:Int):Int:=
  if t.length=0 then 10 else if 4<t.length then 8 else if ncol t=0 then 10 else if 3<ncol t then 8 else if zcl (ncol t) t=0 then (if 0≤cap∧cap≤1000 then 0 else 2) else zcl (ncol t) t
theorem zsO {xs:List (List Int)} {i:Nat} (h:i<xs.length):xs.drop i=xs.getD i []::xs.drop (i+1):=by
  rw[List.drop_eq_getElem_cons h]
  simp[List.getD,List.getElem?_eq_getElem h]
theorem zdS {n0:Nat} {t:List (List Int)} {i:Nat} (h:i<t.length):zcl n0 (t.drop i)=if (t.getD i []).length=n0 then (if allE (t.getD i []) 100=0 then zcl n0 (t.drop (i+1)) else allE (t.getD i []) 100) else 10:=by
  rw[zsO h];rfl
theorem za7 (xs:List (List Int)) (i:Nat):List.getD xs ((i:Int)).toNat (Ty.dflt (.sl I64))=xs.getD i []:=rfl
theorem zbB (xs:List (List Int)):List.getD xs (Int.toNat 0) (Ty.dflt (.sl I64))=xs.getD 0 []:=rfl
@[reducible] def zkO:Spec:={pats:=[.dat zeq],res:=[{t:=I64}],pre:=fun _=>True,f:=fun x=>(chkT x.1.1 x.1.2.1,())}
def zw4 (t:List (List Int)):LoopAnn:={σ:=Nat,pat:=fun k=>[sI 33 k],inv:=fun k=>k≤t.length∧zcl (ncol t) (t.drop k)=zcl (ncol t) t,meas:=fun k=>t.length - k}
theorem h65:Ok 65 zkO:=by
  refine mk (ctr:=[(88,zbi),(85,zb7),(104,zrh)]) ⟨h88,h85,h104,trivial⟩ (nt:=55) Tryz.func65 rfl rfl rfl rfl (by kernel_rfl) (by kernel_rfl) (fun x=>[fun _=>zw4 x.1.1]) ?_
  rintro⟨⟨(t:List (List Int)),(cap:Int),_⟩,_⟩ _
  repeat' (intro hzz;(try (rename Two=>hq;cases hq));(try dsimp only at hzz);(try simp only[zad,zac,eqD,inR,big,zab,zB] at hzz);(try simp only[zad,zac,eqD,inR,big,zab,zB,za7,zbB,zal] at hzz);(try (revert hzz;intro _)))
  all_goals try (rename Unit=>hq;clear hq)
  all_goals try ((with_reducible refine Held.mk ?_);(with_reducible (first|refine Frz.mk ?_|refine And.intro (Frz.mk ?_) ?_|refine And.intro ?_ (Frz.mk ?_)));repeat' first|exact True.intro|(change _=_;with_reducible rfl)|refine And.intro ?_ ?_|(with_reducible refine Frz.mk ?_))
  all_goals try (refine Held.mk ?_;(try dsimp only at *);(try simp only[zad,zac,eqD,inR,big,zab,zB] at *);(try simp only[zad,zac,eqD,inR,big,zab,zB,za7,zbB,zal] at *))
  · rename_i h
    unfold chkT;rw[if_pos (by omega)]
  · rename_i h1 h
    unfold chkT;rw[if_neg (by omega),if_pos (by omega)]
  · omega
  · rename_i h1 h2 h
    unfold chkT;rw[if_neg (by omega),if_neg (by omega),if_pos (show (t.getD 0 []).length=0 by omega)]
  · omega
  · rename_i h1 h2 h3 h
    unfold chkT;rw[if_neg (by omega),if_neg (by omega),if_neg (show ¬(t.getD 0 []).length=0 by omega),if_pos (show 3<(t.getD 0 []).length by omega)]
  · rename_i h1 h2 h3 h
    refine zai.mk ?_
    refine Exists.intro (0:Nat) ?_
    refine And.intro (Leaf.mk ?_) ?_
    · repeat' first|exact True.intro|refine And.intro ?_ ?_
      all_goals try ((change _=_<;>try dsimp only)<;>try with_reducible rfl)
      all_goals try omega
      all_goals (rfl)
    exact⟨Nat.zero_le _,rfl⟩
  · rename_i h1 h2 h3 h4 k hk h;omega
  · omega
  · rename_i h1 h2 h3 h4 k hk hg h
    have e:=zdS (n0:=ncol t) (show k<t.length by omega)
    rw[if_neg (show ¬(t.getD k []).length=(t.getD 0 []).length by omega),hk.2] at e
    unfold chkT;rw[if_neg (by omega),if_neg (by omega),if_neg (show ¬(t.getD 0 []).length=0 by omega),if_neg (show ¬3<(t.getD 0 []).length by omega),e,if_neg (by decide)]
  · rename_i h1 h2 h3 h4 k hk hg h
    show ((t.getD k []).length:Int)≤4611686018427387904
    omega
  · rename_i h1 h2 h3 h4 k hk hg h5 h
    have e:=zdS (n0:=ncol t) (show k<t.length by omega)
    rw[if_pos (show (t.getD k []).length=(t.getD 0 []).length by omega),if_neg h,hk.2] at e
    unfold chkT;rw[if_neg (by omega),if_neg (by omega),if_neg (show ¬(t.getD 0 []).length=0 by omega),if_neg (show ¬3<(t.getD 0 []).length by omega),e,if_neg h]
  · omega
  · rename_i h1 h2 h3 h4 k hk hg h5 h
    have e:=zdS (n0:=ncol t) (show k<t.length by omega)
    rw[if_pos (show (t.getD k []).length=(t.getD 0 []).length by omega),if_pos h,hk.2] at e
    refine zai.mk ?_
    refine Exists.intro (k+1) ?_
    refine And.intro (Leaf.mk ?_) ?_
    · repeat' first|exact True.intro|refine And.intro ?_ ?_
      all_goals try ((change _=_<;>try dsimp only)<;>try with_reducible rfl)
      all_goals try omega
      all_goals (rfl)
    exact⟨⟨by show k+1≤t.length;omega,e.symm⟩,by show t.length - (k+1)<t.length - k;omega⟩
  · rename_i h1 h2 h3 h4 k hk h
    have e:=hk.2
    rw[List.drop_eq_nil_of_le (by omega)] at e
    have e:(0:Int)=zcl (ncol t) t:=e
    unfold chkT;rw[if_neg (by omega),if_neg (by omega),if_neg (show ¬(t.getD 0 []).length=0 by omega),if_neg (show ¬3<(t.getD 0 []).length by omega),←e,if_pos rfl]
    by_cases hc:0≤cap∧cap≤1000
    · rw[if_pos hc,decide_eq_true hc];rfl
    · rw[if_neg hc,decide_eq_false hc];rfl
structure goodT (t:List (List Int)) (cap:Int):Prop where
  pos:0<t.length
  le:t.length≤4
  cpos:0<ncol t
  cle:ncol t≤3
  rows:∀i,i<t.length→(rowN t i).length=ncol t
  vals:∀i j,i<t.length→j<ncol t→0≤vI (rowN t i) j∧vI (rowN t i) j≤100
  cap0:0≤cap∧cap≤1000
theorem zg7 {n0:Nat}:∀ {t:List (List Int)},zcl n0 t=0→∀r∈t,r.length=n0∧allE r 100=0
  | [],_,r,hr=>by cases hr
  | q :: t,h,r,hr=>by
    simp only[zcl] at h
    split at h
    · split at h
      · rcases List.mem_cons.1 hr with rfl|hr
        · exact⟨by assumption,by assumption⟩
        · exact zg7 h r hr
      · rename_i h1 h2;exact absurd h h2
    · cases h
theorem zu9 {t:List (List Int)} {i:Nat} (h:i<t.length):rowN t i∈t:=by
  have e:rowN t i=t[i]:=by simp[rowN,List.getD,List.getElem?_eq_getElem h]
  rw[e];exact List.getElem_mem h
theorem zcC {t:List (List Int)} {cap:Int} (h:chkT t cap=0):goodT t cap:=by
  unfold chkT at h
  split at h
  · cases h
  split at h
  · cases h
  split at h
  · cases h
  split at h
  · cases h
  split at h
  · rename_i h1 h2 h3 h4 h5
    split at h
    · rename_i h6
      exact ⟨by omega,by omega,by omega,by omega,fun i hi=>(zg7 h5 _ (zu9 hi)).1,fun i j hi hj=>by
        have:=zg7 h5 _ (zu9 hi)
        exact zep this.2 j (by rw[this.1];exact hj),h6⟩
    · cases h
  · rename_i h5;exact absurd h h5
end Go.Eng.Ar
namespace Go.Eng.Ar
open Go.Eng Go.Proofs
set_option linter.all false
set_option maxRecDepth 100000
set_option maxHeartbeats 8000000
def zbd (c:Int):Nat→List Int→List Int
  | _,[]=>[]
  | k,n::r=>if (k:Int)=c then zbd c (k+1) r else n::zbd c (k+1) r
def zaR (rw' c:Int):Nat→List (List Int)→List (List Int)
  | _,[]=>[]
  | i,r::t=>if (i:Int)=rw' then zaR rw' c (i+1) t else zbd c 0 r::zaR rw' c (i+1) t
def sumD (f:List (List Int)→Int) (rows:List (List Int)):Int→Nat→List Int→Int
  | _,_,[]=>0
  | sign,k,x::r=>sign*x*f (zaR 0 k 0 rows)+sumD f rows (-sign) (k+1) r
def detN:Nat→List (List Int)→Int
  | 0,_=>1
  | n+1,rows=>sumD (detN n) rows 1 0 (rows.getD 0 [])
def zdH (N:Nat) (rows:List (List Int)):Prop:=rows.length=N∧∀r∈rows,r.length=N∧∀x∈r,-2000≤x∧x≤2000
def detB:Nat→Int
  | 0=>1
  | n+1=>(n+1)*(2000*detB n)
theorem zdy (c:Int):∀(t:List (List Int)) (i:Nat),zaR 0 c (i+1) t=t.map (zbd c 0)
  | [],_=>rfl
  | r::t,i=>by
    have h:¬((i+1:Nat):Int)=0:=by omega
    simp only[zaR,if_neg h,List.map_cons,zdy c t (i+1)]
theorem zfS (c:Nat):∀(row:List Int) (k:Nat),(zbd c k row).length=if k≤c∧c<k+row.length then row.length - 1 else row.length
  | [],k=>by simp[zbd]
  | n :: r,k=>by
    have ih:=zfS c r (k+1)
    simp only[zbd,List.length_cons]
    by_cases h:(k:Int)=c
    · rw[if_pos h,ih,if_neg (by omega),if_pos (by omega)]
      rfl
    · rw [if_neg h,List.length_cons,ih]
      by_cases h2:k+1≤c∧c<k+1+r.length
      · rw[if_pos h2,if_pos (by omega)]
        omega
      · rw[if_neg h2,if_neg (by omega)]
theorem zeh (c:Int):∀(row:List Int) (k:Nat) (x:Int),x∈zbd c k row→x∈row
  | [],_,_,h=>by simp[zbd] at h
  | n :: r,k,x,h=>by
    simp only[zbd] at h
    split at h
    · exact List.mem_cons_of_mem _ (zeh c r _ x h)
    · rcases List.mem_cons.1 h with rfl|h
      · exact List.mem_cons_self
      · exact List.mem_cons_of_mem _ (zeh c r _ x h)
theorem znv {N k:Nat} {rows:List (List Int)} (h:zdH (N+1) rows) (hk:k<N+1):zdH N (zaR 0 k 0 rows):=by
  obtain⟨h1,h2⟩:=h
  cases rows with
  | nil=>simp at h1
  | cons r t=>
    have e:zaR 0 k 0 (r::t)=t.map (zbd k 0):=by
      simp only[zaR,Int.natCast_zero,if_true]
      exact zdy k t 0
    rw[e]
    refine⟨by simp at h1 ⊢;omega,fun q hq=>?_⟩
    obtain⟨p,hp,rfl⟩:=List.mem_map.1 hq
    obtain⟨h3,h4⟩:=h2 p (List.mem_cons_of_mem _ hp)
    exact⟨by rw[zfS,if_pos (by omega)];omega,fun x hx=>h4 x (zeh _ _ _ _ hx)⟩
theorem zmz {x d X B:Int} (h1 : -X≤x) (h2:x≤X) (h3 : -B≤d) (h4:d≤B) : -(X*B)≤x*d∧x*d≤X*B:=by
  have e:(x*d).natAbs=x.natAbs*d.natAbs:=Int.natAbs_mul x d
  have hX:(X.toNat:Int)=X:=Int.toNat_of_nonneg (by omega)
  have hB:(B.toNat:Int)=B:=Int.toNat_of_nonneg (by omega)
  have h5:x.natAbs*d.natAbs≤X.toNat*B.toNat:=Nat.mul_le_mul (by omega) (by omega)
  have h6:((X.toNat*B.toNat:Nat):Int)=X*B:=by rw[Int.natCast_mul,hX,hB]
  omega
theorem zqR {f:List (List Int)→Int} {rows:List (List Int)} {N:Nat} {B:Int} (hf:∀k:Nat,k<N→-B≤f (zaR 0 k 0 rows)∧f (zaR 0 k 0 rows)≤B) :
    ∀(l:List Int) (sign:Int) (k:Nat),(sign=1∨sign = -1)→k+l.length≤N→(∀x∈l,-2000≤x∧x≤2000)→-(l.length*(2000*B))≤sumD f rows sign k l∧sumD f rows sign k l≤l.length*(2000*B)
  | [],_,_,_,_,_=>by simp[sumD]
  | x :: r,sign,k,hs,hk,hx=>by
    simp only[List.length_cons] at hk
    have ih:=zqR hf r (-sign) (k+1) (by omega) (by omega) (fun y hy=>hx y (List.mem_cons_of_mem _ hy))
    have hx0:=hx x List.mem_cons_self
    have hf0:=hf k (by omega)
    have h1 : -2000≤sign*x∧sign*x≤2000:=by rcases hs with rfl|rfl<;>omega
    have h2:=zmz h1.1 h1.2 hf0.1 hf0.2
    simp only[sumD,List.length_cons]
    have e:(((r.length+1:Nat):Int)*(2000*B))=(r.length:Int)*(2000*B)+2000*B:=by
      rw[Int.natCast_add,Int.add_mul];simp
    rw[e]
    generalize (r.length:Int)*(2000*B)=z at *
    omega
theorem zog:∀(n:Nat) (rows:List (List Int)),zdH n rows→-(detB n)≤detN n rows∧detN n rows≤detB n
  | 0,rows,_=>by simp[detN,detB]
  | n + 1,rows,h=>by
    have hr:(rows.getD 0 []).length=n+1∧∀x∈rows.getD 0 [],-2000≤x∧x≤2000:=by
      cases rows with
      | nil=>have:=h.1;simp at this
      | cons r t=>exact h.2 r List.mem_cons_self
    have:=zqR (f:=detN n) (rows:=rows) (N:=n+1) (B:=detB n) (fun k hk=>zog n _ (znv h hk)) (rows.getD 0 []) 1 0 (.inl rfl) (by omega) hr.2
    rw[hr.1] at this
    simp only[detN,detB]
    push_cast at this
    exact this
@[reducible] def sDet (N:Nat):Spec:={pats:=[.dat MatT],res:=[{t:=I64}],pre:=fun x=>zdH N x.1,f:=fun x=>(detN N x.1,())}
@[reducible] def zu4:Spec:={pats:=[.dat MatT],res:=[{t:=I64}],pre:=fun x=>False,f:=fun x=>((0:Int),())}
theorem zmY:zdA Tryz.prog 200:=⟨Tryz.f200,Tryz.func200,by kernel_rfl,by kernel_rfl⟩
theorem zt6:Ok 200 zu4:=⟨fun w M x vs bs _ _ h=>h.elim,zmY⟩
theorem row0 {N:Nat} {rows:List (List Int)} (h:zdH (N+1) rows):(rows.getD 0 []).length=N+1∧∀k:Nat,k<N+1→-2000≤(rows.getD 0 []).getD k 0∧(rows.getD 0 []).getD k 0≤2000:=by
  cases rows with
  | nil=>have:=h.1;simp at this
  | cons r t=>
    obtain⟨h1,h2⟩:=h.2 r List.mem_cons_self
    refine⟨h1,fun k hk=>?_⟩
    have hk':k<r.length:=by omega
    have e:r.getD k 0=r[k]:=by simp[List.getD,List.getElem?_eq_getElem hk']
    change -2000≤r.getD k 0∧r.getD k 0≤2000
    rw[e]
    exact h2 _ (List.getElem_mem hk')
theorem zqQ {f:List (List Int)→Int} {rows:List (List Int)} {sign:Int} {row:List Int} {k:Nat} (h:k<row.length) :
    sumD f rows sign k (row.drop k)=sign*row.getD k 0*f (zaR 0 k 0 rows)+sumD f rows (-sign) (k+1) (row.drop (k+1)):=by
  rw[zls h];rfl
theorem zsS {n:Nat} (h:n≤4):detB n≤400000000000000∧0≤detB n:=by
  match n,h with
  | 0,_=>decide
  | 1,_=>decide
  | 2,_=>decide
  | 3,_=>decide
  | 4,_=>decide
abbrev zsR (N:Nat) (rows:List (List Int)) (k:Nat) (sum sign:Int):Prop:=k≤(rows.getD 0 []).length∧(sign=1∨sign = -1)∧sum+sumD (detN N) rows sign k ((rows.getD 0 []).drop k)=detN (N+1) rows∧-(k*(2000*detB N))≤sum∧sum≤k*(2000*detB N)
theorem zhZ {N:Nat} (hN:N<4) {rows:List (List Int)} (hp:zdH (N+1) rows) {k:Nat} {sum sign:Int} (hi:zsR N rows k sum sign) (hk:k<(rows.getD 0 []).length) :
    (-9223372036854775808≤sign*(rows.getD 0 []).getD k 0*detN N (zaR 0 k 0 rows)∧sign*(rows.getD 0 []).getD k 0*detN N (zaR 0 k 0 rows)≤9223372036854775807)∧
    (-9223372036854775808≤sum+sign*(rows.getD 0 []).getD k 0*detN N (zaR 0 k 0 rows)∧sum+sign*(rows.getD 0 []).getD k 0*detN N (zaR 0 k 0 rows)≤9223372036854775807)∧
    zsR N rows (k+1) (sum+sign*(rows.getD 0 []).getD k 0*detN N (zaR 0 k 0 rows)) (-sign):=by
  obtain⟨i1,i2,i3,i4,i5⟩:=hi
  have hr:=row0 hp
  have hx:=hr.2 k (by omega)
  have hd:=zog N _ (znv hp (k:=k) (by omega))
  have hB:=zsS (n:=N) (by omega)
  have h1 : -2000≤sign*(rows.getD 0 []).getD k 0∧sign*(rows.getD 0 []).getD k 0≤2000:=by rcases i2 with rfl|rfl<;>omega
  have h2:=zmz h1.1 h1.2 hd.1 hd.2
  have e:(((k+1:Nat):Int)*(2000*detB N))=(k:Int)*(2000*detB N)+2000*detB N:=by
    rw[Int.natCast_add,Int.add_mul];simp
  have h3:(k:Int)*(2000*detB N)≤4*(2000*detB N):=Int.mul_le_mul_of_nonneg_right (by omega) (by omega)
  rw[zqQ hk] at i3
  refine⟨by omega,by omega,by omega,by omega,by omega,?_,?_⟩
  · rw[e];omega
  · rw[e];omega
theorem zi9 (c:Int):∀(row:List Int) (j m:Nat),c=j+m→zbd c j row=row.take m++row.drop (m+1)
  | [],j,m,_=>by simp[zbd]
  | n :: r,j,0,h=>by
    simp only[zbd]
    rw[if_pos (by omega)]
    have none:∀(l:List Int) (i:Nat),c<i→zbd c i l=l:=by
      intro l
      induction l with
      | nil=>intro i _;rfl
      | cons x l ih=>intro i hi;simp only[zbd];rw[if_neg (by omega),ih (i+1) (by omega)]
    rw[none r (j+1) (by omega)]
    simp
  | n::r,j,m+1,h=>by
    simp only[zbd]
    rw[if_neg (by omega),zi9 c r (j+1) m (by omega)]
    simp
theorem zof {c:Int} {rows:List (List Int)} (h:0<rows.length):zaR 0 c 0 rows=(rows.drop 1).map (zbd c 0):=by
  cases rows with
  | nil=>simp at h
  | cons r t=>
    simp only[zaR,Int.natCast_zero,if_true]
    exact zdy c t 0
abbrev cutC (rows:List (List Int)) (k i:Nat):List Int:=((rows.drop 1).getD i []).take k++((rows.drop 1).getD i []).drop (k+1)
theorem zoB {α:Type} {f:Nat→α} {xs:List α} {k:Nat} (d:α) (hl:xs.length=k) (h:∀i,i<k→f i=xs.getD i d):tab f k=xs:=by
  refine List.ext_getElem (by rw[zam,hl]) fun i h1 h2=>?_
  have h3:=zaE f d k i (by rw[zam] at h1;exact h1)
  rw[h i (by omega)] at h3
  simpa [List.getD,List.getElem?_eq_getElem h1,List.getElem?_eq_getElem h2] using h3
theorem zeT (xs:List (List Int)) (i:Nat):List.getD xs i (Ty.dflt (.sl I64))=xs.getD i []:=rfl
theorem zeU (xs:List Int) (i:Nat):List.getD xs i (Ty.dflt I64)=xs.getD i 0:=rfl
theorem zmr:Int.toNat 1=1:=rfl
theorem zc3:Int.toNat 0=0:=rfl
theorem zlw {N k:Nat} {rows:List (List Int)} (hp:zdH (N+1) rows):tab (cutC rows k) N=zaR 0 k 0 rows:=by
  rw[zof (by rw[hp.1];omega)]
  refine zoB [] (by rw[List.length_map,List.length_drop,hp.1];rfl) fun i hi=>?_
  have hi':i<(rows.drop 1).length:=by rw[List.length_drop,hp.1];omega
  simp only[List.getD_eq_getElem?_getD,List.getElem?_map,List.getElem?_eq_getElem hi',Option.map_some,Option.getD_some,cutC]
  rw[zi9 (k:Int) _ 0 k (by omega)]
theorem zhT {N:Nat} {rows:List (List Int)} (hp:zdH (N+1) rows) {i:Nat} (h:i<N):((rows.drop 1).getD i []).length=N+1:=by
  have hi':i<(rows.drop 1).length:=by rw[List.length_drop,hp.1];omega
  simp only[List.getD_eq_getElem?_getD,List.getElem?_eq_getElem hi',Option.getD_some]
  exact (hp.2 _ (List.mem_of_mem_drop (List.getElem_mem hi'))).1
def zvr (N:Nat) (rows:List (List Int)):LoopAnn:=
  {σ:=Nat×Int×Int,pat:=fun s=>[sI 17 s.1,sI 3 s.2.1,sI 4 s.2.2],inv:=fun s=>zsR N rows s.1 s.2.1 s.2.2,meas:=fun s=>(rows.getD 0 []).length - s.1}
def zvq (N:Nat) (rows:List (List Int)) (st:St):LoopAnn:=zju 17 st fun k=>{σ:=Nat,pat:=fun i=>sI 27 i::zra 7 60007 76 (tab (cutC rows k.toNat) i),inv:=fun i=>i≤N,meas:=fun i=>N - i}
theorem ze7 (n:Nat):((n:Int)+1).toNat=n+1:=rfl
theorem zus:Ok 200 (sDet 0):=by
  refine mk (ctr:=[(145,zho),(200,zu4)]) ⟨h145,zt6,trivial⟩ (nt:=56) Tryz.func200 rfl rfl rfl rfl (by kernel_rfl) (by kernel_rfl) (fun x=>[fun _=>zvr 0 x.1,zvq 0 x.1]) ?_
  rintro⟨(rows:List (List Int)),_⟩ (hp:zdH 0 rows)
  have hl:rows.length=0:=hp.1
  repeat' (intro hzz;(try (rename Two=>hq;cases hq));(try dsimp only at hzz);(try simp only[zad,zac,eqD,inR,big,zab,zB] at hzz);(try simp only[zad,zac,eqD,inR,big,zab,zB,za7,zaz,zbB,Int.toNat_natCast,ze7] at hzz);(try (first|contradiction|(exfalso;omega)));(try (revert hzz;intro _)))
  all_goals try (rename Unit=>hq;clear hq)
  all_goals try ((with_reducible refine Held.mk ?_);(with_reducible (first|refine Frz.mk ?_|refine And.intro (Frz.mk ?_) ?_|refine And.intro ?_ (Frz.mk ?_)));repeat' first|exact True.intro|(change _=_;with_reducible rfl)|refine And.intro ?_ ?_|(with_reducible refine Frz.mk ?_))
  all_goals try (refine Held.mk ?_;(try dsimp only at *);(try simp only[zad,zac,eqD,inR,big,zab,zB] at *);(try simp only[zad,zac,eqD,inR,big,zab,zB,za7,zaz,zbB,Int.toNat_natCast,ze7] at *))
  all_goals try omega
  · rfl
theorem zut {N:Nat} (hN:N<4) (ih:Ok 200 (sDet N)):Ok 200 (sDet (N+1)):=by
  refine mk (ctr:=[(145,zho),(200,sDet N)]) ⟨h145,ih,trivial⟩ (nt:=56) Tryz.func200 rfl rfl rfl rfl (by kernel_rfl) (by kernel_rfl) (fun x=>[fun _=>zvr N x.1,zvq N x.1]) ?_
  rintro⟨(rows:List (List Int)),_⟩ (hp:zdH (N+1) rows)
  have hl:rows.length=N+1:=hp.1
  repeat' (intro hzz;(try (rename Two=>hq;cases hq));(try dsimp only at hzz);(try simp only[zad,zac,eqD,inR,big,zab,zB] at hzz);(try simp only[zad,zac,eqD,inR,big,zab,zB,za7,zaz,zbB,Int.toNat_natCast,ze7,zam,List.length_drop,zmr,zc3,zeT,zeU] at hzz);(try (revert hzz;intro _)))
  all_goals try (rename Unit=>hq;clear hq)
  all_goals try ((with_reducible refine Held.mk ?_);(with_reducible (first|refine Frz.mk ?_|refine And.intro (Frz.mk ?_) ?_|refine And.intro ?_ (Frz.mk ?_)));repeat' first|exact True.intro|(change _=_;with_reducible rfl)|refine And.intro ?_ ?_|(with_reducible refine Frz.mk ?_))
  all_goals try (refine Held.mk ?_;(try dsimp only at *);(try simp only[zad,zac,eqD,inR,big,zab,zB] at *);(try simp only[zad,zac,eqD,inR,big,zab,zB,za7,zaz,zbB,Int.toNat_natCast,ze7,zam,List.length_drop,zmr,zc3,zeT,zeU] at *))
  all_goals try omega
  all_goals try have hr:=row0 hp
  ·
    refine zai.mk ?_
    refine Exists.intro ((0,0,1):Nat×Int×Int) ?_
    refine And.intro (Leaf.mk ?_) ?_
    · repeat' first|exact True.intro|refine And.intro ?_ ?_
      all_goals try ((change _=_<;>try dsimp only)<;>try with_reducible rfl)
      all_goals try omega
    refine⟨Nat.zero_le _,.inl rfl,?_,by simp,by simp⟩
    simp[detN]
  · rename_i h0 s hi hg hx
    refine zai.mk ?_
    refine Exists.intro (0:Nat) ?_
    refine And.intro (Leaf.mk ?_) ?_
    · repeat' first|exact True.intro|refine And.intro ?_ ?_
      all_goals try ((change _=_<;>try dsimp only)<;>try with_reducible rfl)
      all_goals try omega
      all_goals (rfl)
    exact Nat.zero_le _
  · rename_i h0 s hi hg hx i hI hi2
    have:=zhT hp (i:=i) (by omega)
    change 0≤(s.1:Int)∧(s.1:Int)≤(((rows.drop 1).getD i []).length:Int)
    omega
  · rename_i h0 s hi hg hx i hI hi2
    have:=zhT hp (i:=i) (by omega)
    change (List.take s.1 ((rows.drop 1).getD i [])).length≤2000000000
    rw[List.length_take];omega
  · omega
  · rename_i h0 s hi hg hx i hI hi2
    have:=zhT hp (i:=i) (by omega)
    change 0≤(s.1:Int)+1∧(s.1:Int)+1≤(((rows.drop 1).getD i []).length:Int)
    omega
  · rename_i h0 s hi hg hx i hI hi2
    have:=zhT hp (i:=i) (by omega)
    change (List.take s.1 ((rows.drop 1).getD i [])).length+(List.drop (s.1+1) ((rows.drop 1).getD i [])).length≤2147483648
    rw[List.length_take,List.length_drop];omega
  · rename_i h0 s hi hg hx i hI hi2
    show i+1≤2147483648
    omega
  · rename_i h0 s hi hg hx i hI hi2
    refine zai.mk ?_
    refine Exists.intro (i+1) ?_
    refine And.intro (Leaf.mk ?_) ?_
    · repeat' first|exact True.intro|refine And.intro ?_ ?_
      all_goals try ((change _=_<;>try dsimp only)<;>try with_reducible rfl)
      all_goals try omega
      all_goals (rfl)
    exact⟨by show i+1≤N;omega,by show N - (i+1)<N - i;omega⟩
  · rename_i h0 s hi hg hx i hI hi2
    have hx:=hr.2 s.1 (by omega)
    have hs:s.2.2=1∨s.2.2 = -1:=hi.2.1
    change -9223372036854775808≤s.2.2*(rows.getD 0 []).getD s.1 0∧s.2.2*(rows.getD 0 []).getD s.1 0≤9223372036854775807
    rcases hs with hs|hs<;>rw[hs]<;>omega
  · rename_i h0 s hi hg hx i hI hi2
    have e:i=N:=by omega
    subst e
    rw[zlw hp]
    exact znv hp (by omega)
  · rename_i h0 s hi hg hx i hI hi2
    have e:i=N:=by omega
    subst e
    rw[zlw hp]
    exact (zhZ hN hp hi (by omega)).1
  · rename_i h0 s hi hg hx i hI hi2
    have e:i=N:=by omega
    subst e
    rw[zlw hp]
    exact (zhZ hN hp hi (by omega)).2.1
  · omega
  · rename_i h0 s hi hg hx i hI hi2
    have e:i=N:=by omega
    subst e
    have hd:=zhZ hN hp hi (by omega)
    rw[←zlw hp] at hd
    refine zai.mk ?_
    refine Exists.intro ((s.1+1,s.2.1+s.2.2*(rows.getD 0 []).getD s.1 0*detN i (tab (cutC rows s.1) i),-s.2.2):Nat×Int×Int) ?_
    refine And.intro (Leaf.mk ?_) ?_
    · repeat' first|exact True.intro|refine And.intro ?_ ?_
      all_goals try ((change _=_<;>try dsimp only)<;>try with_reducible rfl)
      all_goals try omega
      all_goals (rfl)
    refine⟨hd.2.2,?_⟩
    change (rows.getD 0 []).length - (s.1+1)<(rows.getD 0 []).length - s.1
    omega
  · omega
  · rename_i h0 s hi hg hx
    have hd:=zhZ hN hp hi (by omega)
    have hx0:(rows.getD 0 []).getD s.1 0=0:=hx
    rw[hx0,Int.mul_zero,Int.zero_mul,Int.add_zero] at hd
    refine zai.mk ?_
    refine Exists.intro ((s.1+1,s.2.1,-s.2.2):Nat×Int×Int) ?_
    refine And.intro (Leaf.mk ?_) ?_
    · repeat' first|exact True.intro|refine And.intro ?_ ?_
      all_goals try ((change _=_<;>try dsimp only)<;>try with_reducible rfl)
      all_goals try omega
      all_goals (rfl)
    refine⟨hd.2.2,?_⟩
    change (rows.getD 0 []).length - (s.1+1)<(rows.getD 0 []).length - s.1
    omega
  · rename_i h0 s hi hg
    obtain⟨i1,i2,i3,i4⟩:=hi
    rw[List.drop_eq_nil_of_le (by omega)] at i3
    simpa [sumD] using i3
theorem h200:∀N,N≤4→Ok 200 (sDet N)
  | 0,_=>zus
  | N+1,h=>zut (by omega) (h200 N (by omega))
abbrev zrC (m:List (List Int)):Prop:=∃N,N≤4∧zdH N m
def detA (m:List (List Int)):Int:=detN m.length m
@[reducible] def zkQ:Spec:={pats:=[.dat MatT],res:=[{t:=I64}],pre:=fun x=>zrC x.1,f:=fun x=>(detA x.1,())}
theorem hDet:Ok 200 zkQ:=⟨fun w M x vs bs hM hA ⟨N,hN,hs⟩=>by
  have h:=(h200 N hN).1 w M x vs bs hM hA hs
  have e:(sDet N).f x=zkQ.f x:=by
    simp only[sDet,zkQ,detA]
    rw[←hs.1]
  rw[e] at h
  exact h,zmY⟩
theorem zoh {m:List (List Int)} (h:zrC m) : -400000000000000≤detA m∧detA m≤400000000000000:=by
  obtain⟨N,hN,hs⟩:=h
  have h1:=zog N m hs
  have h2:=zsS hN
  unfold detA
  rw[hs.1];omega
end Go.Eng.Ar
namespace Go.Eng
set_option linter.all false
set_option maxRecDepth 100000
section
variable {P:Program} {Q:Exit→Act→World→Prop} {a:Act} {w:World} {K:Act→World→Prop}
theorem zaV {o:Oper} {v:Value} (hnd:∀d,o.op≠.defer d) (hr:(execOp a.eval o).run P w=.ok (.value v) w) (h:K (a.put o.dst v) w):o.wpIn (Fw none) 0 P a w K Q:=
  zau hnd hr h
theorem zk2 {o:Oper} {w':World} (hnd:∀d,o.op≠.defer d) (hr:(execOp a.eval o).run P w=.ok .skip w') (h:K (a.put o.dst undef) w'):o.wpIn (Fw none) 0 P a w K Q:=
  zau hnd hr h
theorem ztZ {o:Oper} {f:Nat} {args:Array Value} (hnd:∀d,o.op≠.defer d) (hr:(execOp a.eval o).run P w=.ok (.enter f args) w)
    (h:Calls P f args w fun e w'=>∃v,e=.returned v∧K (a.put o.dst v) w'):o.wpIn (Fw none) 0 P a w K Q:=
  zau hnd hr ⟨fun h=>(by cases h),zha (h.mono fun e w' ⟨v,h1,h2⟩=>by subst h1;exact h2)⟩
theorem ztY {o:Oper} {l f:Nat} {tmps:Array Value} {assign body:Code} (hnd:∀d,o.op≠.defer d) (hr:(execOp a.eval o).run P w=.ok (.round l f tmps assign body) w)
    (h:RoundIn (Fw none) 0 P l f tmps assign body w fun e w'=>∃v,e=.returned v∧K (a.put o.dst v) w'):o.wpIn (Fw none) 0 P a w K Q:=
  zau hnd hr ⟨fun h=>(by cases h),RoundIn.mono h (fun e w' ⟨v,h1,h2⟩=>by subst h1;exact h2)⟩
theorem zaW {ops:Array Oper} (h:Q .normal a w):wpListIn (Fw none) 0 P ops Q [] a w:=h
theorem zak {ops:Array Oper} {o:Oper} {rest:List Oper} (hg:o.guard=none) (h:o.wpIn (Fw none) 0 P a w (wpListIn (Fw none) 0 P ops Q rest) Q):wpListIn (Fw none) 0 P ops Q (o::rest) a w:=by
  have hw:Region.wanted o (yielded ops a.tmps)=true:=by simp[Region.wanted,hg]
  simp only[wpListIn,hw,if_true]
  exact h
theorem zdt {ops:Array Oper} {o:Oper} {rest:List Oper} {v:Value} (h:wpListIn (Fw none) 0 P ops Q (o::rest) a w) (hg:o.guard=none) (hs:o.semAt (Fw none).round a.eval=execOp a.eval o) (hr:(execOp a.eval o).run P w=.ok (.value v) w) :
    wpListIn (Fw none) 0 P ops Q rest (a.put o.dst v) w:=by
  have hw:Region.wanted o (yielded ops a.tmps)=true:=by simp[Region.wanted,hg]
  simp only[wpListIn,hw,if_true] at h
  unfold Oper.wpIn at h
  have h:=h.2
  rw[hs,hr] at h
  simpa only [Oper.uponIn] using h
theorem zgj {ops:Array Oper} {o:Oper} {rest:List Oper} {w':World} (h:wpListIn (Fw none) 0 P ops Q (o::rest) a w) (hg:o.guard=none) (hs:o.semAt (Fw none).round a.eval=execOp a.eval o) (hr:(execOp a.eval o).run P w=.ok .skip w') :
    wpListIn (Fw none) 0 P ops Q rest (a.put o.dst undef) w':=by
  have hw:Region.wanted o (yielded ops a.tmps)=true:=by simp[Region.wanted,hg]
  simp only[wpListIn,hw,if_true] at h
  unfold Oper.wpIn at h
  have h:=h.2
  rw[hs,hr] at h
  simpa only [Oper.uponIn] using h
end
theorem zyL {P:Program} {o:Oper} {a:Act} {w:World} {K:Act→World→Prop} {Q Q':Exit→Act→World→Prop} (h:∀c a w,Q (.panic c) a w=Q' (.panic c) a w) (h2:LetsOut Q=LetsOut Q'):o.wpIn (Fw none) 0 P a w K Q=o.wpIn (Fw none) 0 P a w K Q':=by
  have e:∀r,o.uponIn (Fw none) 0 P a K Q r=o.uponIn (Fw none) 0 P a K Q' r:=by
    intro r
    unfold Oper.uponIn
    split<;>simp only[h,h2]
  unfold Oper.wpIn
  rw[e]
theorem zhV {P:Program} {ops:Array Oper} {Q:Exit→Act→World→Prop} {l2:List Oper}:∀(l1:List Oper) (a:Act) (w:World),
    wpListIn (Fw none) 0 P ops (fun e a w=>match e with | .normal=>wpListIn (Fw none) 0 P ops Q l2 a w|e=>Q e a w) l1 a w→wpListIn (Fw none) 0 P ops Q (l1++l2) a w
  | [],a,w,h=>h
  | o :: l1,a,w,h=>by
    simp only[wpListIn,List.cons_append] at h ⊢
    split
    · rename_i hw
      rw[if_pos hw] at h
      refine Oper.wpIn_mono (zhV l1) ?_
      rw[←zyL (Q:=fun e a w=>match e with | .normal=>wpListIn (Fw none) 0 P ops Q l2 a w|e=>Q e a w) (Q':=Q) (fun _ _ _=>rfl) rfl]
      exact h
    · rename_i hw
      rw[if_neg hw] at h
      exact⟨h.1,zhV l1 _ _ h.2⟩
theorem zp5 {F:Fence} {n:Nat} {P:Program} {Q Q':Exit→Act→World→Prop} {o:Oper} {a:Act} {w:World} {K K':Act→World→Prop} (h:∀a w,K a w→K' a w) (hq:∀e a w,Q e a w→Q' e a w)
    (hh:o.wpIn F n P a w K Q):o.wpIn F n P a w K' Q':=by
  unfold Oper.wpIn at *
  refine⟨hh.1,?_⟩
  have hh:=hh.2
  generalize (o.semAt F.round a.eval).run P w=r at *
  cases r with
  | ok x w'=>
    cases x<;>simp only[Oper.uponIn] at hh ⊢ <;>
      first
        | exact h _ _ hh
        | exact⟨hh.1,CallsIn.mono hh.2 (fun e w'' he=>by cases e<;>first|exact h _ _ he|exact hq _ _ _ he|exact (let ⟨a,w,h⟩:=he;⟨a,w,hq _ _ _ h⟩))⟩
        | exact⟨hh.1,RowsIn.mono hh.2 (fun _ _ he=>h _ _ he)⟩
        | exact⟨hh.1,RoundIn.mono hh.2 (fun e w'' he=>by cases e<;>first|exact h _ _ he|exact hq _ _ _ he|exact (let ⟨a,w,h⟩:=he;⟨a,w,hq _ _ _ h⟩))⟩
  | halt x w'=>cases x<;>simp only[Oper.uponIn] at hh ⊢<;>first|exact hh|exact hq _ _ _ hh
theorem zeS {F:Fence} {n:Nat} {P:Program} {ops:Array Oper} {Q Q':Exit→Act→World→Prop} (hq:∀e a w,Q e a w→Q' e a w):∀(l:List Oper) (a:Act) (w:World),wpListIn F n P ops Q l a w→wpListIn F n P ops Q' l a w
  | [],a,w,h=>hq _ _ _ h
  | o :: r,a,w,h=>by
    unfold wpListIn at h ⊢
    split
    · rename_i hw
      rw[if_pos hw] at h
      exact zp5 (zeS hq r) hq h
    · rename_i hw
      rw[if_neg hw] at h
      exact⟨h.1,zeS hq r _ _ h.2⟩
theorem znx (w:World) {b b':Nat} (h:b≠b') (c c':Array Value):(w.setRow b c).setRow b' c'=(w.setRow b' c').setRow b c:=by
  have:∀(f g:Obj→Obj),(w.heap.modify b f).modify b' g=(w.heap.modify b' g).modify b f:=by
    intro f g
    refine Array.ext (by simp) fun i h1 h2=>?_
    simp only[Array.getElem_modify]
    split<;>split<;>first|rfl|omega
  simp only[World.setRow,this]
end Go.Eng
namespace Go.Eng.Ar
open Go.Eng Go.Proofs
set_option linter.all false
set_option maxRecDepth 100000
set_option maxHeartbeats 1000000
theorem ia76 (a:Act) (w:World) (o:Oper) (x y:Operand) (ho:o.op=.indexAddr 76 x y) {b off n c:Nat} {i:Nat} (hx:a.eval x=.slice (some ⟨b,off,none⟩) n c) (hy:a.eval y=.int .i64 i) (h1:i<n) :
    (execOp a.eval o).run Tryz.prog w=.ok (.value (.pointer (some ⟨b,off+i,none⟩))) w:=by
  have hS:=zaC row3 w
  have hs:i3.size=1:=rfl
  have h2:(i:Int)<(n:Int):=by omega
  simp[execOp,ho,hx,hy,Instr.indexAt,run_underlying Tryz.underlying76,asIntOf,hS,h2,hs,zaT]
  intro h;omega
theorem ia66 (a:Act) (w:World) (o:Oper) (x y:Operand) (ho:o.op=.indexAddr 66 x y) {b off n c:Nat} {i:Nat} (hx:a.eval x=.slice (some ⟨b,off,none⟩) n c) (hy:a.eval y=.int .i64 i) (h1:i<n) :
    (execOp a.eval o).run Tryz.prog w=.ok (.value (.pointer (some ⟨b,off+i,none⟩))) w:=by
  have hS:=zaC zro w
  have hs:i76.size=1:=rfl
  have h2:(i:Int)<(n:Int):=by omega
  simp[execOp,ho,hx,hy,Instr.indexAt,run_underlying Tryz.underlying66,asIntOf,hS,h2,hs,zaT]
  intro h;omega
theorem ld3 (a:Act) (w:World) (o:Oper) (x:Operand) (ho:o.op=.load 3 x) {b off el:Nat} {cur:Array Value} {f:Nat×Nat} {v:Value} (hx:a.eval x=.pointer (some ⟨b,off,none⟩)) (hb:w.heap[b]?=some (.cells cur el f)) (hv:cur[off]?=some v) :
    (execOp a.eval o).run Tryz.prog w=.ok (.value v) w:=by
  have hl:(loadVar 3 ⟨b,off,none⟩).run Tryz.prog w=.ok v w:=zby row3 rfl (by rw[zbz hb];exact hv)
  simp[execOp,ho,hx,Instr.loadAt,Instr.sureAddr,hl]
theorem ld76 (a:Act) (w:World) (o:Oper) (x:Operand) (ho:o.op=.load 76 x) {b off el:Nat} {cur:Array Value} {f:Nat×Nat} {v:Value} (hx:a.eval x=.pointer (some ⟨b,off,none⟩)) (hb:w.heap[b]?=some (.cells cur el f)) (hv:cur[off]?=some v) :
    (execOp a.eval o).run Tryz.prog w=.ok (.value v) w:=by
  have hl:(loadVar 76 ⟨b,off,none⟩).run Tryz.prog w=.ok v w:=zby zro rfl (by rw[zbz hb];exact hv)
  simp[execOp,ho,hx,Instr.loadAt,Instr.sureAddr,hl]
theorem zl8 {cur:Array Value} {i:Nat} {v:Value} (hi:i<cur.size):(cur.toList.take i++[v]++cur.toList.drop (i+1)).toArray=cur.set! i v:=by
  refine Array.ext' ?_
  simp only[Array.set!_eq_setIfInBounds,Array.toList_setIfInBounds]
  rw[List.set_eq_take_append_cons_drop,if_pos (by simpa using hi)]
  simp
theorem st3 (a:Act) (w:World) (o:Oper) (x y:Operand) (ho:o.op=.store 3 x y) {b off el:Nat} {cur:Array Value} {n:Int} (hx:a.eval x=.pointer (some ⟨b,off,none⟩)) (hy:a.eval y=.int .i64 n) (hb:w.heap[b]?=some (.cells cur el (0,0))) (hi:off<cur.size) :
    (execOp a.eval o).run Tryz.prog w=.ok .skip (w.setRow b (cur.set! off (.int .i64 n))):=by
  have hst:=zbG (P:=Tryz.prog) row3 (b:=b) (off:=off) (v:=.int .i64 n) hb rfl hi (fun u hu=>by
    have:u=.int .i64 n:=by simpa [Value.cells] using hu
    rw[this];rfl)
  have e:(cur.toList.take off++(Value.int .i64 n).cells.toList++cur.toList.drop (off+(Value.int .i64 n).cells.size)).toArray=cur.set! off (.int .i64 n):=zl8 hi
  rw[e] at hst
  simp[execOp,ho,hx,hy,Instr.storeAt,Instr.sureAddr,hst]
theorem st76 (a:Act) (w:World) (o:Oper) (x y:Operand) (ho:o.op=.store 76 x y) {b off el:Nat} {cur:Array Value} {ad:Option Addr} {n c:Nat} (hx:a.eval x=.pointer (some ⟨b,off,none⟩)) (hy:a.eval y=.slice ad n c) (hb:w.heap[b]?=some (.cells cur el (0,0))) (hi:off<cur.size) :
    (execOp a.eval o).run Tryz.prog w=.ok .skip (w.setRow b (cur.set! off (.slice ad n c))):=by
  have hst:=zbG (P:=Tryz.prog) zro (b:=b) (off:=off) (v:=.slice ad n c) hb rfl hi (fun u hu=>by
    have:u=.slice ad n c:=by simpa [Value.cells] using hu
    rw[this];rfl)
  have e:(cur.toList.take off++(Value.slice ad n c).cells.toList++cur.toList.drop (off+(Value.slice ad n c).cells.size)).toArray=cur.set! off (.slice ad n c):=zl8 hi
  rw[e] at hst
  simp[execOp,ho,hx,hy,Instr.storeAt,Instr.sureAddr,hst]
theorem mvR (a:Act) (w:World) (o:Oper) (x:Operand) (ho:o.op=.move x) {v:Value} (hx:a.eval x=v):(execOp a.eval o).run Tryz.prog w=.ok (.value v) w:=by
  simp[execOp,ho,hx]
theorem zkB {V:View} {k:IntKind} {n:Int} {v:Value} (h:RepV V (.int k) n v):v=.int k n:=by
  obtain⟨l,h1,⟨h2,_⟩|⟨_,h2⟩⟩:=h
  · cases h2
  · have h1:l=[.int k n]:=h1
    rw[h1] at h2;simpa using h2.symm
theorem zaj (a:Act) (t:Nat) (v:Value):(a.put (some t) v).tmps.size=a.tmps.size:=by simp[Act.put]
theorem zah (a:Act) (t:Nat) (v:Value):(a.put (some t) v).defers=a.defers:=rfl
end Go.Eng.Ar
