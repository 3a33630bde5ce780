/-
  A part of the proof of TopBad.
-/
import Derived.Shelf.Strings.Builder1
import Derived.Shelf.Strings.Builder2
import Derived.Shelf.Strings.OnBuilder
import Derived.Shelf.Strings.Trim
import Derived.Shelf.Small.Utf8
import Derived.Shelf.Small.Bits
import Derived.Shelf.Small.Strs
import Derived.Shelf.Strconv.Itoa0
import Derived.Shelf.Strconv.Itoa1
import Derived.Shelf.LaysM
import Derived.Shelf.Strconv.Itoa2
import Derived.Shelf.Strconv.Itoa3
import Derived.Shelf.Strconv.Itoa4
import Derived.Shelf.Strings.Search1
import Derived.Shelf.Sort.Plain
import Derived.Shelf.Unicode.Decode
import Derived.Shelf.Strings.Runes
import Derived.Shelf.Strings.AsciiSet
import Derived.Shelf.Unicode.DecodeSlow
import Derived.Shelf.Unicode.DecodeAny
import Derived.Shelf.Unicode.DecodeLast
import Derived.Ground.Names2Prog
import Derived.Shelf.Slices.Clone
import Derived.Shelf.Slices.SearchI
import Derived.Shelf.Slices.In.SortNone
import Derived.Ground.SlgnProg
import Derived.Shelf.SlicesE.Clone
import Derived.Test.YtfjifcfbmhpcaaaGreatDoorProg
import Derived.Test.YtfjifcfbmhpcaaaGreatDoorB00
set_option linter.all false
namespace Go.Proofs.YtfjifcfbmhpcaaaGreatDoor
open Go
end Go.Proofs.YtfjifcfbmhpcaaaGreatDoor
section
namespace Go.Proofs
open Go.Shelf
def fx0{α:Type}{a:Option α}{b c:α}(h:a=some b)(k:b=c:=by kernel_rfl):a=some c:=h.trans (congrArg some k)
def Tryz.lays156_ren:Go.Shelf.Ren:=⟨λ|156=>259|165=>305|166=>306|169=>307|240=>339|241=>340|276=>370|277=>371|n=>n,λ|31=>23|9=>9|3=>3|4=>4|0=>0|20=>20|72=>426|76=>429|70=>424|37=>22|75=>428|127=>454|164=>483|5=>5|80=>431|n=>n,λ|n=>n⟩
def Tryz.lays156:Go.Proofs.Lays.n156 Tryz.prog Tryz.lays156_ren:={
 mixed:=by kernel_rfl
 f156:=fx0 Tryz.func259
 f165:=fx0 Tryz.func305
 f166:=fx0 Tryz.func306
 f169:=fx0 Tryz.func307
 f240:=fx0 Tryz.func339
 f241:=fx0 Tryz.func340
 f276:=fx0 Tryz.func370
 f277:=fx0 Tryz.func371
 t0:=Tryz.underlying0
 a0:=Tryz.isAgg0
 z0:=Tryz.sizeOf0
 v0:=Tryz.zeroValue0
 t3:=Tryz.underlying3
 a3:=Tryz.isAgg3
 z3:=Tryz.sizeOf3
 v3:=Tryz.zeroValue3
 t4:=Tryz.underlying4
 a4:=Tryz.isAgg4
 z4:=Tryz.sizeOf4
 v4:=Tryz.zeroValue4
 t9:=Tryz.underlying9
 a9:=Tryz.isAgg9
 z9:=Tryz.sizeOf9
 v9:=Tryz.zeroValue9
 t20:=Tryz.underlying20
 a20:=Tryz.isAgg20
 z20:=Tryz.sizeOf20
 v20:=Tryz.zeroValue20
 t31:=Tryz.underlying23
 a31:=Tryz.isAgg23
 z31:=Tryz.sizeOf23
 v31:=Tryz.zeroValue23
 t37:=Tryz.underlying22
 a37:=Tryz.isAgg22
 z37:=Tryz.sizeOf22
 v37:=Tryz.zeroValue22
 t70:=Tryz.underlying424
 a70:=Tryz.isAgg424
 z70:=Tryz.sizeOf424
 v70:=Tryz.zeroValue424
 t72:=Tryz.underlying426
 a72:=Tryz.isAgg426
 z72:=Tryz.sizeOf426
 v72:=Tryz.zeroValue426
 t75:=Tryz.underlying428
 a75:=Tryz.isAgg428
 z75:=Tryz.sizeOf428
 v75:=Tryz.zeroValue428
 t76:=Tryz.underlying429
 a76:=Tryz.isAgg429
 z76:=Tryz.sizeOf429
 v76:=Tryz.zeroValue429
 t127:=Tryz.underlying454
 a127:=Tryz.isAgg454
 z127:=Tryz.sizeOf454
 v127:=Tryz.zeroValue454
 t164:=Tryz.underlying483
 a164:=Tryz.isAgg483
 z164:=Tryz.sizeOf483
 v164:=Tryz.zeroValue483}
def Tryz.Builder_Extra_156:Builder.Extra Tryz.prog Tryz.lays156_ren:={
 sizeBuilder:=by kernel_rfl
 liesBuilder:=by kernel_rfl
 t5:=Tryz.underlying5
 a5:=Tryz.isAgg5
 z5:=Tryz.sizeOf5
 v5:=Tryz.zeroValue5
 infoByte:=by kernel_rfl
 cellsByte:=by kernel_rfl
 sizeByte:=by kernel_rfl
 neB5:=by decide}
open Go.RowKit in
def Tryz.strings_Join(bk o c:Nat)(xs:List ByteArray)(sep:ByteArray)(w:World)(hcells:∀(j:Nat) x,xs[j]?=some x->w.cell? ⟨bk,o+j,none⟩=some (.string x))(hbk:bk<w.heap.size)(hN:xs.length<=140737488355328)(hcap:xs.length<=c)(hlen:(Lib.join (xs.map (·.data.toList)) sep.data.toList).length<=140737488355328):
 Calls Tryz.prog 259 #[.slice (some ⟨bk,o,none⟩) xs.length c,.string sep] w λe w'=>e=.returned (.string ⟨(Lib.join (xs.map (·.data.toList)) sep.data.toList).toArray⟩)/\Below w.heap.size w w':=Any.strings_Join Tryz.lays156 Tryz.Builder_Extra_156 bk o c xs sep w hcells hbk hN hcap hlen
def Tryz.laysM246_ren:Go.Shelf.Ren:=⟨λ|246=>308|283=>341|284=>342|285=>343|286=>344|129=>178|317=>372|318=>373|319=>374|320=>375|337=>395|338=>396|n=>n,λ|2=>2|3=>3|9=>9|4=>4|171=>456|0=>0|53=>291|37=>22|5=>5|173=>458|212=>486|51=>34|20=>20|213=>487|46=>229|232=>411|233=>449|n=>n,λ|17=>0|18=>4|19=>5|n=>n⟩
def Tryz.laysM173_ren:Go.Shelf.Ren:=⟨λ|173=>260|246=>308|283=>341|284=>342|285=>343|286=>344|129=>178|317=>372|318=>373|319=>374|320=>375|337=>395|338=>396|n=>n,λ|2=>2|3=>3|9=>9|4=>4|171=>456|0=>0|53=>291|37=>22|5=>5|173=>458|212=>486|51=>34|20=>20|213=>487|46=>229|232=>411|233=>449|n=>n,λ|17=>0|18=>4|19=>5|n=>n⟩
def Tryz.laysM173:Go.Proofs.LaysM.n173 Tryz.prog Tryz.laysM173_ren:={
 mixed:=by kernel_rfl
 f129:=fx0 Tryz.func178
 f173:=fx0 Tryz.func260
 f246:=fx0 Tryz.func308
 f283:=fx0 Tryz.func341
 f284:=fx0 Tryz.func342
 f285:=fx0 Tryz.func343
 f286:=fx0 Tryz.func344
 f317:=fx0 Tryz.func372
 f318:=fx0 Tryz.func373
 f319:=fx0 Tryz.func374
 f320:=fx0 Tryz.func375
 f337:=fx0 Tryz.func395
 f338:=fx0 Tryz.func396
 t0:=Tryz.underlying0
 a0:=Tryz.isAgg0
 z0:=Tryz.sizeOf0
 v0:=Tryz.zeroValue0
 t2:=Tryz.underlying2
 a2:=Tryz.isAgg2
 z2:=Tryz.sizeOf2
 v2:=Tryz.zeroValue2
 t3:=Tryz.underlying3
 a3:=Tryz.isAgg3
 z3:=Tryz.sizeOf3
 v3:=Tryz.zeroValue3
 t4:=Tryz.underlying4
 a4:=Tryz.isAgg4
 z4:=Tryz.sizeOf4
 v4:=Tryz.zeroValue4
 t5:=Tryz.underlying5
 a5:=Tryz.isAgg5
 z5:=Tryz.sizeOf5
 v5:=Tryz.zeroValue5
 t9:=Tryz.underlying9
 a9:=Tryz.isAgg9
 z9:=Tryz.sizeOf9
 v9:=Tryz.zeroValue9
 t20:=Tryz.underlying20
 a20:=Tryz.isAgg20
 z20:=Tryz.sizeOf20
 v20:=Tryz.zeroValue20
 t37:=Tryz.underlying22
 a37:=Tryz.isAgg22
 z37:=Tryz.sizeOf22
 v37:=Tryz.zeroValue22
 t46:=Tryz.underlying229
 a46:=Tryz.isAgg229
 z46:=Tryz.sizeOf229
 v46:=Tryz.zeroValue229
 t51:=Tryz.underlying34
 a51:=Tryz.isAgg34
 z51:=Tryz.sizeOf34
 v51:=Tryz.zeroValue34
 t53:=Tryz.underlying291
 a53:=Tryz.isAgg291
 z53:=Tryz.sizeOf291
 v53:=Tryz.zeroValue291
 t171:=Tryz.underlying456
 a171:=Tryz.isAgg456
 z171:=Tryz.sizeOf456
 v171:=Tryz.zeroValue456
 t173:=Tryz.underlying458
 a173:=Tryz.isAgg458
 z173:=Tryz.sizeOf458
 v173:=Tryz.zeroValue458
 t212:=Tryz.underlying486
 a212:=Tryz.isAgg486
 z212:=Tryz.sizeOf486
 v212:=Tryz.zeroValue486
 t213:=Tryz.underlying487
 a213:=Tryz.isAgg487
 z213:=Tryz.sizeOf487
 t232:=Tryz.underlying411
 a232:=Tryz.isAgg411
 z232:=Tryz.sizeOf411
 v232:=Tryz.zeroValue411
 t233:=Tryz.underlying449
 a233:=Tryz.isAgg449
 z233:=Tryz.sizeOf449
 v233:=Tryz.zeroValue449
 g17:=by kernel_rfl
 g18:=by kernel_rfl
 g19:=by kernel_rfl
 i0:=by kernel_rfl
 i2:=by kernel_rfl
 i3:=by kernel_rfl
 i4:=by kernel_rfl
 i5:=by kernel_rfl
 i9:=by kernel_rfl
 i20:=by kernel_rfl
 i37:=by kernel_rfl
 i46:=by kernel_rfl
 i51:=by kernel_rfl
 i53:=by kernel_rfl
 i171:=by kernel_rfl
 i173:=by kernel_rfl
 i212:=by kernel_rfl
 i232:=by kernel_rfl
 i233:=by kernel_rfl
 m17:=by kernel_rfl
 m18:=by kernel_rfl
 m19:=by kernel_rfl}
open Go.RowKit Go.Sort Go.Lib in
def Tryz.strconv_FormatInt_10(n:Int)(h0: -9223372036854775808<=n)(h1:n<=9223372036854775807)(w:World)(htab:Lib.TabIs Tryz.prog w "internal/strconv.uint64pow10" .u64 Lib.pow10Tab):
 Calls Tryz.prog 260 #[.int .i64 n,.int .i64 10] w λe w'=>e=.returned (.string ⟨(Lib.itoa n).toArray⟩)/\∃k os,w'=grow (w.drewN k) os:=Any.strconv_FormatInt_10 Tryz.laysM173 n h0 h1 w htab
def Tryz.lays189_ren:Go.Shelf.Ren:=⟨λ|189=>64|125=>109|257=>108|128=>177|129=>178|294=>168|295=>169|296=>170|297=>171|298=>172|299=>173|216=>174|300=>175|301=>176|328=>253|329=>254|330=>255|331=>256|332=>257|215=>153|343=>304|n=>n,λ|28=>28|3=>3|46=>229|0=>0|51=>34|53=>291|4=>4|183=>284|182=>283|131=>264|5=>5|9=>9|218=>365|222=>369|228=>421|229=>422|n=>n,λ|n=>n⟩
def Tryz.lays189:Go.Proofs.Lays.n189 Tryz.prog Tryz.lays189_ren:={
 mixed:=by kernel_rfl
 f125:=fx0 Tryz.func109
 f128:=fx0 Tryz.func177
 f129:=fx0 Tryz.func178
 f189:=fx0 Tryz.func64
 f215:=fx0 Tryz.func153
 f216:=fx0 Tryz.func174
 f257:=fx0 Tryz.func108
 f294:=fx0 Tryz.func168
 f295:=fx0 Tryz.func169
 f296:=fx0 Tryz.func170
 f297:=fx0 Tryz.func171
 f298:=fx0 Tryz.func172
 f299:=fx0 Tryz.func173
 f300:=fx0 Tryz.func175
 f301:=fx0 Tryz.func176
 f328:=fx0 Tryz.func253
 f329:=fx0 Tryz.func254
 f330:=fx0 Tryz.func255
 f331:=fx0 Tryz.func256
 f332:=fx0 Tryz.func257
 f343:=fx0 Tryz.func304
 t0:=Tryz.underlying0
 a0:=Tryz.isAgg0
 z0:=Tryz.sizeOf0
 v0:=Tryz.zeroValue0
 t3:=Tryz.underlying3
 a3:=Tryz.isAgg3
 z3:=Tryz.sizeOf3
 v3:=Tryz.zeroValue3
 t4:=Tryz.underlying4
 a4:=Tryz.isAgg4
 z4:=Tryz.sizeOf4
 v4:=Tryz.zeroValue4
 t5:=Tryz.underlying5
 a5:=Tryz.isAgg5
 z5:=Tryz.sizeOf5
 v5:=Tryz.zeroValue5
 t9:=Tryz.underlying9
 a9:=Tryz.isAgg9
 z9:=Tryz.sizeOf9
 v9:=Tryz.zeroValue9
 t28:=Tryz.underlying28
 a28:=Tryz.isAgg28
 z28:=Tryz.sizeOf28
 v28:=Tryz.zeroValue28
 t46:=Tryz.underlying229
 a46:=Tryz.isAgg229
 z46:=Tryz.sizeOf229
 v46:=Tryz.zeroValue229
 t51:=Tryz.underlying34
 a51:=Tryz.isAgg34
 z51:=Tryz.sizeOf34
 v51:=Tryz.zeroValue34
 t53:=Tryz.underlying291
 a53:=Tryz.isAgg291
 z53:=Tryz.sizeOf291
 v53:=Tryz.zeroValue291
 t131:=Tryz.underlying264
 a131:=Tryz.isAgg264
 z131:=Tryz.sizeOf264
 v131:=Tryz.zeroValue264
 t182:=Tryz.underlying283
 a182:=Tryz.isAgg283
 z182:=Tryz.sizeOf283
 v182:=Tryz.zeroValue283
 t183:=Tryz.underlying284
 a183:=Tryz.isAgg284
 z183:=Tryz.sizeOf284
 v183:=Tryz.zeroValue284
 t218:=Tryz.underlying365
 a218:=Tryz.isAgg365
 z218:=Tryz.sizeOf365
 v218:=Tryz.zeroValue365
 t222:=Tryz.underlying369
 a222:=Tryz.isAgg369
 z222:=Tryz.sizeOf369
 v222:=Tryz.zeroValue369
 t228:=Tryz.underlying421
 a228:=Tryz.isAgg421
 z228:=Tryz.sizeOf421
 v228:=Tryz.zeroValue421
 t229:=Tryz.underlying422
 a229:=Tryz.isAgg422
 z229:=Tryz.sizeOf422
 v229:=Tryz.zeroValue422}
open Go.Sort Go.RowKit in
def Tryz.slices_Sort_int(blk off cap:Nat)(zs:List Int)(w:World)(hH:Holds (Value.int .i64) w blk off zs.toArray)(hblk:blk<w.heap.size)(hsz:zs.length<4611686018427387904):
 Calls Tryz.prog 64 #[.slice (some ⟨blk,off,none⟩) zs.length cap] w λe w'=>
  e=.returned (.tuple #[])/\∃n os,w'=grow (putRow (Value.int .i64) (Sort.ahead w n) blk off (zs.mergeSort λx y=>decide (x<=y)).toArray) os:=Any.slices_Sort_int Tryz.lays189 blk off cap zs w hH hblk hsz
def Tryz.lays190_ren:Go.Shelf.Ren:=⟨λ|190=>238|125=>109|258=>289|128=>177|129=>178|302=>325|303=>326|304=>327|305=>328|306=>329|307=>330|308=>331|309=>332|310=>333|333=>364|329=>254|330=>255|334=>365|335=>366|336=>367|344=>391|n=>n,λ|31=>23|9=>9|3=>3|46=>229|0=>0|51=>34|53=>291|4=>4|183=>284|182=>283|131=>264|5=>5|218=>365|222=>369|228=>421|229=>422|n=>n,λ|n=>n⟩
def Tryz.lays190:Go.Proofs.Lays.n190 Tryz.prog Tryz.lays190_ren:={
 mixed:=by kernel_rfl
 f125:=fx0 Tryz.func109
 f128:=fx0 Tryz.func177
 f129:=fx0 Tryz.func178
 f190:=fx0 Tryz.func238
 f258:=fx0 Tryz.func289
 f302:=fx0 Tryz.func325
 f303:=fx0 Tryz.func326
 f304:=fx0 Tryz.func327
 f305:=fx0 Tryz.func328
 f306:=fx0 Tryz.func329
 f307:=fx0 Tryz.func330
 f308:=fx0 Tryz.func331
 f309:=fx0 Tryz.func332
 f310:=fx0 Tryz.func333
 f329:=fx0 Tryz.func254
 f330:=fx0 Tryz.func255
 f333:=fx0 Tryz.func364
 f334:=fx0 Tryz.func365
 f335:=fx0 Tryz.func366
 f336:=fx0 Tryz.func367
 f344:=fx0 Tryz.func391
 t0:=Tryz.underlying0
 a0:=Tryz.isAgg0
 z0:=Tryz.sizeOf0
 v0:=Tryz.zeroValue0
 t3:=Tryz.underlying3
 a3:=Tryz.isAgg3
 z3:=Tryz.sizeOf3
 v3:=Tryz.zeroValue3
 t4:=Tryz.underlying4
 a4:=Tryz.isAgg4
 z4:=Tryz.sizeOf4
 v4:=Tryz.zeroValue4
 t5:=Tryz.underlying5
 a5:=Tryz.isAgg5
 z5:=Tryz.sizeOf5
 v5:=Tryz.zeroValue5
 t9:=Tryz.underlying9
 a9:=Tryz.isAgg9
 z9:=Tryz.sizeOf9
 v9:=Tryz.zeroValue9
 t31:=Tryz.underlying23
 a31:=Tryz.isAgg23
 z31:=Tryz.sizeOf23
 v31:=Tryz.zeroValue23
 t46:=Tryz.underlying229
 a46:=Tryz.isAgg229
 z46:=Tryz.sizeOf229
 v46:=Tryz.zeroValue229
 t51:=Tryz.underlying34
 a51:=Tryz.isAgg34
 z51:=Tryz.sizeOf34
 v51:=Tryz.zeroValue34
 t53:=Tryz.underlying291
 a53:=Tryz.isAgg291
 z53:=Tryz.sizeOf291
 v53:=Tryz.zeroValue291
 t131:=Tryz.underlying264
 a131:=Tryz.isAgg264
 z131:=Tryz.sizeOf264
 v131:=Tryz.zeroValue264
 t182:=Tryz.underlying283
 a182:=Tryz.isAgg283
 z182:=Tryz.sizeOf283
 v182:=Tryz.zeroValue283
 t183:=Tryz.underlying284
 a183:=Tryz.isAgg284
 z183:=Tryz.sizeOf284
 v183:=Tryz.zeroValue284
 t218:=Tryz.underlying365
 a218:=Tryz.isAgg365
 z218:=Tryz.sizeOf365
 v218:=Tryz.zeroValue365
 t222:=Tryz.underlying369
 a222:=Tryz.isAgg369
 z222:=Tryz.sizeOf369
 v222:=Tryz.zeroValue369
 t228:=Tryz.underlying421
 a228:=Tryz.isAgg421
 z228:=Tryz.sizeOf421
 v228:=Tryz.zeroValue421
 t229:=Tryz.underlying422
 a229:=Tryz.isAgg422
 z229:=Tryz.sizeOf422
 v229:=Tryz.zeroValue422}
open Go.Sort Go.RowKit in
def Tryz.slices_Sort_string(blk off cap:Nat)(ss:List (List UInt8))(w:World)(hH:Holds encStr w blk off ss.toArray)(hblk:blk<w.heap.size)(hsz:ss.length<4611686018427387904):
 Calls Tryz.prog 238 #[.slice (some ⟨blk,off,none⟩) ss.length cap] w λe w'=>
  e=.returned (.tuple #[])/\∃n os,w'=grow (putRow encStr (Sort.ahead w n) blk off (ss.mergeSort λx y=>decide (x<=y)).toArray) os:=Any.slices_Sort_string Tryz.lays190 blk off cap ss w hH hblk hsz
def Tryz.lays227_ren:Go.Shelf.Ren:=⟨λ|227=>263|n=>n,λ|9=>9|116=>376|4=>4|0=>0|3=>3|5=>5|n=>n,λ|n=>n⟩
def Tryz.lays227:Go.Proofs.Lays.n227 Tryz.prog Tryz.lays227_ren:={
 mixed:=by kernel_rfl
 f227:=fx0 Tryz.func263
 t0:=Tryz.underlying0
 a0:=Tryz.isAgg0
 z0:=Tryz.sizeOf0
 v0:=Tryz.zeroValue0
 t3:=Tryz.underlying3
 a3:=Tryz.isAgg3
 z3:=Tryz.sizeOf3
 v3:=Tryz.zeroValue3
 t4:=Tryz.underlying4
 a4:=Tryz.isAgg4
 z4:=Tryz.sizeOf4
 v4:=Tryz.zeroValue4
 t5:=Tryz.underlying5
 a5:=Tryz.isAgg5
 z5:=Tryz.sizeOf5
 v5:=Tryz.zeroValue5
 t9:=Tryz.underlying9
 a9:=Tryz.isAgg9
 z9:=Tryz.sizeOf9
 v9:=Tryz.zeroValue9
 t116:=Tryz.underlying376
 a116:=Tryz.isAgg376
 z116:=Tryz.sizeOf376}
open Go.RowKit Go.Lib in
def Tryz.strings_makeASCIISet(hv116:∀w,(zeroValue 376).run Tryz.prog w=.ok (.agg (Array.replicate 256 (.bool false))) w)(chars:ByteArray)(w:World)(hs:chars.size<4294967281)(hascii:∀(j:Nat) b,chars.data.toList[j]?=some b->b.toNat<128):
 Calls Tryz.prog 263 #[.string chars] w λe w'=>e=.returned (.tuple #[.agg (Lib.setCells chars.data.toList),.bool true])/\w'=w.alloc (.cells (Lib.setCells chars.data.toList) 376):=Any.strings_makeASCIISet Tryz.lays227 hv116 (by kernel_rfl) chars w hs hascii
open Go.RowKit Go.Sort in
def Tryz.slices_Sort_string_none(p:Option Addr)(cap:Nat)(w:World):
 Calls Tryz.prog 238 #[.slice p 0 cap] w λe w'=>e=.returned (.tuple #[])/\w'=w:=Any.slices_Sort_string_none Tryz.lays190 p cap w
open Go.RowKit Go.Sort in
def Tryz.slices_Sort_int_none(p:Option Addr)(cap:Nat)(w:World):
 Calls Tryz.prog 64 #[.slice p 0 cap] w λe w'=>e=.returned (.tuple #[])/\w'=w:=Any.slices_Sort_int_none Tryz.lays189 p cap w
end Go.Proofs
end
namespace Go.Proofs.YtfjifcfbmhpcaaaGreatDoor
open Go
end Go.Proofs.YtfjifcfbmhpcaaaGreatDoor
