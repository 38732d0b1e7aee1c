/-
  Texts of this claim, one behind the other: Shelf Heap TrP TrQ Disk TrT TrS TrU Region Log Told Open Held Base DkP Bits LgP Dk1 Cra Held2 Build BuildR Lg1 Lg2 Dk3 Iter Up Rcv Opn New5 LogIn.
-/
import Derived.Shelf.Strings.Builder1
import Derived.Shelf.Strings.Builder2
import Derived.Shelf.Strings.Trim
import Derived.Shelf.Small.Utf8
import Derived.Shelf.Small.Bits
import Derived.Shelf.Small.Strs
import Derived.Shelf.Strings.BuilderF
import Derived.Shelf.Strings.BuilderK
import Derived.Shelf.Strings.Search1
import Derived.Shelf.Strings.Search2
import Derived.Shelf.Strings.Search3
import Derived.Shelf.Strings.Cut
import Derived.Shelf.LaysM
import Derived.Shelf.Strings.Shaped
import Derived.Shelf.Strings.Prefix
import Derived.Shelf.Strings.Runes
import Derived.Shelf.Strings.AsciiSet
import Derived.Shelf.Bits.Mul64
import Derived.Shelf.Strings.Repeat
import Derived.Shelf.Unicode.DecodeSlow
import Derived.Shelf.Slices.Turned
import Derived.Ground.Names2Prog
import Derived.Shelf.Slices.Clone
import Derived.Ground.SlgnProg
import Derived.Shelf.SlicesE.Clone
import Derived.Test.YtaokjeokpifjgaaGreatDoorProg
import Derived.Maps.OwnIn
import Derived.Maps.OwnSet
import Derived.Maps.AppendAt
import Derived.Lib.Hide
import Derived.Test.YtaokjeokpifjgaaGreatDoorChecked
import Derived.WalkKit
import Derived.WalkSpells
import Derived.StillTail
import Derived.Tactics2
import Derived.Deep.QuietTactic
import Derived.BigQuiet
import Derived.OrdersHeld
import Derived.Deep.AppendLies
import Derived.Laws.BitsLemmas
import Derived.Lib.BitFns
import Derived.Lib.ConvBytes
import Derived.Lib.SlBytesRow
import Derived.Maps.RangeWalk
import Derived.Lib.Builder
import Derived.Lib.OthersKept
import Derived.Lib.AppendStr
import Derived.Laws.Externs
import Derived.Lib.AppendZerosOnto
import Derived.Laws.AppendOwnNone
import Derived.WalkSmall
import Derived.Shelf.Spec.SlicesInsertGrow
import Derived.Shelf.SlSorted.Search
import Derived.Lib.SlKeysI
import Derived.Laws.CopyRow
open Go.Proofs.Tryz
set_option maxRecDepth 100000
set_option maxHeartbeats 4000000
namespace Go.Proofs
open Go.Shelf
theorem qC{α:Type _}{o:Option α}{a b:α}(h:o=some a)(e:a=b:=by kernel_rfl):o=some b:=h.trans (congrArg some e)
def Tryz.lays170_ren:Go.Shelf.Ren:=⟨fun|170=>182|n=>n,fun|70=>120|3=>3|0=>0|72=>123|37=>121|5=>5|n=>n,fun|n=>n⟩
theorem Tryz.lays170:Go.Proofs.Lays.n170 prog Tryz.lays170_ren:={mixed:=by kernel_rfl,f170:=qC func182,t0:=underlying0,a0:=isAgg0,z0:=sizeOf0,v0:=zeroValue0,t3:=underlying3,a3:=isAgg3,z3:=sizeOf3,v3:=zeroValue3,t37:=underlying121,a37:=isAgg121,z37:=sizeOf121,v37:=zeroValue121,t70:=underlying120,a70:=isAgg120,z70:=sizeOf120,v70:=zeroValue120,t72:=underlying123,a72:=isAgg123,z72:=sizeOf123,v72:=zeroValue123}
open Go.RowKit in theorem Tryz.Builder_Len(B b:Nat)(bs:List Value)(w:World)(h:Lib.IsBuilder 123 5 B b bs w):Calls prog 182 #[.pointer (some ⟨b,0,none⟩)] w fun e w'=>e= .returned (.int .i64 bs.length)∧w'=w:=Any.Builder_Len Tryz.lays170 B b bs w h
def Tryz.lays169_ren:Go.Shelf.Ren:=⟨fun|169=>57|n=>n,fun|70=>120|9=>9|0=>0|72=>123|37=>121|127=>215|3=>3|5=>5|n=>n,fun|n=>n⟩
theorem Tryz.lays169:Go.Proofs.Lays.n169 prog Tryz.lays169_ren:={mixed:=by kernel_rfl,f169:=qC func57,t0:=underlying0,a0:=isAgg0,z0:=sizeOf0,v0:=zeroValue0,t3:=underlying3,a3:=isAgg3,z3:=sizeOf3,v3:=zeroValue3,t9:=underlying9,a9:=isAgg9,z9:=sizeOf9,v9:=zeroValue9,t37:=underlying121,a37:=isAgg121,z37:=sizeOf121,v37:=zeroValue121,t70:=underlying120,a70:=isAgg120,z70:=sizeOf120,v70:=zeroValue120,t72:=underlying123,a72:=isAgg123,z72:=sizeOf123,v72:=zeroValue123,t127:=underlying215,a127:=isAgg215,z127:=sizeOf215,v127:=zeroValue215}
theorem Tryz.Builder_Extra_169:Builder.Extra prog Tryz.lays169_ren:={sizeBuilder:=by kernel_rfl,liesBuilder:=by kernel_rfl,t5:=underlying5,a5:=isAgg5,z5:=sizeOf5,v5:=zeroValue5,infoByte:=by kernel_rfl,cellsByte:=by kernel_rfl,sizeByte:=by kernel_rfl,neB5:=by decide}
def Tryz.lays160_ren:Go.Shelf.Ren:=⟨fun|160=>141|232=>194|231=>193|227=>195|234=>197|233=>196|236=>199|235=>198|228=>237|271=>240|151=>239|197=>238|120=>271|152=>270|260=>269|137=>136|119=>289|224=>232|225=>231|217=>190|266=>234|n=>n,fun|9=>9|4=>4|3=>3|5=>5|117=>289|116=>288|0=>0|124=>292|21=>21|105=>323|46=>284|119=>360|139=>363|138=>362|n=>n,fun|3=>1|4=>2|n=>n⟩
theorem Tryz.lays160:Go.Proofs.Lays.n160 prog Tryz.lays160_ren:={mixed:=by kernel_rfl,f119:=qC func289,f120:=qC func271,f137:=qC func136,f151:=qC func239,f152:=qC func270,f160:=qC func141,f197:=qC func238,f217:=qC func190,f224:=qC func232,f225:=qC func231,f227:=qC func195,f228:=qC func237,f231:=qC func193,f232:=qC func194,f233:=qC func196,f234:=qC func197,f235:=qC func198,f236:=qC func199,f260:=qC func269,f266:=qC func234,f271:=qC func240,t0:=underlying0,a0:=isAgg0,z0:=sizeOf0,v0:=zeroValue0,t3:=underlying3,a3:=isAgg3,z3:=sizeOf3,v3:=zeroValue3,t4:=underlying4,a4:=isAgg4,z4:=sizeOf4,v4:=zeroValue4,t5:=underlying5,a5:=isAgg5,z5:=sizeOf5,v5:=zeroValue5,t9:=underlying9,a9:=isAgg9,z9:=sizeOf9,v9:=zeroValue9,t21:=underlying21,a21:=isAgg21,z21:=sizeOf21,v21:=zeroValue21,t46:=underlying284,a46:=isAgg284,z46:=sizeOf284,v46:=zeroValue284,t105:=underlying323,a105:=isAgg323,z105:=sizeOf323,v105:=zeroValue323,t116:=underlying288,a116:=isAgg288,z116:=sizeOf288,t117:=underlying289,a117:=isAgg289,z117:=sizeOf289,v117:=zeroValue289,t119:=underlying360,a119:=isAgg360,z119:=sizeOf360,t124:=underlying292,a124:=isAgg292,z124:=sizeOf292,v124:=zeroValue292,t138:=underlying362,a138:=isAgg362,z138:=sizeOf362,v138:=zeroValue362,t139:=underlying363,a139:=isAgg363,z139:=sizeOf363,v139:=zeroValue363,g3:=by kernel_rfl,g4:=by kernel_rfl}
open Go.RowKit in theorem Tryz.strings_Trim_one(s:ByteArray)(c:UInt8)(hc:c.toNat<128)(w:World)(hs:s.size≤9223372036854775807):Calls prog 141 #[.string s,.string ⟨#[c]⟩] w fun e w'=>e= .returned (.string ⟨(Lib.trimB s.data.toList c).toArray⟩)∧(w'=w∨w'=w.drew):=Any.strings_Trim_one Tryz.lays160 s c hc w hs
def Tryz.lays135_ren:Go.Shelf.Ren:=⟨fun|135=>115|n=>n,fun|5=>5|3=>3|9=>9|n=>n,fun|n=>n⟩
theorem Tryz.lays135:Go.Proofs.Lays.n135 prog Tryz.lays135_ren:={mixed:=by kernel_rfl,f135:=qC func115,t3:=underlying3,a3:=isAgg3,z3:=sizeOf3,v3:=zeroValue3,t5:=underlying5,a5:=isAgg5,z5:=sizeOf5,v5:=zeroValue5,t9:=underlying9,a9:=isAgg9,z9:=sizeOf9,v9:=zeroValue9}
theorem Tryz.bits_OnesCount8(x:Int)(w:World)(h0:0≤x)(h1:x≤255):Calls prog 115 #[.int .u8 x] w fun e w'=>e= .returned (.int .i64 (Lib.onesCount x.toNat))∧w'=w:=Any.bits_OnesCount8 Tryz.lays135 x w h0 h1
def Tryz.lays136_ren:Go.Shelf.Ren:=⟨fun|136=>259|n=>n,fun|5=>5|3=>3|9=>9|n=>n,fun|n=>n⟩
theorem Tryz.lays136:Go.Proofs.Lays.n136 prog Tryz.lays136_ren:={mixed:=by kernel_rfl,f136:=qC func259,t3:=underlying3,a3:=isAgg3,z3:=sizeOf3,v3:=zeroValue3,t5:=underlying5,a5:=isAgg5,z5:=sizeOf5,v5:=zeroValue5,t9:=underlying9,a9:=isAgg9,z9:=sizeOf9,v9:=zeroValue9}
theorem Tryz.bits_TrailingZeros8(x:Int)(w:World)(h0:0≤x)(h1:x≤255):Calls prog 259 #[.int .u8 x] w fun e w'=>e= .returned (.int .i64 (Lib.trailingZeros8 x.toNat))∧w'=w:=Any.bits_TrailingZeros8 Tryz.lays136 x w h0 h1
def Tryz.lays137_ren:Go.Shelf.Ren:=⟨fun|137=>136|217=>190|266=>234|n=>n,fun|9=>9|5=>5|3=>3|n=>n,fun|n=>n⟩
theorem Tryz.lays137:Go.Proofs.Lays.n137 prog Tryz.lays137_ren:={mixed:=by kernel_rfl,f137:=qC func136,f217:=qC func190,f266:=qC func234,t3:=underlying3,a3:=isAgg3,z3:=sizeOf3,v3:=zeroValue3,t5:=underlying5,a5:=isAgg5,z5:=sizeOf5,v5:=zeroValue5,t9:=underlying9,a9:=isAgg9,z9:=sizeOf9,v9:=zeroValue9}
open Go.RowKit in theorem Tryz.strings_IndexByte(s:ByteArray)(c:Int)(w:World):Calls prog 136 #[.string s,.int .u8 c] w fun e w'=>e= .returned (.int .i64 (Lib.indexByte s.data.toList c.toNat.toUInt8))∧w'=w:=Any.strings_IndexByte Tryz.lays137 s c w
open Go.RowKit in theorem Tryz.Builder_String_any_k(B b:Nat)(l:List UInt8)(w:World)(h:Lib.IsBuilderF 123 5 B b (Lib.byteCells l) w)(hBw:B≤w.heap.size):Calls prog 57 #[.pointer (some ⟨b,0,none⟩)] w fun e w'=>e= .returned (.string ⟨l.toArray⟩)∧(Lib.IsBuilderF 123 5 B b (Lib.byteCells l) w'∧Below B w w'∧Lib.OthersKept 5 (some b) w w'):=Any.Builder_String_any_k Tryz.lays169 Tryz.Builder_Extra_169 B b l w h hBw
def Tryz.lays219_ren:Go.Shelf.Ren:=⟨fun|219=>188|217=>190|225=>231|224=>232|267=>233|266=>234|314=>265|n=>n,fun|9=>9|3=>3|4=>4|5=>5|46=>284|146=>343|51=>224|n=>n,fun|1=>0|n=>n⟩
theorem Tryz.lays219:Go.Proofs.Lays.n219 prog Tryz.lays219_ren:={mixed:=by kernel_rfl,f217:=qC func190,f219:=qC func188,f224:=qC func232,f225:=qC func231,f266:=qC func234,f267:=qC func233,f314:=qC func265,t3:=underlying3,a3:=isAgg3,z3:=sizeOf3,v3:=zeroValue3,t4:=underlying4,a4:=isAgg4,z4:=sizeOf4,v4:=zeroValue4,t5:=underlying5,a5:=isAgg5,z5:=sizeOf5,v5:=zeroValue5,t9:=underlying9,a9:=isAgg9,z9:=sizeOf9,v9:=zeroValue9,t46:=underlying284,a46:=isAgg284,z46:=sizeOf284,v46:=zeroValue284,t51:=underlying224,a51:=isAgg224,z51:=sizeOf224,v51:=zeroValue224,t146:=underlying343,a146:=isAgg343,z146:=sizeOf343,v146:=zeroValue343,g1:=by kernel_rfl}
open Go.RowKit Go.Lib in theorem Tryz.stringslite_Index_one(s:ByteArray)(c:UInt8)(w:World):Calls prog 188 #[.string s,.string ⟨#[c]⟩] w fun e w'=>e= .returned (.int .i64 (Lib.indexByte s.data.toList c))∧w'=w:=Any.stringslite_Index_one Tryz.lays219 s c w
def Tryz.lays143_ren:Go.Shelf.Ren:=⟨fun|143=>130|219=>188|217=>190|225=>231|224=>232|267=>233|266=>234|314=>265|n=>n,fun|9=>9|3=>3|4=>4|5=>5|46=>284|146=>343|51=>224|n=>n,fun|1=>0|n=>n⟩
theorem Tryz.lays143:Go.Proofs.Lays.n143 prog Tryz.lays143_ren:={mixed:=by kernel_rfl,f143:=qC func130,f217:=qC func190,f219:=qC func188,f224:=qC func232,f225:=qC func231,f266:=qC func234,f267:=qC func233,f314:=qC func265,t3:=underlying3,a3:=isAgg3,z3:=sizeOf3,v3:=zeroValue3,t4:=underlying4,a4:=isAgg4,z4:=sizeOf4,v4:=zeroValue4,t5:=underlying5,a5:=isAgg5,z5:=sizeOf5,v5:=zeroValue5,t9:=underlying9,a9:=isAgg9,z9:=sizeOf9,v9:=zeroValue9,t46:=underlying284,a46:=isAgg284,z46:=sizeOf284,v46:=zeroValue284,t51:=underlying224,a51:=isAgg224,z51:=sizeOf224,v51:=zeroValue224,t146:=underlying343,a146:=isAgg343,z146:=sizeOf343,v146:=zeroValue343,g1:=by kernel_rfl}
open Go.RowKit Go.Lib in theorem Tryz.strings_Index(s sub:ByteArray)(m:Int)(w:World)(hs:s.size<4294967281)(hm:w.cell? ⟨0,0,none⟩=some (.int .i64 m)):Calls prog 130 #[.string s,.string sub] w fun e w'=>e= .returned (.int .i64 (Lib.index s.data.toList sub.data.toList))∧w'=w:=Any.strings_Index Tryz.lays143 s sub m w hs hm
def Tryz.laysM143_ren:Go.Shelf.Ren:=⟨fun|143=>130|219=>188|217=>190|225=>231|224=>232|267=>233|266=>234|314=>265|n=>n,fun|9=>9|3=>3|4=>4|5=>5|46=>284|146=>343|51=>224|n=>n,fun|1=>0|n=>n⟩
theorem Tryz.laysM143:Go.Proofs.LaysM.n143 prog Tryz.laysM143_ren:={mixed:=by kernel_rfl,f143:=qC func130,f217:=qC func190,f219:=qC func188,f224:=qC func232,f225:=qC func231,f266:=qC func234,f267:=qC func233,f314:=qC func265,t3:=underlying3,a3:=isAgg3,z3:=sizeOf3,v3:=zeroValue3,t4:=underlying4,a4:=isAgg4,z4:=sizeOf4,v4:=zeroValue4,t5:=underlying5,a5:=isAgg5,z5:=sizeOf5,v5:=zeroValue5,t9:=underlying9,a9:=isAgg9,z9:=sizeOf9,v9:=zeroValue9,t46:=underlying284,a46:=isAgg284,z46:=sizeOf284,v46:=zeroValue284,t51:=underlying224,a51:=isAgg224,z51:=sizeOf224,v51:=zeroValue224,t146:=underlying343,a146:=isAgg343,z146:=sizeOf343,v146:=zeroValue343,g1:=by kernel_rfl,i3:=by kernel_rfl,i4:=by kernel_rfl,i5:=by kernel_rfl,i9:=by kernel_rfl,i46:=by kernel_rfl,i51:=by kernel_rfl,i146:=by kernel_rfl,m1:=by kernel_rfl,s1_3:=fun w h=>Go.Proofs.cell_of_shapedOpen_int (zero:= #[.int .i64 0]) (t:=3) h (of_decide_eq_true (by kernel_rfl)) (by kernel_rfl) rfl (by kernel_rfl) (by kernel_rfl) underlying3}
def Tryz.lays206_ren:Go.Shelf.Ren:=⟨fun|206=>284|n=>n,fun|9=>9|4=>4|3=>3|n=>n,fun|n=>n⟩
theorem Tryz.lays206:Go.Proofs.Lays.n206 prog Tryz.lays206_ren:={mixed:=by kernel_rfl,f206:=qC func284,t3:=underlying3,a3:=isAgg3,z3:=sizeOf3,v3:=zeroValue3,t4:=underlying4,a4:=isAgg4,z4:=sizeOf4,v4:=zeroValue4,t9:=underlying9,a9:=isAgg9,z9:=sizeOf9,v9:=zeroValue9}
open Go.RowKit Go.Lib in theorem Tryz.stringslite_HasPrefix(s p:ByteArray)(w:World):Calls prog 284 #[.string s,.string p] w fun e w'=>e= .returned (.bool (Lib.hasPrefix s.data.toList p.data.toList))∧w'=w:=Any.stringslite_HasPrefix Tryz.lays206 s p w
def Tryz.lays102_ren:Go.Shelf.Ren:=⟨fun|102=>209|209=>247|207=>273|n=>n,fun|9=>9|4=>4|3=>3|n=>n,fun|n=>n⟩
theorem Tryz.lays102:Go.Proofs.Lays.n102 prog Tryz.lays102_ren:={mixed:=by kernel_rfl,f102:=qC func209,f207:=qC func273,f209:=qC func247,t3:=underlying3,a3:=isAgg3,z3:=sizeOf3,v3:=zeroValue3,t4:=underlying4,a4:=isAgg4,z4:=sizeOf4,v4:=zeroValue4,t9:=underlying9,a9:=isAgg9,z9:=sizeOf9,v9:=zeroValue9}
open Go.RowKit Go.Lib in theorem Tryz.strings_TrimSuffix(s p:ByteArray)(w:World)(hs:s.size≤9223372036854775807):Calls prog 209 #[.string s,.string p] w fun e w'=>e= .returned (.string ⟨(Lib.trimSuffix s.data.toList p.data.toList).toArray⟩)∧w'=w:=Any.strings_TrimSuffix Tryz.lays102 s p w hs
def Tryz.lays105_ren:Go.Shelf.Ren:=⟨fun|105=>236|212=>266|99=>267|165=>268|166=>56|170=>182|169=>57|263=>286|264=>287|206=>284|240=>119|241=>288|276=>183|277=>296|n=>n,fun|9=>9|3=>3|4=>4|20=>20|0=>0|46=>284|109=>345|5=>5|72=>123|76=>128|51=>224|146=>343|53=>31|148=>358|70=>120|37=>121|75=>127|127=>215|164=>278|80=>131|n=>n,fun|n=>n⟩
theorem Tryz.lays105:Go.Proofs.Lays.n105 prog Tryz.lays105_ren:={mixed:=by kernel_rfl,f99:=qC func267,f105:=qC func236,f165:=qC func268,f166:=qC func56,f169:=qC func57,f170:=qC func182,f206:=qC func284,f212:=qC func266,f240:=qC func119,f241:=qC func288,f263:=qC func286,f264:=qC func287,f276:=qC func183,f277:=qC func296,t0:=underlying0,a0:=isAgg0,z0:=sizeOf0,v0:=zeroValue0,t3:=underlying3,a3:=isAgg3,z3:=sizeOf3,v3:=zeroValue3,t4:=underlying4,a4:=isAgg4,z4:=sizeOf4,v4:=zeroValue4,t5:=underlying5,a5:=isAgg5,z5:=sizeOf5,v5:=zeroValue5,t9:=underlying9,a9:=isAgg9,z9:=sizeOf9,v9:=zeroValue9,t20:=underlying20,a20:=isAgg20,z20:=sizeOf20,v20:=zeroValue20,t37:=underlying121,a37:=isAgg121,z37:=sizeOf121,v37:=zeroValue121,t46:=underlying284,a46:=isAgg284,z46:=sizeOf284,v46:=zeroValue284,t51:=underlying224,a51:=isAgg224,z51:=sizeOf224,v51:=zeroValue224,t53:=underlying31,a53:=isAgg31,z53:=sizeOf31,v53:=zeroValue31,t70:=underlying120,a70:=isAgg120,z70:=sizeOf120,v70:=zeroValue120,t72:=underlying123,a72:=isAgg123,z72:=sizeOf123,v72:=zeroValue123,t75:=underlying127,a75:=isAgg127,z75:=sizeOf127,v75:=zeroValue127,t76:=underlying128,a76:=isAgg128,z76:=sizeOf128,v76:=zeroValue128,t109:=underlying345,a109:=isAgg345,z109:=sizeOf345,v109:=zeroValue345,t127:=underlying215,a127:=isAgg215,z127:=sizeOf215,v127:=zeroValue215,t146:=underlying343,a146:=isAgg343,z146:=sizeOf343,v146:=zeroValue343,t148:=underlying358,a148:=isAgg358,z148:=sizeOf358,v148:=zeroValue358,t164:=underlying278,a164:=isAgg278,z164:=sizeOf278,v164:=zeroValue278}
theorem Tryz.Builder_Extra_105:Builder.Extra prog Tryz.lays105_ren:={sizeBuilder:=by kernel_rfl,liesBuilder:=by kernel_rfl,t5:=underlying5,a5:=isAgg5,z5:=sizeOf5,v5:=zeroValue5,infoByte:=by kernel_rfl,cellsByte:=by kernel_rfl,sizeByte:=by kernel_rfl,neB5:=by decide}
open Go.RowKit Go.Lib in theorem Tryz.strings_Repeat(s:ByteArray)(c:Nat)(w:World)(hc:c≤9223372036854775807)(hlen:s.size*c≤140737488355328):Calls prog 236 #[.string s,.int .i64 c] w fun e w'=>e= .returned (.string ⟨(Lib.repeatL s.data.toList c).toArray⟩)∧Below w.heap.size w w':=Any.strings_Repeat Tryz.lays105 Tryz.Builder_Extra_105 s c w hc hlen
def Tryz.lays107_ren:Go.Shelf.Ren:=⟨fun|107=>181|108=>228|n=>n,fun|28=>68|3=>3|4=>4|0=>0|n=>n,fun|n=>n⟩
theorem Tryz.lays107:Go.Proofs.Lays.n107 prog Tryz.lays107_ren:={mixed:=by kernel_rfl,f107:=qC func181,f108:=qC func228,t0:=underlying0,a0:=isAgg0,z0:=sizeOf0,v0:=zeroValue0,t3:=underlying3,a3:=isAgg3,z3:=sizeOf3,v3:=zeroValue3,t4:=underlying4,a4:=isAgg4,z4:=sizeOf4,v4:=zeroValue4,t28:=underlying68,a28:=isAgg68,z28:=sizeOf68,v28:=zeroValue68}
open Go.Lib in theorem Tryz.slices_Contains_int(b off n c:Nat)(zs:List Int)(x:Int)(w:World)(hz:n≤zs.length)(hbig:n≤9223372036854775807)(hc:∀j,j<zs.length→w.cell? ⟨b,off+j,none⟩=some (.int .i64 (zs.getD j 0))):Calls prog 181 #[.slice (some ⟨b,off,none⟩) n c,.int .i64 x] w fun e w'=>e= .returned (.bool ((zs.take n).contains x))∧w'=w:=Any.slices_Contains_int Tryz.lays107 b off n c zs x w hz hbig hc
def Tryz.laysSlE041_f251_ren:Go.Shelf.Ren:=⟨fun|41=>251|n=>n,fun|22=>22|23=>9|4=>4|n=>n,fun|n=>n⟩
theorem Tryz.laysSlE041_f251:Go.Proofs.SlLaysE0.n41 prog Tryz.laysSlE041_f251_ren:={mixed:=by kernel_rfl,f41:=⟨Tryz.f251.name,by decide,qC func251⟩,t4:=underlying4,a4:=isAgg4,z4:=sizeOf4,v4:=zeroValue4,t22:=underlying22,a22:=isAgg22,z22:=sizeOf22,v22:=zeroValue22}
open Go.RowKit Go.Lib in theorem Tryz.slices_Clone_f251(i0:TypeInfo)(z:Value)(size bytes:Nat)(hi:prog.info? 9=some i0)(hz0:i0.zero=some z)(hz1:i0.size=size)(hz2:i0.bytes=bytes)(hzs:z.cells.size=size)(hsz:0<size)(z23:∀w,(Go.sizeOf 9).run prog w= .ok size w)(b off n c:Nat)(news:List Value)(w:World)(hl:news.length=n*size)(hn:n≤maxLen)(hbig:n*bytes≤140737488355328)(hc:∀j u,news[j]? =some u→w.cell? ⟨b,off+j,none⟩=some u)(h1:∀u∈news,u.oneCell'=true):Calls prog 251 #[.slice (some ⟨b,off,none⟩) n c] w fun e w'=>∃v',e= .returned v'∧w'.ownsRow w.heap.size 9 size v' n news∧v'≠ .slice none 0 0∧Below w.heap.size w w':=AnyE.slices_Clone Tryz.laysSlE041_f251 i0 z size bytes hi hz0 hz1 hz2 hzs hsz z23 b off n c news w hl hn hbig hc h1
def Tryz.laysSlE041_f252_ren:Go.Shelf.Ren:=⟨fun|41=>252|n=>n,fun|22=>68|23=>3|4=>4|n=>n,fun|n=>n⟩
theorem Tryz.laysSlE041_f252:Go.Proofs.SlLaysE0.n41 prog Tryz.laysSlE041_f252_ren:={mixed:=by kernel_rfl,f41:=⟨Tryz.f252.name,by decide,qC func252⟩,t4:=underlying4,a4:=isAgg4,z4:=sizeOf4,v4:=zeroValue4,t22:=underlying68,a22:=isAgg68,z22:=sizeOf68,v22:=zeroValue68}
open Go.RowKit Go.Lib in theorem Tryz.slices_Clone_f252(i0:TypeInfo)(z:Value)(size bytes:Nat)(hi:prog.info? 3=some i0)(hz0:i0.zero=some z)(hz1:i0.size=size)(hz2:i0.bytes=bytes)(hzs:z.cells.size=size)(hsz:0<size)(z23:∀w,(Go.sizeOf 3).run prog w= .ok size w)(b off n c:Nat)(news:List Value)(w:World)(hl:news.length=n*size)(hn:n≤maxLen)(hbig:n*bytes≤140737488355328)(hc:∀j u,news[j]? =some u→w.cell? ⟨b,off+j,none⟩=some u)(h1:∀u∈news,u.oneCell'=true):Calls prog 252 #[.slice (some ⟨b,off,none⟩) n c] w fun e w'=>∃v',e= .returned v'∧w'.ownsRow w.heap.size 3 size v' n news∧v'≠ .slice none 0 0∧Below w.heap.size w w':=AnyE.slices_Clone Tryz.laysSlE041_f252 i0 z size bytes hi hz0 hz1 hz2 hzs hsz z23 b off n c news w hl hn hbig hc h1
end Go.Proofs
namespace Go.Proofs.YtaokjeokpifjgaaGreatDoor
section
abbrev QB := ByteArray
theorem Qn (n : Nat) : n ≤ n := Nat.le_refl n
theorem Qc {w : World} {b : Nat} {cs : Array Value} {T : TypeId} {fr : Nat × Nat} (hb : w.heap[b]? = some (.cells cs T fr)) (j : Nat) : w.cell? ⟨b, j, none⟩ = cs[j]? := Lib.cell_of_heap hb j
theorem Ql {α : Type _} {xs ys : List α} : (xs ++ ys).length = xs.length + ys.length := List.length_append
theorem Qa {α : Type _} (xs ys zs : List α) : xs ++ ys ++ zs = xs ++ (ys ++ zs) := List.append_assoc xs ys zs
theorem Qg {α : Type _} {l : List α} {i : Nat} (h : i < l.length) : l[i]? = some l[i] := List.getElem?_eq_getElem h
theorem Qm {α : Type _} {a : α} {xs : List α} (ys : List α) (h : a ∈ xs) : a ∈ xs ++ ys := List.mem_append_left ys h
theorem Qr {α : Type _} {b : α} (xs : List α) {ys : List α} (h : b ∈ ys) : b ∈ xs ++ ys := List.mem_append_right xs h
theorem Qt {n m k : Nat} (h : n < m) (g : m ≤ k) : n < k := Nat.lt_of_lt_of_le h g
theorem Qk {α : Type _} {i : Nat} {l : List α} (h : l.length ≤ i) : List.take i l = l := List.take_of_length_le h
theorem Hd{p:Prop}(h:p):RowKit.Hid p:=Lib.hid h
theorem Gl{a:Type}{xs:Array a}{i:Nat}{x:a}(h:xs[i]? =some x):i<xs.size:=(Array.getElem?_eq_some_iff.1 h).1
open Go.RowKit Go.MapKept
theorem qB{w u:World}{k:Nat}{o:Obj}(h:Below w.heap.size w u)(e:w.heap[k]? =some o):u.heap[k]? =some o:=(h.block _ (Gl e)).trans e
theorem qT{a b c:World}(h:Below a.heap.size a b)(k:Below b.heap.size b c):Below a.heap.size a c:=h.trans (k.mono h.size)
theorem qA{w:World}{o:Obj}:Below w.heap.size w (w.alloc o):=(Below.refl _ _).alloc (Qn _) _
theorem qN{α:Type _}(a:α):∃b,a=b:=⟨_,rfl⟩
theorem qH(w:World)(o:Obj):(w.alloc o).heap[w.heap.size]? =some o:=heap_alloc_new w o
theorem qO{w:World}{B:Nat}{e:TypeId}{n:Nat}:w.ownsRow B e n (.slice none 0 0) 0 []:=World.ownsRow_nil _ _ _ _
open Go.ChangeMaps (setBlock heap_setBlock_same heap_setBlock_other)
open Go.Maps (Keyed)
structure Keep(S:Nat→Prop)(w w':World):Prop where
 os:w'.os=w.os
 tape:w'.tape=w.tape
 output:w'.output=w.output
 size:w.heap.size≤w'.heap.size
 block:∀k,k<w.heap.size→¬S k→w'.heap[k]? =w.heap[k]?
theorem Keep.refl(S:Nat→Prop)(w:World):Keep S w w:=⟨rfl,rfl,rfl,Qn _,fun _ _ _=>rfl⟩
theorem Keep.trans{S S':Nat→Prop}{a b c:World}(h:Keep S a b)(k:Keep S' b c)(hs:∀i,i<a.heap.size→S' i→S i):Keep S a c:=⟨k.os.trans h.os,k.tape.trans h.tape,k.output.trans h.output,Nat.le_trans h.size k.size,fun i hi hn=>(k.block i (Qt hi h.size) (fun e=>hn (hs i hi e))).trans (h.block i hi hn)⟩
theorem Keep.mono{S S':Nat→Prop}{a b:World}(h:Keep S a b)(hs:∀i,i<a.heap.size→S i→S' i):Keep S' a b:=(Keep.refl S' a).trans h hs
theorem Keep.ofBelow{S:Nat→Prop}{w w':World}(h:Below w.heap.size w w'):Keep S w w':=⟨h.os,h.tape,h.output,h.size,fun k hk _=>h.block k hk⟩
theorem Keep.below{S:Nat→Prop}{w w':World}{B:Nat}(h:Keep S w w')(hB:B≤w.heap.size)(hs:∀i,i<B→¬S i):Below B w w':=⟨h.os,h.tape,h.output,h.size,fun k hk=>h.block k (by omega) (hs k hk)⟩
theorem Keep.alloc{S:Nat→Prop}{a w:World}(h:Keep S a w)(o:Obj):Keep S a (w.alloc o):=h.trans (Keep.ofBelow ((Below.refl _ _).alloc (Qn _) o)) (S':=S) (fun _ _ h=>h)
theorem Keep.drew{S:Nat→Prop}{a w:World}(h:Keep S a w):Keep S a w.drew:=⟨h.os,h.tape,h.output,h.size,h.block⟩
theorem Keep.setCell{S:Nat→Prop}{a w:World}(h:Keep S a w){p:Addr}(hp:p.block<a.heap.size→S p.block)(u:Value):Keep S a (w.setCell p u):=h.trans (S':=fun k=>k=p.block) ⟨rfl,rfl,rfl,by simp[World.setCell],fun k hk hn=>Below.heap_setCell _ _ _ _ hn⟩ (fun i hi e=>e▸hp (e▸hi))
theorem Keep.grown{S:Nat→Prop}{a w w':World}{row:Option Nat}(h:Keep S a w)(hg:w.grownBy w' row)(hr:∀k,k<a.heap.size→row=some k→S k):Keep S a w':=h.trans (S':=fun k=>row=some k) ⟨hg.os,hg.tape,hg.output,hg.size,fun k hk hn=>hg.block k hk (fun e=>hn e.symm)⟩ (fun i hi e=>hr i hi e)
theorem Keep.at{S:Nat→Prop}{w w':World}(h:Keep S w w'){b:Nat}{o:Obj}(hb:w.heap[b]? =some o)(hn:¬S b):w'.heap[b]? =some o:=(h.block b (Gl hb) hn).trans hb
def IMap(w:World)(b:Nat)(g:Int→Option Value)(n:Nat):Prop:=∃es clock,w.heap[b]? =some (.map es clock)∧Stamped es clock∧es.size=n∧(∀x∈es.toList,∃i,x.key= .int .i64 i∧(Lit.int .i64 i).wf=true)∧∀i v,g i=some v↔∃x∈es.toList,x.key= .int .i64 i∧x.val=v
section
variable {P : Program} {k : TypeId} {w : World} {b n : Nat} {g : Int → Option Value}
theorem IMap.lt(h:IMap w b g n):b<w.heap.size:=by
 obtain⟨es,c,hb,_⟩:=h
 exact(Gl hb)
theorem IMap.congr(h:IMap w b g n){w':World}(hb:w'.heap[b]? =w.heap[b]?):IMap w' b g n:=by
 obtain⟨es,c,hb',r⟩:=h
 exact⟨es,c,hb.trans hb',r⟩
theorem IMap.keep(h:IMap w b g n){S:Nat→Prop}{w':World}(hk:Keep S w w')(hn:¬S b):IMap w' b g n:=h.congr (hk.block b h.lt hn)
theorem keyOf_i64(hk:P.underlying k=some (.int .i64)){i:Int}(hi:(Lit.int .i64 i).wf=true):keyOf P k (.int .i64 i)=some (.int .i64 i):=by
 simp[keyOf,mapKey,hk,hi]
theorem zP4{p:Prop}(h:p:=by obtain⟨j,h1,h2⟩:=hkeys x hx;exact⟨_,h1▸keyOf_i64 hk h2⟩):p:=h
theorem zP5{p:Prop}(h:p:=by cases hgi:g i with|none=>rfl|some v=>obtain⟨x,hx,hxk,_⟩:=(hg i v).1 hgi;exact absurd hxk (h2 x hx)):p:=h
theorem IMap.run_lookup(h:IMap w b g n)(hk:P.underlying k=some (.int .i64)){t e:TypeId}(ht:P.underlying t=some (.map k e)){z:Value}(hz:(zeroValue e).run P w= .ok z w){i:Int}(hi:(Lit.int .i64 i).wf=true)(c:Bool):(Instr.lookup t (.map (some b)) (.int .i64 i) c).run P w= .ok (if c then .tuple #[(g i).getD z,.bool (g i).isSome]else(g i).getD z) w:=by
 obtain⟨es,clock,hb,hs,hn,hkeys,hg⟩:=h
 have K:Keyed P k:=Maps.int_keyed hk
 have hkey:=keyOf_i64 hk hi
 rcases K.find w hkey es.toList (fun x hx=>by exact zP4)with⟨h1,h2⟩|⟨j,e0,h1,h2,h3⟩
 ·(have:g i=none:=by exact zP5);simp[Instr.lookup,run_underlying ht,MapKept.run_getObj_map hb,K.check w _ hkey,h1,hz,Result.andThen,this]
 ·have:g i=some e0.val:=(hg i _).2 ⟨e0,List.mem_of_getElem? h2,h3,rfl⟩;simp[Instr.lookup,run_underlying ht,MapKept.run_getObj_map hb,K.check w _ hkey,h1,Result.andThen,this]
def putAt(g:Int→Option Value)(i:Int)(v:Value):Int→Option Value:=fun j=>if j=i then some v else g j
def zGO(g:Int→Option Value)(i:Int):Int→Option Value:=fun j=>if j=i then none else g j
theorem yw{b:Nat}(hb:b<w.heap.size)(o:Obj):Keep (·=b) w (setBlock w b o):=⟨rfl,rfl,rfl,by simp[setBlock],fun i _ hi=>(heap_set (Array.getElem?_eq_getElem hb)).2 i hi⟩
theorem IMap.run_update(h:IMap w b g n)(hk:P.underlying k=some (.int .i64)){t e:TypeId}(ht:P.underlying t=some (.map k e)){i:Int}(hi:(Lit.int .i64 i).wf=true)(v:Value):∃w',(Instr.mapUpdate t (.map (some b)) (.int .i64 i) v).run P w= .ok () w'∧IMap w' b (putAt g i v) (if(g i).isSome then n else n+1)∧Keep (·=b) w w'∧w'.heap.size=w.heap.size∧w'.drawn=w.drawn:=by
 have hlt:=h.lt
 obtain⟨es,clock,hb,hs,hn,hkeys,hg⟩:=h
 have K:Keyed P k:=Maps.int_keyed hk
 have hkey:=keyOf_i64 hk hi
 rcases K.find w hkey es.toList (fun x hx=>by exact zP4)with⟨h1,h2⟩|⟨j,e0,h1,h2,h3⟩
 ·(have hgi:g i=none:=by exact zP5);refine⟨setBlock w b (.map (es.push ⟨.int .i64 i,v,clock⟩) (clock+1)),?_,⟨_,_,heap_setBlock_same hb _,stamped_push hs h2,?_,?_,?_⟩,yw hlt _,?_,?_⟩;(·simp[Instr.mapUpdate,run_underlying ht,MapKept.run_getObj_map hb,K.check w false hkey,h1,MapKept.run_setObj_map _ hb,Result.andThen,setBlock]);(·simp[hgi,hn]);(·intro x hx;simp only[Array.toList_push,List.mem_append,List.mem_singleton]at hx;rcases hx with hx|rfl;(·exact hkeys x hx);·exact⟨i,rfl,hi⟩);(·intro j u;simp only[putAt,Array.toList_push,List.mem_append,List.mem_singleton];by_cases hj:j=i;(·subst hj;simp only[if_true,Option.some.injEq];constructor;(·rintro rfl;exact⟨_,Or.inr rfl,rfl,rfl⟩);·rintro⟨x,hx|rfl,hxk,hxv⟩;(·exact absurd hxk (h2 x hx));·exact hxv);·rw[if_neg hj,hg];constructor;(·rintro⟨x,hx,hxk,hxv⟩;exact⟨x,Or.inl hx,hxk,hxv⟩);·rintro⟨x,hx|rfl,hxk,hxv⟩;(·exact⟨x,hx,hxk,hxv⟩);·simp at hxk;exact absurd hxk.symm hj);(·simp[setBlock]);·simp[setBlock]
 ·have hm:e0∈es.toList:=List.mem_of_getElem? h2;have hgi:g i=some e0.val:=(hg i _).2 ⟨e0,hm,h3,rfl⟩;(have hje:es[j]? =some e0:=by rw[←Array.getElem?_toList];exact h2);have hjs:j<es.size:=(Gl hje);(have hk0:∀e,es[j]? =some e→({e with key:=Value.int .i64 i,val:=v}:MapEntry).key=e.key:=fun e he=>by rw[hje]at he;cases he;exact h3.symm);have hkk:=modify_keys (es:=es) j (fun e=>{e with key:=Value.int .i64 i,val:=v}) hk0;(have hmem:∀x,x∈(es.modify j (fun e=>{e with key:=Value.int .i64 i,val:=v})).toList↔(x∈es.toList∧x.key≠ .int .i64 i)∨x={e0 with key:=.int .i64 i,val:=v}:=by intro x;have hnd:=((stamped_iff es clock).1 hs).2.2;rw[List.mem_iff_getElem?,List.mem_iff_getElem?];(have hget:∀a:Nat,(es.modify j (fun e=>{e with key:=Value.int .i64 i,val:=v})).toList[a]? =if j=a then es[a]?.map (fun e=>{e with key:=Value.int .i64 i,val:=v})else es[a]? :=fun a=>by rw[Array.getElem?_toList,Array.getElem?_modify]);constructor;(·rintro⟨a,ha⟩;rw[hget]at ha;by_cases hja:j=a;(·subst hja;rw[if_pos rfl,hje]at ha;simp at ha;exact Or.inr ha.symm);·rw[if_neg hja]at ha;refine Or.inl ⟨⟨a,by rw[Array.getElem?_toList];exact ha⟩,fun hxk=> ?_⟩;(have hal:a<es.toList.length:=by simpa using(Gl ha));(have hjl:j<es.toList.length:=by simpa using hjs);(have e1:es.toList[a]=x:=by have:=(Array.getElem?_eq_some_iff.1 ha).2;simpa using this);(have e2:es.toList[j]=e0:=by have:=(Array.getElem?_eq_some_iff.1 hje).2;simpa using this);rw[List.pairwise_iff_getElem]at hnd;rcases Nat.lt_or_gt_of_ne hja with hlt'|hlt';(·exact hnd j a hjl hal hlt' (by rw[e1,e2,h3,hxk]));·exact hnd a j hal hjl hlt' (by rw[e1,e2,h3,hxk]));·rintro(⟨⟨a,ha⟩,hxk⟩|rfl);(·refine⟨a,?_⟩;rw[hget,if_neg,←Array.getElem?_toList];exact ha;rintro rfl;rw[h2]at ha;cases ha;exact hxk h3);·exact⟨j,by rw[hget,if_pos rfl,hje];rfl⟩);refine⟨setBlock w b (.map (es.modify j (fun e=>{e with key:=.int .i64 i,val:=v})) clock),?_,⟨_,_,heap_setBlock_same hb _,stamped_modify hs j _ (fun _ _=>rfl) (fun e _ he=>hk0 e he),?_,?_,?_⟩,yw hlt _,?_,?_⟩;(·(have hg0:((es[j]?).map (·.key)).getD (.int .i64 i)= .int .i64 i:=by rw[hje];simpa using h3);simp[Instr.mapUpdate,run_underlying ht,MapKept.run_getObj_map hb,K.check w false hkey,h1,hg0,K.stays w hkey,MapKept.run_setObj_map _ hb,Result.andThen,setBlock]);(·simp[hgi,hn]);(·intro x hx;rcases(hmem x).1 hx with⟨hx,_⟩|rfl;(·exact hkeys x hx);·exact⟨i,rfl,hi⟩);(·intro a u;simp only[putAt];by_cases ha:a=i;(·subst ha;simp only[if_true,Option.some.injEq];constructor;(·rintro rfl;exact⟨_,(hmem _).2 (Or.inr rfl),rfl,rfl⟩);·rintro⟨x,hx,hxk,hxv⟩;rcases(hmem x).1 hx with⟨_,hne⟩|rfl;(·exact absurd hxk hne);·exact hxv);·rw[if_neg ha,hg];constructor;(·rintro⟨x,hx,hxk,hxv⟩;exact⟨x,(hmem x).2 (Or.inl ⟨hx,by rw[hxk];simpa using ha⟩),hxk,hxv⟩);·rintro⟨x,hx,hxk,hxv⟩;rcases(hmem x).1 hx with⟨hx,_⟩|rfl;(·exact⟨x,hx,hxk,hxv⟩);·simp at hxk;exact absurd hxk.symm ha);(·simp[setBlock]);·simp[setBlock]
theorem zRL{p:Prop}(h:p:=by simp[Builtin.delete_,run_underlying ht,MapKept.run_getObj_map hb,K.check w _ hkey,h1,MapKept.run_setObj_map _ hb,Result.andThen,setBlock]):p:=h
theorem IMap.run_delete(h:IMap w b g n)(hk:P.underlying k=some (.int .i64)){t e ty:TypeId}(ht:P.underlying t=some (.map k e)){i:Int}(hi:(Lit.int .i64 i).wf=true):∃w',(Builtin.delete_ #[t,k] ty #[.map (some b),.int .i64 i]).run P w= .ok (.tuple #[]) w'∧IMap w' b (zGO g i) (if(g i).isSome then n-1 else n)∧Keep (·=b) w w'∧w'.heap.size=w.heap.size∧w'.drawn=w.drawn:=by
 have hlt:=h.lt
 obtain⟨es,clock,hb,hs,hn,hkeys,hg⟩:=h
 have K:Keyed P k:=Maps.int_keyed hk
 have hkey:=keyOf_i64 hk hi
 rcases K.find w hkey es.toList (fun x hx=>by exact zP4)with⟨h1,h2⟩|⟨j,e0,h1,h2,h3⟩
 ·(have hgi:g i=none:=by exact zP5);refine⟨setBlock w b (.map es clock),?_,⟨_,_,heap_setBlock_same hb _,hs,?_,hkeys,?_⟩,yw hlt _,?_,?_⟩;(·exact zRL);(·simp[hgi,hn]);(·intro a u;simp only[zGO];by_cases ha:a=i;(·subst ha;simp only[if_true,reduceCtorEq,false_iff];rintro⟨x,hx,hxk,_⟩;exact h2 x hx hxk);·rw[if_neg ha,hg]);(·simp[setBlock]);·simp[setBlock]
 ·have hm:e0∈es.toList:=List.mem_of_getElem? h2;have hgi:g i=some e0.val:=(hg i _).2 ⟨e0,hm,h3,rfl⟩;have hjl:j<es.toList.length:=(List.getElem?_eq_some_iff.1 h2).1;(have hjs:j<es.size:=by simpa using hjl);(have hsub:(es.eraseIdxIfInBounds j).toList=es.toList.eraseIdx j:=by unfold Array.eraseIdxIfInBounds;rw[dif_pos hjs];simp);have hnd:=((stamped_iff es clock).1 hs).2.2;(have hmem:∀x,x∈(es.eraseIdxIfInBounds j).toList↔x∈es.toList∧x.key≠ .int .i64 i:=by intro x;rw[hsub,List.mem_eraseIdx_iff_getElem?];rw[List.pairwise_iff_getElem]at hnd;have e2:es.toList[j]=e0:=(List.getElem?_eq_some_iff.1 h2).2;constructor;(·rintro⟨a,hne,ha⟩;refine⟨List.mem_of_getElem? ha,fun hxk=> ?_⟩;obtain⟨hal,e1⟩:=List.getElem?_eq_some_iff.1 ha;rcases Nat.lt_or_gt_of_ne hne with hlt'|hlt';(·exact hnd a j hal hjl hlt' (by rw[e1,e2,h3,hxk]));·exact hnd j a hjl hal hlt' (by rw[e1,e2,h3,hxk]));·rintro⟨hx,hne⟩;obtain⟨a,ha⟩:=List.mem_iff_getElem?.1 hx;refine⟨a,?_,ha⟩;rintro rfl;rw[h2]at ha;cases ha;exact hne h3);refine⟨setBlock w b (.map (es.eraseIdxIfInBounds j) clock),?_,⟨_,_,heap_setBlock_same hb _,stamped_erase hs j,?_,?_,?_⟩,yw hlt _,?_,?_⟩;(·exact zRL);(·(have:(es.eraseIdxIfInBounds j).toList.length=n-1:=by rw[hsub,List.length_eraseIdx_of_lt hjl];simp[hn]);rw[Array.length_toList]at this;simpa[hgi]using this);(·intro x hx;exact hkeys x ((hmem x).1 hx).1);(·intro a u;simp only[zGO];by_cases ha:a=i;(·subst ha;simp only[if_true,reduceCtorEq,false_iff];rintro⟨x,hx,hxk,_⟩;exact((hmem x).1 hx).2 hxk);·rw[if_neg ha,hg];constructor;(·rintro⟨x,hx,hxk,hxv⟩;exact⟨x,(hmem x).2 ⟨hx,by rw[hxk];simpa using ha⟩,hxk,hxv⟩);·rintro⟨x,hx,hxk,hxv⟩;exact⟨x,((hmem x).1 hx).1,hxk,hxv⟩);(·simp[setBlock]);·simp[setBlock]
end
theorem zRM{p:Prop}(h:p:=by have:=qH (w.alloc o1) o2;rwa [World.size_alloc]at this):p:=h
theorem zRN{p:Prop}(h:p:=by refine⟨?_,?_,?_,?_⟩;(·rw[Below.heap_alloc _ _ _ (by simp;omega),Below.heap_alloc _ _ _ (by simp),qH]);(·rw[Below.heap_alloc _ _ _ (by simp)];exact zRM);(·have:=qH ((w.alloc o1).alloc o2) o3;rwa [World.size_alloc,World.size_alloc]at this);·exact((qA).alloc (by simp) _).alloc (by simp;omega) _):p:=h
theorem new3(w:World)(o1 o2 o3:Obj):(((w.alloc o1).alloc o2).alloc o3).heap[w.heap.size]? =some o1∧(((w.alloc o1).alloc o2).alloc o3).heap[w.heap.size+1]? =some o2∧(((w.alloc o1).alloc o2).alloc o3).heap[w.heap.size+1+1]? =some o3∧Below w.heap.size w (((w.alloc o1).alloc o2).alloc o3):=by
 exact zRN
theorem zAZ{w:World}{b:Nat}(h:w.heap[b]? =some (.map #[] 0)):IMap w b (fun _=>none) 0:=⟨#[],0,h,stamped_empty 0,rfl,by simp,by simp⟩
theorem zv{n:Int}(h1: -9223372036854775808≤n)(h2:n≤9223372036854775807):IntKind.i64.wrap n=n:=by
 rw[IntKind.wrap_i64]
 omega
def bs(l:List UInt8):QB:=⟨l.toArray⟩
theorem kX(l:List UInt8):(bs l).size=l.length:=by
 simp[bs,ByteArray.size]
theorem zKY(s:QB):bs s.data.toList=s:=by
 unfold bs
 simp
theorem zN1(l:List UInt8):(bs l).data.toList=l:=by
 simp[bs]
theorem zD6(l:List UInt8)(i j:Nat):(bs l).extract i j=bs ((l.take j).drop i):=by
 apply ByteArray.ext
 apply Array.toList_inj.1
 rw[ByteArray.data_extract]
 simp[bs,List.drop_take]
theorem zN2(a b:List UInt8):(bs (a++b)).extract 0 a.length=bs a:=by
 rw[zD6,List.take_left' rfl,List.drop_zero]
theorem zN3(a b:List UInt8)(n:Nat)(hn:n=(a++b).length):(bs (a++b)).extract a.length n=bs b:=by
 rw[zD6,hn,List.take_length,List.drop_left' rfl]
def be4(n:Nat):List UInt8:=[UInt8.ofNat (n/16777216),UInt8.ofNat (n/65536),UInt8.ofNat (n/256),UInt8.ofNat n]
def beN(l:List UInt8):Nat:=l.foldl (fun x c=>x*256+c.toNat) 0
theorem zCE(l:List UInt8)(c:UInt8):beN (l++[c])=beN l*256+c.toNat:=by
 unfold beN
 rw[List.foldl_append]
 rfl
theorem zIt(l:List UInt8):beN l<256^l.length:=by
 have h:∀(n:Nat)(l:List UInt8),l.length=n→beN l<256^n:=by intro n;induction n with|zero=>intro l h;rw[List.length_eq_zero_iff.1 h];decide|succ n ih=>intro l h;(have h0:l≠[]:=by intro e;rw[e]at h;cases h);have e:=List.dropLast_concat_getLast h0;rw[←e,zCE];have h1:=ih l.dropLast (by rw[List.length_dropLast];omega);have h2:=(l.getLast h0).toNat_lt;rw[Nat.pow_succ];omega
 exact h _ l rfl
theorem zD7(n:Nat):(UInt8.ofNat n).toNat=n %256:=by
 simp
theorem zN4(n:Nat)(h:n<4294967296):beN (be4 n)=n:=by
 unfold beN be4
 simp only[List.foldl_cons,List.foldl_nil,zD7]
 omega
structure Nd where
 leaf:Bool
 keys:List QB
 vals:List QB
 kids:List Nat
def zAE(s:QB):List UInt8:=UInt8.ofNat s.size::s.data.toList
def zP6(leaf:Bool)(vs:List QB)(cs:List Nat):List UInt8:=if leaf then zAE (vs.headD ⟨#[]⟩)else be4 (cs.headD 0)
def vN(leaf:Bool):List QB→List QB→List Nat→List UInt8|[],_,_=>[]|k::ks,vs,cs=>zAE k++zP6 leaf vs cs++vN leaf ks vs.tail cs.tail
def Nd.bytes(x:Nd):List UInt8:=(if x.leaf then 76 else 78)::UInt8.ofNat (x.keys.length/256)::UInt8.ofNat x.keys.length::vN x.leaf x.keys x.vals x.kids
def Nd.text(x:Nd):QB:=bs x.bytes
def Nd.size(x:Nd):Nat:=x.bytes.length
structure Nd.ok(x:Nd):Prop where
 vals:x.vals.length=if x.leaf then x.keys.length else 0
 kids:x.kids.length=if x.leaf then 0 else x.keys.length
 k96:∀k∈x.keys,k.size≤96
 v56:∀v∈x.vals,v.size≤56
 c32:∀c∈x.kids,c<65536
theorem vO(s:QB):(zAE s).length=1+s.size:=by
 unfold zAE
 rw[List.length_cons,Array.length_toList]
 show s.data.size+1=1+s.data.size
 omega
theorem zIu(leaf:Bool)(k:QB)(ks vs:List QB)(cs:List Nat):vN leaf (k::ks) vs cs=zAE k++zP6 leaf vs cs++vN leaf ks vs.tail cs.tail:=rfl
def zHD(leaf:Bool)(k v:QB)(c:Nat):List UInt8:=zAE k++(if leaf then zAE v else be4 c)
theorem zRO{p:Prop}(h:p:=by rw[List.headD_eq_head?_getD,List.head?_drop,List.getD_eq_getElem?_getD]):p:=h
theorem zD8(leaf:Bool)(ks vs:List QB)(cs:List Nat)(i:Nat)(hi:i<ks.length):vN leaf (ks.drop i) (vs.drop i) (cs.drop i)=zHD leaf ks[i] (vs.getD i ⟨#[]⟩) (cs.getD i 0)++vN leaf (ks.drop (i+1)) (vs.drop (i+1)) (cs.drop (i+1)):=by
 rw[List.drop_eq_getElem_cons hi,zIu,List.tail_drop,List.tail_drop]
 unfold zHD zP6
 have h1:(vs.drop i).headD ⟨#[]⟩=vs.getD i ⟨#[]⟩:=by exact zRO
 have h2:(cs.drop i).headD 0=cs.getD i 0:=by exact zRO
 rw[h1,h2]
theorem kY(leaf:Bool)(k v:QB)(c:Nat):(zHD leaf k v c).length=1+k.size+(if leaf then 1+v.size else 4):=by
 unfold zHD
 rw[Ql,vO]
 cases leaf
 ·rfl
 ·simp only[if_true];rw[vO]
def bLt(a b:QB):Prop:=a.data.toList<b.data.toList
instance(a b:QB):Decidable (bLt a b):=inferInstanceAs(Decidable (a.data.toList<b.data.toList))
theorem zQ(a:QB):¬bLt a a:=List.lt_irrefl _
theorem zV{a b c:QB}(h:bLt a b)(k:bLt b c):bLt a c:=List.lt_trans h k
theorem xX(a b:QB):bLt a b∨a=b∨bLt b a:=by
 by_cases h:bLt a b
 ·exact .inl h
 ·by_cases k:bLt b a;(·exact .inr (.inr k));·refine .inr (.inl (ByteArray.ext (Array.toList_inj.1 ?_)));exact List.le_antisymm (List.not_lt.1 k) (List.not_lt.1 h)
theorem yB{a b:QB}(h:bLt a b):¬bLt b a:=fun k=>zQ a (zV h k)
theorem zBr{a b c:QB}(h:¬bLt b a)(k:bLt b c):bLt a c:=by
 rcases xX a b with e|e|e
 ·exact zV e k
 ·rw[e];exact k
 ·exact absurd e h
theorem xS{a b c:QB}(h:bLt a b)(k:¬bLt c b):bLt a c:=by
 rcases xX c b with e|e|e
 ·exact absurd e k
 ·rw[e];exact h
 ·exact zV h e
theorem zA4(a:QB):¬bLt a ⟨#[]⟩:=by
 unfold bLt
 exact List.not_lt_nil _
abbrev KV:=List (QB×QB)
def ins:KV→QB→QB→KV|[],k,v=>[(k,v)]|(a,b)::t,k,v=>if a=k then(k,v)::t else if bLt k a then(k,v)::(a,b)::t else(a,b)::ins t k v
def zAa(l:KV):Prop:=l.Pairwise (fun x y=>bLt x.1 y.1)
theorem zCF{l2:KV}{k:QB}(h:∀x∈l2,bLt k x.1)(v:QB)(l1:KV):ins (l1++l2) k v=ins l1 k v++l2:=by
 induction l1 with|nil=>(cases l2 with|nil=>rfl|cons x t=>have hx:=h x (by simp);obtain⟨a,b⟩:=x;show(if a=k then _ else if bLt k a then _ else _)=_;rw[if_neg (fun e=>by rw[e]at hx;exact zQ _ hx),if_pos hx];rfl)|cons x t ih=>obtain⟨a,b⟩:=x;show(if a=k then _ else if bLt k a then _ else _)=(if a=k then _ else if bLt k a then _ else _)++l2;split;(·rfl);·split;(·rfl);·exact congrArg ((a,b)::·) ih
theorem zAF{l1:KV}{k:QB}(h:∀x∈l1,bLt x.1 k)(v:QB)(l2:KV):ins (l1++l2) k v=l1++ins l2 k v:=by
 induction l1 with|nil=>rfl|cons x t ih=>have hx:=h x (by simp);obtain⟨a,b⟩:=x;show(if a=k then _ else if bLt k a then _ else _)=_;rw[if_neg (fun e=>by rw[e]at hx;exact zQ _ hx),if_neg (yB hx)];exact congrArg ((a,b)::·) (ih (fun y hy=>h y (List.mem_cons_of_mem _ hy)))
theorem zRP{p:Prop}(h:p:=by rcases List.mem_cons.1 h with e|e;(·exact .inl e);·exact .inr (List.mem_cons_of_mem _ e)):p:=h
theorem zRQ{p:Prop}(h:p:=by rcases List.mem_cons.1 h with e|e;(·exact .inl e);·exact .inr e):p:=h
theorem zCG{l:KV}{k v:QB}{x:QB×QB}(h:x∈ins l k v):x=(k,v)∨x∈l:=by
 induction l with|nil=>simp[ins]at h;exact .inl h|cons y t ih=>obtain⟨a,b⟩:=y;simp only[ins]at h;split at h;(·exact zRP);·split at h;(·exact zRQ);·rcases List.mem_cons.1 h with e|e;(·exact .inr (by rw[e];exact List.mem_cons_self));·exact(ih e).imp id (List.mem_cons_of_mem _)
theorem zP7{l:KV}{k v:QB}:ins l k v≠[]:=by
 cases l with|nil=>intro e;cases e|cons y t=>obtain⟨a,b⟩:=y;simp only[ins];split;(·intro e;cases e);·split<;>(intro e;cases e)
theorem zIv{l:KV}(h:zAa l)(k v:QB):zAa (ins l k v):=by
 induction l with|nil=>exact List.pairwise_singleton _ _|cons y t ih=>obtain⟨a,b⟩:=y;have ht:=List.pairwise_cons.1 h;simp only[ins];split;(·rename_i e;subst e;exact List.pairwise_cons.2 ⟨ht.1,ht.2⟩);·rename_i hne;split;(·rename_i hlt;refine List.pairwise_cons.2 ⟨fun x hx=> ?_,h⟩;rcases List.mem_cons.1 hx with e|e;(·rw[e];exact hlt);·exact zV hlt (ht.1 x e));·rename_i hlt;refine List.pairwise_cons.2 ⟨fun x hx=> ?_,ih ht.2⟩;rcases zCG hx with e|e;(·rw[e];rcases xX a k with h1|h1|h1;(·exact h1);(·exact absurd h1 hne);·exact absurd h1 hlt);·exact ht.1 x e
def look:KV→QB→Option QB|[],_=>none|(a,b)::t,k=>if a=k then some b else look t k
theorem zCu{l:KV}{k:QB}(h:∀x∈l,x.1≠k):look l k=none:=by
 induction l with|nil=>rfl|cons y t ih=>obtain⟨a,b⟩:=y;simp only[look];rw[if_neg (h (a,b) (by simp)),ih (fun x hx=>h x (List.mem_cons_of_mem _ hx))]
theorem zDK(l1 l2:KV)(k:QB):look (l1++l2) k=(look l1 k).or (look l2 k):=by
 induction l1 with|nil=>simp[look]|cons y t ih=>obtain⟨a,b⟩:=y;simp only[List.cons_append,look];split;(·rfl);·exact ih
theorem kZ{l1:KV}{k:QB}(h:∀x∈l1,bLt x.1 k)(l2:KV):look (l1++l2) k=look l2 k:=by
 rw[zDK,zCu (fun x hx e=>by have:=h x hx;rw[e]at this;exact zQ _ this)]
 rfl
theorem zCv{l2:KV}{k:QB}(h:∀x∈l2,bLt k x.1)(l1:KV):look (l1++l2) k=look l1 k:=by
 rw[zDK,zCu (l:=l2) (fun x hx e=>by have:=h x hx;rw[e]at this;exact zQ _ this)]
 simp
theorem zHE{l:KV}(k v k':QB):look (ins l k v) k'=if k'=k then some v else look l k':=by
 induction l with|nil=>simp only[ins,look];by_cases e:k'=k;(·rw[if_pos e,if_pos e.symm]);(·rw[if_neg e,if_neg (fun h=>e h.symm)])|cons y t ih=>obtain⟨a,b⟩:=y;simp only[ins];split;(·rename_i e;subst e;simp only[look];by_cases e2:k'=a;(·rw[if_pos e2,if_pos e2.symm]);·rw[if_neg e2,if_neg (fun h=>e2 h.symm),if_neg (fun h=>e2 h.symm)]);·rename_i hne;split;(·simp only[look];by_cases e2:k'=k;(·rw[if_pos e2,if_pos e2.symm]);·rw[if_neg e2,if_neg (fun h=>e2 h.symm)]);·simp only[look];by_cases e3:a=k';(·subst e3;rw[if_pos rfl,if_neg hne,if_pos rfl]);·rw[if_neg e3,if_neg e3];exact ih
end
section
open Go.RowKit Go.MapKept
@[irreducible]def yn(n:Nat):QB:=⟨(List.replicate n (0:UInt8)).toArray⟩
def zS(s:QB):QB:=⟨s.data++(List.replicate (512-s.size) (0:UInt8)).toArray⟩
theorem vz(s:QB)(h:s.size≤512):(zS s).size=512:=by
 show(s.data++_).size=512
 have:s.data.size=s.size:=rfl
 simp
 omega
theorem zD9(n:Nat):(yn n).size=n:=by
 unfold yn
 show(List.replicate n (0:UInt8)).toArray.size=n
 simp
structure DiskS where
 size:Nat
 bf:Nat
 firm:Int→Option QB
 nf:Nat
 bn:Nat
 now:Int→Option QB
 nn:Nat
 loose:Value
 writes:List (Int×QB)
 fuel:Int
 bound:Bool
 down:Bool
def strs(g:Int→Option QB):Int→Option Value:=fun i=>(g i).map Value.string
def zY(l:List (Int×QB)):List Value:=l.flatMap fun p=>[.int .i64 p.1,.string p.2]
def DiskS.cells(D:DiskS):Array Value:= #[.int .i64 D.size,.map (some D.bf),D.loose,.map (some D.bn),.int .i64 D.fuel,.bool D.bound,.bool D.down]
def DiskS.foot(D:DiskS)(bd:Nat)(k:Nat):Prop:=k=bd∨k=D.bf∨k=D.bn∨D.loose.ownBlock=some k
structure DiskAt(w:World)(bd:Nat)(D:DiskS):Prop where
 size:D.size≤65536
 cells:w.heap[bd]? =some (.cells D.cells 234 (0,0))
 firm:IMap w D.bf (strs D.firm) D.nf
 now:IMap w D.bn (strs D.now) D.nn
 loose:w.ownsRow 0 389 2 D.loose D.writes.length (zY D.writes)
 apart:bd≠D.bf∧bd≠D.bn∧D.bf≠D.bn∧D.loose.ownBlock≠some bd∧D.loose.ownBlock≠some D.bf∧D.loose.ownBlock≠some D.bn
 s512:(∀i s,D.firm i=some s→s.size=512)∧∀i s,D.now i=some s→s.size=512
theorem Keep.ownsRow{S:Nat→Prop}{w w':World}(h:Keep S w w'){base:Nat}{e:TypeId}{size:Nat}{v:Value}{n:Nat}{xs:List Value}(ho:w.ownsRow base e size v n xs)(hn:∀k,v.ownBlock=some k→¬S k):w'.ownsRow base e size v n xs:=by
 refine⟨ho.1,?_⟩
 rcases ho.2 with hv|⟨g,cap,cur,rfl,hb,hg,rest⟩
 ·exact .inl hv
 ·exact .inr ⟨g,cap,cur,rfl,hb,h.at hg (hn g rfl),rest⟩
theorem DiskAt.keep{w w':World}{bd:Nat}{D:DiskS}(h:DiskAt w bd D){S:Nat→Prop}(hk:Keep S w w')(hn:∀k,D.foot bd k→¬S k):DiskAt w' bd D:=⟨h.size,hk.at h.cells (hn _ (.inl rfl)),h.firm.keep hk (hn _ (.inr (.inl rfl))),h.now.keep hk (hn _ (.inr (.inr (.inl rfl)))),hk.ownsRow h.loose (fun _ e=>hn _ (.inr (.inr (.inr e)))),h.apart,h.s512⟩
theorem DiskAt.foot_lt{w:World}{bd:Nat}{D:DiskS}(h:DiskAt w bd D){k:Nat}(hf:D.foot bd k):k<w.heap.size:=by
 rcases hf with rfl|rfl|rfl|hl
 ·exact(Gl h.cells)
 ·exact h.firm.lt
 ·exact h.now.lt
 ·exact(h.loose.lt k hl).2
def DiskS.read(D:DiskS)(i:Int):QB:=(D.now i).getD ((D.firm i).getD (yn 512))
theorem DiskS.read_size{w:World}{bd:Nat}{D:DiskS}(h:DiskAt w bd D)(i:Int):(D.read i).size=512:=by
 unfold DiskS.read
 cases hn:D.now i with|some s=>exact h.s512.2 i s hn|none=>cases hf:D.firm i with|some s=>exact h.s512.1 i s hf|none=>exact zD9 _
theorem zIw{w:World}{b:Nat}{D:DiskS}{t:TypeId}(h:w.heap[b]? =some (.cells D.cells t (0,0))):(w.cell? ⟨b,0,none⟩=some (.int .i64 D.size)∧w.cell? ⟨b,1,none⟩=some (.map (some D.bf))∧w.cell? ⟨b,2,none⟩=some D.loose∧w.cell? ⟨b,3,none⟩=some (.map (some D.bn))∧w.cell? ⟨b,4,none⟩=some (.int .i64 D.fuel)∧w.cell? ⟨b,5,none⟩=some (.bool D.bound)∧w.cell? ⟨b,6,none⟩=some (.bool D.down)):=by
 simp[World.cell?,h,DiskS.cells]
theorem zCH{w:World}{bd:Nat}{D:DiskS}(h:w.heap[bd]? =some (.cells D.cells 234 (0,0))):Calls prog 138 #[.pointer (some ⟨bd,0,none⟩)] w fun e w'=>e= .returned (.int .i64 D.size)∧w=w':=by
 obtain⟨c0,c1,c2,c3,c4,c5,c6⟩:=zIw h
 go_enter func138,ntmps138
 go_wp2
 go_ret
 exact⟨rfl,rfl⟩
theorem zCI{w:World}{bd:Nat}{D:DiskS}(h:w.heap[bd]? =some (.cells D.cells 234 (0,0))):Calls prog 139 #[.pointer (some ⟨bd,0,none⟩)] w fun e w'=>e= .returned (.bool D.down)∧w=w':=by
 obtain⟨c0,c1,c2,c3,c4,c5,c6⟩:=zIw h
 go_enter func139,ntmps139
 go_wp2
 go_ret
 exact⟨rfl,rfl⟩
theorem zCJ(n:Nat):Lib.repeatL ((⟨#[0]⟩:QB)).data.toList n=List.replicate n 0:=by
 show Lib.repeatL [0] n=_
 induction n with|zero=>rfl|succ n ih=>rw[Lib.repeatL,ih];rfl
theorem zMB(s:QB)(hs:s.size≤512)(w:World):Calls prog 192 #[.string s] w fun e w'=>e= .returned (.string (zS s))∧Below w.heap.size w w':=by
 have hx:=Tryz.strings_Repeat ⟨#[0]⟩ (512-s.size) w (by omega) (by have:(⟨#[0]⟩:QB).size=1:=rfl;rw[this];omega)
 rw[zCJ]at hx
 have e1:(512:Int)-(s.size:Nat)=((512-s.size:Nat):Int):=by omega
 have hcat:=fun w=>run_string_add_sum (P:=prog) w s ⟨(List.replicate (512-s.size) (0:UInt8)).toArray⟩ (by(have:(⟨(List.replicate (512-s.size) (0:UInt8)).toArray⟩:QB).size=512-s.size:=by show(List.replicate _ _).toArray.size=_;simp);omega)
 have e2:zS s=s++⟨(List.replicate (512-s.size) (0:UInt8)).toArray⟩:=by apply ByteArray.ext;simp[zS]
 rw[e2]
 generalize(⟨(List.replicate (512-s.size) (0:UInt8)).toArray⟩:QB)=z at*
 have H1:=Hd hx
 clear hx hs e2
 go_enter func192,ntmps192
 go_wp2_with(first|(go_at_call 236;refine(H1.out).mono ?_;rintro e w1⟨rfl,hb1⟩))
 go_ret
 exact⟨rfl,hb1⟩
theorem zN5(w:World):(zeroValue 9).run prog w= .ok (.string ByteArray.empty) w:=by
 kernel_rfl
theorem zFQ{i:Int}(h1: -9223372036854775808≤i)(h2:i≤9223372036854775807):(Lit.int .i64 i).wf=true:=by
 show(decide (-9223372036854775808≤i)&&decide (i≤9223372036854775807))=true
 simp[h1,h2]
theorem zMC{w:World}{b n:Nat}{g:Int→Option QB}(h:IMap w b (strs g) n){i:Int}(hi:(Lit.int .i64 i).wf=true)(c:Bool):(Instr.lookup 231 (.map (some b)) (.int .i64 i) c).run prog w= .ok (if c then .tuple #[.string ((g i).getD ByteArray.empty),.bool (g i).isSome]else .string ((g i).getD ByteArray.empty)) w:=by
 have:=h.run_lookup underlying3 underlying231 (zN5 w) hi c
 rw[this]
 unfold strs
 cases g i<;>simp
def DiskS.says(D:DiskS)(i:Int):Value:=if D.down then .tuple #[.string ByteArray.empty,.int .i64 3]else if 0≤i∧i<D.size then .tuple #[.string (D.read i),.int .i64 0]else .tuple #[.string ByteArray.empty,.int .i64 2]
theorem zDL:zS ByteArray.empty=yn 512:=by
 apply ByteArray.ext
 unfold yn
 show #[]++_=_
 rw[Array.empty_append]
 rfl
theorem zP8{p:Prop}(h:p:=by go_enter func140,ntmps140;go_wp2_with(first|(go_at_call 139;refine(H1.out).mono ?_;rintro e w1⟨rfl,rfl⟩));go_ret2;exact⟨rfl,Below.refl _ _⟩):p:=h
theorem zRR{p:Prop}(h:p:=by (have e2:¬(0≤i∧i<(sz:Int)):=by omega);rw[if_neg e2];go_enter func140,ntmps140;go_wp2_with(first|(go_at_call 139;refine(H1.out).mono ?_;rintro e w1⟨rfl,rfl⟩));go_ret2;exact⟨rfl,Below.refl _ _⟩):p:=h
set_option maxRecDepth 100000 in theorem diskRead_any{w:World}{bd:Nat}{D:DiskS}(h:DiskAt w bd D){i:Int}(hi:(Lit.int .i64 i).wf=true):Calls prog 140 #[.pointer (some ⟨bd,0,none⟩),.int .i64 i] w fun e w'=>e= .returned (D.says i)∧Below w.heap.size w w':=by
 have H1:=Hd (zCI h.cells)
 have H2:=Hd (zMB ByteArray.empty (by decide) w)
 obtain⟨c0,c1,c2,c3,c4,c5,c6⟩:=zIw h.cells
 have l1:=zMC h.now hi true
 have l2:=zMC h.firm hi true
 rw[zDL]at H2
 unfold DiskS.says DiskS.read
 generalize D.size=sz at*
 generalize yn 512=z at*
 cases hD:D.down with|true=>rw[hD]at H1;exact zP8|false=>rw[hD]at H1;by_cases hlo:i<0;(·(have e1:decide (i<0)=true:=by simpa using hlo);exact zRR);·by_cases hhi:(sz:Int)≤i;(·(have e1:decide (i<0)=false:=by simpa using hlo);(have e3:decide ((sz:Int)≤i)=true:=by simpa using hhi);exact zRR);·(have e1:decide (i<0)=false:=by simpa using hlo);(have e3:decide ((sz:Int)≤i)=false:=by simpa using hhi);(have e2:(0≤i∧i<(sz:Int)):=by omega);rw[if_pos e2];cases hn:D.now i with|some s=>rw[hn]at l1;exact zP8|none=>rw[hn]at l1;cases hf:D.firm i with|some s=>rw[hf]at l2;exact zP8|none=>rw[hf]at l2;go_enter func140,ntmps140;go_wp2_with(first|(go_at_call 139;refine(H1.out).mono ?_;rintro e w1⟨rfl,rfl⟩)|(go_at_call 192;refine(H2.out).mono ?_;rintro e w1⟨rfl,hb1⟩));go_ret2;exact⟨rfl,hb1⟩
end
section
structure Kid where
 key:QB
 page:Nat
 kv:KV
 ps:List Nat
def zF(kv:KV):Nd:=⟨true,kv.map Prod.fst,kv.map Prod.snd,[]⟩
def zJ(cs:List Kid):Nd:=⟨false,cs.map Kid.key,[],cs.map Kid.page⟩
def kB(a b:Kid):Prop:=bLt a.key b.key∧∀x∈a.kv,bLt x.1 b.key
def Sub(P:Nat→Nd→Prop):Nat→Nat→QB→KV→List Nat→Prop|0,p,lo,kv,ps=>ps=[p]∧kv≠[]∧P p (zF kv)∧(∀x∈kv,¬bLt x.1 lo)∧zAa kv|h+1,p,lo,kv,ps=>∃cs:List Kid,2≤cs.length∧cs.head?.map Kid.key=some lo∧P p (zJ cs)∧kv=cs.flatMap Kid.kv∧ps=p::cs.flatMap Kid.ps∧(∀c∈cs,Sub P h c.page c.key c.kv c.ps)∧cs.Pairwise kB
section
variable {P : Nat → Nd → Prop} {h p : Nat} {lo key val : QB} {kv : KV} {ps : List Nat}
theorem zJ9{cs:List Kid}(hl:cs.head?.map Kid.key=some lo)(hb:cs.Pairwise kB){c:Kid}(hc:c∈cs):¬bLt c.key lo:=by
 cases cs with|nil=>cases hc|cons a t=>simp only[List.head?_cons,Option.map_some,Option.some.injEq]at hl;rcases List.mem_cons.1 hc with e|e;(·rw[e,hl];exact zQ _);·have:=(List.pairwise_cons.1 hb).1 c e;rw[←hl];exact yB this.1
theorem Sub.lo_le(hs:Sub P h p lo kv ps):∀x∈kv,¬bLt x.1 lo:=by
 induction h generalizing p lo kv ps with|zero=>exact hs.2.2.2.1|succ h ih=>obtain⟨cs,_,hl,_,hkv,_,hsub,hb⟩:=hs;intro x hx hlt;rw[hkv]at hx;obtain⟨c,hc,hxc⟩:=List.mem_flatMap.1 hx;have h1:=ih (hsub c hc) x hxc;rcases xX c.key lo with e|e|e;(·exact zJ9 hl hb hc e);(·rw[e]at h1;exact h1 hlt);·exact h1 (zV hlt e)
theorem Sub.ne(hs:Sub P h p lo kv ps):kv≠[]:=by
 induction h generalizing p lo kv ps with|zero=>exact hs.2.1|succ h ih=>obtain⟨cs,h2,_,_,hkv,_,hsub,_⟩:=hs;cases cs with|nil=>simp at h2|cons a t=>intro e;rw[hkv,List.flatMap_cons]at e;exact ih (hsub a (by simp)) (List.append_eq_nil_iff.1 e).1
theorem Sub.mono{P':Nat→Nd→Prop}(hs:Sub P h p lo kv ps)(hp:∀q∈ps,∀x,P q x→P' q x):Sub P' h p lo kv ps:=by
 induction h generalizing p lo kv ps with|zero=>exact⟨hs.1,hs.2.1,hp p (by rw[hs.1];simp) _ hs.2.2.1,hs.2.2.2⟩|succ h ih=>obtain⟨cs,h2,hl,hP,hkv,hps,hsub,hb⟩:=hs;refine⟨cs,h2,hl,hp p (by rw[hps];simp) _ hP,hkv,hps,fun c hc=>ih (hsub c hc) (fun q hq=>hp q ?_),hb⟩;rw[hps];exact List.mem_cons_of_mem _ (List.mem_flatMap.2 ⟨c,hc,hq⟩)
theorem zP9(cs:List Kid)(h:∀c∈cs,c.ps.length+1≤2*c.kv.length):(cs.flatMap Kid.ps).length+cs.length≤2*(cs.flatMap Kid.kv).length:=by
 induction cs with|nil=>simp|cons a t ih=>have h1:=h a (by simp);have h2:=ih (fun c hc=>h c (List.mem_cons_of_mem _ hc));simp only[List.flatMap_cons,Ql,List.length_cons];omega
theorem Sub.count(hs:Sub P h p lo kv ps):ps.length+1≤2*kv.length:=by
 induction h generalizing p lo kv ps with|zero=>have:=List.length_pos_iff.2 hs.2.1;rw[hs.1];simp only[List.length_singleton];omega|succ h ih=>obtain⟨cs,h2,_,_,hkv,hps,hsub,_⟩:=hs;have:=zP9 cs (fun c hc=>ih (hsub c hc));rw[hkv,hps,List.length_cons];omega
theorem zQA(cs:List Kid)(n:Nat)(h:∀c∈cs,n≤c.kv.length):cs.length*n≤(cs.flatMap Kid.kv).length:=by
 induction cs with|nil=>simp|cons a t ih=>have h1:=h a (by simp);have h2:=ih (fun c hc=>h c (List.mem_cons_of_mem _ hc));simp only[List.flatMap_cons,Ql,List.length_cons,Nat.add_mul];omega
theorem Sub.height(hs:Sub P h p lo kv ps):2^h≤kv.length:=by
 induction h generalizing p lo kv ps with|zero=>exact List.length_pos_iff.2 hs.2.1|succ h ih=>obtain⟨cs,h2,_,_,hkv,hps,hsub,_⟩:=hs;have h3:=zQA cs (2^h) (fun c hc=>ih (hsub c hc));have h4:=Nat.mul_le_mul_right (2^h) h2;rw[hkv,Nat.pow_succ];omega
theorem zHF{cs:List Kid}(hl:cs.head?.map Kid.key=some lo)(hb:cs.Pairwise kB)(hk:¬bLt key lo):∃l1 c l2,cs=l1++c::l2∧(∀d∈l1,kB d c)∧¬bLt key c.key∧∀d∈l2,bLt key d.key:=by
 induction cs generalizing lo with|nil=>simp at hl|cons a t ih=>simp only[List.head?_cons,Option.map_some,Option.some.injEq]at hl;have hp:=List.pairwise_cons.1 hb;cases t with|nil=>exact⟨[],a,[],rfl,by simp,by rw[hl];exact hk,by simp⟩|cons b t=>by_cases hkb:bLt key b.key;(·refine⟨[],a,b::t,rfl,by simp,by rw[hl];exact hk,fun d hd=> ?_⟩;rcases List.mem_cons.1 hd with e|e;(·rw[e];exact hkb);·exact zV hkb ((List.pairwise_cons.1 hp.2).1 d e).1);·obtain⟨l1,c,l2,e,h1,h2,h3⟩:=ih (lo:=b.key) rfl hp.2 hkb;refine⟨a::l1,c,l2,by rw[e];rfl,fun d hd=> ?_,h2,h3⟩;rcases List.mem_cons.1 hd with e2|e2;(·rw[e2];exact hp.1 c (by rw[e];simp));·exact h1 d e2
theorem zEA{cs:List Kid}(hs:∀c∈cs,Sub P h c.page c.key c.kv c.ps){l2:List Kid}(hm:∀d∈l2,d∈cs)(hk:∀d∈l2,bLt key d.key):∀x∈l2.flatMap Kid.kv,bLt key x.1:=by
 intro x hx
 obtain⟨d,hd,hxd⟩:=List.mem_flatMap.1 hx
 exact xS (hk d hd) ((hs d (hm d hd)).lo_le x hxd)
theorem zEB{c:Kid}{l1:List Kid}(h1:∀d∈l1,kB d c)(hk:¬bLt key c.key):∀x∈l1.flatMap Kid.kv,bLt x.1 key:=by
 intro x hx
 obtain⟨d,hd,hxd⟩:=List.mem_flatMap.1 hx
 exact xS ((h1 d hd).2 x hxd) hk
theorem zKZ{cs l1 l2:List Kid}{c:Kid}(he:cs=l1++c::l2)(hs:∀c∈cs,Sub P h c.page c.key c.kv c.ps)(h1:∀d∈l1,kB d c)(hk:¬bLt key c.key)(h2:∀d∈l2,bLt key d.key):look (cs.flatMap Kid.kv) key=look c.kv key:=by
 rw[he,List.flatMap_append,List.flatMap_cons,kZ (zEB h1 hk),zCv (zEA hs (fun d hd=>by rw[he];simp[hd]) h2)]
theorem zMD{cs l1 l2:List Kid}{c:Kid}(he:cs=l1++c::l2)(hs:∀c∈cs,Sub P h c.page c.key c.kv c.ps)(h1:∀d∈l1,kB d c)(hk:¬bLt key c.key)(h2:∀d∈l2,bLt key d.key)(val:QB):ins (cs.flatMap Kid.kv) key val=l1.flatMap Kid.kv++(ins c.kv key val++l2.flatMap Kid.kv):=by
 rw[he,List.flatMap_append,List.flatMap_cons,zAF (zEB h1 hk),zCF (zEA hs (fun d hd=>by rw[he];simp[hd]) h2)]
end
def Nd.ent(x:Nd)(i:Nat):List UInt8:=zHD x.leaf (x.keys.getD i ⟨#[]⟩) (x.vals.getD i ⟨#[]⟩) (x.kids.getD i 0)
def Nd.upto(x:Nd):Nat→Nat|0=>3|i+1=>x.upto i+(x.ent i).length
theorem vD{α:Type}(l:List α)(i:Nat)(d:α)(h:i<l.length):l[i]=l.getD i d:=by
 rw[List.getD_eq_getElem?_getD,Qg h]
 rfl
theorem Nd.ents_split(x:Nd)(i:Nat)(hi:i≤x.keys.length):x.size=x.upto i+(vN x.leaf (x.keys.drop i) (x.vals.drop i) (x.kids.drop i)).length:=by
 induction i with|zero=>rw[List.drop_zero,List.drop_zero,List.drop_zero];unfold Nd.size Nd.bytes Nd.upto;simp only[List.length_cons];omega|succ i ih=>rw[ih (by omega),zD8 x.leaf x.keys x.vals x.kids i (by omega),Ql,vD x.keys i ⟨#[]⟩ (by omega)];show _=x.upto i+(x.ent i).length+_;unfold Nd.ent;omega
theorem Nd.size_upto(x:Nd):x.upto x.keys.length=x.size:=by
 rw[x.ents_split _ (Qn _),List.drop_length]
 rfl
def Nd.take(x:Nd)(a:Nat):Nd:=⟨x.leaf,x.keys.take a,x.vals.take a,x.kids.take a⟩
def Nd.drop(x:Nd)(a:Nat):Nd:=⟨x.leaf,x.keys.drop a,x.vals.drop a,x.kids.drop a⟩
theorem getD_take{α:Type}(l:List α)(a i:Nat)(d:α)(h:i<a):(l.take a).getD i d=l.getD i d:=by
 rw[List.getD_eq_getElem?_getD,List.getD_eq_getElem?_getD,List.getElem?_take,if_pos h]
theorem Nd.upto_take(x:Nd)(a i:Nat)(h:i≤a):(x.take a).upto i=x.upto i:=by
 induction i with|zero=>rfl|succ i ih=>show(x.take a).upto i+((x.take a).ent i).length=x.upto i+(x.ent i).length;rw[ih (by omega)];unfold Nd.ent Nd.take;simp only;rw[getD_take _ _ _ _ (by omega),getD_take _ _ _ _ (by omega),getD_take _ _ _ _ (by omega)]
theorem Nd.size_take(x:Nd)(a:Nat)(h:a≤x.keys.length):(x.take a).size=x.upto a:=by
 rw[←Nd.size_upto]
 have e:(x.take a).keys.length=a:=by show(x.keys.take a).length=a;rw[List.length_take];omega
 rw[e,x.upto_take a a (Qn _)]
theorem Nd.size_drop(x:Nd)(a:Nat)(h:a≤x.keys.length):(x.drop a).size+x.upto a=x.size+3:=by
 rw[x.ents_split a h]
 unfold Nd.size Nd.bytes Nd.drop
 simp only[List.length_cons]
 omega
theorem Nd.ok.take{x:Nd}(h:x.ok)(a:Nat):(x.take a).ok:=by
 refine⟨?_,?_,fun k hk=>h.k96 k (List.mem_of_mem_take hk),fun k hk=>h.v56 k (List.mem_of_mem_take hk),fun k hk=>h.c32 k (List.mem_of_mem_take hk)⟩
 ·show(x.vals.take a).length=if x.leaf then(x.keys.take a).length else 0;rw[List.length_take,List.length_take,h.vals];split<;>omega
 ·show(x.kids.take a).length=if x.leaf then 0 else(x.keys.take a).length;rw[List.length_take,List.length_take,h.kids];split<;>omega
theorem Nd.ok.drop{x:Nd}(h:x.ok)(a:Nat):(x.drop a).ok:=by
 refine⟨?_,?_,fun k hk=>h.k96 k (List.mem_of_mem_drop hk),fun k hk=>h.v56 k (List.mem_of_mem_drop hk),fun k hk=>h.c32 k (List.mem_of_mem_drop hk)⟩
 ·show(x.vals.drop a).length=if x.leaf then(x.keys.drop a).length else 0;rw[List.length_drop,List.length_drop,h.vals];split<;>omega
 ·show(x.kids.drop a).length=if x.leaf then 0 else(x.keys.drop a).length;rw[List.length_drop,List.length_drop,h.kids];split<;>omega
theorem zz{α:Type}{l:List α}{i:Nat}{d:α}(h:i<l.length):l.getD i d∈l:=by
 rw[←vD l i d h]
 exact List.getElem_mem h
def Nd.most(x:Nd):Nat:=if x.leaf then 154 else 101
structure Nd.okS(x:Nd):Prop where
 vals:x.leaf=true→x.vals.length=x.keys.length
 k96:∀k∈x.keys,k.size≤96
 v56:∀v∈x.vals,v.size≤56
theorem Nd.ok.s{x:Nd}(h:x.ok):x.okS:=⟨fun e=>by have:=h.vals;rw[e]at this;exact this,h.k96,h.v56⟩
theorem Nd.ent_le{x:Nd}(h:x.okS)(i:Nat)(hi:i<x.keys.length):2≤(x.ent i).length∧(x.ent i).length≤x.most:=by
 have h1:=h.k96 _ (zz (d:=⟨#[]⟩) hi)
 unfold Nd.ent Nd.most
 rw[kY]
 cases hl:x.leaf with|false=>simp only[Bool.false_eq_true,if_false];omega|true=>have hv:=h.vals hl;simp only[if_true];have h2:=h.v56 _ (zz (d:=⟨#[]⟩) (by rw[hv];exact hi));omega
theorem Nd.upto_le{x:Nd}(h:x.okS)(i j:Nat)(hij:i≤j)(hj:j≤x.keys.length):x.upto i+2*(j-i)≤x.upto j∧x.upto j≤x.upto i+x.most*(j-i):=by
 induction j with|zero=>(obtain rfl:i=0:=by omega);simp|succ j ih=>by_cases e:i=j+1;(·subst e;simp);·obtain⟨h1,h2⟩:=ih (by omega) (by omega);have h3:=Nd.ent_le h j (by omega);have e1:x.upto (j+1)=x.upto j+(x.ent j).length:=rfl;(have e2:j+1-i=(j-i)+1:=by omega);rw[e1,e2,Nat.mul_add,Nat.mul_add];omega
structure PartAt(x:Nd)(a:Nat):Prop where
 le:a≤x.keys.length
 now:x.size/2≤x.upto a
 ahead:0<a→x.upto (a-1)<x.size/2
theorem PartAt.sizes{x:Nd}{a:Nat}(h:PartAt x a)(ok:x.ok)(h1:512<x.size)(h2:x.size≤512+x.most):(x.take a).size≤512∧(x.drop a).size≤512∧2≤a∧a<x.keys.length∧(x.leaf=false→a+2≤x.keys.length):=by
 have hle:=h.le
 have hm:x.most=154∨(x.most=101∧x.leaf=false):=by unfold Nd.most;cases x.leaf<;>simp
 have h154:x.most≤154:=by omega
 have hnow:=h.now
 have ha:0<a:=by rcases Nat.eq_zero_or_pos a with e|e;(·subst e;have:x.upto 0=3:=rfl;omega);·exact e
 have hah:=h.ahead ha
 obtain⟨b,rfl⟩:∃b,a=b+1:=⟨a-1,by omega⟩
 rw[Nat.add_sub_cancel]at hah
 have he:=Nd.ent_le ok.s b (by omega)
 have e1:x.upto (b+1)=x.upto b+(x.ent b).length:=rfl
 have hb:=(Nd.upto_le ok.s 0 (b+1) (by omega) hle).2
 have hb0:x.upto 0=3:=rfl
 have hd:=x.size_drop (b+1) hle
 have ht:=x.size_take (b+1) hle
 have hr:=Nd.upto_le ok.s (b+1) x.keys.length hle (Qn _)
 rw[x.size_upto]at hr
 have hlt:b+1<x.keys.length:=by rcases Nat.lt_or_ge (b+1) x.keys.length with e|e;(·exact e);·(have e2:x.keys.length-(b+1)=0:=by omega);rw[e2]at hr;omega
 refine⟨by omega,by omega,?_,hlt,fun hl=> ?_⟩
 ·rcases Nat.eq_zero_or_pos b with e|e;(·subst e;(have e3:x.most*(0+1-0)=x.most:=by simp);omega);·omega
 ·(have h101:x.most=101:=by unfold Nd.most;rw[hl];rfl);rcases Nat.lt_or_ge (b+2) x.keys.length with e|e;(·omega);·(have e2:x.keys.length-(b+1)=1:=by omega);rw[e2]at hr;omega
structure Kids(P:Nat→Nd→Prop)(h:Nat)(lo:QB)(cs:List Kid):Prop where
 head:cs.head?.map Kid.key=some lo
 sub:∀c∈cs,Sub P h c.page c.key c.kv c.ps
 bef:cs.Pairwise kB
section
variable {P P' : Nat → Nd → Prop} {h p q : Nat} {lo key val k : QB} {kv : KV} {ps : List Nat} {cs l1 l2 m : List Kid} {c : Kid}
theorem Kids.whole(hk:Kids P h lo cs)(h2:2≤cs.length)(hP:P p (zJ cs)):Sub P (h+1) p lo (cs.flatMap Kid.kv) (p::cs.flatMap Kid.ps):=⟨cs,h2,hk.head,hP,rfl,rfl,hk.sub,hk.bef⟩
theorem Sub.kids(hs:Sub P (h+1) p lo kv ps):∃cs,Kids P h lo cs∧2≤cs.length∧P p (zJ cs)∧kv=cs.flatMap Kid.kv∧ps=p::cs.flatMap Kid.ps:=by
 obtain⟨cs,h2,hl,hP,hkv,hps,hsub,hb⟩:=hs
 exact⟨cs,⟨hl,hsub,hb⟩,h2,hP,hkv,hps⟩
theorem Kids.turn(hk:Kids P h lo (l1++c::l2))(h3:∀d∈l2,bLt key d.key)(hm:Kids P' h c.key m)(hkv:m.flatMap Kid.kv=ins c.kv key val)(hP:∀d,d∈l1∨d∈l2→Sub P' h d.page d.key d.kv d.ps):Kids P' h lo (l1++(m++l2)):=by
 obtain⟨b1,b2,b3⟩:=List.pairwise_append.1 hk.bef
 obtain⟨b4,b5⟩:=List.pairwise_cons.1 b2
 refine⟨?_,fun d hd=> ?_,List.pairwise_append.2 ⟨b1,List.pairwise_append.2 ⟨hm.bef,b5,fun d hd e he=> ?_⟩,fun d hd e he=> ?_⟩⟩
 ·have:=hk.head;cases l1 with|nil=>have h1:=hm.head;simp only[List.nil_append,List.head?_cons,Option.map_some,Option.some.injEq]at this⊢;(cases m with|nil=>simp at h1|cons a t=>simp only[List.cons_append,List.head?_cons,Option.map_some,Option.some.injEq]at h1⊢;rw[h1,this])|cons a t=>simpa using this
 ·rcases List.mem_append.1 hd with e|e;(·exact hP d (.inl e));·rcases List.mem_append.1 e with e|e;(·exact hm.sub d e);·exact hP d (.inr e)
 ·(have hx:∀x∈d.kv,bLt x.1 e.key:=fun x hx=>by(have h1:x∈ins c.kv key val:=by rw[←hkv];exact List.mem_flatMap.2 ⟨d,hd,hx⟩);rcases zCG h1 with e1|e1;(·rw[e1];exact h3 e he);·exact(b4 e he).2 x e1);refine⟨?_,hx⟩;have hs:=hm.sub d hd;obtain⟨x,hx1⟩:=List.exists_mem_of_ne_nil _ hs.ne;exact zBr (hs.lo_le x hx1) (hx x hx1)
 ·rcases List.mem_append.1 he with e1|e1;(·have h1:=b3 d hd c (by simp);have h2:=zJ9 hm.head hm.bef e1;exact⟨xS h1.1 h2,fun x hx=>xS (h1.2 x hx) h2⟩);·exact b3 d hd e (by simp[e1])
theorem zEC{p':Nat}{kv':KV}{ps':List Nat}(hs:Sub P h p' k kv' ps'):Kids P h k [⟨k,p',kv',ps'⟩]:=⟨rfl,fun c hc=>by rw[List.mem_singleton.1 hc];exact hs,List.pairwise_singleton _ _⟩
theorem zHG{p1 p2:Nat}{kv1 kv2:KV}{ps1 ps2:List Nat}{k2:QB}(h1:Sub P h p1 k kv1 ps1)(h2:Sub P h p2 k2 kv2 ps2)(hb:∀x∈kv1,bLt x.1 k2):Kids P h k [⟨k,p1,kv1,ps1⟩,⟨k2,p2,kv2,ps2⟩]:=by
 refine⟨rfl,fun c hc=> ?_,List.pairwise_cons.2 ⟨fun d hd=> ?_,List.pairwise_singleton _ _⟩⟩
 ·rcases List.mem_cons.1 hc with e|e;(·rw[e];exact h1);·rw[List.mem_singleton.1 e];exact h2
 ·rw[List.mem_singleton.1 hd];obtain⟨x,hx⟩:=List.exists_mem_of_ne_nil _ h1.ne;exact⟨zBr (h1.lo_le x hx) (hb x hx),hb⟩
theorem Kids.parted(hk:Kids P h lo cs){a:Nat}(h1:1≤a)(h2:a<cs.length):Kids P h lo (cs.take a)∧Kids P h cs[a].key (cs.drop a)∧∀x∈(cs.take a).flatMap Kid.kv,bLt x.1 cs[a].key:=by
 have hb:=hk.bef
 rw[←List.take_append_drop a cs]at hb
 obtain⟨b1,b2,b3⟩:=List.pairwise_append.1 hb
 have hd:cs.drop a=cs[a]::cs.drop (a+1):=List.drop_eq_getElem_cons h2
 refine⟨⟨?_,fun c hc=>hk.sub c (List.mem_of_mem_take hc),b1⟩,⟨by rw[hd];rfl,fun c hc=>hk.sub c (List.mem_of_mem_drop hc),b2⟩,fun x hx=> ?_⟩
 ·have:=hk.head;rw[List.head?_take,if_neg (by omega)];exact this
 ·obtain⟨d,hd1,hx1⟩:=List.mem_flatMap.1 hx;exact(b3 d hd1 cs[a] (List.mem_iff_getElem?.2 ⟨0,by simp[List.getElem?_drop,Qg h2]⟩)).2 x hx1
structure Lf(lo:QB)(kv:KV):Prop where
 ne:kv≠[]
 lo_:∀x∈kv,¬bLt x.1 lo
 sorted:zAa kv
theorem Lf.whole(hl:Lf lo kv)(hP:P p (zF kv)):Sub P 0 p lo kv [p]:=⟨rfl,hl.ne,hP,hl.lo_,hl.sorted⟩
theorem Lf.ins(hl:Lf lo kv)(hk:¬bLt key lo)(val:QB):Lf lo (ins kv key val):=⟨zP7,fun x hx=>(zCG hx).elim (fun e=>by rw[e];exact hk) (hl.lo_ x),zIv hl.sorted key val⟩
theorem Lf.parted(hl:Lf lo kv){a:Nat}(h1:1≤a)(h2:a<kv.length):Lf lo (kv.take a)∧Lf kv[a].1 (kv.drop a)∧∀x∈kv.take a,bLt x.1 kv[a].1:=by
 have hb:(kv.take a++kv.drop a).Pairwise (fun x y=>bLt x.1 y.1):=by rw[List.take_append_drop];exact hl.sorted
 obtain⟨b1,b2,b3⟩:=List.pairwise_append.1 hb
 have hd:kv.drop a=kv[a]::kv.drop (a+1):=List.drop_eq_getElem_cons h2
 refine⟨⟨fun e=> ?_,fun x hx=>hl.lo_ x (List.mem_of_mem_take hx),b1⟩,⟨(fun e=>by rw[hd]at e;cases e),fun x hx=> ?_,b2⟩,fun x hx=>b3 x hx kv[a] (List.mem_iff_getElem?.2 ⟨0,by simp[List.getElem?_drop,Qg h2]⟩)⟩
 ·(have:(kv.take a).length=0:=by rw[e];rfl);rw[List.length_take]at this;omega
 ·rw[hd]at hx b2;rcases List.mem_cons.1 hx with e|e;(·rw[e];exact zQ _);·exact yB ((List.pairwise_cons.1 b2).1 x e)
theorem zKa(kv:KV)(a:Nat):(zF kv).take a=zF (kv.take a):=by
 unfold zF Nd.take
 simp[List.map_take]
theorem zKb(kv:KV)(a:Nat):(zF kv).drop a=zF (kv.drop a):=by
 unfold zF Nd.drop
 simp[List.map_drop]
theorem zIx(cs:List Kid)(a:Nat):(zJ cs).take a=zJ (cs.take a):=by
 unfold zJ Nd.take
 simp[List.map_take]
theorem zIy(cs:List Kid)(a:Nat):(zJ cs).drop a=zJ (cs.drop a):=by
 unfold zJ Nd.drop
 simp[List.map_drop]
theorem zDu(hs:zAa kv)(key:QB):∃l1 l2:KV,kv=l1++l2∧(∀x∈l1,bLt x.1 key)∧∀x∈l2,¬bLt x.1 key:=by
 induction kv with|nil=>exact⟨[],[],rfl,by simp,by simp⟩|cons a t ih=>have hp:=List.pairwise_cons.1 hs;by_cases ha:bLt a.1 key;(·obtain⟨l1,l2,e,h1,h2⟩:=ih hp.2;refine⟨a::l1,l2,by rw[e];rfl,fun x hx=> ?_,h2⟩;rcases List.mem_cons.1 hx with e1|e1;(·rw[e1];exact ha);·exact h1 x e1);·refine⟨[],a::t,rfl,by simp,fun x hx=> ?_⟩;rcases List.mem_cons.1 hx with e1|e1;(·rw[e1];exact ha);·exact fun hlt=>ha (zV (hp.1 x e1) hlt)
theorem zED{l1 l2:KV}{v0:QB}(h1:∀x∈l1,bLt x.1 key):ins (l1++(key,v0)::l2) key val=l1++(key,val)::l2:=by
 rw[zAF h1]
 simp[ins]
theorem zHH{l1 l2:KV}(h1:∀x∈l1,bLt x.1 key)(h2:∀x∈l2,¬bLt x.1 key)(h0:∀v0 l3,l2≠(key,v0)::l3):ins (l1++l2) key val=l1++(key,val)::l2:=by
 rw[zAF h1]
 cases l2 with|nil=>rfl|cons a t=>obtain⟨a,b⟩:=a;have hne:a≠key:=fun e=>h0 b t (by rw[e]);simp only[ins];rw[if_neg hne,if_pos];rcases xX key a with e|e|e;(·exact e);(·exact absurd e.symm hne);·exact absurd e (h2 (a,b) (by simp))
end
section
variable {P : Program} {ops : Array Oper} {md : Region.Mode} {C : World → Prop}
def yo(P:Program)(C:World→Prop)(v:Value):Result Next→Prop| .ok (.value u) w'=>C w'∧u=v| .ok .skip w'=>C w'∧v=undef| .ok (.enter f args) w'=>Calls P f args w' (fun e w''=>e= .returned v∧C w'')|_=>False
def zFR(P:Program)(o:Oper)(a:Act)(C:World→Prop)(v:Value):Prop:=∀w,C w→yo P C v ((execOp a.eval o).run P w)
def kC(P:Program)(ops:Array Oper)(C:World→Prop)(Q:Act→Prop):List Oper→Act→Prop|[],a=>Q a|o::rest,a=>if Region.wanted o (yielded ops a.tmps)then∃v,zFR P o a C v∧kC P ops C Q rest (a.put o.dst v)else kC P ops C Q rest (a.put o.dst undef)
theorem vq{Q:Act→Prop}{a:Act}(h:Q a):kC P ops C Q [] a:=h
theorem xC{Q:Act→Prop}{a:Act}{o:Oper}{rest:List Oper}(hg:o.guard=none)(h:∀K:Act→Prop,(∀a,kC P ops C Q rest a→K a)→∃v,zFR P o a C v∧K (a.put o.dst v)):kC P ops C Q (o::rest) a:=by
 unfold kC
 rw[if_pos (by simp[Region.wanted,hg])]
 exact h _ (fun _ h=>h)
theorem yp{Q:Act→Prop}{a:Act}{o:Oper}{rest:List Oper}(hw:Region.wanted o (yielded ops a.tmps)=true)(h:∀K:Act→Prop,(∀a,kC P ops C Q rest a→K a)→∃v,zFR P o a C v∧K (a.put o.dst v)):kC P ops C Q (o::rest) a:=by
 unfold kC
 rw[if_pos hw]
 exact h _ (fun _ h=>h)
theorem yq{Q:Act→Prop}{a:Act}{o:Oper}{rest:List Oper}(hw:Region.wanted o (yielded ops a.tmps)=false)(h:∀K:Act→Prop,(∀a,kC P ops C Q rest a→K a)→K (a.put o.dst undef)):kC P ops C Q (o::rest) a:=by
 unfold kC
 rw[if_neg (by rw[hw];exact Bool.false_ne_true)]
 exact h _ (fun _ h=>h)
def opInv(P:Program)(ops:Array Oper)(C:World→Prop)(i:Nat)(K:Act→Prop)(a:Act):Prop:=match ops[i]? with|none=>K a|some o=>if Region.wanted o (yielded ops a.tmps)then∃v,zFR P o a C v∧K (a.put o.dst v)else K (a.put o.dst undef)
theorem zIz{i:Nat}{a:Act}{K K':Act→Prop}(h:∀a,K a→K' a)(hh:opInv P ops C i K a):opInv P ops C i K' a:=by
 unfold opInv at*
 split
 ·rename_i ho;simp only[ho]at hh;exact h _ hh
 ·rename_i o ho;simp only[ho]at hh;split;(·rename_i hw;rw[if_pos hw]at hh;obtain⟨v,h1,h2⟩:=hh;exact⟨v,h1,h _ h2⟩);·rename_i hw;rw[if_neg hw]at hh;exact h _ hh
def Yields(P:Program)(ops:Array Oper)(C:World→Prop)(o:Oper)(v:Value)(a:Act):Prop:=(Region.wanted o (yielded ops a.tmps)=true∧zFR P o a C v)∨(Region.wanted o (yielded ops a.tmps)=false∧v=undef)
theorem Yields.opInv{i:Nat}{o:Oper}{v:Value}{a:Act}(hi:ops[i]? =some o)(hy:Yields P ops C o v a){K:Act→Prop}(h:K (a.put o.dst v)):opInv P ops C i K a:=by
 unfold Proofs.YtaokjeokpifjgaaGreatDoor.opInv
 simp only[hi]
 rcases hy with⟨hw,hv⟩|⟨hw,rfl⟩
 ·rw[if_pos hw];exact⟨v,hv,h⟩
 ·rw[if_neg (by rw[hw];exact Bool.false_ne_true)];exact h
theorem Yields.of_same{o:Oper}{v:Value}{a a':Act}(hy:Yields P ops C o v a)(he:execOp a'.eval o=execOp a.eval o)(hw:Region.wanted o (yielded ops a'.tmps)=Region.wanted o (yielded ops a.tmps)):Yields P ops C o v a':=by
 unfold Yields zFR at*
 rw[he,hw]
 exact hy
theorem zDn{i:Nat}{o:Oper}{a:Act}{K:Act→Prop}(hi:ops[i]? =some o)(h:opInv P ops C i K a):∃v,Yields P ops C o v a∧K (a.put o.dst v):=by
 unfold opInv at h
 simp only[hi]at h
 by_cases hw:Region.wanted o (yielded ops a.tmps)=true
 ·rw[if_pos hw]at h;obtain⟨v,h1,h2⟩:=h;exact⟨v,.inl ⟨hw,h1⟩,h2⟩
 ·rw[if_neg hw]at h;exact⟨undef,.inr ⟨by simpa using hw,rfl⟩,h⟩
theorem zKc{j:Nat}{oi oj:Oper}{v:Value}(hj:ops[j]? =some oj)(hap:oi.apart ops oj=true)(hsi:∀cs b,oi.op≠ .select cs b)(hsj:∀cs b,oj.op≠ .select cs b){K:Act→Prop}{a:Act}(hy:Yields P ops C oi v a)(h:opInv P ops C j K (a.put oi.dst v)):opInv P ops C j (fun a'=>Yields P ops C oi v a'∧K (a'.put oi.dst v)) a:=by
 obtain⟨h1,h2,h3⟩:=Oper.apart_spec hap
 have keep:∀u,Yields P ops C oi v (a.put oj.dst u):=fun u=>hy.of_same (execOp_put oi hsi a oj.dst u h3) (wanted_put oi a oj.dst u h3)
 unfold opInv at*
 simp only[hj]at*
 rw[wanted_put oj a oi.dst v h1]at h
 split
 ·rename_i hw;rw[if_pos hw]at h;obtain⟨u,hu,hn⟩:=h;refine⟨u,fun w hw'=> ?_,keep u,by rw[←Act.put_comm a v u h2];exact hn⟩;have:=hu w hw';rwa [execOp_put oj hsj a oi.dst v h1]at this
 ·rename_i hw;rw[if_neg hw]at h;exact⟨keep _,by rw[←Act.put_comm a v undef h2];exact h⟩
theorem zFC{i:Nat}{a:Act}{K:Act→Prop}{K':Act→World→Prop}{Q':Exit→Act→World→Prop}{w:World}(hC:C w)(h:∀a w',C w'→K a→K' a w')(hh:opInv P ops C i K a):wpOp P ops Q' i K' a w:=by
 unfold opInv at hh
 unfold wpOp
 split
 ·rename_i ho;simp only[ho]at hh;exact h _ _ hC hh
 ·rename_i o ho;simp only[ho]at hh;split;(·rename_i hw;rw[if_pos hw]at hh;obtain⟨v,h1,h2⟩:=hh;have h3:=h1 w hC;left;unfold Oper.wp;generalize(execOp a.eval o).run P w=r at*;cases r with|ok n w'=>cases n<;>simp only[yo]at h3<;>simp only[Oper.upon];(case value u=>obtain⟨e1,e2⟩:=h3;rw[e2];exact h _ _ e1 h2);(case skip=>obtain⟨e1,e2⟩:=h3;rw[←e2];exact h _ _ e1 h2);(case enter f args=>exact h3.mono fun e w''⟨he,hw''⟩=>by subst he;exact h _ _ hw'' h2)|halt x w'=>simp only[yo]at h3);·rename_i hw;rw[if_neg hw]at hh;exact h _ _ hC hh
def zCK(P:Program)(md:Region.Mode)(ops:Array Oper)(C:World→Prop)(n:Nat)(L:Array Bool→Act→Prop):Nat→Array Bool→Act→Prop|0,listed,a=>L listed a|f+1,listed,a=>Region.ready md ops listed≠[]∧∀i∈Region.ready md ops listed,i<n∧opInv P ops C i (zCK P md ops C n L f (listed.setIfInBounds i true)) a
theorem zAG{n g:Nat}{L:Array Bool→Act→Prop}{Q':Exit→Act→World→Prop}(hL:∀listed a w,C w→L listed a→wpAny P md ops Q' g listed a w):∀(f:Nat)(listed:Array Bool)(a:Act)(w:World),C w→zCK P md ops C n L f listed a→wpAny P md ops Q' (f+g) listed a w|0,listed,a,w,hw,h=>by rw[Nat.zero_add];exact hL _ _ _ hw h|f+1,listed,a,w,hw,h=>by rw[show f+1+g=(f+g)+1 by omega];exact⟨fun h0=>absurd h0 h.1,fun i hi=>zFC hw (fun a' w' hw' h'=>zAG hL f _ a' w' hw' h') (h.2 i hi).2⟩
theorem zN6{p:Prop}(h:p:=by rcases Nat.lt_or_ge j n with h|h;(·exact h);·exact absurd hj (tail_waits hs hc hn inv _ i rfl hin (mem_ready.1 hr).1 j h)):p:=h
theorem zRS{p:Prop}(h:p:=by have h1:=hall e he hb;rw[heq,getD_both (mem_ready.1 hr).1]at h1;cases h1):p:=h
theorem zRT{p:Prop}(h:p:=by refine hfree k ok hk hki ?_ hno;by_cases hjk:j=k;(·subst hjk;exact hjun);·rw[getD_set_ne true hjk]at hun;exact hun):p:=h
theorem zFD{n i:Nat}{oi:Oper}{v:Value}{L:Array Bool→Act→Prop}(hi:ops[i]? =some oi)(hsel:∀(j:Nat)(o:Oper)cs b,ops[j]? =some o→o.op≠ .select cs b)(hs:Region.sinkB md ops n=true)(hc:Region.chainB md ops n=true)(hn:n<ops.size)(hin:i<n)(hdone:∀listed a,L listed a→∀j∈Region.ready md ops listed,n≤j):∀(f:Nat)(listed:Array Bool)(a:Act),HeadInv md ops n listed→(∀j oj,ops[j]? =some oj→j≠i→listed.getD j true=false→(∀e∈oj.after,Region.binds md e=true→e.on≠i)→oi.apart ops oj=true)→i∈Region.ready md ops listed→Yields P ops C oi v a→zCK P md ops C n L f (listed.setIfInBounds i true) (a.put oi.dst v)→zCK P md ops C n L (f+1) listed a:=by
 intro f
 induction f with|zero=>intro listed a inv _ hr hy H;refine⟨fun h=>(by rw[h]at hr;cases hr),fun j hj=> ?_⟩;(have hjn:j<n:=by exact zN6);refine⟨hjn,?_⟩;by_cases hji:j=i;(·subst hji;exact hy.opInv hi H);(·have:=hdone _ _ H j (ready_mono hj hji);omega)|succ f ih=>intro listed a inv hfree hr hy H;refine⟨fun h=>(by rw[h]at hr;cases hr),fun j hj=> ?_⟩;(have hjn:j<n:=by exact zN6);refine⟨hjn,?_⟩;by_cases hji:j=i;(·subst hji;exact hy.opInv hi H);·have h1:=(H.2 j (ready_mono hj hji)).2;obtain⟨hjun,oj,hoj,hall⟩:=mem_ready.1 hj;(have hnot:∀e∈oj.after,Region.binds md e=true→e.on≠i:=fun e he hb heq=>by exact zRS);have h2:=zKc hoj (hfree j oj hoj hji hjun hnot) (fun cs b=>hsel i oi cs b hi) (fun cs b=>hsel j oj cs b hoj) hy h1;(have hfree':∀k ok,ops[k]? =some ok→k≠i→(listed.setIfInBounds j true).getD k true=false→(∀e∈ok.after,Region.binds md e=true→e.on≠i)→oi.apart ops ok=true:=fun k ok hk hki hun hno=>by exact zRT);refine zIz (fun a' h3=>ih (listed.setIfInBounds j true) a' (inv.set hj hjn) hfree' (ready_mono hr (Ne.symm hji)) h3.1 ?_) h2;rw[Array.setIfInBounds_comm _ _ hji];exact h3.2
theorem zDM{n g:Nat}{Lq:Act→Prop}(hsel:Region.noSelect ops=true)(hs:Region.sinkB md ops n=true)(hc:Region.chainB md ops n=true)(hn:n<ops.size):∀(l:List Oper)(k:Nat)(listed:Array Bool)(a:Act),(∀j,j<l.length→l[j]? =ops[k+j]?)→k+l.length=n→HeadInv md ops n listed→Region.lexHead md ops g l.length k listed=true→kC P ops C Lq l a→zCK P md ops C n (fun listed' a'=>Region.seqB md ops g n listed'=true∧Lq a') l.length listed a|[],k,listed,a,_,hk,_,hB,h=>by(have:k=n:=by simpa using hk);subst this;exact⟨by simpa[Region.lexHead]using hB,h⟩|o::l,k,listed,a,hl,hk,inv,hB,h=>by(have h0:ops[k]? =some o:=by simpa using(hl 0 (by simp)).symm);simp only[List.length_cons,Region.lexHead,Bool.and_eq_true]at hB;obtain⟨⟨hr,hf⟩,hB'⟩:=hB;(have hkn:k<n:=by simp only[List.length_cons]at hk;omega);(have hr':k∈Region.ready md ops listed:=by simpa using hr);(have hst:opInv P ops C k (kC P ops C Lq l) a:=by unfold opInv;simp only[h0];exact h);obtain⟨v,hy,hK⟩:=zDn h0 hst;exact zFD h0 (Region.noSelect_spec hsel) hs hc hn hkn (fun listed' a' hL=>seqB_ready hL.1) l.length listed a inv (Region.free_spec h0 hf) hr' hy (zDM hsel hs hc hn l (k+1) _ _ (fun j hj=>by have:=hl (j+1) (by simp;omega);simpa[Nat.add_assoc,Nat.add_comm 1 j]using this) (by simp only[List.length_cons]at hk;omega) (inv.set hr' hkn) hB' hK)
theorem yY{id:Nat}{Q:Exit→Act→World→Prop}{a:Act}{w:World}{l:List Oper}(n:Nat)(C:World→Prop)(hm:P.follows .mixedOrders=true)(hB:Region.lexTailB .any l.toArray n=true)(hC:C {w with drawn:=w.drawn+1})(h:kC P l.toArray C (fun a'=>∀w',C w'→wpList P l.toArray Q (l.drop n) a' w') (l.take n) a):(Code.region id l.toArray true).wp P Q a w:=by
 simp only[Region.lexTailB,Bool.and_eq_true,decide_eq_true_eq]at hB
 obtain⟨⟨⟨⟨hsel,hn⟩,hs⟩,hc⟩,hlex⟩:=hB
 have hn':n<l.length:=by simpa using hn
 have htl:(l.take n).length=n:=by simp;omega
 have hdl:(l.drop n).length=l.toArray.size-n:=by simp
 have inv0:HeadInv .any l.toArray n (Array.replicate l.toArray.size false):=⟨by simp,fun j oj _ hl=>(by rw[getD_replicate_false]at hl;cases hl),fun t _ ht=>getD_in (by simpa using ht) (getD_replicate_false _ _)⟩
 have H:=zDM (C:=C) (md:=.any) (g:=l.toArray.size-n) hsel hs hc hn (l.take n) 0 _ a (fun j hj=>by(have hj':j<n:=by rw[htl]at hj;exact hj);simp[hj']) (by simpa using htl) inv0 (by rw[htl];exact hlex) h
 refine wp_region_any hm ?_
 have:=zAG (Q':=Q) (g:=l.toArray.size-n) (fun listed a' w' hw' hL=>by have:=wpAny_of_seq (md:=.any) (Q':=Q) (l.drop n) n listed a' w' (fun j=>by simp[List.getElem?_drop]) (by rw[hdl];exact hL.1) (hL.2 w' hw');rwa [hdl]at this) _ _ _ _ hC H
 rw[htl,show n+(l.toArray.size-n)=l.toArray.size by omega]at this
 exact this
end
end
section
open Go.RowKit Go.MapKept
attribute [local go_sem] yo
def zCw(n bf bn:Nat):DiskS:={size:=n,bf:=bf,firm:=fun _=>none,nf:=0,bn:=bn,now:=fun _=>none,nn:=0,loose:=.slice none 0 0,writes:=[],fuel:=0,bound:=false,down:=false}
set_option maxRecDepth 100000
theorem zHI(n:Nat)(h1:1≤n)(h2:n≤65536)(w:World):Calls prog 78 #[.int .i64 n] w fun e w'=>∃bd D,e= .returned (.tuple #[.pointer (some ⟨bd,0,none⟩),.int .i64 0])∧D=zCw n w.heap.size (w.heap.size+1)∧DiskAt w' bd D∧bd=w.heap.size+2∧Below w.heap.size w w':=by
 have e1:decide ((n:Int)<1)=false:=by simp;omega
 have e2:decide ((65536:Int)<n)=false:=by simp;omega
 have hmm:= @run_makeMap prog
 go_enter func78,ntmps78
 go_wp2
 go_ret2
 have e2:((w.alloc (Obj.map #[] 0)).alloc (Obj.map #[] 0)).heap.size=w.heap.size+1+1:=by simp
 obtain⟨n1,n2,n3,nb⟩:=new3 w (Obj.map #[] 0) (Obj.map #[] 0) (Obj.cells #[.int .i64 n,.map (some w.heap.size),.slice none 0 0,.map (some (w.heap.size+1)),.int .i64 0,.bool false,.bool false] 234)
 refine⟨w.heap.size+1+1,_,rfl,rfl,⟨h2,n3,?_,?_,qO,⟨?_,?_,?_,?_,?_,?_⟩,?_,?_⟩,rfl,nb⟩
 ·exact zAZ n1
 ·exact zAZ n2
 all_goals simp[zCw,Value.ownBlock]
 all_goals omega
structure LogS where
 bd:Nat
 D:DiskS
 ring:Nat
 tail:Nat
 next:Nat
 used:Nat
 seq:Nat
 bo:Nat
 over:Int→Option QB
 no:Nat
 down:Bool
def LogS.cells(L:LogS):Array Value:= #[.pointer (some ⟨L.bd,0,none⟩),.int .i64 L.ring,.int .i64 L.tail,.int .i64 L.next,.int .i64 L.used,.int .u64 L.seq,.map (some L.bo),.bool L.down]
def LogS.foot(L:LogS)(bl:Nat)(k:Nat):Prop:=k=bl∨k=L.bo∨L.D.foot L.bd k
structure LogAt(w:World)(bl:Nat)(L:LogS):Prop where
 cells:w.heap[bl]? =some (.cells L.cells 236 (0,0))
 disk:DiskAt w L.bd L.D
 over:IMap w L.bo (strs L.over) L.no
 apart:bl≠L.bo∧¬L.D.foot L.bd bl∧¬L.D.foot L.bd L.bo
 s512:∀i s,L.over i=some s→s.size=512
 ring:4≤L.ring∧L.ring≤4096∧L.ring+2≤L.D.size
theorem LogAt.keep{w w':World}{bl:Nat}{L:LogS}(h:LogAt w bl L){S:Nat→Prop}(hk:Keep S w w')(hn:∀k,L.foot bl k→¬S k):LogAt w' bl L:=⟨hk.at h.cells (hn _ (.inl rfl)),h.disk.keep hk (fun k hf=>hn k (.inr (.inr hf))),h.over.keep hk (hn _ (.inr (.inl rfl))),h.apart,h.s512,h.ring⟩
theorem LogAt.foot_lt{w:World}{bl:Nat}{L:LogS}(h:LogAt w bl L){k:Nat}(hf:L.foot bl k):k<w.heap.size:=by
 rcases hf with rfl|rfl|hf
 ·exact(Gl h.cells)
 ·exact h.over.lt
 ·exact h.disk.foot_lt hf
def LogS.homes(L:LogS):Nat:=L.D.size-1-L.ring
def LogS.read(L:LogS)(i:Int):QB:=(L.over i).getD (L.D.read (1+L.ring+i))
theorem LogS.read_size{w:World}{bl:Nat}{L:LogS}(h:LogAt w bl L)(i:Int):(L.read i).size=512:=by
 unfold LogS.read
 cases hn:L.over i with|some s=>exact h.s512 i s hn|none=>exact DiskS.read_size h.disk _
theorem yz{w:World}{b:Nat}{L:LogS}{t:TypeId}(h:w.heap[b]? =some (.cells L.cells t (0,0))):(w.cell? ⟨b,0,none⟩=some (.pointer (some ⟨L.bd,0,none⟩))∧w.cell? ⟨b,1,none⟩=some (.int .i64 L.ring)∧w.cell? ⟨b,2,none⟩=some (.int .i64 L.tail)∧w.cell? ⟨b,3,none⟩=some (.int .i64 L.next)∧w.cell? ⟨b,4,none⟩=some (.int .i64 L.used)∧w.cell? ⟨b,5,none⟩=some (.int .u64 L.seq)∧w.cell? ⟨b,6,none⟩=some (.map (some L.bo))∧w.cell? ⟨b,7,none⟩=some (.bool L.down)):=by
 simp[World.cell?,h,LogS.cells]
theorem zDN{w:World}{bl:Nat}{L:LogS}(h:w.heap[bl]? =some (.cells L.cells 236 (0,0))):Calls prog 262 #[.pointer (some ⟨bl,0,none⟩)] w fun e w'=>e= .returned (.bool L.down)∧w=w':=by
 obtain⟨c0,c1,c2,c3,c4,c5,c6,c7⟩:=yz h
 go_enter func262,ntmps262
 go_wp2
 go_ret
 exact⟨rfl,rfl⟩
theorem Keep.still{w u:World}(h:Below w.heap.size w u):Keep (fun _=>False) w u:=Keep.ofBelow h
theorem LogAt.still{w u:World}{bl:Nat}{L:LogS}(h:LogAt w bl L)(hb:Below w.heap.size w u):LogAt u bl L:=h.keep (Keep.still hb) (fun _ _ h=>h)
theorem zAb{w:World}{bl:Nat}{L:LogS}(h:LogAt w bl L):Calls prog 144 #[.pointer (some ⟨bl,0,none⟩)] w fun e w'=>e= .returned (.int .i64 L.homes)∧Below w.heap.size w w':=by
 have H1:=Hd (fun u(hu:LogAt u bl L)=>zCH hu.disk.cells)
 have e1:(L.D.size:Int)-1-(L.ring:Int)=(L.homes:Int):=by have:=h.ring;unfold LogS.homes;omega
 have e2:IntKind.i64.wrap ((L.D.size:Int)-1)=(L.D.size:Int)-1:=zv (by omega) (by have:=h.disk.size;omega)
 have e3:IntKind.i64.wrap (L.homes:Int)=(L.homes:Int):=zv (by omega) (by have:=h.disk.size;unfold LogS.homes;omega)
 generalize L.homes=n at*
 obtain⟨C,hC⟩:∃C:World→Prop,∀u,C u↔Below (w).heap.size (w) u:=⟨fun u=>Below (w).heap.size (w) u,fun _=>Iff.rfl⟩
 have F:∀u,C u→LogAt u bl L:=fun u hu=>by have hu:=(hC u).1 hu;exact h.still hu
 have step:∀u u',C u→Below u.heap.size u u'→C u':=fun u u' hu hb=>(hC u').2 (((hC u).1 hu).trans (hb.mono ((hC u).1 hu).size))
 have HC:=Hd hC
 have FF:=Hd F
 clear hC F
 go_enter func144,ntmps144
 go_wp2
 refine yY 11 C (by kernel_rfl) (by kernel_rfl) ((HC.out _).2 (Below.refl _ _).drew) ?_
 simp only[List.take_succ_cons,List.take_zero,List.drop_succ_cons,List.drop_zero]
 repeat first|((first|refine xC rfl (fun K hK=> ?_)|refine yp (by rfl) (fun K hK=> ?_));apply Exists.intro;refine⟨fun u hu=> ?_,?_⟩;(·have HU:=Hd hu;obtain⟨c0,c1,c2,c3,c4,c5,c6,c7⟩:=yz (FF.out u hu).cells;clear hu;go_simp;first|exact⟨HU.out,rfl⟩|(go_at_call 138;with_reducible refine(H1.out u (FF.out u HU.out)).mono ?_;rintro e w'⟨rfl,rfl⟩;exact⟨rfl,HU.out⟩));go_simp;refine hK _ ?_;clear hK K)|(refine yq (by rfl) (fun K hK=> ?_);go_simp;refine hK _ ?_;clear hK K)
 refine vq ?_
 intro w' hw'
 go_wp2
 go_ret
 exact⟨rfl,(HC.out _).1 hw'⟩
theorem zEE(bl:Nat)(c:Int)(hc:c≠3)(w:World):Calls prog 241 #[.pointer (some ⟨bl,0,none⟩),.int .i64 c] w fun e w'=>e= .returned (.int .i64 c)∧w=w':=by
 have e1:decide (c=3)=false:=by simpa using hc
 go_enter func241,ntmps241
 go_wp2
 go_ret
 exact⟨rfl,rfl⟩
def LogS.says(L:LogS)(i:Int):Value:=if 0≤i∧i<L.homes then .tuple #[.string (L.read i),.int .i64 0]else .tuple #[.string ByteArray.empty,.int .i64 2]
theorem zRU{p:Prop}(h:p:=by refine vq ?_;intro w' hw';go_wp2_with(go_at_call 241;refine(H5.out _).mono ?_;rintro e w1⟨rfl,rfl⟩);go_ret2;exact⟨rfl,(HC.out _).1 hw'⟩):p:=h
theorem zRV{p:Prop}(h:p:=by have HU:=Hd hu;obtain⟨c0,c1,c2,c3,c4,c5,c6,c7⟩:=yz (FF.out u hu).cells;clear hu;go_simp;first|exact⟨HU.out,rfl⟩|(go_at_call 140;with_reducible refine(H4.out u (FF.out u HU.out)).mono ?_;rintro e w'⟨rfl,hb⟩;exact⟨rfl,step _ _ HU.out hb⟩)):p:=h
theorem zHJ{w:World}{bl:Nat}{L:LogS}(h:LogAt w bl L)(hd:L.down=false)(hdd:L.D.down=false){i:Int}(hi:(Lit.int .i64 i).wf=true):Calls prog 227 #[.pointer (some ⟨bl,0,none⟩),.int .i64 i] w fun e w'=>e= .returned (L.says i)∧Below w.heap.size w w':=by
 have H1:=Hd (fun u(hu:LogAt u bl L)=>zDN hu.cells)
 have H2:=Hd (fun u(hu:LogAt u bl L)=>zAb hu)
 rw[hd]at H1
 obtain⟨C,hC⟩:∃C:World→Prop,∀u,C u↔Below (w).heap.size (w) u:=⟨fun u=>Below (w).heap.size (w) u,fun _=>Iff.rfl⟩
 have F:∀u,C u→LogAt u bl L:=fun u hu=>by have hu:=(hC u).1 hu;exact h.still hu
 have step:∀u u',C u→Below u.heap.size u u'→C u':=fun u u' hu hb=>(hC u').2 (((hC u).1 hu).trans (hb.mono ((hC u).1 hu).size))
 have HC:=Hd hC
 have FF:=Hd F
 clear hC F
 unfold LogS.says
 by_cases hlo:i<0
 ·(have e1:decide (i<0)=true:=by simpa using hlo);(have e2:¬(0≤i∧i<(L.homes:Int)):=by omega);rw[if_neg e2];go_enter func227,ntmps227;go_wp2_with(first|(go_at_call 262;refine(H1.out _ h).mono ?_;rintro e w1⟨rfl,rfl⟩));go_ret2;exact⟨rfl,Below.refl _ _⟩
 ·(have e1:decide (i<0)=false:=by simpa using hlo);by_cases hhi:(L.homes:Int)≤i;(·(have e3:decide ((L.homes:Int)≤i)=true:=by simpa using hhi);(have e2:¬(0≤i∧i<(L.homes:Int)):=by omega);rw[if_neg e2];go_enter func227,ntmps227;go_wp2_with(first|(go_at_call 262;refine(H1.out _ h).mono ?_;rintro e w1⟨rfl,rfl⟩)|(go_at_call 144;refine(H2.out _ h).mono ?_;rintro e w1⟨rfl,hb⟩));go_ret2;exact⟨rfl,hb⟩);·(have e3:decide ((L.homes:Int)≤i)=false:=by simpa using hhi);(have e2:(0≤i∧i<(L.homes:Int)):=by omega);have hr:=h.ring;have hsz:=h.disk.size;(have hlt:(i:Int)<65536:=by unfold LogS.homes at e2;omega);(have hin:0≤1+(L.ring:Int)+i∧1+(L.ring:Int)+i<L.D.size:=by unfold LogS.homes at e2;omega);rw[if_pos e2];have H3:=Hd (fun u(hu:LogAt u bl L)=>zMC hu.over hi true);have H4:=Hd (fun u(hu:LogAt u bl L)=>diskRead_any hu.disk (i:=1+(L.ring:Int)+i) (zFQ (by omega) (by omega)));have H5:=Hd (zEE bl 0 (by decide));(have ds:L.D.says (1+(L.ring:Int)+i)= .tuple #[.string (L.D.read (1+(L.ring:Int)+i)),.int .i64 0]:=by unfold DiskS.says;rw[hdd,if_pos hin];rfl);rw[ds]at H4;unfold LogS.read;have w1:IntKind.i64.wrap (1+(L.ring:Int))=1+(L.ring:Int):=zv (by omega) (by omega);have w2:IntKind.i64.wrap (1+(L.ring:Int)+i)=1+(L.ring:Int)+i:=zv (by omega) (by omega);generalize L.D.read (1+(L.ring:Int)+i)=sd at*;generalize hp:1+(L.ring:Int)+i=place at*;generalize hq:1+(L.ring:Int)=pl at*;cases ho:L.over i with|some s=>rw[ho]at H3;go_enter func227,ntmps227;go_wp2_with(first|(go_at_call 262;refine(H1.out _ h).mono ?_;rintro e w1⟨rfl,rfl⟩)|(go_at_call 144;refine(H2.out _ h).mono ?_;rintro e w1⟨rfl,hb⟩;obtain⟨c0,c1,c2,c3,c4,c5,c6,c7⟩:=yz (h.still hb).cells;have l3:=H3.out _ (h.still hb)));go_ret2;exact⟨rfl,hb⟩|none=>rw[ho]at H3;go_enter func227,ntmps227;go_wp2_with(first|(go_at_call 262;refine(H1.out _ h).mono ?_;rintro e w1⟨rfl,rfl⟩)|(go_at_call 144;refine(H2.out _ h).mono ?_;rintro e w1⟨rfl,hb⟩;obtain⟨c0,c1,c2,c3,c4,c5,c6,c7⟩:=yz (h.still hb).cells;have l3:=H3.out _ (h.still hb)));refine yY 16 C (by kernel_rfl) (by kernel_rfl) ((HC.out _).2 hb.drew) ?_;simp only[List.take_succ_cons,List.take_zero,List.drop_succ_cons,List.drop_zero];(repeat first|((first|refine xC rfl (fun K hK=> ?_)|refine yp (by rfl) (fun K hK=> ?_));apply Exists.intro;refine⟨fun u hu=> ?_,?_⟩;(·exact zRV);go_simp;refine hK _ ?_;clear hK K)|(refine yq (by rfl) (fun K hK=> ?_);go_simp;refine hK _ ?_;clear hK K));exact zRU
def stepT(x:Nat)(c:UInt8):Nat:=x*256 %18446744073709551616+c.toNat
def zAz(s:QB):Nat:=s.data.toList.foldl stepT 0
theorem zI0(s:QB)(k:Nat)(h:k<s.size):(s.data.toList.take (k+1)).foldl stepT 0=stepT ((s.data.toList.take k).foldl stepT 0) s[k]:=by
 have hl:k<s.data.toList.length:=by simpa using h
 rw[List.take_succ_eq_append_getElem hl,List.foldl_append]
 rfl
theorem orT(x:Nat)(c:UInt8):bits .or .u64 (IntKind.u64.wrap ((x:Int)*256)) (c.toNat:Int)=((stepT x c:Nat):Int):=by
 have e1:IntKind.u64.wrap ((x:Int)*256)=((x*256 %18446744073709551616:Nat):Int):=by rw[IntKind.wrap_u64];omega
 have hc:=c.toNat_lt
 rw[e1,bits_or_u64_nat _ _ (by omega) (by omega)]
 unfold stepT
 have e2:x*256 %18446744073709551616=(x %72057594037927936)*2^8:=by omega
 rw[e2,Nat.mul_comm,←Nat.two_pow_add_eq_or_of_lt (by omega)]
set_option maxRecDepth 100000
theorem zAH(s:QB)(hs:s.size≤9223372036854775807)(w:World):Calls prog 142 #[.string s] w fun e w'=>e= .returned (.int .u64 (zAz s))∧w=w':=by
 go_enter func142,ntmps142
 go_wp2
 go_loopw [3,7](fun z i wr=>(∃k:Nat,k≤s.size∧i= .int .i64 k∧z= .int .u64 ((s.data.toList.take k).foldl stepT 0:Nat))∧w=wr)(fun _ i _=>s.size-(intOf i).toNat)
 case atStart=>exact⟨⟨0,by omega,rfl,rfl⟩,rfl⟩
 case round=>obtain⟨⟨k,hk,rfl,rfl⟩,rfl⟩:=hrel;by_cases hlt:k<s.size;(·have HS:=Hd (zI0 s k hlt);have ho:=orT ((s.data.toList.take k).foldl stepT 0) s[k];generalize(s.data.toList.take k).foldl stepT 0=z at*;(have hi0:(0:Int)≤(k:Int):=by omega);(have hi1:(k:Int)<(s.size:Int):=by omega);go_wp2;refine⟨⟨⟨k+1,by omega,by go_num,?_⟩,trivial⟩,by simp only[intOf];omega⟩;have hc:=s[k].toNat_lt;rw[HS.out,show IntKind.u64.wrap (s[k].toNat:Int)=(s[k].toNat:Int)by rw[IntKind.wrap_u64];omega,ho]);·(obtain rfl:k=s.size:=by omega);(have hsz:(s.data.toList.take s.size).foldl stepT 0=zAz s:=by rw[Qk (by simp)];rfl);rw[hsz];clear hsz;generalize hz:zAz s=z at*;have HZ:=Hd hz;clear hz;go_wp2;go_ret;exact⟨by rw[HZ.out];rfl,rfl⟩
theorem zA5{w:World}{bl:Nat}{L:LogS}(h:LogAt w bl L)(hdd:L.D.down=false)(at_:Nat)(ha:at_<4611686018427387904):Calls prog 200 #[.pointer (some ⟨bl,0,none⟩),.int .i64 at_] w fun e w'=>e= .returned (.tuple #[.string (L.D.read (1+(at_ %L.ring:Nat))),.int .i64 0])∧Below w.heap.size w w':=by
 have hr:=h.ring
 have hsz:=h.disk.size
 have hm:at_ %L.ring<L.ring:=Nat.mod_lt _ (by omega)
 have H4:=Hd (fun u(hu:LogAt u bl L)=>diskRead_any hu.disk (i:=1+(at_ %L.ring:Nat)) (zFQ (by omega) (by omega)))
 have H5:=Hd (zEE bl 0 (by decide))
 have ds:L.D.says (1+(at_ %L.ring:Nat))= .tuple #[.string (L.D.read (1+(at_ %L.ring:Nat))),.int .i64 0]:=by(have hin:0≤1+((at_ %L.ring:Nat):Int)∧1+((at_ %L.ring:Nat):Int)<L.D.size:=by omega);unfold DiskS.says;rw[hdd,if_pos hin];rfl
 rw[ds]at H4
 have e1:(at_:Int).tmod (L.ring:Int)=((at_ %L.ring:Nat):Int):=by rw[Int.tmod_eq_emod_of_nonneg (by omega)];rfl
 have e2:IntKind.i64.wrap ((at_ %L.ring:Nat):Int)=((at_ %L.ring:Nat):Int):=zv (by omega) (by omega)
 have e3:IntKind.i64.wrap (1+((at_ %L.ring:Nat):Int))=1+((at_ %L.ring:Nat):Int):=zv (by omega) (by omega)
 have e4:¬(L.ring:Int)=0:=by omega
 have e5:¬L.ring=0:=by omega
 have hring:(0:Int)<L.ring:=by omega
 generalize hp:1+((at_ %L.ring:Nat):Int)=place at*
 generalize L.D.read place=sd at*
 generalize at_ %L.ring=m at*
 obtain⟨C,hC⟩:∃C:World→Prop,∀u,C u↔Below (w).heap.size (w) u:=⟨fun u=>Below (w).heap.size (w) u,fun _=>Iff.rfl⟩
 have F:∀u,C u→LogAt u bl L:=fun u hu=>by have hu:=(hC u).1 hu;exact h.still hu
 have step:∀u u',C u→Below u.heap.size u u'→C u':=fun u u' hu hb=>(hC u').2 (((hC u).1 hu).trans (hb.mono ((hC u).1 hu).size))
 have HC:=Hd hC
 have FF:=Hd F
 clear hC F
 go_enter func200,ntmps200
 go_wp2
 refine yY 16 C (by kernel_rfl) (by kernel_rfl) ((HC.out _).2 (Below.refl _ _).drew) ?_
 simp only[List.take_succ_cons,List.take_zero,List.drop_succ_cons,List.drop_zero]
 repeat first|((first|refine xC rfl (fun K hK=> ?_)|refine yp (by rfl) (fun K hK=> ?_));apply Exists.intro;refine⟨fun u hu=> ?_,?_⟩;(·exact zRV);go_simp;refine hK _ ?_;clear hK K)|(refine yq (by rfl) (fun K hK=> ?_);go_simp;refine hK _ ?_;clear hK K)
 exact zRU
end
section
open Go.RowKit Go.MapKept
def yA(bd:Nat)(D:DiskS)(ring bo:Nat):LogS:={bd:=bd,D:=D,ring:=ring,tail:=0,next:=0,used:=0,seq:=0,bo:=bo,over:=fun _=>none,no:=0,down:=false}
theorem zI1:(⟨(Lib.trimB (yn 512).data.toList 0).toArray⟩:QB)=ByteArray.empty:=by
 have h:∀n,(List.replicate n (0:UInt8)).dropWhile (·==0)=[]:=by intro n;induction n with|zero=>rfl|succ n ih=>rw[List.replicate_succ,List.dropWhile_cons];simp
 have h2:∀m,(yn m).data.toList=List.replicate m 0:=fun m=>by simp[yn]
 rw[h2]
 generalize(512:Nat)=n
 have h3:Lib.trimB (List.replicate n (0:UInt8)) 0=[]:=by simp[Lib.trimB,Lib.trimLeftB,Lib.trimRightB,h]
 rw[h3]
 rfl
theorem zME{w:World}{b:Nat}{c:Array Value}{t:TypeId}(h:w.heap[b]? =some (.cells c t (0,0)))(i:Nat)(v:Value)(hv:c[i]? =some v):(w.setCell ⟨b,i,none⟩ v).heap[b]? =some (.cells c t (0,0)):=by
 simp[World.setCell,Array.getElem?_modify,h]
 obtain⟨hi,hv'⟩:=Array.getElem?_eq_some_iff.1 hv
 apply Array.ext
 ·simp
 ·intro j h1 h2;rw[Array.getElem_setIfInBounds];split;(·rename_i e;subst e;exact hv'.symm);·rfl
theorem zMF{w:World}{b:Nat}{c:Array Value}{t:TypeId}(h:w.heap[b]? =some (.cells c t (0,0)))(i:Nat)(v:Value)(hv:c[i]? =some v):Below w.heap.size w (w.setCell ⟨b,i,none⟩ v):=by
 refine⟨rfl,rfl,rfl,by simp[World.setCell],fun k _=> ?_⟩
 by_cases hk:k=b
 ·subst hk;rw[zME h i v hv,h]
 ·exact Below.heap_setCell _ _ _ _ hk
theorem zAc{w:World}{b:Nat}{c:Array Value}{t:TypeId}(h:w.heap[b]? =some (.cells c t (0,0)))(i:Nat):w.frozen? ⟨b,i,none⟩=false:=by
 simp[World.frozen?,h]
theorem zDo(w:World)(o1 o2:Obj):((w.alloc o1).alloc o2).heap[w.heap.size]? =some o1∧((w.alloc o1).alloc o2).heap[w.heap.size+1]? =some o2∧Below w.heap.size w ((w.alloc o1).alloc o2):=by
 refine⟨?_,?_,?_⟩
 ·rw[Below.heap_alloc _ _ _ (by simp),qH]
 ·exact zRM
 ·exact(qA).alloc (by simp) _
theorem DiskAt.still{w u:World}{bd:Nat}{D:DiskS}(h:DiskAt w bd D)(hb:Below w.heap.size w u):DiskAt u bd D:=h.keep (Keep.ofBelow (S:=fun _=>False) hb) (fun _ _ h=>h)
set_option maxRecDepth 100000
end
section
section
variable {P : Program} {ops : Array Oper} {md : Region.Mode} {S : World → Prop}
def zCL:Exit→Act→World→Prop:=fun _ _ _=>False
def Same(u w:World):Prop:=w=u
def yg(v:Value)(u:World):Result Next→Prop| .ok (.value x) w'=>Same u w'∧x=v|_=>False
def HeldV(P:Program)(o:Oper)(a:Act)(S:World→Prop)(v:Value):Prop:=∀u,S u→yg v u ((execOp a.eval o).run P u)
theorem HeldV.run{o:Oper}{a:Act}{v:Value}(h:HeldV P o a S v):∀u,S u→(execOp a.eval o).run P u= .ok (.value v) u:=by
 intro u hu
 have:=h u hu
 generalize(execOp a.eval o).run P u=r at*
 cases r with|ok n w'=>cases n<;>simp only[yg]at this;obtain⟨h1,rfl⟩:=this;rw[show w'=u from h1]|halt x w'=>exact this.elim
theorem zMG(h:LetsOut zCL):False:=by
 obtain⟨_,_,h⟩:=h
 exact h
theorem Oper.wp_exit{Q:Exit→Act→World→Prop}{o:Oper}{a:Act}{w:World}{K:Act→World→Prop}(hh:o.wp P a w K zCL):o.wp P a w K Q:=by
 unfold Oper.wp at*
 generalize(execOp a.eval o).run P w=r at*
 cases r with|ok n w'=>(cases n<;>simp only[Oper.upon]at hh⊢<;>first|exact hh|exact Calls.mono hh (fun e w'' he=>by cases e with|returned v=>exact he|panicked c=>exact(he:False).elim|outgrown=>exact(zMG he).elim)|exact Rows.mono hh (fun _ _ he=>he))|halt x w'=>cases x<;>simp only[Oper.upon]at hh⊢<;>first|exact hh|exact(hh:False).elim|exact(zMG hh).elim
def opW(P:Program)(ops:Array Oper)(i:Nat)(K:Act→World→Prop)(a:Act)(w:World):Prop:=match ops[i]? with|none=>K a w|some o=>if Region.wanted o (yielded ops a.tmps)then o.wp P a w K zCL else K (a.put o.dst undef) w
theorem zHK{i:Nat}{a:Act}{w:World}{K K':Act→World→Prop}(h:∀a w,K a w→K' a w)(hh:opW P ops i K a w):opW P ops i K' a w:=by
 unfold opW at*
 split
 ·exact h _ _ (by simpa[*]using hh)
 ·rename_i o ho;simp only[ho]at hh;split;(·rename_i hw;simp only[hw,if_true]at hh;exact Oper.wp_mono h hh);·rename_i hw;simp only[hw]at hh;exact h _ _ hh
theorem zMH{Q:Exit→Act→World→Prop}{i:Nat}{a:Act}{w:World}{K:Act→World→Prop}(hh:opW P ops i K a w):wpOp P ops Q i K a w:=by
 unfold opW at hh
 unfold wpOp
 split
 ·simpa[*]using hh
 ·rename_i o ho;simp only[ho]at hh;split;(·rename_i hw;simp only[hw,if_true]at hh;exact .inl (Oper.wp_exit hh));·rename_i hw;simp only[hw]at hh;exact hh
theorem zEF{i:Nat}{o:Oper}{v:Value}{a:Act}(hi:ops[i]? =some o)(hy:YieldsIf P ops S o v a){K:Act→World→Prop}{w:World}(hS:S w)(h:K (a.put o.dst v) w):opW P ops i K a w:=by
 unfold opW
 simp only[hi]
 rcases hy with⟨hw,hv⟩|⟨hw,rfl⟩
 ·simp only[hw,if_true,Oper.wp,hv w hS,Oper.upon];exact h
 ·simp only[hw,Bool.false_eq_true,if_false];exact h
theorem zRW{p:Prop}(h:p:=by exact⟨keep a hy _,by rw[←Act.put_comm a v undef h2];exact h⟩):p:=h
theorem zN7{j:Nat}{oi oj:Oper}{v:Value}(hj:ops[j]? =some oj)(hap:oi.apart ops oj=true)(hsi:∀cs b,oi.op≠ .select cs b)(hsj:∀cs b,oj.op≠ .select cs b){K:Act→World→Prop}{a:Act}{w:World}(hy:YieldsIf P ops S oi v a)(h:opW P ops j K (a.put oi.dst v) w):opW P ops j (fun a' w'=>YieldsIf P ops S oi v a'∧K (a'.put oi.dst v) w') a w:=by
 have hQ:∀c a w,zCL (.panic c) (a.put oi.dst v) w→zCL (.panic c) a w:=fun _ _ _ h=>h
 obtain⟨h1,h2,h3⟩:=Oper.apart_spec hap
 have keep:∀(a:Act),YieldsIf P ops S oi v a→∀u,YieldsIf P ops S oi v (a.put oj.dst u):=fun a hy u=>hy.of_same (execOp_put oi hsi a oj.dst u h3) (wanted_put oi a oj.dst u h3)
 have keepD:∀d,YieldsIf P ops S oi v {a with defers:=d::a.defers}:=fun d=>hy.of_same rfl rfl
 unfold opW at*
 simp only[hj]at*
 rw[wanted_put oj a oi.dst v h1]at h
 split
 ·rename_i hw;simp only[hw,if_true]at h;unfold Oper.wp at*;rw[execOp_put oj hsj a oi.dst v h1]at h;generalize(execOp a.eval oj).run P w=r at*;cases r with|ok n w'=>cases n<;>simp only[Oper.upon]at h⊢;(case value u=>exact⟨keep a hy u,by rw[←Act.put_comm a v u h2];exact h⟩);(case skip=>exact zRW);(case defer d=>refine⟨keep _ (keepD d) _,?_⟩;rw[←Act.put_comm _ v undef h2,←Act.put_defers];exact h);(case enter f args=>refine Calls.mono h fun e w'' he=> ?_;cases e with|returned u=>exact⟨keep a hy u,by rw[←Act.put_comm a v u h2];exact he⟩|panicked c=>exact hQ _ _ _ he|outgrown=>exact he);(case row row args=>exact Rows.mono h fun u w'' he=>⟨keep a hy u,by rw[←Act.put_comm a v u h2];exact he⟩)|halt x w'=>cases x<;>simp only[Oper.upon]at h⊢;case panic u=>exact hQ _ _ _ h
 ·rename_i hw;simp only[hw]at h;exact zRW
def wpZ(P:Program)(md:Region.Mode)(ops:Array Oper)(S:World→Prop)(n:Nat)(L:Array Bool→Act→World→Prop):Nat→Array Bool→Act→World→Prop|0,listed,a,w=>L listed a w|f+1,listed,a,w=>Region.ready md ops listed≠[]∧∀i∈Region.ready md ops listed,i<n∧opW P ops i (fun a' w'=>S w'∧wpZ P md ops S n L f (listed.setIfInBounds i true) a' w') a w
theorem zCM{n g:Nat}{L:Array Bool→Act→World→Prop}{Q:Exit→Act→World→Prop}(hL:∀listed a w,L listed a w→wpAny P md ops Q g listed a w):∀(f:Nat)(listed:Array Bool)(a:Act)(w:World),wpZ P md ops S n L f listed a w→wpAny P md ops Q (f+g) listed a w|0,listed,a,w,h=>by rw[Nat.zero_add];exact hL _ _ _ h|f+1,listed,a,w,h=>by rw[show f+1+g=(f+g)+1 by omega];exact⟨fun h0=>absurd h0 h.1,fun i hi=>zMH (zHK (fun a' w' h'=>zCM hL f _ a' w' h'.2) (h.2 i hi).2)⟩
theorem zRX{p:Prop}(h:p:=by refine⟨hjn,?_⟩;by_cases hji:j=i;(·subst hji;exact zEF hi hy hS ⟨hS,H⟩);(·have:=hdone _ _ _ H j (ready_mono hj hji);omega)):p:=h
theorem zRY{p:Prop}(h:p:=by refine⟨hjn,?_⟩;by_cases hji:j=i;(·subst hji;exact zEF hi hy hS ⟨hS,H⟩);·have h1:=(H.2 j (ready_mono hj hji)).2;obtain⟨hjun,oj,hoj,hall⟩:=mem_ready.1 hj;(have hnot:∀e∈oj.after,Region.binds md e=true→e.on≠i:=fun e he hb heq=>by exact zRS);have h2:=zN7 hoj (hfree j oj hoj hji hjun hnot) (fun cs b=>hsel i oi cs b hi) (fun cs b=>hsel j oj cs b hoj) hy h1;(have hfree':∀k ok,ops[k]? =some ok→k≠i→(listed.setIfInBounds j true).getD k true=false→(∀e∈ok.after,Region.binds md e=true→e.on≠i)→oi.apart ops ok=true:=fun k ok hk hki hun hno=>by exact zRT);refine zHK (fun a' w' h3=>⟨h3.2.1,ih (listed.setIfInBounds j true) a' w' (inv.set hj hjn) hfree' (ready_mono hr (Ne.symm hji)) h3.1 h3.2.1 ?_⟩) h2;rw[Array.setIfInBounds_comm _ _ hji];exact h3.2.2):p:=h
theorem zFS{n i:Nat}{oi:Oper}{v:Value}{L:Array Bool→Act→World→Prop}(hi:ops[i]? =some oi)(hsel:∀(j:Nat)(o:Oper)cs b,ops[j]? =some o→o.op≠ .select cs b)(hs:Region.sinkB md ops n=true)(hc:Region.chainB md ops n=true)(hn:n<ops.size)(hin:i<n)(hdone:∀listed a w,L listed a w→∀j∈Region.ready md ops listed,n≤j):∀(f:Nat)(listed:Array Bool)(a:Act)(w:World),HeadInv md ops n listed→(∀j oj,ops[j]? =some oj→j≠i→listed.getD j true=false→(∀e∈oj.after,Region.binds md e=true→e.on≠i)→oi.apart ops oj=true)→i∈Region.ready md ops listed→YieldsIf P ops S oi v a→S w→wpZ P md ops S n L f (listed.setIfInBounds i true) (a.put oi.dst v) w→wpZ P md ops S n L (f+1) listed a w:=by
 intro f
 induction f with|zero=>intro listed a w inv _ hr hy hS H;refine⟨fun h=>(by rw[h]at hr;cases hr),fun j hj=> ?_⟩;(have hjn:j<n:=by exact zN6);exact zRX|succ f ih=>intro listed a w inv hfree hr hy hS H;refine⟨fun h=>(by rw[h]at hr;cases hr),fun j hj=> ?_⟩;(have hjn:j<n:=by exact zN6);exact zRY
def zCN(md:Region.Mode)(ops:Array Oper)(n g:Nat):List (Nat×Bool)→Array Bool→Bool|[],listed=>Region.seqB md ops g n listed|(k,p)::r,listed=>decide (k<n)&&(if p then(Region.ready md ops listed).contains k&&Region.free md ops listed k else decide (Region.ready md ops listed=[k]))&&zCN md ops n g r (listed.setIfInBounds k true)
def wpH(P:Program)(ops:Array Oper)(S:World→Prop)(l:List Oper)(Lq:Act→World→Prop):List (Nat×Bool)→Act→World→Prop|[],a,w=>Lq a w|(k,p)::r,a,w=>match l[k]? with|none=>False|some o=>if Region.wanted o (yielded ops a.tmps)then(if p then∃v,HeldV P o a S v∧wpH P ops S l Lq r (a.put o.dst v) w else o.wp P a w (fun a' w'=>S w'∧wpH P ops S l Lq r a' w') zCL)else wpH P ops S l Lq r (a.put o.dst undef) w
theorem kD{l:List Oper}{Lq:Act→World→Prop}{k:Nat}{r:List (Nat×Bool)}{a:Act}{w:World}{o:Oper}(hk:l[k]? =some o)(hg:o.guard=none)(h:∀K:Act→Prop,(∀a,wpH P ops S l Lq r a w→K a)→∃v,HeldV P o a S v∧K (a.put o.dst v)):wpH P ops S l Lq ((k,true)::r) a w:=by
 unfold wpH
 simp only[hk,Region.wanted,hg,if_true]
 exact h _ (fun _ h=>h)
theorem zQB{l:List Oper}{Lq:Act→World→Prop}{k:Nat}{r:List (Nat×Bool)}{a:Act}{w:World}{o:Oper}(hk:l[k]? =some o)(hg:o.guard=none)(h:∀K:Act→World→Prop,(∀a w,S w→wpH P ops S l Lq r a w→K a w)→o.wp P a w K zCL):wpH P ops S l Lq ((k,false)::r) a w:=by
 unfold wpH
 simp only[hk,Region.wanted,hg,if_true]
 exact h _ (fun _ _ h1 h2=>⟨h1,h2⟩)
theorem zN8{l:List Oper}{Lq:Act→World→Prop}{a:Act}{w:World}(h:Lq a w):wpH P ops S l Lq [] a w:=h
theorem zRZ{p:Prop}(h:p:=by simp only[hw,if_true]at h;obtain⟨v,hv,hK⟩:=h;exact fin v (.inl ⟨hw,hv.run⟩) hK):p:=h
theorem zRa{p:Prop}(h:p:=by simp only[hw]at h;exact fin undef (.inr ⟨by simpa using hw,rfl⟩) h):p:=h
theorem zRb{p:Prop}(h:p:=by by_cases hw:Region.wanted o (yielded ops a.tmps)=true;(·exact zRZ);(·exact zRa)):p:=h
theorem zAd{n g:Nat}{l:List Oper}{Lq:Act→World→Prop}(hl:ops=l.toArray)(hsel:Region.noSelect ops=true)(hs:Region.sinkB md ops n=true)(hc:Region.chainB md ops n=true)(hn:n<ops.size):∀(r:List (Nat×Bool))(listed:Array Bool)(a:Act)(w:World),HeadInv md ops n listed→zCN md ops n g r listed=true→S w→wpH P ops S l Lq r a w→wpZ P md ops S n (fun listed' a' w'=>Region.seqB md ops g n listed'=true∧Lq a' w') r.length listed a w|[],listed,a,w,_,hB,_,h=>⟨by simpa[zCN]using hB,h⟩|(k,p)::r,listed,a,w,inv,hB,hS,h=>by simp only[zCN,Bool.and_eq_true,decide_eq_true_eq]at hB;obtain⟨⟨hkn,hp⟩,hB'⟩:=hB;(have hlk:l[k]? =ops[k]? :=by rw[hl];simp);(have hlt:k<ops.size:=by omega);unfold wpH at h;rw[hlk]at h;cases ho:ops[k]? with|none=>rw[ho]at h;exact h.elim|some o=>rw[ho]at h;simp only at h;cases p with|true=>simp only[if_true,Bool.and_eq_true]at hp;(have hr:k∈Region.ready md ops listed:=by simpa using hp.1);have hfree:=Region.free_spec ho hp.2;have fin:∀v,YieldsIf P ops S o v a→wpH P ops S l Lq r (a.put o.dst v) w→wpZ P md ops S n (fun listed' a' w'=>Region.seqB md ops g n listed'=true∧Lq a' w') (r.length+1) listed a w:=fun v hy hK=>zFS ho (Region.noSelect_spec hsel) hs hc hn hkn (fun listed' a' w' hL=>seqB_ready hL.1) r.length listed a w inv hfree hr hy hS (zAd hl hsel hs hc hn r _ _ w (inv.set hr hkn) hB' hS hK);exact zRb|false=>simp only[Bool.false_eq_true,if_false,decide_eq_true_eq]at hp;(have hr:k∈Region.ready md ops listed:=by rw[hp];simp);refine⟨fun h0=>(by rw[hp]at h0;cases h0),fun j hj=> ?_⟩;rw[hp]at hj;(obtain rfl:j=k:=by simpa using hj);refine⟨hkn,?_⟩;unfold opW;simp only[ho];by_cases hw:Region.wanted o (yielded ops a.tmps)=true;(·simp only[hw,if_true,Bool.false_eq_true,if_false]at h⊢;exact Oper.wp_mono (fun a' w' h'=>⟨h'.1,zAd hl hsel hs hc hn r _ a' w' (inv.set hr hkn) hB' h'.1 h'.2⟩) h);·simp only[hw]at h⊢;exact⟨hS,zAd hl hsel hs hc hn r _ _ w (inv.set hr hkn) hB' hS h⟩
def zEG(md:Region.Mode)(ops:Array Oper)(n:Nat)(r:List (Nat×Bool)):Bool:=Region.noSelect ops&&decide (n<ops.size)&&decide (r.length=n)&&Region.sinkB md ops n&&Region.chainB md ops n&&zCN md ops n (ops.size-n) r (Array.replicate ops.size false)
theorem zQC{p:Prop}(h:p:=by refine wp_region_any hm ?_;have:=zCM (Q:=Q) (g:=l.toArray.size-n) (fun listed a' w' hL=>by have:=wpAny_of_seq (md:=.any) (Q':=Q) (l.drop n) n listed a' w' (fun j=>by simp[List.getElem?_drop]) (by rw[hdl];exact hL.1) hL.2;rwa [hdl]at this) _ _ _ _ H;rw[hlen,show n+(l.toArray.size-n)=l.toArray.size by omega]at this;exact this):p:=h
theorem zFE{id:Nat}{Q:Exit→Act→World→Prop}{a:Act}{w:World}{l:List Oper}(n:Nat)(r:List (Nat×Bool))(S:World→Prop)(hm:P.follows .mixedOrders=true)(hB:zEG .any l.toArray n r=true)(hS:S w.drew)(h:wpH P l.toArray S l (fun a' w'=>wpList P l.toArray Q (l.drop n) a' w') r a w.drew):(Code.region id l.toArray true).wp P Q a w:=by
 simp only[zEG,Bool.and_eq_true,decide_eq_true_eq]at hB
 obtain⟨⟨⟨⟨⟨hsel,hn⟩,hlen⟩,hs⟩,hc⟩,hheld⟩:=hB
 have hn':n<l.length:=by simpa using hn
 have hdl:(l.drop n).length=l.toArray.size-n:=by simp
 have inv0:HeadInv .any l.toArray n (Array.replicate l.toArray.size false):=⟨by simp,fun j oj _ hl=>(by rw[getD_replicate_false]at hl;cases hl),fun t _ ht=>getD_in (by simpa using ht) (getD_replicate_false _ _)⟩
 have H:=zAd (md:=.any) (g:=l.toArray.size-n) rfl hsel hs hc hn r _ a w.drew inv0 hheld hS h
 exact zQC
end
theorem mkS(P:World→Prop):∃S:World→Prop,RowKit.Hid (∀u,S u↔P u):=⟨P,Hd (fun _=>Iff.rfl)⟩
@[reducible]def tR(k:Nat):Nat×Bool:=(k,true)
@[reducible]def tD(k:Nat):Nat×Bool:=(k,false)
theorem rgo{P:Program}{id:Nat}{Q:Exit→Act→World→Prop}{a:Act}{w:World}{l:List Oper}{S T:World→Prop}(n:Nat)(r:List (Nat×Bool))(HS:RowKit.Hid (∀u,S u↔T u))(ht:T w.drew)(h:wpH P l.toArray S l (fun a' w'=>wpList P l.toArray Q (l.drop n) a' w') r a w.drew)(hm:P.follows .mixedOrders=true:=by kernel_rfl)(hB:zEG .any l.toArray n r=true:=by kernel_rfl):(Code.region id l.toArray true).wp P Q a w:=zFE n r S hm hB ((HS.out _).2 ht) h
theorem rd1{p q:Prop}(k:q)(h:RowKit.Hid q→p:=by intro k9;(first|(refine wpH_passed rfl (by rfl) (fun K hK=> ?_);go_simp;refine hK _ ?_;clear hK K)|((first|refine kD rfl rfl (fun K hK=> ?_)|refine wpH_readw rfl (by rfl) (fun K hK=> ?_));apply Exists.intro;refine⟨fun u hu=> ?_,?_⟩;(·(try have ff:=FR.out u hu);clear hu;go_simp;exact⟨rfl,rfl⟩);go_simp;refine hK _ ?_;clear hK K));exact k9.out):p:=h (Hd k)
theorem doH{p q:Prop}(k:q)(h:RowKit.Hid q→p:=by intro k9;(first|refine zQB rfl rfl (fun K hK=> ?_)|refine wpH_dow rfl (by rfl) (fun K hK=> ?_));revert K hK;exact k9.out):p:=h (Hd k)
theorem zl{p q:Prop}(k:q)(h:RowKit.Hid q→p:=by intro k9;refine zN8 ?_;simp only[List.drop_succ_cons,List.drop_zero];exact k9.out):p:=h (Hd k)
end
section
open Go.RowKit Go.MapKept
attribute [local go_sem] yo
abbrev Puts:=List (Int×QB)
def zX(p:Puts)(i:Int):List Nat:=(List.range p.length).filter (fun k=>decide ((p[k]?.map (·.1))=some i))
def seen(p:Puts)(f:Int→QB)(i:Int):QB:=((p.filter (fun x=>decide (x.1=i))).getLast?.map (·.2)).getD (f i)
theorem xD(p:Puts)(x:Int×QB)(i:Int):zX (p++[x]) i=zX p i++(if x.1=i then[p.length]else[]):=by
 unfold zX
 rw[Ql,List.length_singleton,List.range_succ,List.filter_append]
 congr 1
 ·apply List.filter_congr;intro k hk;rw[List.getElem?_append_left (by simpa using hk)]
 ·by_cases h:x.1=i<;>simp[h]
theorem zBP(p:Puts)(f:Int→QB)(x:Int×QB)(i:Int):seen (p++[x]) f i=if x.1=i then x.2 else seen p f i:=by
 unfold seen
 rw[List.filter_append]
 by_cases h:x.1=i<;>simp[h]
theorem zHL{α:Type}{p:List α→Prop}(l:List α)(h0:p [])(h1:∀l x,p l→p (l++[x])):p l:=by
 rw[←List.reverse_reverse l]
 induction l.reverse with|nil=>exact h0|cons x l ih=>rw[List.reverse_cons];exact h1 _ _ ih
theorem zFT(p:Puts)(f:Int→QB)(i:Int)(h:zX p i=[]):seen p f i=f i:=by
 revert h
 refine zHL (p:=fun p=>zX p i=[]→seen p f i=f i) p (fun _=>rfl) ?_
 ·intro p x ih h;rw[xD]at h;obtain⟨h1,h2⟩:=List.append_eq_nil_iff.1 h;rw[zBP,if_neg (by intro e;rw[if_pos e]at h2;cases h2),ih h1]
theorem zFU(p:Puts)(f:Int→QB)(i:Int)(l:List Nat)(k:Nat)(h:zX p i=l++[k]):k<p.length∧p[k]? =some (i,seen p f i):=by
 revert l k
 refine zHL (p:=fun p=>∀l k,zX p i=l++[k]→k<p.length∧p[k]? =some (i,seen p f i)) p ?_ ?_
 ·intro l k h;simp[zX]at h
 ·intro p x ih l k h;rw[xD]at h;by_cases hx:x.1=i;(·rw[if_pos hx]at h;obtain⟨rfl,hk⟩:=List.append_inj' h rfl;(have:k=p.length:=by simpa using hk.symm);subst this;refine⟨by simp,?_⟩;rw[zBP,if_pos hx,List.getElem?_append_right (Qn _)];simp[←hx]);·rw[if_neg hx,List.append_nil]at h;obtain⟨h1,h2⟩:=ih l k h;refine⟨by simp;omega,?_⟩;rw[zBP,if_neg hx,List.getElem?_append_left h1,h2]
theorem slice_form{w:World}{e:TypeId}{size:Nat}{v:Value}{n:Nat}{xs:List Value}(h:w.ownsRow 0 e size v n xs):∃a c,v= .slice a n c∧n≤c∧c≤maxLen:=by
 rcases h.2 with⟨rfl,rfl⟩|⟨g,cap,cur,rfl,_,_,h1,h2,_⟩
 ·exact⟨none,0,rfl,Qn _,Nat.zero_le _⟩
 ·exact⟨_,cap,rfl,h1,h2⟩
theorem zDv{w:World}{e:TypeId}{size:Nat}{v:Value}{n:Nat}{xs:List Value}(h:w.ownsRow 0 e size v n xs)(hn:0<n):∃g c,v= .slice (some ⟨g,0,none⟩) n c∧n≤c∧c≤maxLen∧∀(j:Nat)u,xs[j]? =some u→w.cell? ⟨g,j,none⟩=some u:=by
 rcases h.2 with⟨rfl,rfl⟩|⟨g,cap,cur,rfl,_,hg,h1,h2,_⟩
 ·omega
 ·refine⟨g,cap,rfl,h1,h2,fun j u hu=> ?_⟩;have:=h.cells (g:=g) rfl j u hu;(have e:(⟨g,0,none⟩:Addr).add j=⟨g,j,none⟩:=by unfold Addr.add;split<;>simp_all);rwa [e]at this
theorem zBf(p:Puts)(k:Nat)(i:Int)(s:QB)(h:p[k]? =some (i,s)):(zY p)[k*2]? =some (.int .i64 i)∧(zY p)[k*2+1]? =some (.string s):=by
 induction p generalizing k with|nil=>simp at h|cons x p ih=>have e:zY (x::p)= .int .i64 x.1:: .string x.2::zY p:=rfl;rw[e];cases k with|zero=>simp at h;subst h;exact⟨rfl,rfl⟩|succ k=>have:=ih k (by simpa using h);rw[show(k+1)*2=k*2+1+1 by omega];simpa using this
theorem zEH(w:World):(zeroValue 68).run prog w= .ok (.slice none 0 0) w:=by
 kernel_rfl
theorem zGP:(prog.info? 3).map (fun i=>(i.zero,i.size,i.bytes))=some (some (.int .i64 0),1,8):=by
 kernel_rfl
theorem zN9:(prog.info? 314).map (fun i=>(i.zero,i.size,i.bytes))=some (some (.agg #[.int .i64 0,.string ⟨#[]⟩]),2,24):=by
 kernel_rfl
def zKd(s:QB):QB:=⟨(List.replicate (512-s.size) (0:UInt8)).toArray⟩
theorem zHM(s:QB)(hs:s.size≤512)(w:World):Calls prog 236 #[.string ⟨#[0]⟩,.int .i64 ((512:Int)-s.size)] w fun e w'=>e= .returned (.string (zKd s))∧Below w.heap.size w w':=by
 have hx:=Tryz.strings_Repeat ⟨#[0]⟩ (512-s.size) w (by omega) (by have:(⟨#[0]⟩:QB).size=1:=rfl;rw[this];omega)
 rw[zCJ]at hx
 have e1:((512-s.size:Nat):Int)=(512:Int)-(s.size:Nat):=by omega
 rw[e1]at hx
 exact hx
theorem zKe(s:QB)(hs:s.size≤512)(w:World):(Op.stringOp .add s (zKd s)).run prog w= .ok (.string (zS s)) w:=by
 have:=run_string_add_sum (P:=prog) w s (zKd s) (by(have:(zKd s).size=512-s.size:=by show(List.replicate _ _).toArray.size=_;simp);omega)
 rw[this]
 have e:zS s=s++zKd s:=by apply ByteArray.ext;simp[zS,zKd]
 rw[e]
theorem zH{w:World}{B:Nat}{e:TypeId}{size:Nat}{v:Value}{n:Nat}{xs:List Value}(h:w.ownsRow B e size v n xs)(hn:0<n):∃g c,v= .slice (some ⟨g,0,none⟩) n c∧n≤c∧c≤maxLen∧B≤g:=by
 rcases h.2 with⟨rfl,rfl⟩|⟨g,cap,cur,rfl,hb,hg,h1,h2,_⟩
 ·omega
 ·exact⟨g,cap,rfl,h1,h2,hb⟩
theorem zC{w:World}{B:Nat}{e:TypeId}{size g n c:Nat}{xs:List Value}(h:w.ownsRow B e size (.slice (some ⟨g,0,none⟩) n c) n xs)(j:Nat)(u:Value)(hu:xs[j]? =some u):w.cell? ⟨g,j,none⟩=some u:=by
 have:=h.cells (g:=g) rfl j u hu
 rwa [show(⟨g,0,none⟩:Addr).add j=⟨g,j,none⟩by unfold Addr.add;split<;>simp_all]at this
def cnt(f:Nat→Bool)(n:Nat):Nat:=((List.range n).filter f).length
theorem zMI(f:Nat→Bool)(n:Nat):cnt f n≤n:=by
 unfold cnt
 have:=List.length_filter_le f (List.range n)
 simpa using this
theorem zA6(f:Nat→Bool)(n:Nat):cnt f (n+1)=cnt f n+(if f n then 1 else 0):=by
 unfold cnt
 rw[List.range_succ,List.filter_append,Ql]
 congr 1
 by_cases h:f n<;>simp[h]
theorem zBQ{f g:Nat→Bool}{n:Nat}(h:∀q,q<n→f q=g q):cnt f n=cnt g n:=by
 unfold cnt
 congr 1
 exact List.filter_congr (fun q hq=>h q (by simpa using hq))
theorem zMJ(f:Nat→Bool)(p n:Nat)(hp:p<n)(h0:f p=false):cnt (fun q=>decide (q=p)||f q) n=cnt f n+1:=by
 induction n with|zero=>omega|succ n ih=>rw[zA6,zA6];by_cases hpn:p<n;(·rw[ih hpn];(have:¬n=p:=by omega);simp[this];omega);·(obtain rfl:p=n:=by omega);have e:cnt (fun q=>decide (q=p)||f q) p=cnt f p:=zBQ (fun q hq=>by simp;omega);rw[e,h0];simp
theorem zOA(ps:List Nat)(f:Nat→Bool)(n:Nat)(hd:ps.Nodup)(hlt:∀p∈ps,p<n)(h0:∀p∈ps,f p=false):cnt (fun q=>decide (q∈ps)||f q) n=cnt f n+ps.length:=by
 induction ps with|nil=>exact zBQ (fun q _=>by simp)|cons p ps ih=>have hd2:=List.nodup_cons.1 hd;have e:=ih hd2.2 (fun q hq=>hlt q (List.mem_cons_of_mem _ hq)) (fun q hq=>h0 q (List.mem_cons_of_mem _ hq));have e2:=zMJ (fun q=>decide (q∈ps)||f q) p n (hlt p (by simp)) (by simp[hd2.1,h0 p (by simp)]);rw[List.length_cons,←Nat.add_assoc,←e,←e2];refine zBQ (fun q _=> ?_);simp[List.mem_cons,Bool.or_assoc]
theorem extract_all(s:QB):s.extract 0 s.size=s:=by
 apply ByteArray.ext
 simp
theorem zBs(s:QB)(h:s.size=512):zS s=s:=by
 unfold zS
 rw[h]
 apply ByteArray.ext
 simp
end
section
structure Dk where
 size:Nat
 firm:Int→QB
 writes:Puts
 fuel:Nat
 bound:Bool
 down:Bool
def Dk.read(d:Dk)(i:Int):QB:=seen d.writes d.firm i
theorem zHN(f:Int→QB):seen [] f=f:=rfl
end
section
open Go.RowKit Go.MapKept
theorem wraps_u8(n:Int)(h₀:0≤n)(h₁:n<2^8):IntKind.u8.wrap n=n:=by
 rw[IntKind.wrap_u8]
 omega
theorem zHO(a b:Nat)(ha:a<256)(hb:b<256):bits .and .u8 a b=((a&&&b:Nat):Int):=(bits_nat .u8 8 (by decide) wraps_u8 a b ha hb).1
theorem zDO(a b:Nat)(ha:a<256)(hb:b<256):bits .xor .u8 a b=((a^^^b:Nat):Int):=by
 have ha':a %2^IntKind.u8.bits=a:=Nat.mod_eq_of_lt ha
 have hb':b %2^IntKind.u8.bits=b:=Nat.mod_eq_of_lt hb
 have hx:a^^^b<256:=Nat.xor_lt_two_pow (n:=8) ha hb
 simp only[bits,BitVec.ofInt_natCast,BitVec.toNat_xor,BitVec.toNat_ofNat,ha',hb']
 exact wraps_u8 _ (Int.natCast_nonneg _) (by omega)
theorem zHP(a j:Nat):(a&&&2^j !=0)=a.testBit j:=by
 cases h:a.testBit j
 ·(have:a&&&2^j=0:=by apply Nat.eq_of_testBit_eq;intro i;rw[Nat.testBit_and,Nat.testBit_two_pow,Nat.zero_testBit];by_cases hi:j=i;(·subst hi;simp[h]);·simp[hi]);rw[this];rfl
 ·(have:a&&&2^j≠0:=by intro h0;(have h1:(a&&&2^j).testBit j=true:=by rw[Nat.testBit_and,Nat.testBit_two_pow,h];simp);rw[h0,Nat.zero_testBit]at h1;cases h1);exact bne_iff_ne.2 this
def zG(s:QB)(k:Nat):Nat:=(s.data.toList.getD k 0).toNat
theorem vP(s:QB)(k:Nat):zG s k<256:=by
 unfold zG
 exact UInt8.toNat_lt _
theorem zL(s:QB)(k:Nat)(h:k<s.size):s[k].toNat=zG s k:=by
 unfold zG
 have hl:k<s.data.toList.length:=by simpa using h
 rw[List.getD,Qg hl]
 rfl
theorem zAI(s:QB)(k:Nat)(h:s.size≤k):zG s k=0:=by
 unfold zG
 rw[List.getD,List.getElem?_eq_none (by simpa using h)]
 rfl
theorem zFV{s t:QB}(h:s.size=t.size)(hb:∀k,k<s.size→zG s k=zG t k):s=t:=by
 apply ByteArray.ext
 apply Array.ext h
 intro i h1 h2
 have:=hb i h1
 rw[←zL s i h1,←zL t i h2]at this
 exact UInt8.toNat_inj.1 this
theorem zA7(n k:Nat):zG (yn n) k=0:=by
 by_cases h:k<n
 ·unfold zG yn;simp[List.getD,h]
 ·exact zAI _ _ (by rw[zD9];omega)
def zAJ(s:QB)(k m:Nat):QB:=⟨s.data.modify k (fun c=>c^^^UInt8.ofNat m)⟩
theorem vE(s:QB)(k m:Nat):(zAJ s k m).size=s.size:=by
 show(s.data.modify k _).size=s.data.size
 simp
theorem zDP(s:QB)(k m j:Nat)(hm:m<256)(hk:k<s.size):zG (zAJ s k m) j=if j=k then zG s k^^^m else zG s j:=by
 by_cases hj:j<s.size
 ·rw[←zL _ j (by rw[vE];exact hj)];(have e:(zAJ s k m)[j]'(by rw[vE];exact hj)=if k=j then s[j]^^^UInt8.ofNat m else s[j]:=by(have h1:j<(s.data.modify k (fun c=>c^^^UInt8.ofNat m)).size:=by rw[Array.size_modify];exact hj);have h2:=Array.getElem_modify (xs:=s.data) (j:=k) (i:=j) (f:=fun c=>c^^^UInt8.ofNat m) h1;exact h2);rw[e];by_cases hjk:j=k;(·subst hjk;rw[if_pos rfl,if_pos rfl,UInt8.toNat_xor,zL];congr 1;simp;omega);·rw[if_neg (fun e=>hjk e.symm),if_neg hjk,zL]
 ·rw[zAI _ _ (by rw[vE];omega),if_neg (by omega),zAI _ _ (by omega)]
def yG(f:Int→QB)(p:Nat):Bool:=(zG (f ((1+p/4096:Nat):Int)) (p %4096/8)).testBit (p %8)
theorem zOB(a b j:Nat):(a^^^2^b).testBit j=(if j=b then !a.testBit b else a.testBit j):=by
 rw[Nat.testBit_xor,Nat.testBit_two_pow]
 by_cases h:j=b
 ·subst h;simp
 ·rw[if_neg h,decide_eq_false (fun e=>h e.symm)];simp
theorem zGQ(p:Nat):2^(p %8)<256:=Nat.pow_lt_pow_right (n:=8) (by decide) (Nat.mod_lt _ (by decide))
theorem zI2{f f':Int→QB}{p:Nat}(hs:(f ((1+p/4096:Nat):Int)).size=512)(h1:f' ((1+p/4096:Nat):Int)=zAJ (f ((1+p/4096:Nat):Int)) (p %4096/8) (2^(p %8))){q:Nat}(h2:1+q/4096≠1+p/4096→f' ((1+q/4096:Nat):Int)=f ((1+q/4096:Nat):Int)):yG f' q=if q=p then !yG f p else yG f q:=by
 unfold yG
 by_cases hh:1+q/4096=1+p/4096
 ·rw[hh,h1,zDP _ _ _ _ (zGQ p) (by omega)];by_cases hk:q %4096/8=p %4096/8;(·rw[if_pos hk,zOB];by_cases hb:q %8=p %8;(·(have:q=p:=by omega);rw[if_pos hb,if_pos this]);·rw[if_neg hb,if_neg (fun e=>hb (by rw[e])),hk]);·rw[if_neg hk,if_neg (fun e=>hk (by rw[e]))]
 ·rw[h2 hh,if_neg (fun e=>hh (by rw[e]))]
theorem zOC:∀n:Fin 256,n.val≠255→Lib.trailingZeros8 (255-n.val)<8∧n.val.testBit (Lib.trailingZeros8 (255-n.val))=false∧∀j:Fin 8,j.val<Lib.trailingZeros8 (255-n.val)→n.val.testBit j.val=true:=by
 decide+kernel
theorem zOD(b:Nat)(hb:b<256):bits .xor .u8 IntKind.u8.max (b:Int)=((255-b:Nat):Int):=by
 have h:∀n:Fin 256,255^^^n.val=255-n.val:=by decide+kernel
 have:=zDO 255 b (by decide) hb
 rw[h ⟨b,hb⟩]at this
 exact this
theorem zOE:∀j:Fin 8,(255:Nat).testBit j.val=true:=by
 decide
theorem zKf:∀n:Fin 256,Lib.onesCount n.val=((List.range 8).filter (fun j=>n.val.testBit j)).length:=by
 decide+kernel
theorem ke(f:Int→QB)(m i j:Nat)(hi:i<512)(hj:j<8):yG f (m*4096+8*i+j)=(zG (f ((1+m:Nat):Int)) i).testBit j:=by
 unfold yG
 rw[show(m*4096+8*i+j)/4096=m by omega,show(m*4096+8*i+j)%4096/8=i by omega,show(m*4096+8*i+j)%8=j by omega]
theorem zBt{P:Program}(w:World)(src dst e:TypeId)(s:QB)(hs:P.underlying src=some .string)(hd:P.underlying dst=some (.slice e))(he:P.underlying e=some (.int .u8)):∃c w',(convert src dst (.string s)).run P w= .ok (.slice (some ⟨w.heap.size,0,none⟩) s.size c) w'∧Below w.heap.size w w'∧w'.heap.size=w.heap.size+1∧s.size≤c∧(∃cs:Array Value,w'.heap[w.heap.size]? =some (.cells cs e (cs.size,cs.size+1))∧s.size≤cs.size)∧∀i(h:i<s.size),w'.cell? ⟨w.heap.size,i,none⟩=some (.int .u8 (s[i].toNat:Int)):=by
 refine⟨_,_,Lib.run_convert_string_bytes w src dst e s hs hd he,⟨?_,?_,?_,?_,fun k hk=>Lib.bytesWorld_at_old w e s k hk⟩,Lib.bytesWorld_size w e s,?_,⟨_,Lib.bytesWorld_at_new w e s,?_⟩,fun i h=> ?_⟩
 ·rfl
 ·rfl
 ·rfl
 ·rw[Lib.bytesWorld_size];omega
 ·exact Nat.le_trans (Nat.le_of_eq (by simp)) (grownCap_ge w s.size 0 e)
 ·unfold Lib.bytesCells;rw[Array.size_append,Array.size_map];show s.data.size≤_;omega
 ·rw[Lib.bytesWorld_cell w e s i h,zL];rfl
end
section
def zA3(x:Nat):Nat→List UInt8|0=>[]|n+1=>zA3 (x/256) n++[UInt8.ofNat (x %256)]
theorem yH(x n:Nat):(zA3 x n).length=n:=by
 induction n generalizing x with|zero=>rfl|succ n ih=>simp[zA3,ih]
def zKA(l:List UInt8):Nat:=l.foldl stepT 0
theorem zA8(s:QB):zAz s=zKA s.data.toList:=rfl
theorem zEI(x n:Nat)(hn:n≤8):zKA (zA3 x n)=x %256^n:=by
 induction n generalizing x with|zero=>simp[zA3,zKA,Nat.mod_one]|succ n ih=>have h:=ih (x/256) (by omega);unfold zKA at*;unfold zA3;rw[List.foldl_append,h,List.foldl_cons,List.foldl_nil];unfold stepT;have hlt:x/256 %256^n<256^n:=Nat.mod_lt _ (Nat.pow_pos (by decide));have hle:256^(n+1)≤256^8:=Nat.pow_le_pow_right (by decide) hn;have hs:256^(n+1)=256^n*256:=Nat.pow_succ .. ;(have h8:(256:Nat)^8=18446744073709551616:=by decide);(have hm:x %256^(n+1)=x %256+256*(x/256 %256^n):=by rw[Nat.pow_succ,Nat.mul_comm (256^n) 256,Nat.mod_mul]);(have hc:(UInt8.ofNat (x %256)).toNat=x %256:=by simp);rw[hm,hc];generalize 256^n=m at*;generalize x/256 %m=y at*;omega
theorem zDw(l:List UInt8):(⟨l.toArray⟩:QB).size=l.length:=by
 show l.toArray.size=_
 simp
theorem zAe(l:List UInt8):(zS ⟨l.toArray⟩).data.toList=l++List.replicate (512-l.length) 0:=by
 unfold zS
 rw[zDw]
 simp
theorem xh(s:QB)(a b:Nat):(s.extract a b).data.toList=(s.data.toList.drop a).take (b-a):=by
 rw[ByteArray.data_extract,Array.toList_extract,List.extract_eq_take_drop]
theorem zHQ(l:List UInt8)(a b:Nat)(h1:a≤b)(h2:b≤l.length):((zS ⟨l.toArray⟩).extract a b).data.toList=(l.drop a).take (b-a):=by
 rw[xh,zAe,List.drop_append_of_le_length (by omega),List.take_append_of_le_length (by rw[List.length_drop];omega)]
theorem zA9(c:UInt8)(l:List UInt8):zG (zS ⟨(c::l).toArray⟩) 0=c.toNat:=by
 unfold zG
 rw[zAe]
 rfl
abbrev Grp:=List (Nat×QB)
def zDp(l:Grp):List UInt8:=l.flatMap (fun p=>zA3 p.1 4++p.2.data.toList)
def kr(n:Nat):Nat:=(516*n+510)/511
def zGR(seq n:Nat):QB:=zS ⟨(67::(zA3 seq 8++zA3 n 4)).toArray⟩
def zBu(t:List UInt8)(i:Nat):QB:=zS ⟨(80::(t.drop (511*i)).take 511).toArray⟩
def zCO(tail seq:Nat):QB:=zS ⟨(72::(zA3 tail 4++zA3 seq 8)).toArray⟩
theorem zKg(seq n:Nat):(zGR seq n).size=512:=vz _ (by rw[zDw];simp[yH])
theorem zHR(t:List UInt8)(i:Nat):(zBu t i).size=512:=vz _ (by rw[zDw];simp;omega)
theorem zRc(seq n:Nat):zG (zGR seq n) 0=67:=zA9 _ _
theorem zQD(t s:Nat):zG (zCO t s) 0=72:=zA9 _ _
theorem zOF(t:List UInt8)(i:Nat):zG (zBu t i) 0=80:=zA9 _ _
theorem zRd{p:Prop}(h:p:=by rw[zHQ _ _ _ (by omega) (by simp[yH])];simp only[List.drop_succ_cons,List.drop_zero];rw[List.take_left' (by rw[yH]),zEI _ _ (by omega)];exact Nat.mod_eq_of_lt h):p:=h
theorem zOG(seq n:Nat)(h:seq<18446744073709551616):zAz ((zGR seq n).extract 1 9)=seq:=by
 rw[zA8]
 unfold zGR
 exact zRd
theorem zRe{p:Prop}(h:p:=by rw[zHQ _ _ _ (by omega) (by simp[yH])];simp only[List.drop_succ_cons];rw[List.drop_left' (by rw[yH]),Qk (by rw[yH];omega),zEI _ _ (by omega)];exact Nat.mod_eq_of_lt h):p:=h
theorem zRf(seq n:Nat)(h:n<4294967296):zAz ((zGR seq n).extract 9 13)=n:=by
 rw[zA8]
 unfold zGR
 exact zRe
theorem head_tail(t s:Nat)(h:t<4294967296):zAz ((zCO t s).extract 1 5)=t:=by
 rw[zA8]
 unfold zCO
 exact zRd
theorem zMK(t s:Nat)(h:s<18446744073709551616):zAz ((zCO t s).extract 5 13)=s:=by
 rw[zA8]
 unfold zCO
 exact zRe
def zCx(t:List UInt8)(k:Nat):List UInt8:=t++List.replicate (511*k-t.length) 0
theorem zI3(t:List UInt8)(k i:Nat)(hk:t.length≤511*k)(hi:i<k):((zBu t i).extract 1 512).data.toList=((zCx t k).drop (511*i)).take 511:=by
 unfold zBu zCx
 rw[xh,zAe]
 apply List.ext_getElem?
 intro j
 simp only[List.cons_append,List.drop_succ_cons,List.drop_zero,List.getElem?_take,List.getElem?_append,List.getElem?_drop,List.getElem?_replicate,List.length_take,List.length_drop,List.length_cons]
 by_cases h1:j<511
 ·by_cases h2:511*i+j<t.length;(·simp[h1,h2];intro h;omega);·(have h3:¬j<min 511 (t.length-511*i):=by omega);rw[if_pos h1,if_pos h1,if_neg h3,if_neg h2,if_pos (by omega),if_pos (by omega),if_pos (by omega)]
 ·rw[if_neg h1,if_neg h1]
theorem zML(t:List UInt8)(k i:Nat):(zCx t k).take (511*i)++((zCx t k).drop (511*i)).take 511=(zCx t k).take (511*(i+1)):=by
 rw[show 511*(i+1)=511*i+511 by omega,List.take_add]
theorem zDQ(l:Grp)(h:∀p∈l,p.2.size=512):(zDp l).length=516*l.length:=by
 unfold zDp
 induction l with|nil=>rfl|cons p l ih=>(have hp:p.2.data.toList.length=512:=by have:=h p (by simp);simpa using this);rw[List.flatMap_cons,Ql,Ql,yH,hp,ih (fun q hq=>h q (List.mem_cons_of_mem _ hq)),List.length_cons];omega
theorem zFW(l:Grp)(h:∀p∈l,p.2.size=512)(j:Nat):(zDp l).drop (516*j)=zDp (l.drop j):=by
 induction l generalizing j with|nil=>simp[zDp]|cons p l ih=>cases j with|zero=>simp|succ j=>(have hp:p.2.data.toList.length=512:=by have:=h p (by simp);simpa using this);have e:zDp (p::l)=(zA3 p.1 4++p.2.data.toList)++zDp l:=rfl;(have hl:(zA3 p.1 4++p.2.data.toList).length=516:=by rw[Ql,yH,hp]);rw[e,show 516*(j+1)=516+516*j by omega,List.drop_succ_cons,←List.drop_drop,List.drop_left' hl];exact ih (fun q hq=>h q (List.mem_cons_of_mem _ hq)) j
theorem zHS(n:Nat):516*n≤511*kr n:=by
 unfold kr
 omega
theorem zOH(n:Nat):n≤kr n:=by
 unfold kr
 omega
def zu(recs:List Grp):Nat:=(recs.map (fun l=>kr l.length+1)).sum
def zKh(o:Int→Option QB)(i:Nat)(t:QB):Int→Option QB:=fun j=>if j=(i:Int)then some t else o j
def zAK(o:Int→Option QB)(l:Grp):Int→Option QB:=l.foldl (fun o p=>zKh o p.1 p.2) o
def xi(recs:List Grp):Int→Option QB:=recs.foldl zAK (fun _=>none)
theorem zHT(recs:List Grp)(l:Grp):zu (recs++[l])=zu recs+(kr l.length+1):=by
 unfold zu
 simp
theorem zGS(recs:List Grp)(l:Grp):xi (recs++[l])=zAK (xi recs) l:=by
 unfold xi
 rw[List.foldl_append]
 rfl
theorem zAL(recs:List Grp)(j:Nat)(h:j<recs.length):zu (recs.take (j+1))=zu (recs.take j)+(kr recs[j].length+1):=by
 rw[List.take_succ_eq_append_getElem h,zHT]
theorem zBA(recs:List Grp)(j:Nat):zu (recs.take j)≤zu recs:=by
 have h:zu recs=zu (recs.take j)+zu (recs.drop j):=by unfold zu;rw[←List.sum_append,←List.map_append,List.take_append_drop]
 omega
structure RecAt(S:Int→QB)(ring pos seq:Nat)(l:Grp):Prop where
 hdr:S ((1+pos %ring:Nat):Int)=zGR seq l.length
 pieces:∀i,i<kr l.length→S ((1+(pos+1+i)%ring:Nat):Int)=zBu (zDp l) i
structure GoodGrp(homes:Nat)(l:Grp):Prop where
 pos:1≤l.length
 ats:∀p∈l,p.1<homes∧p.2.size=512
structure Dur(S:Int→QB)(ring homes tail seq0:Nat)(recs:List Grp):Prop where
 head:(S 0=yn 512∧tail=0∧seq0=0)∨S 0=zCO tail seq0
 tail_:tail<ring
 chain:∀j(h:j<recs.length),RecAt S ring (tail+zu (recs.take j)) (seq0+j+1) recs[j]
 good:∀l∈recs,GoodGrp homes l
 used:zu recs≤ring
 old:∀i,i<ring→zG (S ((1+i:Nat):Int)) 0=67→zAz ((S ((1+i:Nat):Int)).extract 1 9)≤seq0+recs.length
def zGT(S:Int→QB)(ring:Nat)(recs:List Grp)(i:Int):QB:=(xi recs i).getD (S (1+(ring:Int)+i))
theorem Dur.fresh(ring homes:Nat)(h:0<ring):Dur (fun _=>yn 512) ring homes 0 0 []:=by
 refine⟨.inl ⟨rfl,rfl,rfl⟩,h,fun j hj=>(by cases hj),fun l hl=>(by cases hl),Nat.zero_le _,fun i hi hb=> ?_⟩
 rw[zA7]at hb
 cases hb
end
section
open Go.RowKit Go.MapKept
open Go.ChangeMaps (setBlock heap_setBlock_same heap_setBlock_other)
attribute [local go_sem] yo yg
def zMM(p:Puts)(i:Int):Option QB:=(p.filter (fun x=>decide (x.1=i))).getLast?.map (·.2)
theorem zHU(p:Puts)(f:Int→QB)(i:Int):seen p f i=(zMM p i).getD (f i):=rfl
structure DkOf(D:DiskS)(d:Dk):Prop where
 size:D.size=d.size
 firm:∀i,(D.firm i).getD (yn 512)=d.firm i
 now:∀i,D.now i=zMM d.writes i
 writes:D.writes=d.writes
 fuel:d.bound=true→D.fuel=(d.fuel:Int)∧d.fuel≤9223372036854775807
 bound:D.bound=d.bound
 down:D.down=d.down
 ins:∀x∈d.writes,0≤x.1∧x.1<d.size∧x.2.size=512
theorem DkOf.read{D:DiskS}{d:Dk}(h:DkOf D d)(i:Int):D.read i=d.read i:=by
 unfold DiskS.read Dk.read
 rw[zHU,h.now,h.firm]
end
section
def Bears(S:Int→QB)(ring homes N:Nat)(W:Int→QB):Prop:=∃tail seq0 recs,Dur S ring homes tail seq0 recs∧seq0+recs.length≤N∧∀k:Nat,k<homes→zGT S ring recs k=W k
section
variable {P : Program}
theorem yF{o:Oper}{a:Act}{w:World}{K:Act→World→Prop}{Q:Exit→Act→World→Prop}(s x:Operand)(t:TypeId)(ho:o.op= .call {callee:=.builtin .append,args:= #[s,x],argTypes:= #[t,t]})(base:Nat)(e:TypeId)(i:TypeInfo)(z:Value)(size bytes:Nat)(ht:P.underlying t=some (.slice e))(hi:P.info? e=some i)(hz:i.zero=some z)(hsize:i.size=size)(hby:i.bytes=bytes)(hzs:z.cells.size=size)(hsz:0<size)(v:Value)(n:Nat)(xs:List Value)(hs:a.eval s=v)(hown:w.ownsRow base e size v n xs)(ad:Addr)(m c:Nat)(news:List Value)(hx:a.eval x= .slice (some ad) m c)(hl:news.length=m*size)(hnews:∀j u,news[j]? =some u→w.cell? (ad.add j)=some u)(h1:∀u∈news,u.oneCell'=true)(h63:n+m≤maxLen)(hbytes:(n+m)*bytes≤140737488355328)(hbase:base≤w.heap.size)(h:∀v' w',w'.ownsRow base e size v' (n+m) (xs++news)→w.grownBy w' v.ownBlock→(v'.ownBlock=v.ownBlock∨v'.ownBlock=some w.heap.size)→K (a.put o.dst v') w'):o.wp P a w K Q:=by
 obtain⟨v',w',hr,h2,h3,_,h5⟩:=run_append_own_at (P:=P) w base t o.type e i z size bytes ht hi hz hsize hby hzs hsz v n xs hown ad m c news hl hnews h1 h63 hbytes hbase
 unfold Oper.wp execOp
 simp only[ho,resolve,invoke,builtin,Sem.run_bind,Sem.run_pure,Result.andThen_ok,List.map_toArray,List.map_cons,List.map_nil,hs,hx,hr]
 exact h v' w' h2 h3 h5
end
end
section
open Go.RowKit Go.MapKept
attribute [local go_sem] yo yg
abbrev IsB(B b:Nat)(bs:List Value)(w:World):Prop:=Lib.IsBuilder 123 5 B b bs w
theorem zOI:∃j,prog.info? 123=some j∧j.size=2:=by
 have h:(prog.info? 123).map (·.size)=some 2:=by kernel_rfl
 obtain⟨j,h1,h2⟩:=Option.map_eq_some_iff.1 h
 exact⟨j,h1,h2⟩
theorem zOJ:liesAt prog prog.depth 123 (2/prog.cellsOf 123) 0 123 1=true:=by
 kernel_rfl
theorem zEJ:(prog.info? 5).map (fun i=>(i.zero,i.size,i.bytes))=some (some (.int .u8 0),1,1):=by
 kernel_rfl
theorem zAM{w:World}{b:Nat}{p v:Value}{t:TypeId}(h:w.heap[b]? =some (.cells #[p,v] t (0,0))):(w.cell? ⟨b,0,none⟩=some p∧w.cell? ⟨b,1,none⟩=some v)∧w.frozen? ⟨b,0,none⟩=false∧w.frozen? ⟨b,1,none⟩=false∧w.shape? b=some (t,2):=by
 simp[World.cell?,World.frozen?,World.shape?,h]
theorem zBg{w:World}{B b:Nat}{bs:List Value}(h:IsB B b bs w):Calls prog 119 #[.pointer (some ⟨b,0,none⟩)] w fun e w'=>e= .returned (.tuple #[])∧Lib.BuilderAt 123 5 B b (.pointer (some ⟨b,0,none⟩)) bs w'∧Below B w w'∧Lib.OthersKept 5 (some b) w w':=by
 obtain⟨j,hj,hjs⟩:=zOI
 rcases h with h|h
 ·obtain⟨hB,v,hb,hown,hne⟩:=h;obtain⟨⟨c0,c1⟩,f0,f1,hsh⟩:=zAM hb;have l1:=Lib.run_to_unsafe (P:=prog) w ⟨b,0,none⟩ underlying120 underlying278 hj (by rw[hjs];decide) hsh (Nat.zero_lt_succ 1);have l2:=run_callFunc_extern (P:=prog) (w:=w) (args:= #[.pointer (some ⟨b,0,none⟩)]) func183 (by kernel_rfl) (by kernel_rfl) (by kernel_rfl) (e:=Extern.AbiNoEscape.same) (by kernel_rfl);rw[Lib.run_noEscape]at l2;have l3:=Lib.run_from_unsafe (P:=prog) (w:=w) ⟨b,0,none⟩ underlying278 underlying120 hj hsh zOJ;have HU:=Hd (show Lib.BuilderAt 123 5 B b (.pointer none) bs w from⟨hB,v,hb,hown,hne⟩);clear hb hown hne hsh hj hjs;go_enter func119,ntmps119;go_wp2;go_end0;exact⟨rfl,HU.out.used _,(Below.refl B w).setCell (p:=⟨b,0,none⟩) HU.out.1 _,(Lib.OthersKept.refl _ _ w).setCell ⟨b,0,none⟩ rfl _⟩
 ·obtain⟨hB,v,hb,hown,hne⟩:=h;obtain⟨⟨c0,c1⟩,f0,f1,hsh⟩:=zAM hb;have l1:=Lib.run_neq_ptr_same (P:=prog) w ⟨b,0,none⟩ underlying120 hj;have HU:=Hd (show Lib.BuilderAt 123 5 B b (.pointer (some ⟨b,0,none⟩)) bs w from⟨hB,v,hb,hown,hne⟩);clear hb hown hne hsh hj hjs;go_enter func119,ntmps119;go_wp2;go_end0;exact⟨rfl,HU.out,Below.refl _ _,Lib.OthersKept.refl _ _ _⟩
theorem zRg{p:Prop}(h:p:=by intro g hg;rcases h.2 with⟨rfl,_⟩|⟨g',cap,cur,rfl,_,hgg,_⟩;(·cases hg);·cases hg;exact⟨_,_,hgg⟩):p:=h
theorem zEK{w:World}{B:Nat}{v:Value}{n:Nat}{xs:List Value}(h:w.ownsRow B 5 1 v n xs):∀g,v.ownBlock=some g→∃c fz,w.heap[g]? =some (.cells c 5 fz):=by
 exact zRg
theorem zA{w:World}{B:Nat}{e:TypeId}{size:Nat}{v:Value}{n:Nat}{xs:List Value}(h:w.ownsRow B e size v n xs):∃a c,v= .slice a n c:=by
 rcases h.2 with⟨rfl,rfl⟩|⟨g,cap,cur,rfl,_⟩
 ·exact⟨none,0,rfl⟩
 ·exact⟨_,cap,rfl⟩
theorem zn{w:World}{B b:Nat}{bs:List Value}(h:IsB B b bs w)(hB:B≤w.heap.size)(s:QB)(hlen:bs.length+s.size≤140737488355328):Calls prog 56 #[.pointer (some ⟨b,0,none⟩),.string s] w fun e w'=>e= .returned (.tuple #[.int .i64 s.size,.nilIface])∧IsB B b (bs++Lib.strCells s) w'∧Below B w w'∧Lib.OthersKept 5 (some b) w w':=by
 have HC:=Hd (zBg h)
 obtain⟨i0,hi,hz0,hz1,hz2⟩:=info_parts zEJ
 have HI:=Hd hi
 have Hz0:=Hd hz0
 have Hz1:=Hd hz1
 have Hz2:=Hd hz2
 clear h hi hz0 hz1 hz2
 go_enter func56,ntmps56
 go_wp2_with(fail)
 refine(HC.out).mono ?_
 rintro e w1⟨rfl,⟨hBb,v,hbk,hown,hne⟩,hb1,ho1⟩
 obtain⟨⟨c0,c1⟩,f0,f1,_⟩:=zAM hbk
 have hlt:b<w1.heap.size:=(Gl hbk)
 have HO:=Hd hown
 have HBK:=Hd hbk
 have HB1:=Hd hb1
 have HO1:=Hd ho1
 have HNE:=Hd hne
 have HLT:=Hd hlt
 clear hown hbk hb1 ho1 hne hlt
 go_wp2_with(at_builtin;refine Lib.wpList_append_own_string _ (by rfl) _ _ 121 9 (by rfl) B 5 i0 underlying121 underlying9 HI.out Hz0.out Hz1.out Hz2.out v _ _ (by rfl) HO.out s (by rfl) (by unfold maxLen;omega) hlen ?_ ?_;(·have:=HB1.out.size;omega);intro v' w2 hown2 hg2 hnil;obtain⟨a2,c2,hv2⟩:=zA hown2;(have hb2:w2.heap[b]? =some (.cells #[.pointer (some ⟨b,0,none⟩),v] 123 (0,0)):=by rw[hg2.block b HLT.out (fun e=>HNE.out e.symm)];exact HBK.out);obtain⟨⟨d0,d1⟩,g0,g1,_⟩:=zAM hb2;subst hv2;have HO2:=Hd hown2;have HB2:=Hd hb2;have HG2:=Hd hg2;clear hown2 hb2 hg2 hnil)
 go_wp2
 go_ret2
 refine⟨rfl,.inr (Lib.BuilderAt.put hBb HB2.out (by rw[Ql,Lib.strCells_length];exact HO2.out) (by decide)),?_,?_⟩
 ·exact(HB1.out.grown HG2.out (by have:=HB1.out.size;omega) (fun k hk=>(HO.out.lt k hk).1)).setCell (p:=⟨b,1,none⟩) hBb _
 ·exact(HO1.out.grown HG2.out (zEK HO.out)).setCell ⟨b,1,none⟩ rfl _
theorem xk(l:List UInt8)(c:UInt8):Lib.byteCells (l++[c])=Lib.byteCells l++[.int .u8 (c.toNat:Int)]:=by
 simp[Lib.byteCells]
theorem strCells_eq(s:QB):Lib.strCells s=Lib.byteCells s.data.toList:=by
 simp[Lib.strCells,Lib.byteCells]
theorem byteCells_append(a b:List UInt8):Lib.byteCells (a++b)=Lib.byteCells a++Lib.byteCells b:=by
 simp[Lib.byteCells]
theorem zCy{B b:Nat}{bs:List Value}{w:World}(h:IsB B b bs w):∃p v,w.heap[b]? =some (.cells #[p,v] 123 (0,0)):=by
 rcases h with⟨_,v,hb,_⟩|⟨_,v,hb,_⟩<;>exact⟨_,v,hb⟩
theorem zEL{B b:Nat}{bs:List Value}{w w':World}{S:Nat→Prop}(h:IsB B b bs w)(hk:Keep S w w')(hS:∀k,S k→∃c fz,w.heap[k]? =some (.cells c 3 fz)):IsB B b bs w':=by
 have key:∀p,Lib.BuilderAt 123 5 B b p bs w→Lib.BuilderAt 123 5 B b p bs w':=fun p⟨hB,v,hb,ho,hn⟩=>by refine⟨hB,v,hk.at hb (fun hs=> ?_),hk.ownsRow ho (fun k hkv hs=> ?_),hn⟩;(·obtain⟨c,fz,hc⟩:=hS _ hs;rw[hb]at hc;cases hc);·obtain⟨c,fz,hc⟩:=hS _ hs;obtain⟨c2,fz2,hc2⟩:=zEK ho k hkv;rw[hc]at hc2;cases hc2
 exact h.imp (key _) (key _)
theorem yx{B b:Nat}{bs:List Value}{w w':World}(h:IsB B b bs w)(hk:Below w.heap.size w w'):IsB B b bs w':=zEL h (Keep.ofBelow (S:=fun _=>False) hk) (fun _ e=>e.elim)
theorem xM{w:World}{B:Nat}{e:TypeId}{v:Value}{n:Nat}{xs:List Value}(h:w.ownsRow B e 1 v n xs):∀g,v.ownBlock=some g→∃c fz,w.heap[g]? =some (.cells c e fz):=by
 exact zRg
theorem zBv{w w':World}{B b n:Nat}{v:Value}{xs:List Value}(h:w.ownsRow B 3 1 v n xs)(hB:∃p u,w.heap[b]? =some (.cells #[p,u] 123 (0,0)))(ho:Lib.OthersKept 5 (some b) w w'):w'.ownsRow B 3 1 v n xs:=by
 refine⟨h.1,?_⟩
 rcases h.2 with hv|⟨g,cap,cur,rfl,hb,hg,rest⟩
 ·exact .inl hv
 ·refine .inr ⟨g,cap,cur,rfl,hb,ho g _ hg (fun e=> ?_) (fun c fz e=>by cases e),rest⟩;obtain⟨p,u,hbb⟩:=hB;cases e;rw[hg]at hbb;cases hbb
theorem bytesOf(l:List UInt8):(⟨l.toArray⟩:QB).data.toList=l:=by
 simp
theorem zQE{p:Prop}(h:p:=by rw[Int.tdiv_eq_ediv_of_nonneg (by omega)];omega):p:=h
theorem zHV(n:Nat)(hn:n≤65536)(w:World):Calls prog 201 #[.int .i64 n] w fun e w'=>e= .returned (.int .i64 (kr n:Nat))∧w=w':=by
 obtain⟨q,hq⟩:∃q,q=516*n+510:=⟨_,rfl⟩
 have e1:(516:Int)*(n:Int)+511-1=(q:Int):=by omega
 have e2:((q:Int)).tdiv 511=(kr n:Nat):=by unfold kr;exact zQE
 have h0:(0:Int)≤(n:Int):=by omega
 have h1:(n:Int)≤65536:=by omega
 have hq0:(0:Int)≤(q:Int):=by omega
 have hq1:(q:Int)≤33817086+510:=by omega
 have hs0:(0:Int)≤(kr n:Nat):=by omega
 have hs1:((kr n:Nat):Int)≤66200:=by unfold kr;omega
 clear hq
 generalize kr n=S at*
 go_enter func201,ntmps201
 go_wp2
 go_ret
 exact⟨rfl,rfl⟩
structure LogStep(bl:Nat)(w:World)(L:LogS)(w':World)(L':LogS):Prop where
 at_:LogAt w' bl L'
 bd:L'.bd=L.bd
 bo:L'.bo=L.bo
 ring:L'.ring=L.ring
 size:L'.D.size=L.D.size
 keep:Keep (L.foot bl) w w'
 own:∀k,L'.foot bl k→L.foot bl k∨w.heap.size≤k
section
variable {bl : Nat} {w w' w'' : World} {L L' L'' : LogS}
theorem LogStep.trans(h:LogStep bl w L w' L')(k:LogStep bl w' L' w'' L''):LogStep bl w L w'' L'':=⟨k.at_,k.bd.trans h.bd,k.bo.trans h.bo,k.ring.trans h.ring,k.size.trans h.size,h.keep.trans k.keep (fun i hi hs=>(h.own i hs).resolve_right (by omega)),fun i hi=>(k.own i hi).elim (h.own i) (fun hge=>.inr (Nat.le_trans h.keep.size hge))⟩
theorem LogAt.turn(h:LogAt w bl L)(tail next used seq:Nat)(down:Bool)(hk:Keep (·=bl) w w')(hc:w'.heap[bl]? =some (.cells ({L with tail:=tail,next:=next,used:=used,seq:=seq,down:=down}:LogS).cells 236 (0,0))):LogStep bl w L w' {L with tail:=tail,next:=next,used:=used,seq:=seq,down:=down}:=⟨⟨hc,h.disk.keep hk (fun _ hf e=>h.apart.2.1 (e▸hf)),h.over.keep hk (fun e=>h.apart.1 e.symm),h.apart,h.s512,h.ring⟩,rfl,rfl,rfl,rfl,hk.mono (fun _ _ e=>.inl e),fun _ hk=>.inl hk⟩
theorem LogAt.turn_over(h:LogAt w bl L){over:Int→Option QB}{no:Nat}(hm:IMap w' L.bo (strs over) no)(hk:Keep (·=L.bo) w w')(hs:∀i s,over i=some s→s.size=512):LogStep bl w L w' {L with over:=over,no:=no}:=⟨⟨hk.at h.cells h.apart.1,h.disk.keep hk (fun _ hf e=>h.apart.2.2 (e▸hf)),hm,h.apart,hs,h.ring⟩,rfl,rfl,rfl,rfl,hk.mono (fun _ _ e=>.inr (.inl e)),fun _ hk=>.inl hk⟩
end
theorem zGU{w:World}{b:Nat}{L:LogS}{t:TypeId}(h:w.heap[b]? =some (.cells L.cells t (0,0)))(i:Nat):w.frozen? ⟨b,i,none⟩=false:=by
 simp[World.frozen?,h]
theorem zMN{w:World}{bl:Nat}{L:LogS}(h:LogAt w bl L)(n:Nat)(hn:n≤65536)(hnx:L.next<L.ring)(hu:L.used≤65536)(hq:L.seq+1<18446744073709551616):Calls prog 202 #[.pointer (some ⟨bl,0,none⟩),.int .i64 n] w fun e w'=>e= .returned (.tuple #[])∧LogStep bl w L w' {L with next:=(L.next+n)%L.ring,used:=L.used+n,seq:=L.seq+1}:=by
 obtain⟨c0,c1,c2,c3,c4,c5,c6,c7⟩:=yz h.cells
 have f3:=zGU h.cells 3
 have f4:=zGU h.cells 4
 have f5:=zGU h.cells 5
 have hr:=h.ring
 have hbl:bl<w.heap.size:=(Gl h.cells)
 have hst:w.heap[bl]? =some (.cells L.cells 236 (0,0)):=h.cells
 obtain⟨nx,hnxe⟩:=qN ((L.next+n)%L.ring)
 obtain⟨us,hus⟩:=qN (L.used+n)
 obtain⟨sq,hsq⟩:=qN (L.seq+1)
 have T:LogStep bl w L (((w.drew.setCell ⟨bl,3,none⟩ (.int .i64 nx)).setCell ⟨bl,4,none⟩ (.int .i64 us)).setCell ⟨bl,5,none⟩ (.int .u64 sq)) {L with next:=nx,used:=us,seq:=sq}:=by refine h.turn L.tail nx us sq L.down (((((Keep.refl (·=bl) w).drew.setCell (p:=⟨bl,3,none⟩) (fun _=>rfl) _).setCell (p:=⟨bl,4,none⟩) (fun _=>rfl) _).setCell (p:=⟨bl,5,none⟩) (fun _=>rfl) _)) ?_;have hst2:w.drew.heap[bl]? =some (.cells L.cells 236 (0,0)):=hst;simp[World.setCell,Array.getElem?_modify,hst2,LogS.cells]
 have e1:(L.next:Int)+(n:Int)=((L.next+n:Nat):Int):=by omega
 have e2:((L.next+n:Nat):Int).tmod (L.ring:Int)=(nx:Int):=by rw[Int.tmod_eq_emod_of_nonneg (by omega),←hnxe];rfl
 have e3:¬(L.ring:Int)=0:=by omega
 have e3':¬L.ring=0:=by omega
 have hnx2:nx<L.ring:=by rw[←hnxe];exact Nat.mod_lt _ (by omega)
 have e4:(L.used:Int)+(n:Int)=(us:Int):=by omega
 have e5:(L.seq:Int)+1=(sq:Int):=by omega
 have w1:IntKind.i64.wrap ((L.next+n:Nat):Int)=((L.next+n:Nat):Int):=zv (by omega) (by omega)
 have w2:IntKind.i64.wrap (nx:Int)=(nx:Int):=zv (by omega) (by omega)
 have w3:IntKind.i64.wrap (us:Int)=(us:Int):=zv (by omega) (by omega)
 have w4:(sq:Int)%18446744073709551616=(sq:Int):=by omega
 have HT:=Hd T
 have HS0:=Hd hst
 rw[hnxe,hus,hsq]
 generalize hN:((L.next+n:Nat):Int)=N at*
 clear T h hst hnxe hus hsq hr hnx hu hq hnx2 hN
 go_enter func202,ntmps202
 go_wp2
 obtain⟨S,HS⟩:=mkS (Keep (fun _=>False) (w))
 have FR:=Hd (fun u(hu:S u)=>have hu:=(HS.out u).1 hu;have o09:=yz (hu.at HS0.out (fun e=>e));o09)
 refine rgo 12 [tR 0,tR 1,tR 2,tR 3,tR 4,tR 5,tR 6,tR 7,tR 8,tR 9,tR 10,tR 11] HS (Keep.refl _ _).drew ?_
 iterate 12 refine rd1 ?_
 refine zl ?_
 clear FR
 clear S HS
 go_wp2
 go_end0
 exact⟨rfl,HT.out⟩
theorem Keep.cell{S:Nat→Prop}{w w':World}(h:Keep S w w'){p:Addr}(hlt:p.block<w.heap.size)(hn:¬S p.block):w'.cell? p=w.cell? p:=by
 unfold World.cell?
 rw[h.block p.block hlt hn]
end
end Go.Proofs.YtaokjeokpifjgaaGreatDoor
namespace Go.Proofs
open Go.Shelf
def Tryz.insS_ren:Go.Shelf.Ren:=⟨fun|22=>249|29=>274|30=>275|36=>290|17=>297|n=>n,fun|24=>22|9=>9|3=>3|4=>4|0=>0|n=>n,fun|n=>n⟩
theorem Tryz.insS:Go.Proofs.Lays2.n22 prog Tryz.insS_ren:={mixed:=by kernel_rfl,f17:=qC func297,f22:=qC func249,f29:=qC func274,f30:=qC func275,f36:=qC func290,t0:=underlying0,a0:=isAgg0,z0:=sizeOf0,v0:=zeroValue0,t3:=underlying3,a3:=isAgg3,z3:=sizeOf3,v3:=zeroValue3,t4:=underlying4,a4:=isAgg4,z4:=sizeOf4,v4:=zeroValue4,t9:=underlying9,a9:=isAgg9,z9:=sizeOf9,v9:=zeroValue9,t24:=underlying22,a24:=isAgg22,z24:=sizeOf22,v24:=zeroValue22,i9:=by kernel_rfl}
def Tryz.insI_ren:Go.Shelf.Ren:=⟨fun|21=>250|27=>276|28=>277|35=>291|39=>298|n=>n,fun|22=>68|3=>3|4=>4|0=>0|n=>n,fun|n=>n⟩
theorem Tryz.insI:Go.Proofs.Lays2.n21 prog Tryz.insI_ren:={mixed:=by kernel_rfl,f21:=qC func250,f27:=qC func276,f28:=qC func277,f35:=qC func291,f39:=qC func298,t0:=underlying0,a0:=isAgg0,z0:=sizeOf0,v0:=zeroValue0,t3:=underlying3,a3:=isAgg3,z3:=sizeOf3,v3:=zeroValue3,t4:=underlying4,a4:=isAgg4,z4:=sizeOf4,v4:=zeroValue4,t22:=underlying68,a22:=isAgg68,z22:=sizeOf68,v22:=zeroValue68,i3:=by kernel_rfl}
def Tryz.search_ren:Go.Shelf.Ren:=⟨fun|16=>207|n=>n,fun|3=>3|35=>300|4=>4|38=>284|n=>n,fun|n=>n⟩
theorem Tryz.search:Go.Proofs.SlLaysO.n16 prog Tryz.search_ren:={mixed:=by kernel_rfl,f16:=qC func207,t3:=underlying3,a3:=isAgg3,z3:=sizeOf3,v3:=zeroValue3,t4:=underlying4,a4:=isAgg4,z4:=sizeOf4,v4:=zeroValue4,t35:=underlying300,a35:=isAgg300,z35:=sizeOf300,v35:=zeroValue300,t38:=underlying284,a38:=isAgg284,z38:=sizeOf284,v38:=zeroValue284}
end Go.Proofs
namespace Go.Proofs.YtaokjeokpifjgaaGreatDoor
open Go.RowKit Go.MapKept
attribute [local go_sem] yo yg
theorem zHW(o:Int→Option QB)(l:Grp)(i:Int)(t:QB)(h:zAK o l i=some t):o i=some t∨∃p∈l,(p.1:Int)=i∧p.2=t:=by
 induction l generalizing o with|nil=>exact .inl h|cons p l ih=>rcases ih (zKh o p.1 p.2) h with h1|⟨q,hq,h1⟩;(·unfold zKh at h1;by_cases hi:i=(p.1:Int);(·rw[if_pos hi]at h1;exact .inr ⟨p,by simp,hi.symm,Option.some.inj h1⟩);·rw[if_neg hi]at h1;exact .inl h1);·exact .inr ⟨q,List.mem_cons_of_mem _ hq,h1⟩
structure LogUp(w:World)(bl:Nat)(L:LogS)(d:Dk)(N:Nat)(W:Int→QB):Prop where
 at_:LogAt w bl L
 dk:DkOf L.D d
 lup:L.down=false
 up:d.down=false
 clean:d.writes=[]
 dur:∃seq0 recs,Dur d.firm L.ring L.homes L.tail seq0 recs∧L.used=zu recs∧L.next=(L.tail+zu recs)%L.ring∧L.seq=seq0+recs.length∧L.over=xi recs∧∀k:Nat,k<L.homes→zGT d.firm L.ring recs k=W k
 seq:L.seq≤N
section
variable {w w' : World} {bl : Nat} {L : LogS} {d : Dk} {N : Nat} {W : Int → QB} {P : (Int → QB) → Prop}
theorem LogUp.read(h:LogUp w bl L d N W)(k:Nat)(hk:k<L.homes):L.read k=W k:=by
 obtain⟨s,r,h1,h2,h3,h4,h5,h6⟩:=h.dur
 rw[←h6 k hk]
 unfold LogS.read zGT
 rw[h5,h.dk.read]
 unfold Dk.read
 rw[h.clean,zHN]
theorem LogUp.dup(h:LogUp w bl L d N W):L.D.down=false:=h.dk.down.trans h.up
end
theorem LogStep.homes{bl:Nat}{w w':World}{L L':LogS}(h:LogStep bl w L w' L'):L'.homes=L.homes:=by
 unfold LogS.homes
 rw[h.size,h.ring]
theorem zRh{p:Prop}(h:p:=by have HU:=Hd hu;obtain⟨c0,c1,c2,c3,c4,c5,c6,c7⟩:=yz (FF.out u hu).cells;clear hu;go_simp;first|exact⟨HU.out,rfl⟩|(go_at_call 142;with_reducible refine(H2b.out _).mono ?_;rintro e w'⟨rfl,rfl⟩;exact⟨rfl,HU.out⟩)):p:=h
theorem zHX{w:World}{bl:Nat}{L:LogS}(h:LogAt w bl L)(hdd:L.D.down=false)(hnx:L.next<L.ring)(hsq:L.seq+1<18446744073709551616)(hz:zG (L.D.read ((1+L.next %L.ring:Nat):Int)) 0=67→zAz ((L.D.read ((1+L.next %L.ring:Nat):Int)).extract 1 9)≠L.seq+1):Calls prog 143 #[.pointer (some ⟨bl,0,none⟩)] w fun e w'=>e= .returned (.tuple #[.bool false,.int .i64 0])∧Below w.heap.size w w':=by
 have hring:=h.ring
 have H1:=Hd (fun u(hu:LogAt u bl L)=>zA5 hu hdd L.next (by omega))
 have hs:(L.D.read ((1+L.next %L.ring:Nat):Int)).size=512:=L.D.read_size h.disk _
 obtain⟨c0,c1,c2,c3,c4,c5,c6,c7⟩:=yz h.cells
 have e0:(1+((L.next %L.ring:Nat):Int))=((1+L.next %L.ring:Nat):Int):=by omega
 rw[e0]at H1
 generalize L.D.read ((1+L.next %L.ring:Nat):Int)=z at*
 have l13:13≤z.size:=by omega
 have l0:0<z.size:=by omega
 have hx:∀a b,(z.extract a b).size≤9223372036854775807:=fun a b=>by rw[ByteArray.size_extract];omega
 have H2:=Hd (fun a b=>zAH (z.extract a b) (hx a b))
 have hb0:=zL z 0 l0
 have hs1:((L.seq:Int)+1)%18446744073709551616=((L.seq+1:Nat):Int):=by omega
 have HLg:=Hd h
 clear hx
 have hsq2:IntKind.u64.wrap ((L.seq:Int)+1)=((L.seq+1:Nat):Int):=by rw[IntKind.wrap_u64];omega
 by_cases h0:zG z 0=67
 ·have h1:=hz h0;(have h67:(z[0]'l0).toNat=67:=by rw[hb0,h0]);(have d1:(((z[0]'l0).toNat:Int) !=67)=false:=by simp;omega);generalize ht:zAz (z.extract 1 9)=t9 at*;obtain⟨sq,hsq3⟩:=qN (L.seq+1);rw[hsq3]at hs1 hsq2 h1;(have d2:((t9:Int) !=(sq:Int))=true:=by simp;omega);(have d2':(t9 !=sq)=true:=by simp;omega);have HT9:=Hd ht;have H2b:Hid (∀u:World,Calls prog 142 #[.string (z.extract 1 9)] u fun e w'=>e= .returned (.int .u64 t9)∧u=w'):=Hd (fun u=>by have:=H2.out 1 9 u;rw[ht]at this;exact this);clear h ht hb0 h67;go_enter func143,ntmps143;go_wp2_with(first|(go_at_call 200;refine(H1.out _ HLg.out).mono ?_;rintro e w1⟨rfl,hb⟩;have HL1:=Hd (HLg.out.still hb);have HB1:=Hd hb;clear hb)|(go_at_call 142;with_reducible refine(H2.out _ _ _).mono ?_;rintro e w2⟨rfl,rfl⟩));obtain⟨C,hC⟩:∃C:World→Prop,∀u,C u↔Below (w1).heap.size (w1) u:=⟨fun u=>Below (w1).heap.size (w1) u,fun _=>Iff.rfl⟩;(have F:∀u,C u→LogAt u bl L:=fun u hu=>by have hu:=(hC u).1 hu;exact HL1.out.still hu);have step:∀u u',C u→Below u.heap.size u u'→C u':=fun u u' hu hb=>(hC u').2 (((hC u).1 hu).trans (hb.mono ((hC u).1 hu).size));have HC:=Hd hC;have FF:=Hd F;clear hC F;refine yY 21 C (by kernel_rfl) (by kernel_rfl) ((HC.out _).2 (Below.refl _ _).drew) ?_;simp only[List.take_succ_cons,List.take_zero,List.drop_succ_cons,List.drop_zero];(repeat first|((first|refine xC rfl (fun K hK=> ?_)|refine yp (by rfl) (fun K hK=> ?_));apply Exists.intro;refine⟨fun u hu=> ?_,?_⟩;(·exact zRh);go_simp;refine hK _ ?_;clear hK K)|(refine yq (by rfl) (fun K hK=> ?_);go_simp;refine hK _ ?_;clear hK K));refine vq ?_;intro w3 hw3;go_wp2;go_ret2;exact⟨rfl,HB1.out.trans (((HC.out _).1 hw3).mono HB1.out.size)⟩
 ·(have h67:(z[0]'l0).toNat≠67:=by rw[hb0];exact h0);(have d1:(((z[0]'l0).toNat:Int) !=67)=true:=by simp;omega);clear h hb0 h67;go_enter func143,ntmps143;go_wp2_with(first|(go_at_call 200;refine(H1.out _ HLg.out).mono ?_;rintro e w1⟨rfl,hb⟩;have HL1:=Hd (HLg.out.still hb);have HB1:=Hd hb;clear hb)|(go_at_call 142;with_reducible refine(H2.out _ _ _).mono ?_;rintro e w2⟨rfl,rfl⟩));go_quiet(fail);go_wp2;go_ret2;exact⟨rfl,HB1.out.trans ⟨rfl,rfl,rfl,Qn _,fun _ _=>rfl⟩⟩
theorem zQF{l:Grp}(h512:∀p∈l,p.2.size=512)(k m:Nat){x:Nat}{t:QB}(hl:l[m]? =some (x,t)):(zCx (zDp l) k).drop (516*m)=zA3 x 4++(t.data.toList++(zCx (zDp l) k).drop (516*(m+1))):=by
 obtain⟨hm,he⟩:=List.getElem?_eq_some_iff.1 hl
 have hlen:=zDQ l h512
 unfold zCx
 rw[List.drop_append_of_le_length (by omega),List.drop_append_of_le_length (by omega),zFW l h512,zFW l h512,List.drop_eq_getElem_cons hm,he]
 show((zA3 x 4++t.data.toList)++zDp (l.drop (m+1)))++_=_
 simp only[Qa]
theorem zGV{s:QB}{l:List UInt8}(h:s.data.toList=l):s=⟨l.toArray⟩:=by
 apply ByteArray.ext
 apply Array.ext'
 simpa using h
theorem zKi(o:Int→Option QB)(x:Nat)(t:QB):strs (zKh o x t)=putAt (strs o) (x:Int) (.string t):=by
 funext i
 unfold strs zKh putAt
 by_cases h:i=(x:Int)
 ·simp[h]
 ·simp[h]
theorem zI4{o:Int→Option QB}{l:Grp}{m x:Nat}{t:QB}(h:l[m]? =some (x,t)):zAK o (l.take (m+1))=zKh (zAK o (l.take m)) x t:=by
 rw[List.take_add_one,h]
 unfold zAK
 rw[List.foldl_append]
 rfl
theorem RecAt.mod{S:Int→QB}{ring pos seq:Nat}{l:Grp}(h:RecAt S ring pos seq l):RecAt S ring (pos %ring) seq l:=by
 refine⟨by rw[Nat.mod_mod];exact h.hdr,fun i hi=> ?_⟩
 rw[show pos %ring+1+i=pos %ring+(1+i)by omega,Nat.mod_add_mod,←Nat.add_assoc]
 exact h.pieces i hi
theorem zHY{w:World}{bl:Nat}{L:LogS}(h:LogAt w bl L)(hdd:L.D.down=false)(hnx:L.next<L.ring)(hsq:L.seq+1<18446744073709551616){l:Grp}(hr:RecAt L.D.read L.ring L.next (L.seq+1) l)(hg:GoodGrp L.homes l)(hu:L.used+kr l.length+1≤L.ring):Calls prog 143 #[.pointer (some ⟨bl,0,none⟩)] w fun e w'=>e= .returned (.tuple #[.bool true,.int .i64 0])∧∃no,LogStep bl w L w' {L with over:=zAK L.over l,no:=no,next:=(L.next+(kr l.length+1))%L.ring,used:=L.used+(kr l.length+1),seq:=L.seq+1}:=by
 have hring:=h.ring
 have H1:=Hd (fun u(hu:LogAt u bl L)(k:Nat)(hk:k<4611686018427387904)=>zA5 hu hdd k hk)
 obtain⟨n,hn⟩:=qN l.length
 have hnm:n≤4096:=by have:=zOH l.length;omega
 have hn1:1≤n:=hn▸hg.pos
 have hz:=hr.hdr
 rw[hn]at hz
 have hs:(zGR (L.seq+1) n).size=512:=zKg _ _
 have hb0:=zRc (L.seq+1) n
 have ht1:=zOG (L.seq+1) n hsq
 have ht2:=zRf (L.seq+1) n (by omega)
 have H1z:=Hd (fun u(hu:LogAt u bl L)=>zA5 hu hdd L.next (by omega))
 have e0:(1+((L.next %L.ring:Nat):Int))=((1+L.next %L.ring:Nat):Int):=by omega
 rw[e0,hz]at H1z
 generalize zGR (L.seq+1) n=z at*
 have l13:13≤z.size:=by omega
 have l0:0<z.size:=by omega
 have hx:∀a b,(z.extract a b).size≤9223372036854775807:=fun a b=>by rw[ByteArray.size_extract];omega
 obtain⟨sq,hsq3⟩:=qN (L.seq+1)
 have H2a:Hid (∀u:World,Calls prog 142 #[.string (z.extract 9 13)] u fun e w'=>e= .returned (.int .u64 n)∧u=w'):=Hd (fun u=>by have:=zAH _ (hx 9 13) u;rw[ht2]at this;exact this)
 have H2b:Hid (∀u:World,Calls prog 142 #[.string (z.extract 1 9)] u fun e w'=>e= .returned (.int .u64 sq)∧u=w'):=Hd (fun u=>by have:=zAH _ (hx 1 9) u;rw[ht1,hsq3]at this;exact this)
 have d1:(((z[0]'l0).toNat:Int) !=67)=false:=by have:=zL z 0 l0;simp;omega
 have hsq2:IntKind.u64.wrap ((L.seq:Int)+1)=(sq:Int):=by rw[IntKind.wrap_u64];omega
 have d2:((sq:Int) !=(sq:Int))=false:=by simp
 have d3:decide ((n:Int)<1)=false:=by simp;omega
 have d4:decide ((4096:Int)<(n:Int))=false:=by simp;omega
 have d5:IntKind.i64.wrap (n:Int)=(n:Int):=zv (by omega) (by omega)
 have HSe:=Hd (fun u=>zHV n (by omega) u)
 obtain⟨k,hk⟩:=qN (kr n)
 rw[hk]at HSe
 rw[hn,hk]at hu⊢
 have e2:IntKind.i64.wrap ((L.used:Int)+(k:Int))=(L.used:Int)+(k:Int):=zv (by omega) (by omega)
 have e3:IntKind.i64.wrap ((L.used:Int)+(k:Int)+1)=(L.used:Int)+(k:Int)+1:=zv (by omega) (by omega)
 have d6:decide ((L.ring:Int)<(L.used:Int)+(k:Int)+1)=false:=by simp;omega
 have HRec:=Hd hr
 have HG:=Hd hg
 have HLg:=Hd h
 have HK:=Hd hk
 have HN:=Hd hn
 have HSq:=Hd hsq3
 obtain⟨c0,c1,c2,c3,c4,c5,c6,c7⟩:=yz h.cells
 clear hx ht1 ht2 hz hr hg h hk hn hsq3
 go_enter func143,ntmps143
 go_wp2_with(first|(go_at_call 200;refine(H1z.out _ HLg.out).mono ?_;rintro e w1⟨rfl,hb⟩;have HL1:=Hd (HLg.out.still hb);have HB1:=Hd hb;clear hb)|(go_at_call 142;with_reducible refine(H2a.out _).mono ?_;rintro e w2⟨rfl,rfl⟩))
 obtain⟨C,hC⟩:∃C:World→Prop,∀u,C u↔Below (w1).heap.size (w1) u:=⟨fun u=>Below (w1).heap.size (w1) u,fun _=>Iff.rfl⟩
 have F:∀u,C u→LogAt u bl L:=fun u hu=>by have hu:=(hC u).1 hu;exact HL1.out.still hu
 have step:∀u u',C u→Below u.heap.size u u'→C u':=fun u u' hu hb=>(hC u').2 (((hC u).1 hu).trans (hb.mono ((hC u).1 hu).size))
 have HC:=Hd hC
 have FF:=Hd F
 clear hC F
 refine yY 21 C (by kernel_rfl) (by kernel_rfl) ((HC.out _).2 (Below.refl _ _).drew) ?_
 simp only[List.take_succ_cons,List.take_zero,List.drop_succ_cons,List.drop_zero]
 repeat first|((first|refine xC rfl (fun K hK=> ?_)|refine yp (by rfl) (fun K hK=> ?_));apply Exists.intro;refine⟨fun u hu=> ?_,?_⟩;(·exact zRh);go_simp;refine hK _ ?_;clear hK K)|(refine yq (by rfl) (fun K hK=> ?_);go_simp;refine hK _ ?_;clear hK K)
 refine vq ?_
 intro w3 hw3
 have HL3:=Hd (FF.out _ hw3)
 have HB3:=Hd (HB1.out.trans (((HC.out _).1 hw3).mono HB1.out.size))
 clear hw3
 go_wp2_with(first|(go_at_call 201;refine(HSe.out _).mono ?_;rintro e w4⟨rfl,rfl⟩))
 obtain⟨S,HS⟩:=mkS (Keep (fun _=>False) (w3))
 have FR:=Hd (fun u(hu:S u)=>have hu:=(HS.out u).1 hu;have c1:u.cell? ⟨bl,1,none⟩=some (.int .i64 L.ring):=((yz (hu.at HL3.out.cells (fun e=>e))).2.1);have c4:u.cell? ⟨bl,4,none⟩=some (.int .i64 L.used):=((yz (hu.at HL3.out.cells (fun e=>e))).2.2.2.2.1);And.intro c1 c4)
 refine rgo 11 [tR 0,tR 1,tR 2,tR 3,tR 4,tR 5,tR 6,tR 7,tR 8,tR 9,tR 10] HS (Keep.refl _ _).drew ?_
 iterate 11 refine rd1 ?_
 refine zl ?_
 clear FR
 clear S HS
 go_wp2
 have hB0:IsB w3.heap.size w3.heap.size [] (w3.alloc (.cells #[.pointer none,.slice none 0 0] 123)):=Lib.fresh_isBuilder _ _ w3
 have hbel0:Below w3.heap.size w3 (w3.alloc (.cells #[.pointer none,.slice none 0 0] 123)).drew:=((Below.refl _ w3).alloc (Qn _) _).trans ⟨rfl,rfl,rfl,Qn _,fun _ _=>rfl⟩
 have HB0:=Hd (yx hB0 (w':=(w3.alloc (.cells #[.pointer none,.slice none 0 0] 123)).drew) ⟨rfl,rfl,rfl,Qn _,fun _ _=>rfl⟩)
 have HBel0:=Hd hbel0
 clear hB0 hbel0
 obtain⟨T,hT⟩:=qN (zDp l)
 have h512:∀p∈l,p.2.size=512:=fun p hp=>(HG.out.ats p hp).2
 have hTl:T.length=516*n:=by rw[←hT,zDQ l h512,HN.out]
 have hcov:T.length≤511*k:=by rw[hTl,←HK.out];exact zHS n
 have hk4:k≤4096:=by omega
 have hpc:∀j,j<k→L.D.read (1+((L.next+1+j)%L.ring:Nat))=zBu T j:=fun j hj=>by rw[←hT,←HRec.out.pieces j (by rw[HN.out,HK.out];exact hj)];congr 1
 have HPc:=Hd hpc
 have HT:=Hd hT
 have H512:=Hd h512
 clear hpc hT h512
 go_loopw [67](fun i wr=>∃j:Nat,j≤k∧i= .int .i64 j∧IsB w3.heap.size w3.heap.size (Lib.byteCells ((zCx T k).take (511*j))) wr∧Below w3.heap.size w3 wr)(fun i _=>k-(intOf i).toNat)
 case atStart=>exact⟨0,by omega,rfl,by have:=HB0.out;simpa[Lib.byteCells]using this,HBel0.out⟩
 case round=>obtain⟨j,hj,rfl,hib,hbel⟩:=hrel;have HIB:=Hd hib;have HB:=Hd hbel;clear hib hbel;by_cases hlt:j<k;(·(have g1:decide ((j:Int)<(k:Int))=true:=by simp;omega);(have g1':decide (j<k)=true:=by simpa using hlt);have hLr:=HL3.out.still HB.out;have H1j:=Hd (H1.out wr hLr (L.next+1+j) (by omega));rw[HPc.out j hlt]at H1j;have hps:=zHR T j;have hp0:=zOF T j;have hpt:=zI3 T k j hcov hlt;obtain⟨q,hq⟩:=qN (zBu T j);rw[hq]at H1j hps hp0 hpt;(have lq:0<q.size:=by omega);(have lq1:1≤q.size:=by omega);(have dq:(((q[0]'lq).toNat:Int) !=80)=false:=by have:=zL q 0 lq;simp;omega);obtain⟨c0,c1,c2,c3,c4,c5,c6,c7⟩:=yz hLr.cells;obtain⟨N,hNN⟩:=qN (L.next+1+j);rw[hNN]at H1j;have w1:IntKind.i64.wrap ((L.next:Int)+1)=(L.next:Int)+1:=zv (by omega) (by omega);(have e1:(L.next:Int)+1+(j:Int)=(N:Int):=by omega);have w2:IntKind.i64.wrap (N:Int)=(N:Int):=zv (by omega) (by omega);(have hqe:(q.extract 1 512).size=511:=by rw[ByteArray.size_extract];omega);have HQe:=Hd hqe;have HPt:=Hd hpt;(have hj0:(0:Int)≤(j:Int):=by omega);(have hj1:(j:Int)<(k:Int):=by omega);have hbl:((zCx T k).take (511*j)).length≤511*j:=List.length_take_le _ _;have HBl:=Hd hbl;clear hq hp0 hpt hqe hNN hLr hbl;go_wp2_with(first|(go_at_call 200;refine(H1j.out).mono ?_;rintro e w5⟨rfl,hb5⟩;have HI5:=Hd (yx HIB.out hb5);have HB5:=Hd (qT HB.out hb5);clear hb5));have A1:=Hd (zn HI5.out HB5.out.size (q.extract 1 512) (by rw[HQe.out,Lib.byteCells_length];have:=HBl.out;omega));refine(A1.out).mono ?_;rintro e w6⟨rfl,hi6,hb6,ho6⟩;rw[strCells_eq,HPt.out,←byteCells_append,zML]at hi6;have HI6:=Hd hi6;have HB6:=Hd (HB5.out.trans hb6);clear hi6 hb6 ho6;go_wp2;go_roundw;(case rel=>exact⟨j+1,by omega,rfl,HI6.out,HB6.out⟩);case measure=>simp[intOf];omega);·(have g1:decide ((j:Int)<(k:Int))=false:=by simp;omega);(have g1':decide (j<k)=false:=by simpa using hlt);(obtain rfl:j=k:=by omega);have hib:=HIB.out;(have hpl:(zCx T j).length=511*j:=by unfold zCx;rw[Ql,List.length_replicate];omega);rw[Qk (by omega)]at hib;obtain⟨U,hU⟩:=qN (zCx T j);rw[hU]at hib hpl;have HSt:=Hd (Tryz.Builder_String_any_k w3.heap.size w3.heap.size U wr (Lib.IsBuilderF.of hib) HB.out.size);have HUe:=Hd hU;clear hib hU;go_wp2_with(go_at_call 57;refine(HSt.out).mono ?_;rintro e w5⟨rfl,hi5,hb5,ho5⟩;have HB5:=Hd (HB.out.trans hb5);clear hi5 hb5 ho5);(have hat:∀m,m<n→∃(x:Nat)(t:QB),l[m]? =some (x,t)∧U.drop (516*m)=zA3 x 4++(t.data.toList++U.drop (516*(m+1)))∧x<L.homes∧t.size=512:=fun m hm=>by obtain⟨y,hy⟩:∃y,l[m]? =some y:=⟨_,Qg (by rw[HN.out];exact hm)⟩;have hyg:=HG.out.ats y (List.mem_of_getElem? hy);refine⟨y.1,y.2,hy,?_,hyg.1,hyg.2⟩;rw[←HUe.out,←HT.out];exact zQF H512.out j m hy);have HAt:=Hd hat;(have hcov2:516*n≤511*j:=by omega);(have hhom:L.homes≤65536:=by unfold LogS.homes;have:=HLg.out.disk.size;omega);have HS5:Hid (∀(m:Nat)i t,zAK L.over (l.take m) i=some t→t.size=512):=Hd (fun m i t ht=>by rcases zHW _ _ _ _ ht with h1|⟨y,hy,_,h2⟩;(·exact HLg.out.s512 i t h1);·rw[←h2];exact H512.out y (List.mem_of_mem_take hy));have HO0:Hid (∃no,IMap w5 L.bo (strs (zAK L.over (l.take 0))) no):=Hd ⟨L.no,HLg.out.over.keep (Keep.ofBelow (S:=fun _=>False) (qT HB3.out HB5.out)) (fun e=>e)⟩;have HKp0:Hid (Keep (·=L.bo) w w5):=Hd (Keep.ofBelow (qT HB3.out HB5.out));clear hat;go_loopw [12,95](fun ts i wr2=>∃m:Nat,m≤n∧i= .int .i64 m∧ts= .string ⟨(U.drop (516*m)).toArray⟩∧(∃no,IMap wr2 L.bo (strs (zAK L.over (l.take m))) no)∧Keep (·=L.bo) w wr2)(fun _ i _=>n-(intOf i).toNat);(case atStart=>exact⟨0,by omega,rfl,by simp,HO0.out,HKp0.out⟩);case round=>obtain⟨m,hm,rfl,rfl,hmap,hkp⟩:=hrel;have HMp:=Hd hmap;have HKp:=Hd hkp;obtain⟨no,hm0⟩:=hmap;have HLs:=Hd (HLg.out.turn_over hm0 hkp (HS5.out m));have HM0:=Hd hm0;clear hkp hm0;by_cases hlt2:m<n;(·(have g2:decide ((m:Int)<(n:Int))=true:=by simp;omega);(have g2':decide (m<n)=true:=by simpa using hlt2);obtain⟨x,t,hlx,hdx,hxh,ht5⟩:=HAt.out m hlt2;obtain⟨sm,hsm⟩:∃sm:QB,⟨(U.drop (516*m)).toArray⟩=sm:=⟨_,rfl⟩;(have hsl:sm.data.toList=zA3 x 4++(t.data.toList++U.drop (516*(m+1))):=by rw[←hsm,bytesOf,hdx]);(have hssz:sm.size=511*j-516*m:=by rw[←hsm,zDw,List.length_drop,hpl]);(have htl:t.data.toList.length=512:=by simpa using ht5);have hx4:sm.extract 0 4=⟨(zA3 x 4).toArray⟩:=zGV (by rw[xh,hsl,List.drop_zero,List.take_left' (by rw[yH])]);(have hxt:sm.extract 4 516=t:=by rw[zGV (s:=t) rfl];exact zGV (by rw[xh,hsl,List.drop_left' (by rw[yH]),List.take_left' (by rw[htl])]));have hxr:sm.extract 516 sm.size=⟨(U.drop (516*(m+1))).toArray⟩:=zGV (by rw[xh,hsl,←Qa,List.drop_left' (by rw[Ql,yH,htl]),Qk (by rw[List.length_drop,hpl,hssz];omega)]);have HTo:Hid (∀u:World,Calls prog 142 #[.string (sm.extract 0 4)] u fun e w'=>e= .returned (.int .u64 x)∧u=w'):=Hd (fun u=>by have:=zAH (sm.extract 0 4) (by rw[ByteArray.size_extract];omega) u;rw[hx4,zA8,bytesOf,zEI _ _ (by decide),Nat.mod_eq_of_lt (by omega)]at this;rw[hx4];exact this);have hhs:=HLs.out.homes;have HHo:=Hd (zAb HLs.out.at_);rw[hhs]at HHo;obtain⟨sz,hsze⟩:=qN (511*j-516*m);(have l516:516≤sz:=by omega);(have l516':(516:Int)≤(sz:Int):=by omega);(have l4:4≤sz:=by omega);(have l4':(4:Int)≤(sz:Int):=by omega);rw[hsze]at hssz;rw[hssz]at hxr;have hwf:(Lit.int .i64 (x:Int)).wf=true:=zFQ (by omega) (by omega);(have d7:decide ((L.homes:Int)≤(x:Int))=false:=by simp;omega);have w8:IntKind.i64.wrap (x:Int)=(x:Int):=zv (by omega) (by omega);(have hst:strs (zAK L.over (l.take (m+1)))=putAt (strs (zAK L.over (l.take m))) (x:Int) (.string t):=by rw[zI4 hlx];exact zKi _ _ _);have HXt:=Hd hxt;have HXr:=Hd hxr;have HSt2:=Hd hst;(have hm1:(0:Int)≤(m:Int):=by omega);(have hm2:(m:Int)<(n:Int):=by omega);rw[hsm];clear hlx hdx hsm hsl htl hx4 hxt hxr hhs hst hsze;go_wp2_with(first|(go_at_call 142;refine(HTo.out _).mono ?_;rintro e w6⟨rfl,rfl⟩)|(go_at_call 144;refine(HHo.out).mono ?_;rintro e w7⟨rfl,hb7⟩;have HB7:=Hd hb7;have HL7:=Hd (HLs.out.at_.still hb7);have HM7:=Hd (HM0.out.keep (Keep.still hb7) (fun e=>e));have HK7:=Hd (HKp.out.trans (Keep.ofBelow (S:=fun _=>False) hb7) (fun _ _ e=>e.elim));clear hb7));obtain⟨S,HS⟩:=mkS (Keep (fun _=>False) (w7));have FR:=Hd (fun u(hu:S u)=>have hu:=(HS.out u).1 hu;have c6:u.cell? ⟨bl,6,none⟩=some (.map (some L.bo)):=((yz (hu.at HL7.out.cells (fun e=>e))).2.2.2.2.2.2.1);have c9:=HXt.out;And.intro c6 c9);refine rgo 7 [tR 0,tR 1,tR 2,tR 3,tR 4,tR 5,tR 6] HS (Keep.refl _ _).drew ?_;(iterate 7 refine rd1 ?_);refine zl ?_;clear FR;clear S HS;obtain⟨u6,hr6,hm6,hk6,hz6,hd6⟩:=(HM7.out.keep ((Keep.refl (fun _=>False) w7).drew) (fun e=>e)).run_update underlying3 underlying231 hwf (.string t);rw[←HSt2.out]at hm6;have HM6:=Hd hm6;have HK6:=Hd ((HK7.out.drew).trans hk6 (fun _ _ e=>e));clear hm6 hk6 hz6 hd6;go_wp2;go_roundw;(case rel=>exact⟨m+1,by omega,rfl,by rw[HXr.out],⟨_,HM6.out⟩,HK6.out⟩);case measure=>simp[intOf];omega);·(have g2:decide ((m:Int)<(n:Int))=false:=by simp;omega);(have g2':decide (m<n)=false:=by simpa using hlt2);(obtain rfl:m=n:=by omega);have hsl:=HLs.out;rw[Qk (by rw[HN.out];exact Qn _)]at hsl;have HSl:=Hd hsl;have HGo:=Hd (zMN hsl.at_ (j+1) (by omega) hnx (by show L.used≤65536;omega) hsq);have w9:IntKind.i64.wrap ((j:Int)+1)=(j:Int)+1:=zv (by omega) (by omega);clear hsl;go_wp2_with(go_at_call 202;refine(HGo.out).mono ?_;rintro e w8⟨rfl,hst8⟩;have HSt8:=Hd hst8;clear hst8);go_ret2;exact⟨rfl,_,HSl.out.trans HSt8.out⟩
def LogS.recd(L:LogS)(tail seq0:Nat)(recs:List Grp)(j no:Nat):LogS:={L with tail:=tail,next:=(tail+zu (recs.take j))%L.ring,used:=zu (recs.take j),seq:=seq0+j,over:=xi (recs.take j),no:=no}
theorem dropWhile_nil(p:UInt8→Bool)(l:List UInt8)(h:l.dropWhile p=[]):∀x∈l,p x=true:=by
 induction l with|nil=>intro x hx;cases hx|cons c l ih=>rw[List.dropWhile_cons]at h;cases hp:p c with|false=>rw[hp]at h;cases h|true=>rw[hp]at h;intro x hx;rcases List.mem_cons.1 hx with rfl|hx;(·exact hp);·exact ih h x hx
theorem zFF(p:UInt8→Bool)(l:List UInt8):∀x∈l.takeWhile p,p x=true:=by
 induction l with|nil=>intro x hx;cases hx|cons c l ih=>intro x hx;rw[List.takeWhile_cons]at hx;cases hp:p c with|false=>rw[hp]at hx;cases hx|true=>rw[hp]at hx;rcases List.mem_cons.1 hx with rfl|hx;(·exact hp);·exact ih x hx
theorem zKj(l:List UInt8)(h:(72:UInt8)∈l):Lib.trimB l 0≠[]:=by
 intro he
 have hs:l=Lib.trimRightB l 0++(l.reverse.takeWhile (·==0)).reverse:=by unfold Lib.trimRightB;rw[←List.reverse_append,List.takeWhile_append_dropWhile,List.reverse_reverse]
 rw[hs]at h
 have h1:=dropWhile_nil _ _ he
 rcases List.mem_append.1 h with h|h
 ·exact absurd (h1 72 h) (by decide)
 ·have h2:=zFF _ _ _ (List.mem_reverse.1 h);exact absurd h2 (by decide)
theorem head_mem(tail seq:Nat):(72:UInt8)∈(zCO tail seq).data.toList:=by
 unfold zCO
 rw[zAe]
 simp
theorem zKk(tail seq:Nat):(⟨(Lib.trimB (zCO tail seq).data.toList 0).toArray⟩:QB)≠ByteArray.empty:=by
 intro e
 apply zKj _ (head_mem tail seq)
 have:=congrArg (fun s:QB=>s.data.toList) e
 simpa using this
theorem zRj{p:Prop}(h:p:=by rcases hw2 with rfl|rfl<;>exact⟨rfl,rfl,rfl,Qn _,fun _ _=>rfl⟩):p:=h
theorem zUg{p:Prop}(h:p:=by obtain⟨j,no,hj,hat,hkp⟩:=hrel;have HAt:=Hd hat;have HKp:=Hd hkp;have hcs:wr.cell? ⟨w.heap.size+1,4,none⟩=some (.int .i64 (zu (recs.take j):Nat)):=(yz hat.cells).2.2.2.2.1;have HCs:=Hd hcs;have hrr:=HR.out wr j no hj hat;clear hat hkp hcs;by_cases hlt:j<recs.length;(·have hrr2:=hrr.mono (fun e w' hh=>hh.resolve_right (fun h=>by omega));have HRr:=Hd hrr2;clear hrr hrr2;go_wp2_with(go_at_call 143;refine(HRr.out).mono ?_;rintro e w4⟨_,rfl,no',hat4,hk4⟩;have HAt4:=Hd hat4;have HK4:=Hd hk4;clear hat4 hk4);go_roundw;(case rel=>refine⟨j+1,no',by omega,HAt4.out,HKp.out.trans HK4.out (fun i hi hf=> ?_)⟩;rcases hf with e|e|e;(·omega);(·have e2:i=w.heap.size:=e;omega);·exact e);case measure=>have hc4:w4.cell? ⟨w.heap.size+1,4,none⟩=some (.int .i64 (zu (recs.take (j+1)):Nat)):=(yz HAt4.out.cells).2.2.2.2.1;have h1':=zAL recs j hlt;have h2':=zBA recs (j+1);have h3':=HDur.out.used;rw[hc4,HCs.out];simp[intOf];omega);·have hrr2:=hrr.mono (fun e w' hh=>hh.resolve_left (fun h=>hlt h.1));have HRr:=Hd hrr2;(obtain rfl:j=recs.length:=by omega);clear hrr hrr2;go_wp2_with(go_at_call 143;refine(HRr.out).mono ?_;rintro e w4⟨_,rfl,hb4⟩);go_ret2;exact⟨_,_,rfl,HFin.out _ _ (HAt.out.still hb4),rfl,rfl,rfl,Nat.le_succ _,Qn _,HKp.out.trans (Keep.ofBelow (S:=fun _=>False) hb4) (fun _ _ e=>e.elim)⟩):p:=h
theorem zMO{w:World}{bd:Nat}{D:DiskS}{d:Dk}{homes N:Nat}{W:Int→QB}(h:DiskAt w bd D)(hd:DkOf D d)(hup:d.down=false)(hcl:d.writes=[])(ring:Nat)(h1:4≤ring)(h2:ring≤4096)(h3:D.size=ring+1+homes)(h4:1≤homes)(hN:N<4611686018427387904)(hb:Bears d.firm ring homes N W):Calls prog 79 #[.pointer (some ⟨bd,0,none⟩),.int .i64 ring] w fun e w'=>∃bl L,e= .returned (.tuple #[.pointer (some ⟨bl,0,none⟩),.int .i64 0])∧LogUp w' bl L d N W∧L.D=D∧L.bd=bd∧L.ring=ring∧w.heap.size≤bl∧w.heap.size≤L.bo∧Keep (D.foot bd) w w':=by
 obtain⟨tail,seq0,recs,hdur,hsq,hW⟩:=hb
 have hsz:=h.size
 have htl:=hdur.tail_
 have hrd:∀i,D.read i=d.firm i:=fun i=>by rw[hd.read];unfold Dk.read;rw[hcl,zHN]
 have e1:decide ((ring:Int)<4)=false:=by simp;omega
 have e2:decide ((4096:Int)<ring)=false:=by simp;omega
 have e4:IntKind.i64.wrap ((ring:Int)+2)=(ring:Int)+2:=zv (by omega) (by omega)
 have e3:decide ((D.size:Int)<(ring:Int)+2)=false:=by simp;omega
 have H1:=Hd (fun u(hu:DiskAt u bd D)=>zCH hu.cells)
 have H2:=Hd (fun u(hu:DiskAt u bd D)=>zCI hu.cells)
 have H3:=Hd (fun u(hu:DiskAt u bd D)=>diskRead_any hu (i:=0) (by decide))
 have hdd:D.down=false:=hd.down.trans hup
 have ds:D.says 0= .tuple #[.string (d.firm 0),.int .i64 0]:=by(have hin:(0:Int)≤0∧(0:Int)<D.size:=by omega);unfold DiskS.says;rw[hdd,if_pos hin,hrd];rfl
 rw[ds]at H3
 rw[hdd]at H2
 have HN:=Hd (zDo w (Obj.map #[] 0) (Obj.cells #[.pointer (some ⟨bd,0,none⟩),.int .i64 ring,.int .i64 0,.int .i64 0,.int .i64 0,.int .u64 0,.map (some w.heap.size),.bool false] 236))
 have H0:LogAt ((w.alloc (Obj.map #[] 0)).alloc (Obj.cells #[.pointer (some ⟨bd,0,none⟩),.int .i64 ring,.int .i64 0,.int .i64 0,.int .i64 0,.int .u64 0,.map (some w.heap.size),.bool false] 236)) (w.heap.size+1) (yA bd D ring w.heap.size):=by obtain⟨n1,n2,nb⟩:=HN.out;refine⟨n2,h.still nb,zAZ n1,⟨?_,?_,?_⟩,?_,h1,h2,by show ring+2≤D.size;omega⟩;(·show w.heap.size+1≠w.heap.size;omega);(·intro hf;have:=h.foot_lt hf;omega);(·intro hf;have hlt:w.heap.size<w.heap.size:=h.foot_lt hf;omega);·intro i s hs;cases hs
 have HB:=Hd HN.out.2.2
 have HL:=Hd H0
 have HD:=Hd h
 have HDk:=Hd hd
 have HDur:=Hd hdur
 have HW:=Hd hW
 have HRd:=Hd hrd
 have hrec:∀u j no,j≤recs.length→LogAt u (w.heap.size+1) ((yA bd D ring w.heap.size).recd tail seq0 recs j no)→Calls prog 143 #[.pointer (some ⟨w.heap.size+1,0,none⟩)] u fun e w'=>(j<recs.length∧e= .returned (.tuple #[.bool true,.int .i64 0])∧∃no',LogAt w' (w.heap.size+1) ((yA bd D ring w.heap.size).recd tail seq0 recs (j+1) no')∧Keep ((yA bd D ring w.heap.size).foot (w.heap.size+1)) u w')∨(j=recs.length∧e= .returned (.tuple #[.bool false,.int .i64 0])∧Below u.heap.size u w'):=fun u j no hj hu=>by have hmod:(tail+zu (recs.take j))%ring<ring:=Nat.mod_lt _ (by omega);by_cases hlt:j<recs.length;(·have hra:=(hdur.chain j hlt).mod;have hgd:=hdur.good _ (List.getElem_mem hlt);have hus:=zAL recs j hlt;have hul:=zBA recs (j+1);have hue:=hdur.used;refine(zHY hu hdd hmod (by show seq0+j+1<_;omega) (l:=recs[j]) ?_ ?_ (by show zu (recs.take j)+kr _+1≤ring;omega)).mono (fun e w' hh=>.inl ⟨hlt,hh.1,?_⟩);(·have e:(fun i=>D.read i)=d.firm:=funext hrd;show RecAt (fun i=>D.read i) ring ((tail+zu (recs.take j))%ring) (seq0+j+1) recs[j];rw[e];exact hra);(·(have e:((yA bd D ring w.heap.size).recd tail seq0 recs j no).homes=homes:=by show D.size-1-ring=homes;omega);rw[e];exact hgd);·obtain⟨no',hst⟩:=hh.2;refine⟨no',?_,hst.keep⟩;have hat:=hst.at_;(have e1:xi (recs.take (j+1))=zAK (xi (recs.take j)) recs[j]:=by rw[List.take_succ_eq_append_getElem hlt,zGS]);(have e2:(tail+zu (recs.take (j+1)))%ring=((tail+zu (recs.take j))%ring+(kr recs[j].length+1))%ring:=by rw[hus,Nat.mod_add_mod,Nat.add_assoc]);unfold LogS.recd at hat⊢;rw[e1,show(yA bd D ring w.heap.size).ring=ring from rfl,e2,hus,←Nat.add_assoc];exact hat);·(obtain rfl:j=recs.length:=by omega);refine(zHX hu hdd hmod (by show seq0+recs.length+1<_;omega) ?_).mono (fun e w' hh=>.inr ⟨rfl,hh.1,hh.2⟩);show zG (D.read ((1+(tail+zu (recs.take recs.length))%ring %ring:Nat):Int)) 0=67→zAz ((D.read ((1+(tail+zu (recs.take recs.length))%ring %ring:Nat):Int)).extract 1 9)≠seq0+recs.length+1;rw[hrd,Nat.mod_mod];intro hb0;have:=hdur.old _ hmod hb0;omega
 have HR:=Hd hrec
 clear H0 HN hrec h hd hdur hW hrd ds
 have hmm:= @run_makeMap prog
 have hfin:∀u no,LogAt u (w.heap.size+1) ((yA bd D ring w.heap.size).recd tail seq0 recs recs.length no)→LogUp u (w.heap.size+1) ((yA bd D ring w.heap.size).recd tail seq0 recs recs.length no) d N W:=fun u no hu=>by(have e:((yA bd D ring w.heap.size).recd tail seq0 recs recs.length no).homes=homes:=by show D.size-1-ring=homes;omega);refine⟨hu,HDk.out,rfl,hup,hcl,⟨seq0,recs,?_,?_,?_,rfl,?_,fun k hk=>HW.out k (by rw[←e];exact hk)⟩,by show seq0+recs.length≤N;omega⟩;(·rw[e];exact HDur.out);(·show zu (recs.take recs.length)=_;rw[List.take_length]);(·show(tail+zu (recs.take recs.length))%ring=_;rw[List.take_length];rfl);·show xi (recs.take recs.length)=_;rw[List.take_length]
 have HFin:=Hd hfin
 clear hfin
 obtain⟨z,hzz⟩:=qN (d.firm 0)
 have hz5:z.size=512:=by rw[←hzz,←HRd.out];exact D.read_size HD.out 0
 rw[hzz]at H3
 have H4:=Hd (fun u=>Tryz.strings_Trim_one z 0 (by decide) u (by omega))
 have HSz:=Hd h3
 clear h3
 rcases HDur.out.head with⟨hz,rfl,rfl⟩|hz
 ·rw[hzz]at hz;(have ht:(⟨(Lib.trimB z.data.toList 0).toArray⟩:QB)=ByteArray.empty:=by rw[hz];exact zI1);rw[ht]at H4;clear hz hzz ht;go_enter func79,ntmps79;go_wp2_with(first|(go_at_call 138;refine(H1.out _ HD.out).mono ?_;rintro e w1⟨rfl,rfl⟩)|(go_at_call 139;refine(H2.out _ HD.out).mono ?_;rintro e w1⟨rfl,rfl⟩)|(go_at_call 140;refine(H3.out _ (HD.out.still HB.out)).mono ?_;rintro e w1⟨rfl,hb1⟩;have HL1:=Hd (HL.out.still hb1);have HB1:=Hd (qT HB.out hb1);clear hb1)|(go_at_call 141;refine(H4.out _).mono ?_;rintro e w2⟨rfl,hw2⟩;(have hb2:Below w1.heap.size w1 w2:=by exact zRj);have HL2:=Hd (HL1.out.still hb2);have HB2:=Hd (qT HB1.out hb2);clear hw2 hb2;obtain⟨c0,c1,c2,c3,c4,c5,c6,c7⟩:=yz HL2.out.cells;have f3:=zAc HL2.out.cells 3));have hid3:Below w2.heap.size w2 (w2.setCell ⟨w.heap.size+1,3,none⟩ (.int .i64 0)):=zMF HL2.out.cells 3 _ rfl;(have hfr:yA bd D ring w.heap.size=(yA bd D ring w.heap.size).recd 0 0 recs 0 0:=by unfold LogS.recd yA;simp[zu,xi]);have hA0:=HL2.out.still hid3;rw[hfr]at hA0;have HA0:=Hd hA0;have HK0:Hid (Keep (D.foot bd) w (w2.setCell ⟨w.heap.size+1,3,none⟩ (.int .i64 0))):=Hd (Keep.ofBelow (qT HB2.out hid3));clear hid3 hfr hA0;go_loopw [9](fun _ wr=>∃j no,j≤recs.length∧LogAt wr (w.heap.size+1) ((yA bd D ring w.heap.size).recd 0 0 recs j no)∧Keep (D.foot bd) w wr)(fun _ wr=>ring-(intOf ((wr.cell? ⟨w.heap.size+1,4,none⟩).getD undef)).toNat);(case atStart=>exact⟨0,0,Nat.zero_le _,HA0.out,HK0.out⟩);case round=>exact zUg
 ·rw[hzz]at hz;have ht:=zKk tail seq0;rw[←hz]at ht;obtain⟨tz,htz⟩:∃tz:QB,⟨(Lib.trimB z.data.toList 0).toArray⟩=tz:=⟨_,rfl⟩;rw[htz]at H4 ht;have hz0:=zQD tail seq0;have hz1:=head_tail tail seq0 (by omega);have hz2:=zMK tail seq0 (by omega);rw[←hz]at hz0 hz1 hz2;(have l0:0<z.size:=by omega);(have l13:13≤z.size:=by omega);(have d1:(((z[0]'l0).toNat:Int)==72)=true:=by have:=zL z 0 l0;simp;omega);(have hx:∀a b,(z.extract a b).size≤9223372036854775807:=fun a b=>by rw[ByteArray.size_extract];omega);have H5:Hid (∀u:World,Calls prog 142 #[.string (z.extract 1 5)] u fun e w'=>e= .returned (.int .u64 tail)∧u=w'):=Hd (fun u=>by have:=zAH _ (hx 1 5) u;rw[hz1]at this;exact this);have H6:Hid (∀u:World,Calls prog 142 #[.string (z.extract 5 13)] u fun e w'=>e= .returned (.int .u64 seq0)∧u=w'):=Hd (fun u=>by have:=zAH _ (hx 5 13) u;rw[hz2]at this;exact this);(have d2:decide ((tail:Int)<(ring:Int))=true:=by simp;omega);(have d3:IntKind.u64.wrap (ring:Int)=(ring:Int):=by rw[IntKind.wrap_u64];omega);have d4:IntKind.i64.wrap (tail:Int)=(tail:Int):=zv (by omega) (by omega);have ht2:tz≠(⟨#[]⟩:QB):=ht;(have d5:tz.toList.isEmpty=false:=by rw[ByteArray.toList_eq];cases hl:tz.data.toList with|nil=>exact absurd (ByteArray.ext (Array.ext' hl)) ht2|cons _ _=>rfl);clear hz hzz htz hz0 hz1 hz2 hx;go_enter func79,ntmps79;go_wp2_with(first|(go_at_call 138;refine(H1.out _ HD.out).mono ?_;rintro e w1⟨rfl,rfl⟩)|(go_at_call 139;refine(H2.out _ HD.out).mono ?_;rintro e w1⟨rfl,rfl⟩)|(go_at_call 140;refine(H3.out _ (HD.out.still HB.out)).mono ?_;rintro e w1⟨rfl,hb1⟩;have HL1:=Hd (HL.out.still hb1);have HB1:=Hd (qT HB.out hb1);clear hb1)|(go_at_call 141;refine(H4.out _).mono ?_;rintro e w2⟨rfl,hw2⟩;(have hb2:Below w1.heap.size w1 w2:=by exact zRj);have HL2:=Hd (HL1.out.still hb2);have HB2:=Hd (qT HB1.out hb2);clear hw2 hb2;obtain⟨c0,c1,c2,c3,c4,c5,c6,c7⟩:=yz HL2.out.cells;have f2:=zAc HL2.out.cells 2;have f3:=zAc HL2.out.cells 3;have f5:=zAc HL2.out.cells 5)|(go_at_call 142;first|(with_reducible refine(H5.out _).mono ?_;rintro e w3⟨rfl,rfl⟩)|(with_reducible refine(H6.out _).mono ?_;rintro e w3⟨rfl,rfl⟩)));obtain⟨S,HS⟩:=mkS (Keep (fun k=>k=w.heap.size+1) (w2));refine rgo 12 [tR 0,tR 1,tR 2,tR 3,tR 6,tR 7,tD 4,tR 5,tD 8,tR 9,tR 10,tD 11] HS (Keep.refl _ _).drew ?_;(iterate 6 refine rd1 ?_);refine doH ?_;intro K hK;go_simp;go_at_call 142;refine(H5.out _).mono ?_;rintro e u5⟨rfl,hb5⟩;subst hb5;have k5:Keep (fun k=>k=w.heap.size+1) w2 w2.drew:=(Keep.refl _ _).drew;refine hK _ _ ((HS.out _).2 k5) ?_;clear hK K;refine rd1 ?_;refine doH ?_;intro K hK;go_simp;go_at_call 142;refine(H6.out _).mono ?_;rintro e u6⟨rfl,hb6⟩;subst hb6;refine hK _ _ ((HS.out _).2 k5) ?_;clear hK K;(iterate 2 refine rd1 ?_);refine doH ?_;intro K hK;go_simp;refine hK _ _ ((HS.out _).2 (k5.setCell (p:=⟨w.heap.size+1,2,none⟩) (fun _=>rfl) _)) ?_;clear hK K;refine zl ?_;clear S HS;go_wp2;have kS:Keep (·=w.heap.size+1) w2 (((w2.setCell ⟨w.heap.size+1,2,none⟩ (.int .i64 tail)).setCell ⟨w.heap.size+1,5,none⟩ (.int .u64 seq0)).setCell ⟨w.heap.size+1,3,none⟩ (.int .i64 tail)).drew:=((((Keep.refl (·=w.heap.size+1) w2).setCell (p:=⟨w.heap.size+1,2,none⟩) (fun _=>rfl) _).setCell (p:=⟨w.heap.size+1,5,none⟩) (fun _=>rfl) _).setCell (p:=⟨w.heap.size+1,3,none⟩) (fun _=>rfl) _).drew;have hA0:=(HL2.out.turn tail tail 0 seq0 false kS (by have hst:=HL2.out.cells;show(((w2.setCell ⟨w.heap.size+1,2,none⟩ (.int .i64 tail)).setCell ⟨w.heap.size+1,5,none⟩ (.int .u64 seq0)).setCell ⟨w.heap.size+1,3,none⟩ (.int .i64 tail)).heap[w.heap.size+1]? =_;simp[World.setCell,Array.getElem?_modify,hst,LogS.cells,yA])).at_;(have hfr:({yA bd D ring w.heap.size with tail:=tail,next:=tail,used:=0,seq:=seq0,down:=false}:LogS)=(yA bd D ring w.heap.size).recd tail seq0 recs 0 0:=by unfold LogS.recd yA;simp[zu,xi,Nat.mod_eq_of_lt htl]);rw[hfr]at hA0;have HA0:=Hd hA0;have HK0:Hid (Keep (D.foot bd) w (((w2.setCell ⟨w.heap.size+1,2,none⟩ (.int .i64 tail)).setCell ⟨w.heap.size+1,5,none⟩ (.int .u64 seq0)).setCell ⟨w.heap.size+1,3,none⟩ (.int .i64 tail)).drew):=Hd ((Keep.ofBelow HB2.out).trans kS (fun i hi e=>by omega));clear hfr hA0 kS;go_loopw [9](fun _ wr=>∃j no,j≤recs.length∧LogAt wr (w.heap.size+1) ((yA bd D ring w.heap.size).recd tail seq0 recs j no)∧Keep (D.foot bd) w wr)(fun _ wr=>ring-(intOf ((wr.cell? ⟨w.heap.size+1,4,none⟩).getD undef)).toNat);(case atStart=>exact⟨0,0,Nat.zero_le _,HA0.out,HK0.out⟩);case round=>exact zUg
def zCz(n:Nat):Dk:=⟨n,fun _=>yn 512,[],0,false,false⟩
theorem zKl(n bf bn:Nat):DkOf (zCw n bf bn) (zCz n):=⟨rfl,fun _=>rfl,fun _=>rfl,rfl,fun h=>(by cases h),rfl,rfl,fun x hx=>(by cases hx)⟩
theorem zGW(n ring homes:Nat)(h:0<ring):Bears (zCz n).firm ring homes 0 (fun _=>yn 512):=⟨0,0,[],Dur.fresh ring homes h,Qn _,fun _ _=>rfl⟩
def zKB(L:LogS)(bl B:Nat):Prop:=∀k,L.foot bl k→B≤k
theorem LogStep.newer{bl:Nat}{w w':World}{L L':LogS}{B:Nat}(h:LogStep bl w L w' L')(hn:zKB L bl B)(hB:B≤w.heap.size):zKB L' bl B∧Below B w w':=⟨fun k hk=>(h.own k hk).elim (hn k) (fun e=>Nat.le_trans hB e),h.keep.below hB (fun i hi hf=>by have:=hn i hf;omega)⟩
structure Fresh5(w w':World)(bd:Nat)(D:DiskS)(n:Nat):Prop where
 at_:DiskAt w' bd D
 dk:DkOf D (zCz n)
 size:D.size=n
 newer:∀k,D.foot bd k→w.heap.size≤k
 below:Below w.heap.size w w'
theorem zMP(n:Nat)(h1:1≤n)(h2:n≤65536)(w:World):Calls prog 78 #[.int .i64 n] w fun e w'=>∃bd D,e= .returned (.tuple #[.pointer (some ⟨bd,0,none⟩),.int .i64 0])∧Fresh5 w w' bd D n:=(zHI n h1 h2 w).mono fun e w'⟨bd,D,he,hD,hat,hbd,hb⟩=>by subst hD hbd;refine⟨_,_,he,hat,zKl _ _ _,rfl,fun k hk=> ?_,hb⟩;rcases hk with e|e|e|e;(·omega);(·exact Nat.le_of_eq e.symm);(·have e2:k=w.heap.size+1:=e;omega);·cases e
structure Open5(w w':World)(bd:Nat)(D:DiskS)(d:Dk)(ring N:Nat)(W:Int→QB)(bl:Nat)(L:LogS):Prop where
 up:LogUp w' bl L d N W
 disk:L.D=D
 bdE:L.bd=bd
 ringE:L.ring=ring
 own:∀k,L.foot bl k→D.foot bd k∨w.heap.size≤k
 keep:Keep (D.foot bd) w w'
theorem zKm{w:World}{bd:Nat}{D:DiskS}{d:Dk}{homes N:Nat}{W:Int→QB}(h:DiskAt w bd D)(hd:DkOf D d)(hup:d.down=false)(hcl:d.writes=[])(ring:Nat)(h1:4≤ring)(h2:ring≤4096)(h3:D.size=ring+1+homes)(h4:1≤homes)(hN:N<4611686018427387904)(hb:Bears d.firm ring homes N W):Calls prog 79 #[.pointer (some ⟨bd,0,none⟩),.int .i64 ring] w fun e w'=>∃bl L,e= .returned (.tuple #[.pointer (some ⟨bl,0,none⟩),.int .i64 0])∧Open5 w w' bd D d ring N W bl L:=(zMO h hd hup hcl ring h1 h2 h3 h4 hN hb).mono fun e w'⟨bl,L,he,hu,hD,hbd,hr,hbl,hbo,hk⟩=>by refine⟨bl,L,he,hu,hD,hbd,hr,fun k hk=> ?_,hk⟩;rcases hk with e|e|e;(·exact .inr (e▸hbl));(·exact .inr (e▸hbo));·rw[hD,hbd]at e;exact .inl e
theorem Open5.newer{w w':World}{bd:Nat}{D:DiskS}{d:Dk}{ring N:Nat}{W:Int→QB}{bl:Nat}{L:LogS}{B:Nat}(h:Open5 w w' bd D d ring N W bl L)(hn:∀k,D.foot bd k→B≤k)(hB:B≤w.heap.size):zKB L bl B∧Below B w w':=⟨fun k hk=>(h.own k hk).elim (hn k) (fun e=>Nat.le_trans hB e),h.keep.below hB (fun i hi hf=>by have:=hn i hf;omega)⟩
theorem Open5.homes{w w':World}{bd:Nat}{D:DiskS}{d:Dk}{ring N:Nat}{W:Int→QB}{bl:Nat}{L:LogS}(h:Open5 w w' bd D d ring N W bl L):L.homes=D.size-1-ring:=by
 unfold LogS.homes
 rw[h.disk,h.ringE]
structure LogIn(B:Nat)(w:World)(bl:Nat)(L:LogS)(d:Dk)(N homes ring:Nat)(W:Int→QB):Prop where
 up:LogUp w bl L d N W
 homes:L.homes=homes
 ring:L.ring=ring
 newer:zKB L bl B
 free:d.bound=false
section
variable {B : Nat} {w w' : World} {bl : Nat} {L L' : LogS} {d : Dk} {N homes ring : Nat} {W : Int → QB} {v : Value} {ws : List QB}
end
end Go.Proofs.YtaokjeokpifjgaaGreatDoor
