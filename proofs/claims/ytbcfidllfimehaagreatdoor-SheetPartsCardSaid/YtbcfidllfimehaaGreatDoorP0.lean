/- Texts of ours in one: Shelf, Base, Box, Ev, Ev2, Ev3, Region, Ev4, Ev5, Ev6, Ev7, Ev8, Ev9. -/
import Derived.Shelf.Strings.Builder1
import Derived.Shelf.Strings.Builder2
import Derived.Shelf.Strings.Trim
import Derived.Shelf.Small.Utf8
import Derived.Shelf.Small.Bits
import Derived.Shelf.Small.Strs
import Derived.Shelf.Small.Wraps
import Derived.Shelf.Strings.BuilderF
import Derived.Shelf.Strings.BuilderK
import Derived.Shelf.Strings.Builder2Cap
import Derived.Shelf.Strconv.Itoa0
import Derived.Shelf.Strconv.Itoa1
import Derived.Shelf.LaysM
import Derived.Shelf.Strconv.Itoa2
import Derived.Shelf.Strings.Search1
import Derived.Shelf.Strings.Search2
import Derived.Shelf.Strings.Search3
import Derived.Shelf.Strings.Cut
import Derived.Shelf.Strings.Count
import Derived.Shelf.Strings.Shaped
import Derived.Shelf.Strings.Prefix
import Derived.Shelf.Strings.Split
import Derived.Shelf.Strings.Runes
import Derived.Shelf.Strings.AsciiSet
import Derived.Shelf.Bits.Mul64
import Derived.Shelf.Strings.Repeat
import Derived.Shelf.Unicode.DecodeSlow
import Derived.Shelf.Strings.BuilderCap
import Derived.Test.YtbcfidllfimehaaGreatDoorProg
import Derived.WalkKit
import Derived.WalkSpells
import Derived.Deep.Draws
import Derived.Deep.MidRow
import Derived.Lib.TrailingZeros
import Derived.StillTail
import Derived.Deep.LoopGhost
import Derived.Great.BuildSlice
import Derived.OwnWalk
import Derived.Laws.MakeOwn
set_option linter.unusedVariables false
set_option linter.unusedSimpArgs false

namespace Go.Proofs
open Go.Shelf
def Tryz.lays169_ren:Go.Shelf.Ren:=⟨fun | 169=>71 | n=>n,fun | 70=>137 | 9=>9 | 0=>0 | 72=>139 | 37=>32 | 127=>192 | 3=>3 | 5=>5 | n=>n,fun | n=>n⟩
theorem Tryz.lays169:Go.Proofs.Lays.n169 Tryz.prog Tryz.lays169_ren:={
 mixed:=by kernel_rfl
 f169:=Tryz.func71.trans (congrArg some (by kernel_rfl))
 t0:=Tryz.underlying0
 a0:=Tryz.isAgg0
 z0:=Tryz.sizeOf0
 v0:=Tryz.zeroValue0
 t3:=Tryz.underlying3
 a3:=Tryz.isAgg3
 z3:=Tryz.sizeOf3
 v3:=Tryz.zeroValue3
 t9:=Tryz.underlying9
 a9:=Tryz.isAgg9
 z9:=Tryz.sizeOf9
 v9:=Tryz.zeroValue9
 t37:=Tryz.underlying32
 a37:=Tryz.isAgg32
 z37:=Tryz.sizeOf32
 v37:=Tryz.zeroValue32
 t70:=Tryz.underlying137
 a70:=Tryz.isAgg137
 z70:=Tryz.sizeOf137
 v70:=Tryz.zeroValue137
 t72:=Tryz.underlying139
 a72:=Tryz.isAgg139
 z72:=Tryz.sizeOf139
 v72:=Tryz.zeroValue139
 t127:=Tryz.underlying192
 a127:=Tryz.isAgg192
 z127:=Tryz.sizeOf192
 v127:=Tryz.zeroValue192 }
theorem Tryz.Builder_Extra_169:Builder.Extra Tryz.prog Tryz.lays169_ren:={
 sizeBuilder:=by kernel_rfl
 liesBuilder:=by kernel_rfl
 t5:=Tryz.underlying5
 a5:=Tryz.isAgg5
 z5:=Tryz.sizeOf5
 v5:=Tryz.zeroValue5
 infoByte:=by kernel_rfl
 cellsByte:=by kernel_rfl
 sizeByte:=by kernel_rfl
 neB5:=by decide }
open Go.RowKit in
theorem Tryz.Builder_String_any (B b:Nat) (l:List UInt8) (w:World) (h:Lib.IsBuilder 139 5 B b (Lib.byteCells l) w) (hBw:B≤w.heap.size) :
  Calls Tryz.prog 71 #[.pointer (some ⟨b,0,none⟩)] w fun e w'=>e=.returned (.string ⟨l.toArray⟩)∧Below B w w':=Any.Builder_String_any Tryz.lays169 Tryz.Builder_Extra_169 B b l w h hBw
def Tryz.lays165_ren:Go.Shelf.Ren:=⟨fun | 165=>114 | 240=>113 | 241=>157 | 276=>156 | 277=>191 | n=>n,fun | 70=>137 | 3=>3 | 0=>0 | 4=>4 | 9=>9 | 20=>20 | 72=>139 | 37=>32 | 164=>233 | 5=>5 | n=>n,fun | n=>n⟩
theorem Tryz.lays165:Go.Proofs.Lays.n165 Tryz.prog Tryz.lays165_ren:={
 mixed:=by kernel_rfl
 f165:=Tryz.func114.trans (congrArg some (by kernel_rfl))
 f240:=Tryz.func113.trans (congrArg some (by kernel_rfl))
 f241:=Tryz.func157.trans (congrArg some (by kernel_rfl))
 f276:=Tryz.func156.trans (congrArg some (by kernel_rfl))
 f277:=Tryz.func191.trans (congrArg some (by kernel_rfl))
 t0:=Tryz.underlying0
 a0:=Tryz.isAgg0
 z0:=Tryz.sizeOf0
 v0:=Tryz.zeroValue0
 t3:=Tryz.underlying3
 a3:=Tryz.isAgg3
 z3:=Tryz.sizeOf3
 v3:=Tryz.zeroValue3
 t4:=Tryz.underlying4
 a4:=Tryz.isAgg4
 z4:=Tryz.sizeOf4
 v4:=Tryz.zeroValue4
 t9:=Tryz.underlying9
 a9:=Tryz.isAgg9
 z9:=Tryz.sizeOf9
 v9:=Tryz.zeroValue9
 t20:=Tryz.underlying20
 a20:=Tryz.isAgg20
 z20:=Tryz.sizeOf20
 v20:=Tryz.zeroValue20
 t37:=Tryz.underlying32
 a37:=Tryz.isAgg32
 z37:=Tryz.sizeOf32
 v37:=Tryz.zeroValue32
 t70:=Tryz.underlying137
 a70:=Tryz.isAgg137
 z70:=Tryz.sizeOf137
 v70:=Tryz.zeroValue137
 t72:=Tryz.underlying139
 a72:=Tryz.isAgg139
 z72:=Tryz.sizeOf139
 v72:=Tryz.zeroValue139
 t164:=Tryz.underlying233
 a164:=Tryz.isAgg233
 z164:=Tryz.sizeOf233
 v164:=Tryz.zeroValue233 }
theorem Tryz.Builder_Extra_165:Builder.Extra Tryz.prog Tryz.lays165_ren:={
 sizeBuilder:=by kernel_rfl
 liesBuilder:=by kernel_rfl
 t5:=Tryz.underlying5
 a5:=Tryz.isAgg5
 z5:=Tryz.sizeOf5
 v5:=Tryz.zeroValue5
 infoByte:=by kernel_rfl
 cellsByte:=by kernel_rfl
 sizeByte:=by kernel_rfl
 neB5:=by decide }
open Go.RowKit in
theorem Tryz.Builder_Grow_fresh (B b n:Nat) (w:World) (hB:B≤b) (hbk:w.heap[b]?=some (.cells #[.pointer none,.slice none 0 0] 139 (0,0))) (hBw:B≤w.heap.size) (hn:n≤281474976710656) :
  Calls Tryz.prog 114 #[.pointer (some ⟨b,0,none⟩),.int .i64 n] w fun e w'=>e=.returned (.tuple #[])∧(Lib.BuilderAt 139 5 B b (.pointer (some ⟨b,0,none⟩)) [] w'∧Below B w w'):=Any.Builder_Grow_fresh Tryz.lays165 Tryz.Builder_Extra_165 B b n w hB hbk hBw hn
def Tryz.lays161_ren:Go.Shelf.Ren:=⟨fun | 161=>205 | 231=>224 | 227=>225 | 233=>226 | 235=>227 | 228=>233 | 197=>169 | 151=>234 | 260=>196 | 152=>243 | 137=>249 | 119=>250 | 224=>199 | 225=>198 | 217=>197 | 266=>219 | n=>n,fun | 9=>9 | 4=>4 | 3=>3 | 5=>5 | 117=>293 | 116=>292 | 0=>0 | 124=>296 | 105=>245 | 21=>21 | 119=>284 | 46=>194 | 139=>287 | 138=>286 | n=>n,fun | 3=>4 | 4=>5 | n=>n⟩
theorem Tryz.lays161:Go.Proofs.Lays.n161 Tryz.prog Tryz.lays161_ren:={
 mixed:=by kernel_rfl
 f119:=Tryz.func250.trans (congrArg some (by kernel_rfl))
 f137:=Tryz.func249.trans (congrArg some (by kernel_rfl))
 f151:=Tryz.func234.trans (congrArg some (by kernel_rfl))
 f152:=Tryz.func243.trans (congrArg some (by kernel_rfl))
 f161:=Tryz.func205.trans (congrArg some (by kernel_rfl))
 f197:=Tryz.func169.trans (congrArg some (by kernel_rfl))
 f217:=Tryz.func197.trans (congrArg some (by kernel_rfl))
 f224:=Tryz.func199.trans (congrArg some (by kernel_rfl))
 f225:=Tryz.func198.trans (congrArg some (by kernel_rfl))
 f227:=Tryz.func225.trans (congrArg some (by kernel_rfl))
 f228:=Tryz.func233.trans (congrArg some (by kernel_rfl))
 f231:=Tryz.func224.trans (congrArg some (by kernel_rfl))
 f233:=Tryz.func226.trans (congrArg some (by kernel_rfl))
 f235:=Tryz.func227.trans (congrArg some (by kernel_rfl))
 f260:=Tryz.func196.trans (congrArg some (by kernel_rfl))
 f266:=Tryz.func219.trans (congrArg some (by kernel_rfl))
 t0:=Tryz.underlying0
 a0:=Tryz.isAgg0
 z0:=Tryz.sizeOf0
 v0:=Tryz.zeroValue0
 t3:=Tryz.underlying3
 a3:=Tryz.isAgg3
 z3:=Tryz.sizeOf3
 v3:=Tryz.zeroValue3
 t4:=Tryz.underlying4
 a4:=Tryz.isAgg4
 z4:=Tryz.sizeOf4
 v4:=Tryz.zeroValue4
 t5:=Tryz.underlying5
 a5:=Tryz.isAgg5
 z5:=Tryz.sizeOf5
 v5:=Tryz.zeroValue5
 t9:=Tryz.underlying9
 a9:=Tryz.isAgg9
 z9:=Tryz.sizeOf9
 v9:=Tryz.zeroValue9
 t21:=Tryz.underlying21
 a21:=Tryz.isAgg21
 z21:=Tryz.sizeOf21
 v21:=Tryz.zeroValue21
 t46:=Tryz.underlying194
 a46:=Tryz.isAgg194
 z46:=Tryz.sizeOf194
 v46:=Tryz.zeroValue194
 t105:=Tryz.underlying245
 a105:=Tryz.isAgg245
 z105:=Tryz.sizeOf245
 v105:=Tryz.zeroValue245
 t116:=Tryz.underlying292
 a116:=Tryz.isAgg292
 z116:=Tryz.sizeOf292
 t117:=Tryz.underlying293
 a117:=Tryz.isAgg293
 z117:=Tryz.sizeOf293
 v117:=Tryz.zeroValue293
 t119:=Tryz.underlying284
 a119:=Tryz.isAgg284
 z119:=Tryz.sizeOf284
 t124:=Tryz.underlying296
 a124:=Tryz.isAgg296
 z124:=Tryz.sizeOf296
 v124:=Tryz.zeroValue296
 t138:=Tryz.underlying286
 a138:=Tryz.isAgg286
 z138:=Tryz.sizeOf286
 v138:=Tryz.zeroValue286
 t139:=Tryz.underlying287
 a139:=Tryz.isAgg287
 z139:=Tryz.sizeOf287
 v139:=Tryz.zeroValue287
 g3:=by kernel_rfl
 g4:=by kernel_rfl }
open Go.RowKit in
theorem Tryz.strings_TrimLeft_one (s:ByteArray) (c:UInt8) (hc:c.toNat<128) (w:World) :
  Calls Tryz.prog 205 #[.string s,.string ⟨#[c]⟩] w fun e w'=>e=.returned (.string ⟨(Lib.trimLeftB s.data.toList c).toArray⟩)∧w'=w:=Any.strings_TrimLeft_one Tryz.lays161 s c hc w
def Tryz.lays125_ren:Go.Shelf.Ren:=⟨fun | 125=>223 | 128=>232 | 129=>159 | n=>n,fun | 46=>194 | 3=>3 | 51=>161 | 53=>73 | 4=>4 | 5=>5 | 9=>9 | n=>n,fun | n=>n⟩
theorem Tryz.lays125:Go.Proofs.Lays.n125 Tryz.prog Tryz.lays125_ren:={
 mixed:=by kernel_rfl
 f125:=Tryz.func223.trans (congrArg some (by kernel_rfl))
 f128:=Tryz.func232.trans (congrArg some (by kernel_rfl))
 f129:=Tryz.func159.trans (congrArg some (by kernel_rfl))
 t3:=Tryz.underlying3
 a3:=Tryz.isAgg3
 z3:=Tryz.sizeOf3
 v3:=Tryz.zeroValue3
 t4:=Tryz.underlying4
 a4:=Tryz.isAgg4
 z4:=Tryz.sizeOf4
 v4:=Tryz.zeroValue4
 t5:=Tryz.underlying5
 a5:=Tryz.isAgg5
 z5:=Tryz.sizeOf5
 v5:=Tryz.zeroValue5
 t9:=Tryz.underlying9
 a9:=Tryz.isAgg9
 z9:=Tryz.sizeOf9
 v9:=Tryz.zeroValue9
 t46:=Tryz.underlying194
 a46:=Tryz.isAgg194
 z46:=Tryz.sizeOf194
 v46:=Tryz.zeroValue194
 t51:=Tryz.underlying161
 a51:=Tryz.isAgg161
 z51:=Tryz.sizeOf161
 v51:=Tryz.zeroValue161
 t53:=Tryz.underlying73
 a53:=Tryz.isAgg73
 z53:=Tryz.sizeOf73
 v53:=Tryz.zeroValue73 }
theorem Tryz.bits_Len (x:Int) (w:World) (h0:0≤x) (h1:x≤18446744073709551615) :
  Calls Tryz.prog 223 #[.int .u64 x] w fun e w'=>e=.returned (.int .i64 (Lib.bitLen x.toNat))∧w'=w:=Any.bits_Len Tryz.lays125 x w h0 h1
def Tryz.lays134_ren:Go.Shelf.Ren:=⟨fun | 134=>164 | 129=>159 | n=>n,fun | 53=>73 | 3=>3 | 4=>4 | 46=>194 | 5=>5 | 9=>9 | n=>n,fun | n=>n⟩
theorem Tryz.lays134:Go.Proofs.Lays.n134 Tryz.prog Tryz.lays134_ren:={
 mixed:=by kernel_rfl
 f129:=Tryz.func159.trans (congrArg some (by kernel_rfl))
 f134:=Tryz.func164.trans (congrArg some (by kernel_rfl))
 t3:=Tryz.underlying3
 a3:=Tryz.isAgg3
 z3:=Tryz.sizeOf3
 v3:=Tryz.zeroValue3
 t4:=Tryz.underlying4
 a4:=Tryz.isAgg4
 z4:=Tryz.sizeOf4
 v4:=Tryz.zeroValue4
 t5:=Tryz.underlying5
 a5:=Tryz.isAgg5
 z5:=Tryz.sizeOf5
 v5:=Tryz.zeroValue5
 t9:=Tryz.underlying9
 a9:=Tryz.isAgg9
 z9:=Tryz.sizeOf9
 v9:=Tryz.zeroValue9
 t46:=Tryz.underlying194
 a46:=Tryz.isAgg194
 z46:=Tryz.sizeOf194
 v46:=Tryz.zeroValue194
 t53:=Tryz.underlying73
 a53:=Tryz.isAgg73
 z53:=Tryz.sizeOf73
 v53:=Tryz.zeroValue73 }
theorem Tryz.bits_LeadingZeros64 (x:Int) (w:World) (h0:0≤x) (h1:x≤18446744073709551615) :
  Calls Tryz.prog 164 #[.int .u64 x] w fun e w'=>e=.returned (.int .i64 (64-(Lib.bitLen x.toNat:Int)))∧w'=w:=Any.bits_LeadingZeros64 Tryz.lays134 x w h0 h1
def Tryz.lays103_ren:Go.Shelf.Ren:=⟨fun | 103=>203 | 210=>222 | 206=>166 | n=>n,fun | 9=>9 | 4=>4 | 24=>274 | 3=>3 | n=>n,fun | n=>n⟩
theorem Tryz.lays103:Go.Proofs.Lays.n103 Tryz.prog Tryz.lays103_ren:={
 mixed:=by kernel_rfl
 f103:=Tryz.func203.trans (congrArg some (by kernel_rfl))
 f206:=Tryz.func166.trans (congrArg some (by kernel_rfl))
 f210:=Tryz.func222.trans (congrArg some (by kernel_rfl))
 t3:=Tryz.underlying3
 a3:=Tryz.isAgg3
 z3:=Tryz.sizeOf3
 v3:=Tryz.zeroValue3
 t4:=Tryz.underlying4
 a4:=Tryz.isAgg4
 z4:=Tryz.sizeOf4
 v4:=Tryz.zeroValue4
 t9:=Tryz.underlying9
 a9:=Tryz.isAgg9
 z9:=Tryz.sizeOf9
 v9:=Tryz.zeroValue9
 t24:=Tryz.underlying274
 a24:=Tryz.isAgg274
 z24:=Tryz.sizeOf274
 v24:=Tryz.zeroValue274 }
open Go.RowKit in
theorem Tryz.strings_CutPrefix (s p:ByteArray) (w:World) :
  Calls Tryz.prog 203 #[.string s,.string p] w fun e w'=>e=.returned (.tuple #[.string ⟨(Lib.trimPrefix s.data.toList p.data.toList).toArray⟩,.bool (Lib.hasPrefix s.data.toList p.data.toList)])∧w'=w:=Any.strings_CutPrefix Tryz.lays103 s p w
def Tryz.lays129_ren:Go.Shelf.Ren:=⟨fun | 129=>159 | n=>n,fun | 53=>73 | 3=>3 | 4=>4 | 46=>194 | 5=>5 | 9=>9 | n=>n,fun | n=>n⟩
theorem Tryz.lays129:Go.Proofs.Lays.n129 Tryz.prog Tryz.lays129_ren:={
 mixed:=by kernel_rfl
 f129:=Tryz.func159.trans (congrArg some (by kernel_rfl))
 t3:=Tryz.underlying3
 a3:=Tryz.isAgg3
 z3:=Tryz.sizeOf3
 v3:=Tryz.zeroValue3
 t4:=Tryz.underlying4
 a4:=Tryz.isAgg4
 z4:=Tryz.sizeOf4
 v4:=Tryz.zeroValue4
 t5:=Tryz.underlying5
 a5:=Tryz.isAgg5
 z5:=Tryz.sizeOf5
 v5:=Tryz.zeroValue5
 t9:=Tryz.underlying9
 a9:=Tryz.isAgg9
 z9:=Tryz.sizeOf9
 v9:=Tryz.zeroValue9
 t46:=Tryz.underlying194
 a46:=Tryz.isAgg194
 z46:=Tryz.sizeOf194
 v46:=Tryz.zeroValue194
 t53:=Tryz.underlying73
 a53:=Tryz.isAgg73
 z53:=Tryz.sizeOf73
 v53:=Tryz.zeroValue73 }
theorem Tryz.bits_Len64 (x:Int) (w:World) (h0:0≤x) (h1:x≤18446744073709551615) :
  Calls Tryz.prog 159 #[.int .u64 x] w fun e w'=>e=.returned (.int .i64 (Lib.bitLen x.toNat))∧w'=w:=Any.bits_Len64 Tryz.lays129 x w h0 h1
def Tryz.lays219_ren:Go.Shelf.Ren:=⟨fun | 219=>171 | 217=>197 | 225=>198 | 224=>199 | 267=>200 | 266=>219 | 314=>220 | n=>n,fun | 9=>9 | 3=>3 | 4=>4 | 5=>5 | 46=>194 | 146=>241 | 51=>161 | n=>n,fun | 1=>3 | n=>n⟩
theorem Tryz.lays219:Go.Proofs.Lays.n219 Tryz.prog Tryz.lays219_ren:={
 mixed:=by kernel_rfl
 f217:=Tryz.func197.trans (congrArg some (by kernel_rfl))
 f219:=Tryz.func171.trans (congrArg some (by kernel_rfl))
 f224:=Tryz.func199.trans (congrArg some (by kernel_rfl))
 f225:=Tryz.func198.trans (congrArg some (by kernel_rfl))
 f266:=Tryz.func219.trans (congrArg some (by kernel_rfl))
 f267:=Tryz.func200.trans (congrArg some (by kernel_rfl))
 f314:=Tryz.func220.trans (congrArg some (by kernel_rfl))
 t3:=Tryz.underlying3
 a3:=Tryz.isAgg3
 z3:=Tryz.sizeOf3
 v3:=Tryz.zeroValue3
 t4:=Tryz.underlying4
 a4:=Tryz.isAgg4
 z4:=Tryz.sizeOf4
 v4:=Tryz.zeroValue4
 t5:=Tryz.underlying5
 a5:=Tryz.isAgg5
 z5:=Tryz.sizeOf5
 v5:=Tryz.zeroValue5
 t9:=Tryz.underlying9
 a9:=Tryz.isAgg9
 z9:=Tryz.sizeOf9
 v9:=Tryz.zeroValue9
 t46:=Tryz.underlying194
 a46:=Tryz.isAgg194
 z46:=Tryz.sizeOf194
 v46:=Tryz.zeroValue194
 t51:=Tryz.underlying161
 a51:=Tryz.isAgg161
 z51:=Tryz.sizeOf161
 v51:=Tryz.zeroValue161
 t146:=Tryz.underlying241
 a146:=Tryz.isAgg241
 z146:=Tryz.sizeOf241
 v146:=Tryz.zeroValue241
 g1:=by kernel_rfl }
open Go.RowKit Go.Lib in
theorem Tryz.stringslite_Index_one (s:ByteArray) (c:UInt8) (w:World) :
  Calls Tryz.prog 171 #[.string s,.string ⟨#[c]⟩] w fun e w'=>e=.returned (.int .i64 (Lib.indexByte s.data.toList c))∧w'=w:=Any.stringslite_Index_one Tryz.lays219 s c w
def Tryz.lays143_ren:Go.Shelf.Ren:=⟨fun | 143=>132 | 219=>171 | 217=>197 | 225=>198 | 224=>199 | 267=>200 | 266=>219 | 314=>220 | n=>n,fun | 9=>9 | 3=>3 | 4=>4 | 5=>5 | 46=>194 | 146=>241 | 51=>161 | n=>n,fun | 1=>3 | n=>n⟩
theorem Tryz.lays143:Go.Proofs.Lays.n143 Tryz.prog Tryz.lays143_ren:={
 mixed:=by kernel_rfl
 f143:=Tryz.func132.trans (congrArg some (by kernel_rfl))
 f217:=Tryz.func197.trans (congrArg some (by kernel_rfl))
 f219:=Tryz.func171.trans (congrArg some (by kernel_rfl))
 f224:=Tryz.func199.trans (congrArg some (by kernel_rfl))
 f225:=Tryz.func198.trans (congrArg some (by kernel_rfl))
 f266:=Tryz.func219.trans (congrArg some (by kernel_rfl))
 f267:=Tryz.func200.trans (congrArg some (by kernel_rfl))
 f314:=Tryz.func220.trans (congrArg some (by kernel_rfl))
 t3:=Tryz.underlying3
 a3:=Tryz.isAgg3
 z3:=Tryz.sizeOf3
 v3:=Tryz.zeroValue3
 t4:=Tryz.underlying4
 a4:=Tryz.isAgg4
 z4:=Tryz.sizeOf4
 v4:=Tryz.zeroValue4
 t5:=Tryz.underlying5
 a5:=Tryz.isAgg5
 z5:=Tryz.sizeOf5
 v5:=Tryz.zeroValue5
 t9:=Tryz.underlying9
 a9:=Tryz.isAgg9
 z9:=Tryz.sizeOf9
 v9:=Tryz.zeroValue9
 t46:=Tryz.underlying194
 a46:=Tryz.isAgg194
 z46:=Tryz.sizeOf194
 v46:=Tryz.zeroValue194
 t51:=Tryz.underlying161
 a51:=Tryz.isAgg161
 z51:=Tryz.sizeOf161
 v51:=Tryz.zeroValue161
 t146:=Tryz.underlying241
 a146:=Tryz.isAgg241
 z146:=Tryz.sizeOf241
 v146:=Tryz.zeroValue241
 g1:=by kernel_rfl }
open Go.RowKit Go.Lib in
theorem Tryz.strings_Index_one (s:ByteArray) (c:UInt8) (w:World) :
  Calls Tryz.prog 132 #[.string s,.string ⟨#[c]⟩] w fun e w'=>e=.returned (.int .i64 (Lib.indexByte s.data.toList c))∧w'=w:=Any.strings_Index_one Tryz.lays143 s c w
def Tryz.lays138_ren:Go.Shelf.Ren:=⟨fun | 138=>131 | 195=>168 | 218=>170 | 143=>132 | 219=>171 | 217=>197 | 225=>198 | 224=>199 | 267=>200 | 266=>219 | 314=>220 | n=>n,fun | 9=>9 | 3=>3 | 4=>4 | 5=>5 | 0=>0 | 46=>194 | 146=>241 | 51=>161 | n=>n,fun | 1=>3 | n=>n⟩
theorem Tryz.lays138:Go.Proofs.Lays.n138 Tryz.prog Tryz.lays138_ren:={
 mixed:=by kernel_rfl
 f138:=Tryz.func131.trans (congrArg some (by kernel_rfl))
 f143:=Tryz.func132.trans (congrArg some (by kernel_rfl))
 f195:=Tryz.func168.trans (congrArg some (by kernel_rfl))
 f217:=Tryz.func197.trans (congrArg some (by kernel_rfl))
 f218:=Tryz.func170.trans (congrArg some (by kernel_rfl))
 f219:=Tryz.func171.trans (congrArg some (by kernel_rfl))
 f224:=Tryz.func199.trans (congrArg some (by kernel_rfl))
 f225:=Tryz.func198.trans (congrArg some (by kernel_rfl))
 f266:=Tryz.func219.trans (congrArg some (by kernel_rfl))
 f267:=Tryz.func200.trans (congrArg some (by kernel_rfl))
 f314:=Tryz.func220.trans (congrArg some (by kernel_rfl))
 t0:=Tryz.underlying0
 a0:=Tryz.isAgg0
 z0:=Tryz.sizeOf0
 v0:=Tryz.zeroValue0
 t3:=Tryz.underlying3
 a3:=Tryz.isAgg3
 z3:=Tryz.sizeOf3
 v3:=Tryz.zeroValue3
 t4:=Tryz.underlying4
 a4:=Tryz.isAgg4
 z4:=Tryz.sizeOf4
 v4:=Tryz.zeroValue4
 t5:=Tryz.underlying5
 a5:=Tryz.isAgg5
 z5:=Tryz.sizeOf5
 v5:=Tryz.zeroValue5
 t9:=Tryz.underlying9
 a9:=Tryz.isAgg9
 z9:=Tryz.sizeOf9
 v9:=Tryz.zeroValue9
 t46:=Tryz.underlying194
 a46:=Tryz.isAgg194
 z46:=Tryz.sizeOf194
 v46:=Tryz.zeroValue194
 t51:=Tryz.underlying161
 a51:=Tryz.isAgg161
 z51:=Tryz.sizeOf161
 v51:=Tryz.zeroValue161
 t146:=Tryz.underlying241
 a146:=Tryz.isAgg241
 z146:=Tryz.sizeOf241
 v146:=Tryz.zeroValue241
 g1:=by kernel_rfl }
open Go.RowKit Go.Lib in
theorem Tryz.strings_Count_one (s:ByteArray) (c:UInt8) (w:World) :
  Calls Tryz.prog 131 #[.string s,.string ⟨#[c]⟩] w fun e w'=>e=.returned (.int .i64 (Lib.countByte s.data.toList c))∧w'=w:=Any.strings_Count_one Tryz.lays138 s c w
def Tryz.lays102_ren:Go.Shelf.Ren:=⟨fun | 102=>41 | 209=>89 | 207=>133 | n=>n,fun | 9=>9 | 4=>4 | 3=>3 | n=>n,fun | n=>n⟩
theorem Tryz.lays102:Go.Proofs.Lays.n102 Tryz.prog Tryz.lays102_ren:={
 mixed:=by kernel_rfl
 f102:=Tryz.func41.trans (congrArg some (by kernel_rfl))
 f207:=Tryz.func133.trans (congrArg some (by kernel_rfl))
 f209:=Tryz.func89.trans (congrArg some (by kernel_rfl))
 t3:=Tryz.underlying3
 a3:=Tryz.isAgg3
 z3:=Tryz.sizeOf3
 v3:=Tryz.zeroValue3
 t4:=Tryz.underlying4
 a4:=Tryz.isAgg4
 z4:=Tryz.sizeOf4
 v4:=Tryz.zeroValue4
 t9:=Tryz.underlying9
 a9:=Tryz.isAgg9
 z9:=Tryz.sizeOf9
 v9:=Tryz.zeroValue9 }
open Go.RowKit Go.Lib in
theorem Tryz.strings_TrimSuffix (s p:ByteArray) (w:World) (hs:s.size≤9223372036854775807) :
  Calls Tryz.prog 41 #[.string s,.string p] w fun e w'=>e=.returned (.string ⟨(Lib.trimSuffix s.data.toList p.data.toList).toArray⟩)∧w'=w:=Any.strings_TrimSuffix Tryz.lays102 s p w hs
def Tryz.lays221_ren:Go.Shelf.Ren:=⟨fun | 221=>88 | 268=>130 | 138=>131 | 143=>132 | 195=>168 | 197=>169 | 218=>170 | 219=>171 | 260=>196 | 217=>197 | 225=>198 | 224=>199 | 267=>200 | 266=>219 | 314=>220 | n=>n,fun | 9=>9 | 3=>3 | 31=>62 | 4=>4 | 0=>0 | 105=>245 | 21=>21 | 5=>5 | 46=>194 | 119=>284 | 139=>287 | 138=>286 | 146=>241 | 51=>161 | n=>n,fun | 1=>3 | 3=>4 | 4=>5 | n=>n⟩
theorem Tryz.lays221:Go.Proofs.Lays.n221 Tryz.prog Tryz.lays221_ren:={
 mixed:=by kernel_rfl
 f138:=Tryz.func131.trans (congrArg some (by kernel_rfl))
 f143:=Tryz.func132.trans (congrArg some (by kernel_rfl))
 f195:=Tryz.func168.trans (congrArg some (by kernel_rfl))
 f197:=Tryz.func169.trans (congrArg some (by kernel_rfl))
 f217:=Tryz.func197.trans (congrArg some (by kernel_rfl))
 f218:=Tryz.func170.trans (congrArg some (by kernel_rfl))
 f219:=Tryz.func171.trans (congrArg some (by kernel_rfl))
 f221:=Tryz.func88.trans (congrArg some (by kernel_rfl))
 f224:=Tryz.func199.trans (congrArg some (by kernel_rfl))
 f225:=Tryz.func198.trans (congrArg some (by kernel_rfl))
 f260:=Tryz.func196.trans (congrArg some (by kernel_rfl))
 f266:=Tryz.func219.trans (congrArg some (by kernel_rfl))
 f267:=Tryz.func200.trans (congrArg some (by kernel_rfl))
 f268:=Tryz.func130.trans (congrArg some (by kernel_rfl))
 f314:=Tryz.func220.trans (congrArg some (by kernel_rfl))
 t0:=Tryz.underlying0
 a0:=Tryz.isAgg0
 z0:=Tryz.sizeOf0
 v0:=Tryz.zeroValue0
 t3:=Tryz.underlying3
 a3:=Tryz.isAgg3
 z3:=Tryz.sizeOf3
 v3:=Tryz.zeroValue3
 t4:=Tryz.underlying4
 a4:=Tryz.isAgg4
 z4:=Tryz.sizeOf4
 v4:=Tryz.zeroValue4
 t5:=Tryz.underlying5
 a5:=Tryz.isAgg5
 z5:=Tryz.sizeOf5
 v5:=Tryz.zeroValue5
 t9:=Tryz.underlying9
 a9:=Tryz.isAgg9
 z9:=Tryz.sizeOf9
 v9:=Tryz.zeroValue9
 t21:=Tryz.underlying21
 a21:=Tryz.isAgg21
 z21:=Tryz.sizeOf21
 v21:=Tryz.zeroValue21
 t31:=Tryz.underlying62
 a31:=Tryz.isAgg62
 z31:=Tryz.sizeOf62
 v31:=Tryz.zeroValue62
 t46:=Tryz.underlying194
 a46:=Tryz.isAgg194
 z46:=Tryz.sizeOf194
 v46:=Tryz.zeroValue194
 t51:=Tryz.underlying161
 a51:=Tryz.isAgg161
 z51:=Tryz.sizeOf161
 v51:=Tryz.zeroValue161
 t105:=Tryz.underlying245
 a105:=Tryz.isAgg245
 z105:=Tryz.sizeOf245
 v105:=Tryz.zeroValue245
 t119:=Tryz.underlying284
 a119:=Tryz.isAgg284
 z119:=Tryz.sizeOf284
 t138:=Tryz.underlying286
 a138:=Tryz.isAgg286
 z138:=Tryz.sizeOf286
 v138:=Tryz.zeroValue286
 t139:=Tryz.underlying287
 a139:=Tryz.isAgg287
 z139:=Tryz.sizeOf287
 v139:=Tryz.zeroValue287
 t146:=Tryz.underlying241
 a146:=Tryz.isAgg241
 z146:=Tryz.sizeOf241
 v146:=Tryz.zeroValue241
 g1:=by kernel_rfl
 g3:=by kernel_rfl
 g4:=by kernel_rfl }
def Tryz.lays264_ren:Go.Shelf.Ren:=⟨fun | 264=>77 | n=>n,fun | 53=>73 | 46=>194 | n=>n,fun | n=>n⟩
theorem Tryz.lays264:Go.Proofs.Lays.n264 Tryz.prog Tryz.lays264_ren:={
 mixed:=by kernel_rfl
 f264:=Tryz.func77.trans (congrArg some (by kernel_rfl))
 t46:=Tryz.underlying194
 a46:=Tryz.isAgg194
 z46:=Tryz.sizeOf194
 v46:=Tryz.zeroValue194
 t53:=Tryz.underlying73
 a53:=Tryz.isAgg73
 z53:=Tryz.sizeOf73
 v53:=Tryz.zeroValue73 }
open Go.RowKit Go.Lib in
theorem Tryz.bits_Mul64 (x y:Nat) (hx:x<18446744073709551616) (hy:y<18446744073709551616) (w:World) :
  Calls Tryz.prog 77 #[.int .u64 x,.int .u64 y] w fun e w'=>e=.returned (.tuple #[.int .u64 ((x*y / 18446744073709551616:Nat):Int),.int .u64 ((x*y % 18446744073709551616:Nat):Int)])∧w'=w:=Any.bits_Mul64 Tryz.lays264 x y hx hy w
end Go.Proofs
namespace Go.Proofs.YtbcfidllfimehaaGreatDoor
open Go.RowKit
theorem hid {p:Prop} (h:p):Hid p:=h
theorem ret_int {k:IntKind} {a b:Int} (h:a=b):Ending.returned (.int k a)=.returned (.int k b):=by rw [h]
structure Kept (X:Nat→Prop) (w w':World):Prop where
 os:w'.os=w.os
 tape:w'.tape=w.tape
 output:w'.output=w.output
 size:w.heap.size≤w'.heap.size
 block:∀ k,k<w.heap.size→¬ X k→w'.heap[k]?=w.heap[k]?
theorem Kept.refl (X:Nat→Prop) (w:World):Kept X w w:=⟨rfl,rfl,rfl,Nat.le_refl _,fun _ _ _=>rfl⟩
theorem Kept.trans {X:Nat→Prop} {a b c:World} (h:Kept X a b) (k:Kept X b c):Kept X a c :=
 ⟨k.os.trans h.os,k.tape.trans h.tape,k.output.trans h.output,Nat.le_trans h.size k.size,fun i hi hx=>(k.block i (Nat.lt_of_lt_of_le hi h.size) hx).trans (h.block i hi hx)⟩
theorem Kept.then {X Y:Nat→Prop} {a b c:World} (h:Kept X a b) (k:Kept Y b c) (hx:∀ i,i<a.heap.size→Y i→X i):Kept X a c :=
 ⟨k.os.trans h.os,k.tape.trans h.tape,k.output.trans h.output,Nat.le_trans h.size k.size,fun i hi hn=>(k.block i (Nat.lt_of_lt_of_le hi h.size) (fun y=>hn (hx i hi y))).trans (h.block i hi hn)⟩
theorem Kept.drew {X:Nat→Prop} {a w:World} (h:Kept X a w):Kept X a w.drew:=⟨h.os,h.tape,h.output,h.size,h.block⟩
theorem Kept.alloc {X:Nat→Prop} {a w:World} (h:Kept X a w) (o:Obj):Kept X a (w.alloc o) :=
 h.trans ⟨rfl,rfl,rfl,by simp,fun k hk _=>Below.heap_alloc _ _ _ (by omega)⟩
theorem Kept.setCell {X:Nat→Prop} {a w:World} (h:Kept X a w) {p:Addr} (hp:p.block<a.heap.size→X p.block) (u:Value):Kept X a (w.setCell p u) :=
 h.then (Y:=fun k=>k=p.block) ⟨rfl,rfl,rfl,by simp [World.setCell],fun k _ hx=>Below.heap_setCell _ _ _ _ hx⟩ (fun i hi e=>by cases e;exact hp hi)
theorem Kept.of_below {w w':World} (h:Below w.heap.size w w') (X:Nat→Prop):Kept X w w' :=
 ⟨h.os,h.tape,h.output,h.size,fun k hk _=>h.block k hk⟩
theorem Kept.below {X:Nat→Prop} {w w':World} (h:Kept X w w') (B:Nat) (hB:B≤w.heap.size) (hx:∀ k,k<B→¬ X k):Below B w w' :=
 ⟨h.os,h.tape,h.output,h.size,fun k hk=>h.block k (by omega) (hx k hk)⟩
theorem Kept.cell {X:Nat→Prop} {w w':World} (h:Kept X w w') {p:Addr} (hp:p.block<w.heap.size) (hx:¬ X p.block):w'.cell? p=w.cell? p:=World.cell?_of_block (w:=w) (h.block p.block hp hx)
theorem Kept.grown {X:Nat→Prop} {a w w':World} {row:Option Nat} (h:Kept X a w) (hg:w.grownBy w' row) (hr:∀ k,row=some k→k<a.heap.size→X k):Kept X a w' :=
 h.then (Y:=fun k=>row=some k) ⟨hg.os,hg.tape,hg.output,hg.size,fun k hk hx=>hg.block k hk (fun e=>hx e.symm)⟩ (fun i hi e=>hr i e hi)
theorem below_drewN' {B:Nat} {a w:World} (h:Below B a w) (n:Nat):Below B a (w.drewN n):=⟨h.os,h.tape,h.output,h.size,h.block⟩
theorem kept_set (w:World) (p:Addr) (u:Value):Kept (fun k=>k=p.block) w (w.setCell p u):=(Kept.refl (fun k=>k=p.block) w).setCell (p:=p) (fun _=>rfl) u
def cellsOf {α:Type} (enc:α→Value) (l:List α):Array Value:=(l.map enc).toArray
theorem cellsOf_size {α:Type} (enc:α→Value) (l:List α):(cellsOf enc l).size=l.length:=by simp [cellsOf]
theorem cellsOf_get {α:Type} (enc:α→Value) (l:List α) (j:Nat) (h:j<l.length):(cellsOf enc l)[j]?=some (enc l[j]):=by simp [cellsOf,h]
theorem cellsOf_set {α:Type} (enc:α→Value) (l:List α) (j:Nat) (x:α):(cellsOf enc l).setIfInBounds j (enc x)=cellsOf enc (l.set j x):=by
 simp [cellsOf,List.map_set]
theorem madeCells_one (z:Value) (n:Nat):madeCells #[z] n=Array.replicate n z:=by
 apply Array.ext
 ·simp [madeCells]
 ·intro i h1 h2;simp [madeCells,Nat.mod_one]
theorem madeCells_of {α:Type} (enc:α→Value) (z:α) (n:Nat):madeCells #[enc z] n=cellsOf enc (List.replicate n z):=by
 rw [madeCells_one];simp [cellsOf]
def Blk {α:Type} (enc:α→Value) (w:World) (b:Nat) (l:List α):Prop:=∃ T,w.heap[b]?=some (.cells (cellsOf enc l) T (0,0))
theorem Blk.lt {α:Type} {enc:α→Value} {w:World} {b:Nat} {l:List α} (h:Blk enc w b l):b<w.heap.size:=by obtain ⟨T,h⟩:=h;exact lt_of_block h
theorem Blk.cell {α:Type} {enc:α→Value} {w:World} {b:Nat} {l:List α} (h:Blk enc w b l) (j:Nat) (hj:j<l.length):w.cell? ⟨b,j,none⟩=some (enc l[j]):=by
 obtain ⟨T,h⟩:=h
 rw [cell_of_row w b j _ T (0,0) h,cellsOf_get enc l j hj]
theorem Blk.free {α:Type} {enc:α→Value} {w:World} {b:Nat} {l:List α} (h:Blk enc w b l) (j:Nat):w.frozen? ⟨b,j,none⟩=false:=by
 obtain ⟨T,h⟩:=h
 simp [World.frozen?,h]
theorem Blk.set {α:Type} {enc:α→Value} {w:World} {b:Nat} {l:List α} (h:Blk enc w b l) (j:Nat) (x:α):Blk enc (w.setCell ⟨b,j,none⟩ (enc x)) b (l.set j x):=by
 have hlt:=h.lt
 obtain ⟨T,h⟩:=h
 refine ⟨T,?_⟩
 have h':w.heap[b]=.cells (cellsOf enc l) T (0,0):=by simpa [Array.getElem?_eq_getElem hlt] using h
 show (w.heap.modify b _)[b]?=_
 rw [Array.getElem?_modify,if_pos rfl,h]
 simp [cellsOf_set]
theorem Blk.kept {α:Type} {enc:α→Value} {X:Nat→Prop} {w w':World} {b:Nat} {l:List α} (h:Blk enc w b l) (k:Kept X w w') (hx:¬ X b):Blk enc w' b l:=by
 have:=h.lt
 obtain ⟨T,h⟩:=h
 exact ⟨T,by rw [k.block b this hx];exact h⟩
theorem Blk.below {α:Type} {enc:α→Value} {w w':World} {b:Nat} {l:List α} (h:Blk enc w b l) (k:Below w.heap.size w w'):Blk enc w' b l :=
 h.kept (Kept.of_below k (fun _=>False)) (fun x=>x)
theorem Blk.new {α:Type} (enc:α→Value) (w:World) (l:List α) (T:TypeId):Blk enc (w.alloc (.cells (cellsOf enc l) T)) w.heap.size l:=⟨T,heap_alloc_new w _⟩
theorem Blk.other {α:Type} {enc:α→Value} {w:World} {b:Nat} {l:List α} (h:Blk enc w b l) (p:Addr) (u:Value) (hp:b≠p.block):Blk enc (w.setCell p u) b l:=h.kept (kept_set w p u) hp
theorem Blk.drew {α:Type} {enc:α→Value} {w:World} {b:Nat} {l:List α} (h:Blk enc w b l):Blk enc w.drew b l:=h
theorem Blk.has {α:Type} {enc:α→Value} {w:World} {b:Nat} {l:List α} (h:Blk enc w b l) (j:Nat) (hj:j<l.length):∃ v,w.cell? ⟨b,j,none⟩=some v:=⟨_,h.cell j hj⟩
def BlkT {α:Type} (enc:α→Value) (T:TypeId) (w:World) (b:Nat) (l:List α):Prop:=w.heap[b]?=some (.cells (cellsOf enc l) T (0,0))
theorem BlkT.blk {α:Type} {enc:α→Value} {T:TypeId} {w:World} {b:Nat} {l:List α} (h:BlkT enc T w b l):Blk enc w b l:=⟨T,h⟩
theorem BlkT.lt {α:Type} {enc:α→Value} {T:TypeId} {w:World} {b:Nat} {l:List α} (h:BlkT enc T w b l):b<w.heap.size:=h.blk.lt
theorem BlkT.cell {α:Type} {enc:α→Value} {T:TypeId} {w:World} {b:Nat} {l:List α} (h:BlkT enc T w b l) (j:Nat) (hj:j<l.length):w.cell? ⟨b,j,none⟩=some (enc l[j]):=h.blk.cell j hj
theorem BlkT.free {α:Type} {enc:α→Value} {T:TypeId} {w:World} {b:Nat} {l:List α} (h:BlkT enc T w b l) (j:Nat):w.frozen? ⟨b,j,none⟩=false:=h.blk.free j
theorem BlkT.has {α:Type} {enc:α→Value} {T:TypeId} {w:World} {b:Nat} {l:List α} (h:BlkT enc T w b l) (j:Nat) (hj:j<l.length):∃ v,w.cell? ⟨b,j,none⟩=some v:=h.blk.has j hj
theorem BlkT.set {α:Type} {enc:α→Value} {T:TypeId} {w:World} {b:Nat} {l:List α} (h:BlkT enc T w b l) (j:Nat) (x:α):BlkT enc T (w.setCell ⟨b,j,none⟩ (enc x)) b (l.set j x):=by
 unfold BlkT at *
 show (w.heap.modify b _)[b]?=_
 rw [Array.getElem?_modify,if_pos rfl,h]
 simp [cellsOf_set]
theorem BlkT.below {α:Type} {enc:α→Value} {T:TypeId} {w w':World} {b:Nat} {l:List α} (h:BlkT enc T w b l) (k:Below w.heap.size w w'):BlkT enc T w' b l:=by unfold BlkT;rw [k.block b h.lt];exact h
theorem BlkT.new {α:Type} (enc:α→Value) (w:World) (l:List α) (T:TypeId):BlkT enc T (w.alloc (.cells (cellsOf enc l) T)) w.heap.size l:=heap_alloc_new w _
abbrev i64:Int→Value:=Value.int .i64
abbrev u64:Int→Value:=Value.int .u64
def Sl {α:Type} (enc:α→Value) (w:World) (v:Value) (l:List α):Prop :=
 (l=[]∧∃ a cap,v=.slice a 0 cap) ∨
 ∃ b off cap,v=.slice (some ⟨b,off,none⟩) l.length cap∧b<w.heap.size∧∀ j (h:j<l.length),w.cell? ⟨b,off+j,none⟩=some (enc l[j])
theorem Sl.kept {α:Type} {enc:α→Value} {X:Nat→Prop} {w w':World} {v:Value} {l:List α} (h:Sl enc w v l) (k:Kept X w w') (hx:∀ b off len cap,v=.slice (some ⟨b,off,none⟩) len cap→¬ X b):Sl enc w' v l:=by
 rcases h with h | ⟨b,off,cap,hv,hb,hc⟩
 ·exact .inl h
 ·exact .inr ⟨b,off,cap,hv,Nat.lt_of_lt_of_le hb k.size,fun j hj=>by rw [k.cell hb (hx _ _ _ _ hv)];exact hc j hj⟩
theorem Sl.below {α:Type} {enc:α→Value} {w w':World} {v:Value} {l:List α} (h:Sl enc w v l) (k:Below w.heap.size w w'):Sl enc w' v l :=
 h.kept (Kept.of_below k (fun _=>False)) (fun _ _ _ _ _ x=>x)
theorem Blk.sl {α:Type} {enc:α→Value} {w:World} {b:Nat} {l:List α} (h:Blk enc w b l) (cap:Nat):Sl enc w (.slice (some ⟨b,0,none⟩) l.length cap) l :=
 .inr ⟨b,0,cap,rfl,h.lt,fun j hj=>by rw [Nat.zero_add];exact h.cell j hj⟩
theorem Sl.at {α:Type} {enc:α→Value} {w:World} {a:Option Addr} {n cap:Nat} {l:List α} (h:Sl enc w (.slice a n cap) l) (j:Nat) (hj:j<l.length) :
  ∃ b off,a=some ⟨b,off,none⟩∧b<w.heap.size∧w.cell? ⟨b,off+j,none⟩=some (enc l[j]):=by
 rcases h with ⟨rfl,_⟩ | ⟨b,off,cap',hv,hb,hc⟩
 ·exact absurd hj (Nat.not_lt_zero _)
 ·cases hv;exact ⟨b,off,rfl,hb,hc j hj⟩
theorem app1 {P:Program} {w0:World} {ops:Array Oper} {rest:List Oper} {o:Oper} {a:Act} {Q:Exit→Act→World→Prop} (hgd:o.guard=none) (s x:Operand) (t:TypeId)
  (ho:o.op=.call { callee:=.builtin .append,args:=#[s,x],argTypes:=#[t,t] })
  (base:Nat) (e:TypeId) (z:Value) (bytes:Nat) (hinfo:(P.info? e).map (fun i=>(i.zero,i.size,i.bytes))=some (some z,1,bytes)) (ht:P.underlying t=some (.slice e)) (hzs:z.cells.size=1)
  (v:Value) (n:Nat) (xs:List Value) (hs:a.eval s=v) (hown:w0.ownsRow base e 1 v n xs)
  (y:Value) (hx:a.eval x=.slice (some ⟨w0.heap.size,0,none⟩) 1 1) (hy:y.oneCell'=true)
  (hb:(n+1)*bytes≤140737488355328) (h63:n<140737488355328) (hbase:base≤w0.heap.size)
  (h:∀ g cap w',w'.ownsRow base e 1 (.slice (some ⟨g,0,none⟩) (n+1) cap) (n+1) (xs++[y])→Kept (fun k=>v.ownBlock=some k) w0 w'→wpList P ops Q rest (a.put o.dst (.slice (some ⟨g,0,none⟩) (n+1) cap)) w') :
  wpList P ops Q (o::rest) a (w0.alloc (.cells #[y] e)):=by
 obtain ⟨i0,hi,hz0,hz1,hz2⟩:=info_parts hinfo
 refine wpList_append_own _ hgd s x t ho base e i0 z 1 bytes ht hi hz0 hz1 hz2 hzs (by decide) v n xs hs (hown.alloc _) ⟨w0.heap.size,0,none⟩ 1 1 [y] hx rfl (cell_one_new _ _ _) (by simpa using hy) (by unfold maxLen;omega) hb (by simp;omega) ?_
 intro v' w1 hown' hg _
 rcases hown'.2 with ⟨_,h0⟩ | ⟨g,cap,cur,rfl,_⟩
 ·omega
 ·exact h g cap w1 hown' (((Kept.refl _ w0).alloc _).grown hg (fun k e _=>e))
def Box (w:World) (B:Nat) (cs:Array Value) (T:TypeId):Prop:=w.heap[B]?=some (.cells cs T (0,0))
theorem Box.at {w:World} {B:Nat} {cs:Array Value} {T:TypeId} (h:Box w B cs T) (j:Nat) {v:Value} (hv:cs[j]?=some v):w.cell? ⟨B,j,none⟩=some v:=by
 rw [cell_of_row w B j cs T (0,0) h,hv]
theorem Box.free {w:World} {B:Nat} {cs:Array Value} {T:TypeId} (h:Box w B cs T) (j:Nat):w.frozen? ⟨B,j,none⟩=false:=by
 unfold Box at h;simp [World.frozen?,h]
theorem Box.lt {w:World} {B:Nat} {cs:Array Value} {T:TypeId} (h:Box w B cs T):B<w.heap.size:=lt_of_block h
theorem Box.below {w w':World} {B K:Nat} {cs:Array Value} {T:TypeId} (h:Box w B cs T) (k:Below K w w') (hB:B<K):Box w' B cs T:=(k.block B hB).trans h
theorem Box.keep {w w':World} {B:Nat} {cs:Array Value} {T:TypeId} (h:Box w B cs T) (k:Below w.heap.size w w'):Box w' B cs T:=(k.block B h.lt).trans h
theorem Box.new (w:World) (cs:Array Value) (T:TypeId):Box (w.alloc (.cells cs T)) w.heap.size cs T:=heap_alloc_new w _
theorem Box.alloc {w:World} {B:Nat} {cs:Array Value} {T:TypeId} (h:Box w B cs T) (o:Obj):Box (w.alloc o) B cs T:=(Below.heap_alloc _ _ _ h.lt).trans h
theorem Box.set {w:World} {B:Nat} {cs:Array Value} {T:TypeId} (h:Box w B cs T) (j:Nat) (u:Value):Box (w.setCell ⟨B,j,none⟩ u) B (cs.setIfInBounds j u) T:=by
 have hlt:=h.lt
 unfold Box at h ⊢
 show (w.heap.modify B _)[B]?=_
 rw [Array.getElem?_modify,if_pos rfl,h]
 simp
abbrev Hp:=Nat→Option (Array Value)
def Hp.Le (H G:Hp):Prop:=∀ b c,H b=some c→G b=some c
theorem Hp.Le.refl (H:Hp):H.Le H:=fun _ _ h=>h
theorem Hp.Le.trans {H G K:Hp} (h:H.Le G) (k:G.Le K):H.Le K:=fun b c e=>k b c (h b c e)
def Fits (H:Hp) (W:World):Prop:=∀ b c,H b=some c→∃ T fz,W.heap[b]?=some (.cells c T fz)
theorem Fits.lt {H:Hp} {W:World} (h:Fits H W) {b:Nat} (hb:H b≠none):b<W.heap.size:=by
 obtain ⟨c,hc⟩:=Option.ne_none_iff_exists'.1 hb
 obtain ⟨T,fz,e⟩:=h b c hc
 exact (Array.getElem?_eq_some_iff.1 e).1
theorem Fits.below {H:Hp} {W W':World} (h:Fits H W) (k:Below W.heap.size W W'):Fits H W':=fun b c e=>by
 have:=h.lt (b:=b) (by rw [e];simp)
 rw [k.block b this];exact h b c e
theorem Fits.mono {H G:Hp} {W:World} (h:Fits G W) (k:H.Le G):Fits H W:=fun b c e=>h b c (k b c e)
def Nw (H:Hp) (m:Nat) (H':Hp) (W':World):Prop:=∀ b c,H' b=some c→H b=some c∨(m≤b∧∃ T,W'.heap[b]?=some (.cells c T (0,0)))
theorem Nw.refl (H:Hp) (m:Nat) (W:World):Nw H m H W:=fun _ _ h=>.inl h
theorem Nw.gone {H H':Hp} {m:Nat} {W':World} (h:Nw H m H' W') {b:Nat} (hb:b<m) (hn:H b=none):H' b=none:=by
 cases hc:H' b with
 | none=>rfl
 | some c =>
  rcases h b c hc with h1 | ⟨h1,_⟩
  ·rw [hn] at h1;cases h1
  ·omega
theorem Nw.below {H0 H:Hp} {m:Nat} {W W':World} (h:Nw H0 m H W) (hf:Fits H W) (k:Below W.heap.size W W'):Nw H0 m H W':=fun b c hb=>by
 rcases h b c hb with h1 | ⟨h1,T,h2⟩
 ·exact .inl h1
 ·exact .inr ⟨h1,T,by rw [k.block b (hf.lt (by rw [hb];simp))];exact h2⟩
theorem Nw.kept {X:Nat→Prop} {H0 H:Hp} {m:Nat} {W W':World} (h:Nw H0 m H W) (hf:Fits H W) (k:Kept X W W') (hx:∀ b,H b≠none→¬ X b):Nw H0 m H W':=fun b c hb=>by
 rcases h b c hb with h1 | ⟨h1,T,h2⟩
 ·exact .inl h1
 ·exact .inr ⟨h1,T,by rw [k.block b (hf.lt (by rw [hb];simp)) (hx b (by rw [hb];simp))];exact h2⟩
theorem Nw.alloc {H0 H:Hp} {m:Nat} {W:World} (h:Nw H0 m H W) (hf:Fits H W) (o:Obj):Nw H0 m H (W.alloc o):=h.below hf ((Below.refl _ _).alloc (Nat.le_refl _) _)
theorem Nw.grow {H0 H H':Hp} {m:Nat} {W W':World} (h:Nw H0 m H W) (hf:Fits H W) (k:Below W.heap.size W W') (hm:m≤W.heap.size) (h':Nw H W.heap.size H' W'):Nw H0 m H' W':=fun b c hb=>by
 rcases h' b c hb with h1 | ⟨h1,h2⟩
 ·exact h.below hf k b c h1
 ·exact .inr ⟨by omega,h2⟩
def gH:Hp:=fun b=>match Nat.beq b 7 with
 | true=>some (Lib.deBruijn64tab.map fun (z:Nat)=>Value.int .u8 (z:Int)).toArray
 | false=>none
inductive SV where
 | v (x:Value)
 | p (i off:Nat)
 | ro (cs:List Value)
def SV.rep (β:Nat→Nat) (H:Hp):SV→Value→Prop
 | .v x,y=>y=x
 | .p i off,y=>y=.pointer (some ⟨β i,off,none⟩)
 | .ro cs,y=>∃ b off c,y=.pointer (some ⟨b,off,none⟩)∧H b=some c∧∀ j x,cs[j]?=some x→c[off+j]?=some x
theorem SV.rep.mono {β:Nat→Nat} {H G:Hp} {s:SV} {y:Value} (h:s.rep β H y) (k:H.Le G):s.rep β G y:=by
 cases s with
 | v x=>exact h
 | p i off=>exact h
 | ro cs=>obtain ⟨b,off,c,h1,h2,h3⟩:=h;exact ⟨b,off,c,h1,k b c h2,h3⟩
abbrev Env:=List (Nat × SV)
abbrev Bxs:=List (Nat × TypeId × List Value)
def Env.get:Env→Nat→Option SV
 | [],_=>none
 | (t,s)::e,u=>match Nat.beq t u with
  | true=>some s
  | false=>Env.get e u
def Bxs.get:Bxs→Nat→Option (TypeId × List Value)
 | [],_=>none
 | (t,s)::e,u=>match Nat.beq t u with
  | true=>some s
  | false=>Bxs.get e u
def Env.op (e:Env):Operand→Option SV
 | .tmp t=>e.get t
 | .const v=>some (.v v)
 | .func f=>some (.v (.func (.func f) #[] #[]))
 | _=>none
theorem Env.get_cons (t:Nat) (s:SV) (e:Env) (u:Nat):Env.get ((t,s)::e) u=if t=u then some s else Env.get e u:=by
 conv=>lhs;unfold Env.get
 by_cases h:t=u
 ·have:Nat.beq t u=true:=by subst h;exact Nat.beq_refl t
  simp only [this,if_pos h]
 ·have:Nat.beq t u=false:=by cases hb:Nat.beq t u with | false=>rfl | true=>exact absurd (Nat.eq_of_beq_eq_true hb) h
  simp only [this,if_neg h]
theorem Bxs.get_cons (t:Nat) (s:TypeId × List Value) (e:Bxs) (u:Nat):Bxs.get ((t,s)::e) u=if t=u then some s else Bxs.get e u:=by
 conv=>lhs;unfold Bxs.get
 by_cases h:t=u
 ·have:Nat.beq t u=true:=by subst h;exact Nat.beq_refl t
  simp only [this,if_pos h]
 ·have:Nat.beq t u=false:=by cases hb:Nat.beq t u with | false=>rfl | true=>exact absurd (Nat.eq_of_beq_eq_true hb) h
  simp only [this,if_neg h]
inductive TK where
 | int (k:IntKind) | bool | str | slice (e:TypeId) | other
structure TE where
 agg:Bool
 size:Nat
 fields:List (Nat × Bool × Nat)
 zero:List Value
 kind:TK
 bytes:Nat
abbrev Tab:=List (Nat × TE)
def Tab.get:Tab→Nat→Option TE
 | [],_=>none
 | (t,s)::e,u=>match Nat.beq t u with
  | true=>some s
  | false=>Tab.get e u
def TK.ok (P:Program) (T:TypeId):TK→Prop
 | .int k=>P.underlying T=some (.int k)
 | .bool=>P.underlying T=some .bool
 | .str=>P.underlying T=some .string
 | .slice e=>P.underlying T=some (.slice e)
 | .other=>True
def fieldSem (ag:Bool) (fo sz:Nat) (cs:Array Value):Sem Value:=match ag with
 | true=>pure (.agg (cs.extract fo (fo+sz)))
 | false=>match cs[fo]? with
  | some v=>pure v
  | none=>stuck "part: no such cell"
def FOk (P:Program) (T:TypeId):Nat→List (Nat × Bool × Nat)→Prop
 | _,[]=>True
 | k,(fo,ag,sz)::r=>((∀ (w:World) (a:Addr),(Instr.fieldAt T (.pointer (some a)) k).run P w=.ok (.pointer (some (a.add fo))) w) ∧
   (∀ (w:World) (cs:Array Value),(Instr.field T (.agg cs) k).run P w=(fieldSem ag fo sz cs).run P w))∧FOk P T (k+1) r
structure TEOk (P:Program) (T:TypeId) (te:TE):Prop where
 agg:∀ w:World,(isAgg T).run P w=.ok te.agg w
 size:∀ w:World,(sizeOf T).run P w=.ok te.size w
 zero:∃ z:Value,(∀ w:World,(zeroValue T).run P w=.ok z w)∧z.cells=te.zero.toArray
 fields:FOk P T 0 te.fields
 built:te.fields=[]∨∀ parts,P.built T parts=Instr.fill (fun i=>((te.fields.map fun x=>(x.1,x.2.2)).toArray)[i]?) te.zero.toArray parts
 kind:te.kind.ok P T
 info:∃ z:Value,(P.info? T).map (fun i=>(i.zero,i.size,i.bytes))=some (some z,te.size,te.bytes)∧z.cells=te.zero.toArray
theorem TEOk.und {P:Program} {T:TypeId} {te:TE} (h:TEOk P T te):∃ d,P.underlying T=some d:=by
 have h1:=h.agg default
 unfold isAgg underlying at h1
 cases hu:P.underlying T with
 | some d=>exact ⟨d,rfl⟩
 | none=>simp [hu,stuck] at h1
def TabOk (P:Program):Tab→Prop
 | []=>True
 | (T,te)::r=>TEOk P T te∧TabOk P r
theorem TabOk.get {P:Program}:∀ {τ:Tab},TabOk P τ→∀ {T:TypeId} {te:TE},τ.get T=some te→TEOk P T te
 | [],_,T,te,h=>by cases h
 | (T',te')::r,hok,T,te,h=>by
  unfold Tab.get at h
  cases hb:Nat.beq T' T with
  | true =>
   rw [hb] at h
   have:=Nat.eq_of_beq_eq_true hb
   subst this
   cases h
   exact hok.1
  | false=>rw [hb] at h;exact hok.2.get h
theorem FOk.get {P:Program} {T:TypeId}:∀ {l:List (Nat × Bool × Nat)} {k:Nat},FOk P T k l→∀ {f fo:Nat} {ag:Bool} {sz:Nat},l[f]?=some (fo,ag,sz) →
  ((∀ (w:World) (a:Addr),(Instr.fieldAt T (.pointer (some a)) (k+f)).run P w=.ok (.pointer (some (a.add fo))) w) ∧
   (∀ (w:World) (cs:Array Value),(Instr.field T (.agg cs) (k+f)).run P w=(fieldSem ag fo sz cs).run P w))
 | [],k,_,f,fo,ag,sz,h=>by simp at h
 | (fo',ag',sz')::r,k,hok,f,fo,ag,sz,h=>by
  cases f with
  | zero=>simp at h;obtain ⟨rfl,rfl,rfl⟩:=h;exact hok.1
  | succ f =>
   have:=FOk.get hok.2 (f:=f) (fo:=fo) (ag:=ag) (sz:=sz) (by simpa using h)
   rwa [show k+1+f=k+(f+1) by omega] at this
def vlist:Value→List Value
 | .agg ⟨l⟩=>l
 | v=>[v]
theorem vlist_cells (v:Value):v.cells=(vlist v).toArray:=by cases v <;> rfl
def cutK {α:Type}:Nat→Nat→List Value→(List Value→Option α)→Option α
 | 0,0,_,k=>k []
 | 0,n+1,c::cs,k=>cutK 0 n cs fun r=>k (c::r)
 | off+1,n,_::cs,k=>cutK off n cs k
 | _,_,[],_=>none
def dropK {α:Type}:Nat→List Value→(List Value→Option α)→Option α
 | 0,cs,k=>k cs
 | off+1,_::cs,k=>dropK off cs k
 | _+1,[],_=>none
def wrK {α:Type}:Nat→List Value→List Value→(List Value→Option α)→Option α
 | 0,[],cs,k=>k cs
 | 0,v::vs,_::cs,k=>wrK 0 vs cs fun r=>k (v::r)
 | off+1,vs,c::cs,k=>wrK off vs cs fun r=>k (c::r)
 | _,_,[],_=>none
def asVarK {α:Type} (ag:Bool) (l:List Value) (k:Value→Option α):Option α:=match ag,l with
 | true,l=>k (.agg l.toArray)
 | false,[c]=>k c
 | false,_=>none
def pload {α:Type} (te:TE) (s:SV) (bx:Bxs) (k:Value→Option α):Option α :=
 match s with
 | .p i off=>match bx.get i with
  | some (_,cs)=>cutK off te.size cs fun l=>asVarK te.agg l k
  | none=>none
 | .ro cs=>cutK 0 te.size cs fun l=>asVarK te.agg l k
 | _=>none
theorem cutK_spec {α:Type}:∀ (off n:Nat) (cs:List Value) (k:List Value→Option α) (r:α),cutK off n cs k=some r→k ((cs.drop off).take n)=some r∧off+n≤cs.length
 | 0,0,cs,k,r,h=>by simpa [cutK] using h
 | 0,n+1,[],k,r,h=>by simp [cutK] at h
 | 0,n+1,c::cs,k,r,h=>by
  have:=cutK_spec 0 n cs _ r (by simpa [cutK] using h)
  simp at this ⊢
  exact ⟨this.1,by omega⟩
 | off+1,n,[],k,r,h=>by cases n <;> simp [cutK] at h
 | off+1,n,c::cs,k,r,h=>by
  have:=cutK_spec off n cs k r (by cases n <;> simpa [cutK] using h)
  simp at this ⊢
  exact ⟨this.1,by omega⟩
theorem dropK_spec {α:Type}:∀ (off:Nat) (cs:List Value) (k:List Value→Option α) (r:α),dropK off cs k=some r→k (cs.drop off)=some r
 | 0,cs,k,r,h=>by simpa [dropK] using h
 | off+1,[],k,r,h=>by simp [dropK] at h
 | off+1,c::cs,k,r,h=>by simpa using dropK_spec off cs k r (by simpa [dropK] using h)
theorem wrK_spec {α:Type}:∀ (off:Nat) (vs cs:List Value) (k:List Value→Option α) (r:α),wrK off vs cs k=some r→k (cs.take off++vs++cs.drop (off+vs.length))=some r∧off+vs.length≤cs.length
 | 0,[],cs,k,r,h=>by simpa [wrK] using h
 | 0,v::vs,[],k,r,h=>by simp [wrK] at h
 | 0,v::vs,c::cs,k,r,h=>by
  have:=wrK_spec 0 vs cs _ r (by simpa [wrK] using h)
  simp at this ⊢
  exact ⟨this.1,by omega⟩
 | off+1,vs,[],k,r,h=>by cases vs <;> simp [wrK] at h
 | off+1,vs,c::cs,k,r,h=>by
  have:=wrK_spec off vs cs _ r (by cases vs <;> simpa [wrK] using h)
  simp [Nat.add_right_comm off 1] at this ⊢
  exact ⟨this.1,by omega⟩
def asVar (ag:Bool) (l:List Value):Option Value:=match ag,l with
 | true,l=>some (.agg l.toArray)
 | false,[c]=>some c
 | false,_=>none
theorem asVarK_eq {α:Type} (ag:Bool) (l:List Value) (k:Value→Option α):asVarK ag l k=(asVar ag l).bind k:=by
 unfold asVarK asVar
 split <;> simp_all
theorem Box.range {W:World} {b:Nat} {cs:List Value} {T:TypeId} (h:Box W b cs.toArray T) (off n:Nat):W.rangeAt b off ((cs.drop off).take n):=by
 intro j v hv
 have hj:((cs.drop off).take n)[j]?=some v:=hv
 rw [List.getElem?_take] at hj
 split at hj
 ·rw [List.getElem?_drop] at hj
  exact h.at (off+j) (by simpa using hj)
 ·cases hj
theorem run_load_cells {P:Program} {te:TE} {T:TypeId} (ht:TEOk P T te) {W:World} {b off:Nat} {l:List Value} (hr:W.rangeAt b off l) (hl:l.length=te.size) {x:Value}
  (hx:asVar te.agg l=some x) :
  (Instr.loadAt T (.pointer (some ⟨b,off,none⟩))).run P W=.ok x W:=by
 have hc:(loadCells ⟨b,off,none⟩ l.length).run P W=.ok l.toArray W :=
  run_loadCells_list (P:=P) W ⟨b,off,none⟩ l (fun j v hv=>by rw [Addr.add_mid];exact hr j v hv)
 simp only [Instr.loadAt,Instr.sureAddr,Sem.run_bind,Sem.run_pure,Result.andThen_ok,loadVar,ht.agg]
 cases hag:te.agg with
 | true =>
  rw [hag] at hx
  simp only [asVar,Option.some.injEq] at hx
  subst hx
  simp [ht.size,← hl,hc]
 | false =>
  rw [hag] at hx
  obtain ⟨c,rfl⟩:∃ c,l=[c]:=by
   unfold asVar at hx
   split at hx
   ·rename_i h;cases h
   ·exact ⟨_,rfl⟩
   ·cases hx
  simp only [asVar,Option.some.injEq] at hx
  subst hx
  have:=hr 0 c rfl
  simp only [Nat.add_zero] at this
  simp [this]
def pbin:BinOp→Value→Value→Option Value
 | .add,.int k x,.int k' y=>if k=k' then some (.int k (k.wrap (x+y))) else none
 | .sub,.int k x,.int k' y=>if k=k' then some (.int k (k.wrap (x-y))) else none
 | .mul,.int k x,.int k' y=>if k=k' then some (.int k (k.wrap (x*y))) else none
 | .eql,.int k x,.int k' y=>if k=k' then some (.bool (x == y)) else none
 | .neq,.int k x,.int k' y=>if k=k' then some (.bool (x != y)) else none
 | .lss,.int k x,.int k' y=>if k=k' then some (.bool (decide (x<y))) else none
 | .leq,.int k x,.int k' y=>if k=k' then some (.bool (decide (x≤y))) else none
 | .gtr,.int k x,.int k' y=>if k=k' then some (.bool (decide (x>y))) else none
 | .geq,.int k x,.int k' y=>if k=k' then some (.bool (decide (x≥y))) else none
 | .quo,.int k x,.int k' y=>if k=k' then (match decide (y=0) with | false=>some (.int k (k.wrap (x.tdiv y))) | true=>none) else none
 | .rem,.int k x,.int k' y=>if k=k' then (match decide (y=0) with | false=>some (.int k (x.tmod y)) | true=>none) else none
 | .shr,.int k x,.int _ (.ofNat m)=>some (.int k (x.fdiv (2 ^ (min m k.bits))))
 | .shl,.int k x,.int _ (.ofNat m)=>some (.int k (k.wrap (x*2 ^ (min m k.bits))))
 | .and,.int k x,.int k' y=>if k=k' then some (.int k (k.wrap (BitVec.ofInt k.bits x &&& BitVec.ofInt k.bits y).toNat)) else none
 | .or,.int k x,.int k' y=>if k=k' then some (.int k (k.wrap (BitVec.ofInt k.bits x ||| BitVec.ofInt k.bits y).toNat)) else none
 | .eql,.string x,.string y=>some (.bool (x.toList == y.toList))
 | .neq,.string x,.string y=>some (.bool (!(x.toList == y.toList)))
 | _,_,_=>none
theorem pbin_sound {P:Program} {op:BinOp} {T:TypeId} {x y v:Value} (h:pbin op x y=some v) (a b:Operand) (W:World):(do eqGuard op T a b x y;binOp op T x y:Sem Value).run P W=.ok v W:=by
 unfold pbin at h
 split at h
 case h_10 =>
  split at h
  ·rename_i hk;subst hk
   split at h
   ·rename_i hy;cases h;have:¬ _:=of_decide_eq_false hy;simp [eqGuard,binOp,Op.intDiv,this]
   ·cases h
  ·cases h
 case h_11 =>
  split at h
  ·rename_i hk;subst hk
   split at h
   ·rename_i hy;cases h;have:¬ _:=of_decide_eq_false hy;simp [eqGuard,binOp,Op.intDiv,this]
   ·cases h
  ·cases h
 case h_12=>cases h;rename_i m;simp [eqGuard,binOp,Op.shift,show ¬ ((m:Int)<0) by omega]
 case h_13=>cases h;rename_i m;simp [eqGuard,binOp,Op.shift,show ¬ ((m:Int)<0) by omega]
 case h_14 =>
  split at h
  ·rename_i hk;subst hk;cases h;simp [eqGuard,binOp,Op.intBits]
  ·cases h
 case h_15 =>
  split at h
  ·rename_i hk;subst hk;cases h;simp [eqGuard,binOp,Op.intBits]
  ·cases h
 case h_16=>cases h;simp [eqGuard,binOp,Op.stringOp]
 case h_17=>cases h;simp [eqGuard,binOp,Op.stringOp]
 case h_18=>cases h
 all_goals
  split at h
  ·rename_i hk;subst hk;cases h;simp [eqGuard,binOp,Op.intArith,Op.intCmp]
  ·cases h
def boxL:Value→Option (List Value)
 | .agg ⟨l⟩=>some l
 | v=>some [v]
theorem boxL_cells {v:Value} {l:List Value} (h:boxL v=some l):v.cells=l.toArray:=by
 cases v <;> cases h <;> rfl
def buildK {α:Type} (env:Env) (fields:List (Nat × Bool × Nat)):List (Nat × Operand)→List Value→(List Value→Option α)→Option α
 | [],cs,k=>k cs
 | (f,x)::r,cs,k=>match fields[f]?,env.op x with
  | some (fo,_,sz),some (.v v)=>match boxL v with
   | some vs=>match Nat.beq vs.length sz with
    | true=>wrK fo vs cs fun cs'=>buildK env fields r cs' k
    | false=>none
   | none=>none
  | _,_=>none
theorem fold_set:∀ (vs cs:List Value) (off j0:Nat),off+j0+vs.length≤cs.length→(vs.zipIdx j0).foldl (fun (c:Array Value) (p:Value × Nat)=>c.setIfInBounds (off+p.2) p.1) cs.toArray=(cs.take (off+j0)++vs++cs.drop (off+j0+vs.length)).toArray
 | [],cs,off,j0,_=>by simp
 | v::r,cs,off,j0,h=>by
  have hl':off+j0<cs.length:=by simp at h;omega
  rw [List.zipIdx_cons,List.foldl_cons]
  have:=fold_set r (cs.set (off+j0) v) off (j0+1) (by simp at h ⊢;omega)
  simp only [List.setIfInBounds_toArray]
  rw [this]
  congr 1
  rw [List.drop_set_of_lt (by omega),show off+(j0+1)=off+j0+1 by omega,List.take_set,List.take_succ_eq_append_getElem hl',List.set_append_right _ _ (by simp;omega)]
  simp [Nat.min_eq_left (Nat.le_of_lt hl'),Nat.add_assoc,Nat.add_comm 1]
theorem buildK_spec {α:Type} {env:Env} {fields:List (Nat × Bool × Nat)}:∀ (ps:List (Nat × Operand)) (cs:List Value) (k:List Value→Option α) (r:α),buildK env fields ps cs k=some r →
  ∃ cs',k cs'=some r∧∀ (β:Nat→Nat) (H:Hp) (ev:Operand→Value),(∀ y s,y∈ps.map (·.2)→env.op y=some s→s.rep β H (ev y)) →
   Instr.fill (fun i=>((fields.map fun x=>(x.1,x.2.2)).toArray)[i]?) cs.toArray (ps.map fun p=>(p.1,ev p.2))=some cs'.toArray
 | [],cs,k,r,h=>⟨cs,h,fun _ _ _ _=>rfl⟩
 | (f,x)::ps,cs,k,r,h=>by
  unfold buildK at h
  split at h
  ·rename_i fo ag sz v hf hx
   split at h
   ·rename_i vs hvs
    split at h
    ·rename_i hl
     obtain ⟨h1,h2⟩:=wrK_spec _ _ _ _ _ h
     obtain ⟨cs',hk,hfill⟩:=buildK_spec ps _ k r h1
     refine ⟨cs',hk,fun β H ev he=>?_⟩
     have hv:ev x=v:=he x _ (by simp) hx
     have hlen:=Nat.eq_of_beq_eq_true hl
     rw [List.map_cons]
     unfold Instr.fill
     have hp:((fields.map fun x=>(x.1,x.2.2)).toArray)[f]?=some (fo,sz):=by simp [hf]
     simp only [hp,hv,boxL_cells hvs]
     rw [if_neg (by simp [hlen];omega)]
     have:=fold_set vs cs fo 0 (by omega)
     rw [Nat.add_zero] at this
     have e:(vs.toArray.zipIdx.foldl (fun (cs:Array Value) (x:Value × Nat)=>match x with | (c,j)=>cs.setIfInBounds (fo+j) c) cs.toArray)=(vs.zipIdx.foldl (fun (c:Array Value) (p:Value × Nat)=>c.setIfInBounds (fo+p.2) p.1) cs.toArray):=by
      simp
     rw [e,this]
     exact hfill β H ev (fun y s hy=>he y s (by simp at hy ⊢;exact .inr hy))
    ·cases h
   ·cases h
  ·cases h
def pval (τ:Tab) (env:Env) (bx:Bxs):Op→Option SV
 | .move x=>env.op x
 | .assign x=>env.op x
 | .load T x=>match τ.get T,env.op x with
  | some te,some s=>pload te s bx fun v=>some (.v v)
  | _,_=>none
 | .fieldAddr T x f=>match τ.get T,env.op x with
  | some te,some (.p i off)=>match te.fields[f]? with
   | some (fo,_,_)=>some (.p i (off+fo))
   | none=>none
  | some te,some (.ro cs)=>match te.fields[f]? with
   | some (fo,_,_)=>dropK fo cs fun l=>some (.ro l)
   | none=>none
  | _,_=>none
 | .field T x f=>match τ.get T,env.op x with
  | some te,some (.v (.agg ⟨cs⟩))=>match te.fields[f]? with
   | some (fo,ag,sz)=>cutK fo sz cs fun l=>asVarK ag l fun v=>some (.v v)
   | none=>none
  | _,_=>none
 | .extract x i=>match env.op x with
  | some (.v (.tuple ⟨vs⟩))=>cutK i 1 vs fun l=>match l with | [c]=>some (.v c) | _=>none
  | _=>none
 | .pick c x y=>match env.op c with
  | some (.v (.bool true))=>env.op x
  | some (.v (.bool false))=>env.op y
  | _=>none
 | .binOp op _ x y _=>match env.op x,env.op y with
  | some (.v a),some (.v b)=>match pbin op a b with
   | some v=>some (.v v)
   | none=>none
  | _,_=>none
 | .unOp .not _ x=>match env.op x with
  | some (.v (.bool b))=>some (.v (.bool (!b)))
  | _=>none
 | .unOp .neg _ x=>match env.op x with
  | some (.v (.int k n))=>some (.v (.int k (k.wrap (0-n))))
  | _=>none
 | .convert src dst x=>match τ.get src,τ.get dst,env.op x with
  | some _,some te,some (.v (.int _ n))=>match te.kind with
   | .int k=>some (.v (.int k (k.wrap n)))
   | _=>none
  | _,_,_=>none
 | .build T parts=>match τ.get T with
  | some te=>match te.fields with
   | []=>none
   | f::fs=>buildK env (f::fs) parts.toList te.zero fun cs=>some (.v (.agg cs.toArray))
  | none=>none
 | .call ⟨.builtin .len,⟨[x]⟩,⟨[t]⟩⟩=>match τ.get t,env.op x with
  | some te,some (.v (.slice _ n _))=>match te.kind with
   | .slice _=>some (.v (.int .i64 n))
   | _=>none
  | some te,some (.v (.string s))=>match te.kind with
   | .str=>some (.v (.int .i64 s.size))
   | _=>none
  | _,_=>none
 | .call ⟨.builtin .min,⟨[x,y]⟩,_⟩=>match env.op x,env.op y with
  | some (.v (.int k a)),some (.v (.int _ b))=>some (.v (.int k (if b<a then b else a)))
  | _,_=>none
 | .call ⟨.builtin .max,⟨[x,y]⟩,_⟩=>match env.op x,env.op y with
  | some (.v (.int k a)),some (.v (.int _ b))=>some (.v (.int k (if b>a then b else a)))
  | _,_=>none
 | _=>none
theorem pload_sound {P:Program} {τ:Tab} (hτ:TabOk P τ) {T:TypeId} {te:TE} (ht:τ.get T=some te) {s:SV} {bx:Bxs} {β:Nat→Nat} {H:Hp} {W:World} {y:Value} {α:Type} {k:Value→Option α} {r:α}
  (hb:∀ i T cs,bx.get i=some (T,cs)→Box W (β i) cs.toArray T) (hf:Fits H W) (hs:s.rep β H y) (h:pload te s bx k=some r) :
  ∃ x,(Instr.loadAt T y).run P W=.ok x W∧k x=some r:=by
 have hte:=hτ.get ht
 unfold pload at h
 cases s with
 | v x=>cases h
 | p i off =>
  simp only at h
  cases hg:bx.get i with
  | none=>rw [hg] at h;cases h
  | some p =>
   obtain ⟨T',cs⟩:=p
   rw [hg] at h
   obtain ⟨h1,h2⟩:=cutK_spec _ _ _ _ _ h
   rw [asVarK_eq] at h1
   obtain ⟨x,hx,hk⟩:=Option.bind_eq_some_iff.1 h1
   have hs':y=.pointer (some ⟨β i,off,none⟩):=hs
   subst hs'
   exact ⟨x,run_load_cells hte ((hb i T' cs hg).range off te.size) (by simp;omega) hx,hk⟩
 | ro cs =>
  simp only at h
  obtain ⟨h1,h2⟩:=cutK_spec _ _ _ _ _ h
  rw [asVarK_eq] at h1
  obtain ⟨x,hx,hk⟩:=Option.bind_eq_some_iff.1 h1
  obtain ⟨b,off,c,rfl,hc,hcs⟩:=hs
  obtain ⟨T',fz,hW⟩:=hf b c hc
  refine ⟨x,run_load_cells hte (l:=(cs.drop 0).take te.size) (fun j v hv=>?_) (by simp;omega) hx,hk⟩
  rw [cell_of_row W b (off+j) c T' fz hW]
  apply hcs
  rw [List.drop_zero,List.getElem?_take] at hv
  split at hv
  ·exact hv
  ·cases hv
theorem pval_sound {P:Program} {τ:Tab} (hτ:TabOk P τ) {o:Oper} {env:Env} {bx:Bxs} {s:SV} {β:Nat→Nat} {H:Hp} {a:Act} {W:World} (h:pval τ env bx o.op=some s)
  (he:∀ y s,y∈o.op.operands→env.op y=some s→s.rep β H (a.eval y)) (hb:∀ i T cs,bx.get i=some (T,cs)→Box W (β i) cs.toArray T) (hf:Fits H W) :
  ∃ x,(execOp a.eval o).run P W=.ok (.value x) W∧s.rep β H x:=by
 unfold execOp
 generalize o.op=op at h he
 unfold pval at h
 split at h
 case h_1 x=>exact ⟨_,by simp,he x s (by simp [Op.operands]) h⟩
 case h_2 x=>exact ⟨_,by simp,he x s (by simp [Op.operands]) h⟩
 case h_3 T x =>
  split at h
  ·rename_i te s' ht hx
   obtain ⟨v,hv,hk⟩:=pload_sound hτ ht hb hf (he x s' (by simp [Op.operands]) hx) h
   cases hk
   exact ⟨v,by simp [hv],rfl⟩
  ·cases h
 case h_4 T x f =>
  split at h
  ·rename_i te i off ht hx
   split at h
   ·rename_i fo ag sz hf'
    cases h
    have hr:=he x _ (by simp [Op.operands]) hx
    have h1:=((hτ.get ht).fields.get hf').1 W ⟨β i,off,none⟩
    rw [Nat.zero_add] at h1
    have hr':a.eval x=.pointer (some ⟨β i,off,none⟩):=hr
    rw [Addr.add_mid] at h1
    exact ⟨.pointer (some ⟨β i,off+fo,none⟩),by simp [hr',h1],rfl⟩
   ·cases h
  ·rename_i te cs ht hx
   split at h
   ·rename_i fo ag sz hf'
    have h2:=dropK_spec _ _ _ _ h
    cases h2
    obtain ⟨b,off,c,hr,hc,hcs⟩:=he x _ (by simp [Op.operands]) hx
    have h1:=((hτ.get ht).fields.get hf').1 W ⟨b,off,none⟩
    rw [Nat.zero_add] at h1
    rw [Addr.add_mid] at h1
    refine ⟨.pointer (some ⟨b,off+fo,none⟩),by simp [hr,h1],b,off+fo,c,rfl,hc,fun j v hv=>?_⟩
    rw [List.getElem?_drop] at hv
    rw [Nat.add_assoc]
    exact hcs _ _ hv
   ·cases h
  ·cases h
 case h_5 T x f =>
  split at h
  ·rename_i te cs ht hx
   split at h
   ·rename_i fo ag sz hf'
    obtain ⟨h1,h2⟩:=cutK_spec _ _ _ _ _ h
    rw [asVarK_eq] at h1
    obtain ⟨v,hv,hk⟩:=Option.bind_eq_some_iff.1 h1
    cases hk
    have hr:a.eval x=.agg ⟨cs⟩:=he x _ (by simp [Op.operands]) hx
    have h3:=((hτ.get ht).fields.get hf').2 W ⟨cs⟩
    rw [Nat.zero_add] at h3
    refine ⟨v,?_,rfl⟩
    simp only [hr,Sem.run_bind,h3]
    cases ag with
    | true =>
     simp only [asVar,Option.some.injEq] at hv
     subst hv
     simp [fieldSem,List.extract_eq_take_drop,show fo+sz-fo=sz by omega]
    | false =>
     have e:∃ c,(cs.drop fo).take sz=[c]∧c=v:=by
      unfold asVar at hv
      split at hv
      ·contradiction
      ·rename_i c _ hc;exact ⟨c,hc,Option.some.inj hv⟩
      ·cases hv
     obtain ⟨c,hc,rfl⟩:=e
     have:cs[fo]?=some c:=by
      have:=congrArg (·[0]?) hc
      simp only [List.getElem?_take,List.getElem?_drop,Nat.add_zero] at this
      split at this
      ·simpa using this
      ·simp at this
     simp [fieldSem,this]
   ·cases h
  ·cases h
 case h_6 x i =>
  split at h
  ·rename_i vs hx
   obtain ⟨h1,h2⟩:=cutK_spec _ _ _ _ _ h
   split at h1
   ·rename_i c hc
    cases h1
    have hr:a.eval x=.tuple ⟨vs⟩:=he x _ (by simp [Op.operands]) hx
    have:vs[i]?=some c:=by
     have:=congrArg (·[0]?) hc
     simpa [List.getElem?_take,List.getElem?_drop] using this
    refine ⟨c,?_,rfl⟩
    simp [hr,Instr.extract,this]
   ·cases h1
  ·cases h
 case h_7 c x y =>
  split at h
  ·rename_i hc
   have hr:a.eval c=.bool true:=he c _ (by simp [Op.operands]) hc
   exact ⟨_,by simp [hr,asBool],he x s (by simp [Op.operands]) h⟩
  ·rename_i hc
   have hr:a.eval c=.bool false:=he c _ (by simp [Op.operands]) hc
   exact ⟨_,by simp [hr,asBool],he y s (by simp [Op.operands]) h⟩
  ·cases h
 case h_8 op T x y T' =>
  split at h
  ·rename_i u v hx hy
   split at h
   ·rename_i r hr
    cases h
    have h1:a.eval x=u:=he x _ (by simp [Op.operands]) hx
    have h2:a.eval y=v:=he y _ (by simp [Op.operands]) hy
    have:=pbin_sound (P:=P) (T:=T) hr x y W
    refine ⟨r,?_,rfl⟩
    simp only [h1,h2]
    rw [Sem.run_bind,this]
    rfl
   ·cases h
  ·cases h
 case h_9 T x =>
  split at h
  ·rename_i b hx
   cases h
   have hr:a.eval x=.bool b:=he x _ (by simp [Op.operands]) hx
   exact ⟨_,by simp [hr,Op.unary],rfl⟩
  ·cases h
 case h_10 T x =>
  split at h
  ·rename_i k n hx
   cases h
   have hr:a.eval x=.int k n:=he x _ (by simp [Op.operands]) hx
   exact ⟨_,by simp [hr,Op.unary,Op.intArith],rfl⟩
  ·cases h
 case h_11 src dst x =>
  split at h
  ·rename_i te0 te k n ht0 ht hx
   split at h
   ·rename_i k' hk
    cases h
    have hr:a.eval x=.int k n:=he x _ (by simp [Op.operands]) hx
    have hkd:=(hτ.get ht).kind
    rw [hk] at hkd
    have hkd':P.underlying dst=some (.int k'):=hkd
    obtain ⟨d,hd⟩:=(hτ.get ht0).und
    exact ⟨.int k' (k'.wrap n),by simp [convert,hr,run_underlying hkd',run_underlying hd,Conv.intToInt],rfl⟩
   ·cases h
  ·cases h
 case h_12 T parts =>
  split at h
  ·rename_i te ht
   split at h
   ·cases h
   ·rename_i f fs hfs
    obtain ⟨cs',hk,hfill⟩:=buildK_spec _ _ _ _ h
    cases hk
    have hb:=(hτ.get ht).built
    rcases hb with hb | hb
    ·rw [hb] at hfs;cases hfs
    ·have hff:=hfill β H a.eval (fun y s' hy=>he y s' (by simpa [Op.operands] using hy))
     have:=run_build (P:=P) W T (parts.map fun (i,x)=>(i,a.eval x)) cs'.toArray (by
      rw [hb,hfs]
      rw [← hff]
      congr 1
      simp)
     exact ⟨_,by simp [this],rfl⟩
  ·cases h
 case h_13 x t =>
  split at h
  ·rename_i te a0 n0 c0 ht hx
   split at h
   ·rename_i e hk
    cases h
    have hr:a.eval x=.slice a0 n0 c0:=he x _ (by simp [Op.operands,Call.operands]) hx
    have hkd:=(hτ.get ht).kind
    rw [hk] at hkd
    have hkd':P.underlying t=some (.slice e):=hkd
    exact ⟨.int .i64 n0,by simp [resolve,invoke,builtin,Builtin.len_,hr,run_underlying hkd',goInt],rfl⟩
   ·cases h
  ·rename_i te st ht hx
   split at h
   ·rename_i hk
    cases h
    have hr:a.eval x=.string st:=he x _ (by simp [Op.operands,Call.operands]) hx
    have hkd:=(hτ.get ht).kind
    rw [hk] at hkd
    have hkd':P.underlying t=some .string:=hkd
    exact ⟨.int .i64 st.size,by simp [resolve,invoke,builtin,Builtin.len_,hr,run_underlying hkd',goInt],rfl⟩
   ·cases h
  ·cases h
 case h_14 x y t =>
  split at h
  ·rename_i k u k' v hx hy
   cases h
   have h1:a.eval x=.int k u:=he x _ (by simp [Op.operands,Call.operands]) hx
   have h2:a.eval y=.int k' v:=he y _ (by simp [Op.operands,Call.operands]) hy
   exact ⟨.int k (if v<u then v else u),by simp [resolve,invoke,builtin,Builtin.min_,Builtin.min2,h1,h2],rfl⟩
  ·cases h
 case h_15 x y t =>
  split at h
  ·rename_i k u k' v hx hy
   cases h
   have h1:a.eval x=.int k u:=he x _ (by simp [Op.operands,Call.operands]) hx
   have h2:a.eval y=.int k' v:=he y _ (by simp [Op.operands,Call.operands]) hy
   exact ⟨.int k (if v>u then v else u),by simp [resolve,invoke,builtin,Builtin.max_,Builtin.max2,h1,h2],rfl⟩
  ·cases h
 case h_16=>cases h
abbrev Ows:=List (Nat × TypeId × List Value)
structure Bs where
 hp:Hp
 lent:List Nat
theorem noLent {k:Nat} {p:Prop} (h:k∈([]:List Nat)):p:=by cases h
structure Hs where
 ro:Hp
 ow:Ows
 base:Bs
structure Rel (n:Nat) (W0:World) (H0:Bs) (β:Nat→Nat) (env:Env) (bx:Bxs) (H:Hs) (a:Act) (W:World):Prop where
 size:a.tmps.size=n
 defers:a.defers=[]
 slot:∀ t s,env.get t=some s→∃ x,a.tmps[t]?=some x∧s.rep β H.ro x
 box:∀ i T cs,bx.get i=some (T,cs)→Box W (β i) cs.toArray T
 low:∀ i,(bx.get i).isSome=true→W0.heap.size≤β i∧H.ro (β i)=none
 inj:∀ i j,(bx.get i).isSome=true→(bx.get j).isSome=true→β i=β j→i=j
 pin:∀ t i off,env.get t=some (.p i off)→(bx.get i).isSome=true
 fits:Fits H.ro W
 le:H0.hp.Le H.ro
 new:Nw H0.hp W0.heap.size H.ro W
 bel:Kept (fun b=>b∈H0.lent) W0 W
 glob:Fits gH W0∧∀ b,b∈H0.lent→gH b=none∧b<W0.heap.size
 own:∀ (j b:Nat) (T:TypeId) (cs:List Value),H.ow[j]?=some (b,T,cs)→Box W b cs.toArray T∧(W0.heap.size≤b∨b∈H0.lent)∧H.ro b=none∧∀ i,(bx.get i).isSome=true→β i≠b
 one:∀ (j j' b:Nat) (T T':TypeId) (cs cs':List Value),H.ow[j]?=some (b,T,cs)→H.ow[j']?=some (b,T',cs')→j=j'
theorem Rel.lt {n:Nat} {W0:World} {H0:Bs} {β:Nat→Nat} {env:Env} {bx:Bxs} {H:Hs} {a:Act} {W:World} (h:Rel n W0 H0 β env bx H a W) {i:Nat} (hi:(bx.get i).isSome=true):β i<W.heap.size:=by
 obtain ⟨⟨T,cs⟩,hg⟩:=Option.isSome_iff_exists.1 hi
 exact (h.box i T cs hg).lt
theorem Rel.op {n:Nat} {W0:World} {H0:Bs} {β:Nat→Nat} {env:Env} {bx:Bxs} {H:Hs} {a:Act} {W:World} (h:Rel n W0 H0 β env bx H a W) {y:Operand} {s:SV} (hy:env.op y=some s):s.rep β H.ro (a.eval y):=by
 cases y with
 | tmp t =>
  obtain ⟨x,hx,hs⟩:=h.slot t s hy
  simp only [Act.eval,Array.getD_eq_getD_getElem?,hx,Option.getD_some];exact hs
 | const v=>cases hy;rfl
 | global g=>cases hy
 | func f=>cases hy;rfl
abbrev EQ:=Exit→Env→Bxs→Hs→Prop
def lift (n:Nat) (W0:World) (H0:Bs) (Q:EQ):Exit→Act→World→Prop:=fun e a W=>∃ β env bx H,H.base=H0∧Q e env bx H∧Rel n W0 H0 β env bx H a W
def EV (P:Program) (n:Nat) (c:Code) (env:Env) (bx:Bxs) (H:Hs) (Q:EQ):Prop:=∀ W0 β a W,Rel n W0 H.base β env bx H a W→c.wp P (lift n W0 H.base Q) a W
def EVL (P:Program) (n:Nat) (ops:Array Oper) (l:List Oper) (env:Env) (bx:Bxs) (H:Hs) (Q:EQ):Prop:=∀ W0 β a W,Rel n W0 H.base β env bx H a W→wpList P ops (lift n W0 H.base Q) l a W
def thenQ (K:Env→Bxs→Hs→Prop) (Q:EQ):EQ
 | .normal,env,bx,H=>K env bx H
 | e,env,bx,H=>Q e env bx H
def blockQ (id:Nat) (Q:EQ):EQ
 | .exit id',env,bx,H=>match Nat.beq id' id with
  | true=>Q .normal env bx H
  | false=>Q (.exit id') env bx H
 | e,env,bx,H=>Q e env bx H
section
variable {P:Program} {n:Nat} {env:Env} {bx:Bxs} {H:Hs} {Q:EQ} {K:Env→Bxs→Hs→Prop} {id:Nat}
theorem thenQ.normal (h:K env bx H):thenQ K Q .normal env bx H:=h
theorem thenQ.exit (h:Q (.exit id) env bx H):thenQ K Q (.exit id) env bx H:=h
theorem thenQ.ret (h:Q .ret env bx H):thenQ K Q .ret env bx H:=h
theorem blockQ.normal (h:Q .normal env bx H):blockQ id Q .normal env bx H:=h
theorem blockQ.ret (h:Q .ret env bx H):blockQ id Q .ret env bx H:=h
theorem blockQ.hit (h:Q .normal env bx H):blockQ id Q (.exit id) env bx H:=by
 unfold blockQ;simp only [Nat.beq_refl];exact h
theorem blockQ.miss {id':Nat} (hne:Nat.beq id' id=false) (h:Q (.exit id') env bx H):blockQ id Q (.exit id') env bx H:=by
 unfold blockQ;simp only [hne];exact h
theorem EV.skip (h:Q .normal env bx H):EV P n .skip env bx H Q:=fun _ β _ _ r=>wp_skip ⟨β,env,bx,H,rfl,h,r⟩
theorem EV.label {l:Nat} (h:Q .normal env bx H):EV P n (.label l) env bx H Q:=fun _ β _ _ r=>wp_label ⟨β,env,bx,H,rfl,h,r⟩
theorem EV.exit (h:Q (.exit id) env bx H):EV P n (.exit id) env bx H Q:=fun _ β _ _ r=>wp_exit ⟨β,env,bx,H,rfl,h,r⟩
theorem EV.ret (h:Q .ret env bx H):EV P n .ret env bx H Q:=fun _ β _ _ r=>wp_ret ⟨β,env,bx,H,rfl,h,r⟩
theorem EV.seq {x y:Code} (h:EV P n x env bx H (thenQ (fun env bx H=>EV P n y env bx H Q) Q)):EV P n (.seq x y) env bx H Q:=fun W0 β a W r=>by
 refine wp_seq (wp_mono (h W0 β a W r) ?_)
 rintro e a' W' ⟨β',env',bx',H',hbase,hq,r'⟩
 cases e with
 | normal=>rw [← hbase];exact hq W0 β' a' W' (by rw [hbase];exact r')
 | _=>exact ⟨β',env',bx',H',hbase,hq,r'⟩
theorem EV.block {c:Code} (h:EV P n c env bx H (blockQ id Q)):EV P n (.block id c) env bx H Q:=fun W0 β a W r=>by
 refine wp_block (wp_mono (h W0 β a W r) ?_)
 rintro e a' W' ⟨β',env',bx',H',hbase,hq,r'⟩
 cases e with
 | exit id' =>
  simp only [Exit.inBlock]
  by_cases hid:id'=id
  ·subst hid
   rw [if_pos rfl]
   unfold blockQ at hq;simp only [Nat.beq_refl] at hq
   exact ⟨β',env',bx',H',hbase,hq,r'⟩
  ·rw [if_neg hid]
   have hb:Nat.beq id' id=false:=by cases hb:Nat.beq id' id with | false=>rfl | true=>exact absurd (Nat.eq_of_beq_eq_true hb) hid
   unfold blockQ at hq;simp only [hb] at hq
   exact ⟨β',env',bx',H',hbase,hq,r'⟩
 | _=>exact ⟨β',env',bx',H',hbase,hq,r'⟩
theorem EV.cond {c:Operand} {x y:Code} {b:Bool} (hc:env.op c=some (.v (.bool b))) (ht:b=true→EV P n x env bx H Q) (hf:b=false→EV P n y env bx H Q):EV P n (.cond c x y) env bx H Q :=
 fun W0 β a W r=>wp_cond_split (t:=b) (r.op hc) (fun h=>ht h W0 β a W r) (fun h=>hf h W0 β a W r)
theorem EV.condT {c:Operand} {x y:Code} (hc:env.op c=some (.v (.bool true))) (ht:EV P n x env bx H Q):EV P n (.cond c x y) env bx H Q:=EV.cond hc (fun _=>ht) (fun h=>by cases h)
theorem EV.condF {c:Operand} {x y:Code} (hc:env.op c=some (.v (.bool false))) (hf:EV P n y env bx H Q):EV P n (.cond c x y) env bx H Q:=EV.cond hc (fun h=>by cases h) (fun _=>hf)
theorem EV.region {l:List Oper} (h:EVL P n l.toArray l env bx H Q):EV P n (.region id l.toArray false) env bx H Q:=fun W0 β a W r=>wp_region_lit (h W0 β a W r)
theorem EVL.nil {ops:Array Oper} (h:Q .normal env bx H):EVL P n ops [] env bx H Q:=fun _ β _ _ r=>wpList_nil ⟨β,env,bx,H,rfl,h,r⟩
end
def wantB (ops:Array Oper) (env:Env) (o:Oper):Option Bool:=match o.guard with
 | none=>some true
 | some (j,want)=>match (ops[j]?).bind (·.dst) with
  | some t=>match env.get t with
   | some (.v (.bool b))=>some (b == want)
   | some (.v (.tuple _))=>some false
   | _=>none
  | none=>none
theorem wantB_sound {ops:Array Oper} {env:Env} {o:Oper} {b:Bool} {β:Nat→Nat} {H:Hp} {a:Act} (h:wantB ops env o=some b)
  (he:∀ t s,(∃ j w,o.guard=some (j,w)∧(ops[j]?).bind (·.dst)=some t)→env.get t=some s→∃ x,a.tmps[t]?=some x∧s.rep β H x):Region.wanted o (yielded ops a.tmps)=b:=by
 unfold wantB at h
 unfold Region.wanted
 cases hg:o.guard with
 | none=>rw [hg] at h;cases h;rfl
 | some jw =>
  obtain ⟨j,want⟩:=jw
  rw [hg] at h
  simp only at h ⊢
  cases hd:(ops[j]?).bind (·.dst) with
  | none=>rw [hd] at h;cases h
  | some t =>
   rw [hd] at h
   simp only at h
   split at h
   ·rename_i b' hb'
    cases h
    obtain ⟨x,hx,hs⟩:=he t _ ⟨j,want,hg,hd⟩ hb'
    have hs':x=.bool b':=hs
    subst hs'
    simp only [yielded,hd,Option.bind_some,hx]
    cases b' <;> cases want <;> rfl
   ·rename_i vs hb'
    cases h
    obtain ⟨x,hx,hs⟩:=he t _ ⟨j,want,hg,hd⟩ hb'
    have hs':x=.tuple vs:=hs
    subst hs'
    simp only [yielded,hd,Option.bind_some,hx]
    cases want <;> rfl
   ·cases h
def pinB (bx:Bxs):SV→Bool
 | .p i _=>(bx.get i).isSome
 | _=>true
theorem Rel.put {n:Nat} {W0:World} {H0:Bs} {β:Nat→Nat} {env:Env} {bx:Bxs} {H:Hs} {a:Act} {W:World} (h:Rel n W0 H0 β env bx H a W) {d:Nat} (hd:Nat.blt d n=true) {s:SV} {x:Value} (hs:s.rep β H.ro x) (hp:pinB bx s=true) :
  Rel n W0 H0 β ((d,s)::env) bx H (a.put (some d) x) W:=by
 have hdn:d<n:=Nat.blt_eq.mp hd
 refine ⟨by simp [Act.put,h.size],by simp [Act.put,h.defers],fun t u hu=>?_,h.box,h.low,h.inj,fun t i off hu=>?_,h.fits,h.le,h.new,h.bel,h.glob,h.own,h.one⟩
 ·rw [Env.get_cons] at hu
  by_cases e:d=t
  ·subst e
   rw [if_pos rfl] at hu
   cases hu
   exact ⟨x,by simp [Act.put,h.size,hdn],hs⟩
  ·rw [if_neg e] at hu
   obtain ⟨y,hy,hr⟩:=h.slot t u hu
   exact ⟨y,by simp only [Act.put];rw [Array.getElem?_setIfInBounds_ne e];exact hy,hr⟩
 ·rw [Env.get_cons] at hu
  by_cases e:d=t
  ·rw [if_pos e] at hu
   cases hu
   exact hp
  ·rw [if_neg e] at hu
   exact h.pin t i off hu
theorem Rel.grow {n:Nat} {W0:World} {H0:Bs} {β:Nat→Nat} {env:Env} {bx:Bxs} {H:Hs} {H':Hp} {a:Act} {W W':World} (h:Rel n W0 H0 β env bx H a W) (hle:H.ro.Le H') (hf:Fits H' W') (hb:Below W.heap.size W W')
  (hn:Nw H.ro W.heap.size H' W'):Rel n W0 H0 β env bx ⟨H',H.ow,H.base⟩ a W':=by
 have hsz:W0.heap.size≤W.heap.size:=h.bel.size
 refine ⟨h.size,h.defers,fun t s hs=>?_,fun i T cs hg=>(h.box i T cs hg).below hb (h.box i T cs hg).lt,fun i hi=>⟨(h.low i hi).1,?_⟩,h.inj,h.pin,hf,h.le.trans hle,h.new.grow h.fits hb hsz hn,h.bel.trans (Kept.of_below hb _),h.glob,fun j b T cs hj=>?_,h.one⟩
 ·obtain ⟨x,hx,hr⟩:=h.slot t s hs
  exact ⟨x,hx,hr.mono hle⟩
 ·exact hn.gone (h.lt hi) (h.low i hi).2
 ·obtain ⟨h1,h2,h3,h4⟩:=h.own j b T cs hj
  exact ⟨h1.keep hb,h2,hn.gone h1.lt h3,h4⟩
section
variable {P:Program} {n:Nat} {ops:Array Oper} {o:Oper} {rest:List Oper} {env:Env} {bx:Bxs} {H:Hs} {Q:EQ} {τ:Tab} {d:Nat} {s:SV}
theorem Rel.want {W0:World} {H0:Bs} {β:Nat→Nat} {a:Act} {W:World} (r:Rel n W0 H0 β env bx H a W) {b:Bool} (hw:wantB ops env o=some b):Region.wanted o (yielded ops a.tmps)=b :=
 wantB_sound hw fun t s _ ht=>r.slot t s ht
theorem EVL.val (hτ:TabOk P τ) (hw:wantB ops env o=some true) (hd:o.dst=some d) (hn:Nat.blt d n=true) (hv:pval τ env bx o.op=some s) (hp:pinB bx s=true)
  (h:EVL P n ops rest ((d,s)::env) bx H Q):EVL P n ops (o::rest) env bx H Q:=fun W0 β a W r=>by
 obtain ⟨x,hx,hs⟩:=pval_sound hτ hv (fun y s _ hy=>r.op hy) r.box r.fits
 unfold wpList
 rw [if_pos (r.want hw)]
 refine .inl ?_
 unfold Oper.wp
 rw [hx,Oper.upon_value,hd]
 exact h W0 β _ W (r.put hn hs hp)
theorem EVL.skip (hw:wantB ops env o=some false) (hd:o.dst=some d) (hn:Nat.blt d n=true)
  (h:EVL P n ops rest ((d,.v undef)::env) bx H Q):EVL P n ops (o::rest) env bx H Q:=fun W0 β a W r=>by
 unfold wpList
 rw [if_neg (by rw [r.want hw];simp),hd]
 exact h W0 β _ W (r.put hn rfl rfl)
theorem Rel.newBox {W0:World} {H0:Bs} {β:Nat→Nat} {a:Act} {W:World} (r:Rel n W0 H0 β env bx H a W) (hn:Nat.blt d n=true) (hfr:bx.get d=none) (T:TypeId) (cs:List Value) :
  Rel n W0 H0 (fun i=>if i=d then W.heap.size else β i) ((d,.p d 0)::env) ((d,T,cs)::bx) H (a.put (some d) (.pointer (some ⟨W.heap.size,0,none⟩))) (W.alloc (.cells cs.toArray T)):=by
 have hdn:d<n:=Nat.blt_eq.mp hn
 have hsz:W0.heap.size≤W.heap.size:=r.bel.size
 have hbl:Below W.heap.size W (W.alloc (.cells cs.toArray T)):=(Below.refl _ _).alloc (Nat.le_refl _) _
 have hne:∀ i,(bx.get i).isSome=true→i≠d:=fun i hi e=>by subst e;rw [hfr] at hi;cases hi
 have isS:∀ i,(Bxs.get ((d,T,cs)::bx) i).isSome=true→i=d∨(i≠d∧(bx.get i).isSome=true):=fun i hi=>by
  rw [Bxs.get_cons] at hi
  by_cases e:d=i
  ·exact .inl e.symm
  ·rw [if_neg e] at hi;exact .inr ⟨fun e'=>e e'.symm,hi⟩
 refine ⟨by simp [Act.put,r.size],by simp [Act.put,r.defers],fun t u hu=>?_,fun i T' cs' hg=>?_,fun i hi=>?_,fun i j hi hj hij=>?_,fun t i off hu=>?_,r.fits.below hbl,r.le,r.new.alloc r.fits _,r.bel.alloc _,r.glob,fun j b T' cs' hj=>?_,r.one⟩
 ·rw [Env.get_cons] at hu
  by_cases e:d=t
  ·subst e
   rw [if_pos rfl] at hu
   cases hu
   exact ⟨_,by simp [Act.put,r.size,hdn];rfl,by simp [SV.rep]⟩
  ·rw [if_neg e] at hu
   obtain ⟨y,hy,hr⟩:=r.slot t u hu
   refine ⟨y,by simp only [Act.put];rw [Array.getElem?_setIfInBounds_ne e];exact hy,?_⟩
   cases u with
   | v x=>exact hr
   | p i off =>
    have:=hne i (r.pin t i off hu)
    simp only [SV.rep,if_neg this];exact hr
   | ro cs=>exact hr
 ·rw [Bxs.get_cons] at hg
  by_cases e:d=i
  ·subst e
   rw [if_pos rfl] at hg
   cases hg
   simp only [if_true]
   exact Box.new _ _ _
  ·rw [if_neg e] at hg
   simp only [if_neg (fun e'=>e e'.symm:¬ i=d)]
   exact (r.box i T' cs' hg).alloc _
 ·rcases isS i hi with rfl | ⟨h1,h2⟩
  ·simp only [if_true]
   refine ⟨hsz,?_⟩
   cases hc:H.ro W.heap.size with
   | none=>rfl
   | some c=>exact absurd (r.fits.lt (b:=W.heap.size) (by rw [hc];simp)) (Nat.lt_irrefl _)
  ·simp only [if_neg h1]
   exact r.low i h2
 ·rcases isS i hi with rfl | ⟨h1,h2⟩
  ·rcases isS j hj with rfl | ⟨h3,h4⟩
   ·rfl
   ·simp only [if_true,if_neg h3] at hij
    have:=r.lt h4;omega
  ·rcases isS j hj with rfl | ⟨h3,h4⟩
   ·simp only [if_true,if_neg h1] at hij
    have:=r.lt h2;omega
   ·simp only [if_neg h1,if_neg h3] at hij
    exact r.inj i j h2 h4 hij
 ·rw [Env.get_cons] at hu
  rw [Bxs.get_cons]
  by_cases e:d=t
  ·rw [if_pos e] at hu
   cases hu
   simp
  ·rw [if_neg e] at hu
   by_cases e':d=i
   ·rw [if_pos e'];rfl
   ·rw [if_neg e'];exact r.pin t i off hu
 ·obtain ⟨h1,h2,h3,h4⟩:=r.own j b T' cs' hj
  refine ⟨h1.alloc _,h2,h3,fun i hi=>?_⟩
  rcases isS i hi with rfl | ⟨h5,h6⟩
  ·simp only [if_true]
   have:=h1.lt;omega
  ·simp only [if_neg h5]
   exact h4 i h6
theorem EVL.alloc (hτ:TabOk P τ) {T:TypeId} (ho:o.op=.alloc T) (hg:o.guard=none) (hd:o.dst=some d) (hn:Nat.blt d n=true) {te:TE} (ht:τ.get T=some te) (hfr:bx.get d=none)
  (h:EVL P n ops rest ((d,.p d 0)::env) ((d,T,te.zero)::bx) H Q):EVL P n ops (o::rest) env bx H Q:=fun W0 β a W r=>by
 obtain ⟨z,hz,hzc⟩:=(hτ.get ht).zero
 refine wpList_plain hg fun K hK=>?_
 have hx:(execOp a.eval o).run P W=.ok (.value (.pointer (some ⟨W.heap.size,0,none⟩))) (W.alloc (.cells te.zero.toArray T)):=by
  unfold execOp
  simp [ho,Instr.alloc,hz,newVar,newRow,hzc]
 unfold Oper.wp
 rw [hx,Oper.upon_value,hd]
 exact hK _ _ (h W0 _ _ _ (r.newBox hn hfr T te.zero))
theorem EVL.box {T:TypeId} {y:Operand} (ho:o.op=.box T y) (hg:o.guard=none) (hd:o.dst=some d) (hn:Nat.blt d n=true) {v:Value} (hy:env.op y=some (.v v)) {l:List Value} (hl:boxL v=some l) (hfr:bx.get d=none)
  (h:EVL P n ops rest ((d,.p d 0)::env) ((d,T,l)::bx) H Q):EVL P n ops (o::rest) env bx H Q:=fun W0 β a W r=>by
 refine wpList_plain hg fun K hK=>?_
 have hv:a.eval y=v:=r.op hy
 have hx:(execOp a.eval o).run P W=.ok (.value (.pointer (some ⟨W.heap.size,0,none⟩))) (W.alloc (.cells l.toArray T)):=by
  unfold execOp
  simp [ho,Instr.box,hv,newVar,newRow,boxL_cells hl]
 unfold Oper.wp
 rw [hx,Oper.upon_value,hd]
 exact hK _ _ (h W0 _ _ _ (r.newBox hn hfr T l))
end
theorem kept_setCells (b:Nat):∀ (vs:List Value) (o:Nat) (w:World),Kept (fun k=>k=b) w (w.setCells b o vs)
 | [],_,w=>Kept.refl _ w
 | v::r,o,w=>(kept_set w ⟨b,o,none⟩ v).trans (kept_setCells b r (o+1) _)
theorem Box.setCells {b:Nat} {T:TypeId}:∀ (vs:List Value) (off:Nat) (w:World) (cs:List Value),Box w b cs.toArray T→off+vs.length≤cs.length→Box (w.setCells b off vs) b (cs.take off++vs++cs.drop (off+vs.length)).toArray T
 | [],off,w,cs,h,hl=>by simpa [World.setCells] using h
 | v::r,off,w,cs,h,hl=>by
  have h1:=h.set off v
  have e:(cs.toArray.setIfInBounds off v)=(cs.set off v).toArray:=by simp
  rw [e] at h1
  have h2:=Box.setCells r (off+1) _ (cs.set off v) h1 (by simp at hl ⊢;omega)
  have hl':off<cs.length:=by simp at hl;omega
  have e2:(cs.set off v).take (off+1)++r++(cs.set off v).drop (off+1+r.length)=cs.take off++v::r++cs.drop (off+(v::r).length):=by
   rw [List.drop_set_of_lt (by omega),List.take_set,List.take_succ_eq_append_getElem hl',List.set_append_right _ _ (by simp;omega)]
   simp [Nat.min_eq_left (Nat.le_of_lt hl'),Nat.add_assoc,Nat.add_comm 1]
  rw [e2] at h2
  exact h2
section
variable {P:Program} {n:Nat} {ops:Array Oper} {o:Oper} {rest:List Oper} {env:Env} {bx:Bxs} {H:Hs} {Q:EQ} {τ:Tab} {d:Nat} {s:SV}
theorem Rel.setBox {W0:World} {H0:Bs} {β:Nat→Nat} {a:Act} {W:World} (r:Rel n W0 H0 β env bx H a W) {i:Nat} {T:TypeId} {cs:List Value} (hg:bx.get i=some (T,cs)) (off:Nat) (vs:List Value) (hl:off+vs.length≤cs.length) :
  Rel n W0 H0 β env ((i,T,cs.take off++vs++cs.drop (off+vs.length))::bx) H a (W.setCells (β i) off vs):=by
 have k:=kept_setCells (β i) vs off W
 have hi:(bx.get i).isSome=true:=by rw [hg];rfl
 have isS:∀ j,(Bxs.get ((i,T,cs.take off++vs++cs.drop (off+vs.length))::bx) j).isSome=true→(bx.get j).isSome=true:=fun j hj=>by
  rw [Bxs.get_cons] at hj
  by_cases e:i=j
  ·subst e;exact hi
  ·rw [if_neg e] at hj;exact hj
 have hsz:W0.heap.size≤W.heap.size:=r.bel.size
 refine ⟨r.size,r.defers,r.slot,fun j T' cs' hj=>?_,fun j hj=>r.low j (isS j hj),fun j j' hj hj'=>r.inj j j' (isS j hj) (isS j' hj'),fun t j off' ht=>?_,fun b c hc=>?_,r.le,r.new.kept r.fits k (fun b hb e=>hb (by rw [e];exact (r.low i hi).2)),?_,r.glob,fun j b T' cs' hj=>?_,r.one⟩
 ·rw [Bxs.get_cons] at hj
  by_cases e:i=j
  ·subst e
   rw [if_pos rfl] at hj
   cases hj
   exact (r.box i T cs hg).setCells vs off W cs hl
  ·rw [if_neg e] at hj
   have hb:=r.box j T' cs' hj
   exact (k.block (β j) hb.lt (fun e'=>e (r.inj j i (by rw [hj];rfl) hi e').symm)).trans hb
 ·rw [Bxs.get_cons]
  by_cases e:i=j
  ·rw [if_pos e];rfl
  ·rw [if_neg e];exact r.pin t j off' ht
 ·have hne:b≠β i:=fun e=>by subst e;rw [(r.low i hi).2] at hc;cases hc
  rw [k.block b (r.fits.lt (by rw [hc];simp)) hne]
  exact r.fits b c hc
 ·exact r.bel.then k (fun j hj e=>absurd hj (by have:=(r.low i hi).1;omega))
 ·obtain ⟨h1,h2,h3,h4⟩:=r.own j b T' cs' hj
  exact ⟨(k.block b h1.lt (fun e=>h4 i hi e.symm)).trans h1,h2,h3,fun i' hi'=>h4 i' (isS i' hi')⟩
def oneB:List Value→Bool
 | []=>true
 | v::r=>v.oneCell' && oneB r
theorem oneB_mem:∀ {l:List Value},oneB l=true→∀ v∈l,v.oneCell'=true
 | [],_,v,hv=>by cases hv
 | u::r,h,v,hv=>by
  simp only [oneB,Bool.and_eq_true] at h
  rcases List.mem_cons.1 hv with rfl | hv
  ·exact h.1
  ·exact oneB_mem h.2 v hv
theorem EVL.store (hτ:TabOk P τ) {T:TypeId} {x y:Operand} (ho:o.op=.store T x y) (hg:o.guard=none) (hd:o.dst=none) {i off:Nat} (hx:env.op x=some (.p i off)) {v:Value} (hy:env.op y=some (.v v)) {te:TE} (ht:τ.get T=some te)
  {T':TypeId} {cs:List Value} (hi:bx.get i=some (T',cs)) {vs:List Value} (hvs:boxL v=some vs) (hl:Nat.beq vs.length te.size=true) (h1:oneB vs=true) {cs':List Value} (hw:wrK off vs cs some=some cs')
  (h:EVL P n ops rest env ((i,T',cs')::bx) H Q):EVL P n ops (o::rest) env bx H Q:=fun W0 β a W r=>by
 obtain ⟨e,hle⟩:=wrK_spec _ _ _ _ _ hw
 cases e
 have hbx:=r.box i T' cs hi
 have ex:a.eval x=.pointer (some ⟨β i,off,none⟩):=r.op hx
 have ey:a.eval y=v:=r.op hy
 have hlen:=Nat.eq_of_beq_eq_true hl
 have hsc:(storeCells ⟨β i,off,none⟩ vs 0).run P W=.ok () (W.setCells (β i) (off+0) vs) :=
  run_storeCells_cells (P:=P) (β i) off vs 0 W (fun j hj=>by rw [Nat.add_zero,cell_of_row W (β i) (off+j) _ T' (0,0) hbx];simp;omega) (fun j hj=>by exact hbx.free _) (fun u hu=>oneB_mem h1 u hu)
 rw [Nat.add_zero] at hsc
 refine wpList_plain hg fun K hK=>?_
 have hrun:(execOp a.eval o).run P W=.ok .skip (W.setCells (β i) off vs):=by
  unfold execOp
  simp only [ho,ex,ey,Instr.storeAt,Instr.sureAddr,storeVar,boxL_cells hvs,Sem.run_bind,Sem.run_pure,Result.andThen_ok,(hτ.get ht).size]
  simp [hlen,hsc]
 unfold Oper.wp
 rw [hrun,Oper.upon_skip,hd]
 exact hK _ _ (h W0 β a _ (r.setBox hi off vs hle))
end
theorem Rel.globW {n:Nat} {W0:World} {H0:Bs} {β:Nat→Nat} {env:Env} {bx:Bxs} {H:Hs} {a:Act} {W:World} (r:Rel n W0 H0 β env bx H a W):Fits gH W:=fun b c e=>by
 have h1:b<W0.heap.size:=r.glob.1.lt (b:=b) (by rw [e];simp)
 rw [r.bel.block b h1 (fun hb=>by have:=(r.glob.2 b hb).1;rw [this] at e;cases e)]
 exact r.glob.1 b c e
def Callable (P:Program) (f:FuncId):Prop:=∀ args w,(callFunc f args).run P w=.ok (.enter f args) w
structure PC (P:Program) (f:FuncId) (args:Array Value) (H:Hp) (Φ:Value→Hp→Prop):Prop where
 can:Callable P f
 run:∀ W,Fits H W→Fits gH W→Calls P f args W fun e W'=>∃ v H',e=.returned v∧Φ v H'∧H.Le H'∧Fits H' W'∧Below W.heap.size W W'∧Nw H W.heap.size H' W'
structure PV (P:Program) (f:FuncId) (args:Array Value) (v:Value):Prop where
 can:Callable P f
 run:∀ W,Fits gH W→Calls P f args W fun e W'=>e=.returned v∧Below W.heap.size W W'
theorem PV.pc {P:Program} {f:FuncId} {args:Array Value} {v:Value} (h:PV P f args v) (H:Hp):PC P f args H fun x H'=>x=v∧H'=H :=
 ⟨h.can,fun W hW hg=>(h.run W hg).mono fun e W' ⟨he,hb⟩=>⟨v,H,he,⟨rfl,rfl⟩,Hp.Le.refl H,hW.below hb,hb,Nw.refl _ _ _⟩⟩
theorem PC.mono {P:Program} {f:FuncId} {args:Array Value} {H:Hp} {Φ Ψ:Value→Hp→Prop} (h:PC P f args H Φ) (k:∀ v H',Φ v H'→H.Le H'→Ψ v H'):PC P f args H Ψ :=
 ⟨h.can,fun W hW hg=>(h.run W hW hg).mono fun e W' ⟨v,H',he,hΦ,hle,r⟩=>⟨v,H',he,k v H' hΦ hle,hle,r⟩⟩
def argsK {α:Type} (env:Env):List Operand→(List Value→Option α)→Option α
 | [],k=>k []
 | x::r,k=>match env.op x with
  | some (.v v)=>argsK env r fun l=>k (v::l)
  | _=>none
theorem argsK_spec {α:Type} (env:Env):∀ (l:List Operand) (k:List Value→Option α) (r:α),argsK env l k=some r→∃ vs,k vs=some r∧∀ (β:Nat→Nat) (H:Hp) (ev:Operand→Value),(∀ y s,y∈l→env.op y=some s→s.rep β H (ev y))→l.map ev=vs
 | [],k,r,h=>⟨[],h,fun _ _ _ _=>rfl⟩
 | x::l,k,r,h=>by
  unfold argsK at h
  split at h
  ·rename_i v hv
   obtain ⟨vs,hk,hm⟩:=argsK_spec env l _ r h
   refine ⟨v::vs,hk,fun β H ev he=>?_⟩
   have h1:ev x=v:=he x _ (List.mem_cons_self ..) hv
   rw [List.map_cons,h1,hm β H ev (fun y s hy=>he y s (List.mem_cons_of_mem _ hy))]
  ·cases h
section
variable {P:Program} {n:Nat} {ops:Array Oper} {o:Oper} {rest:List Oper} {env:Env} {bx:Bxs} {H:Hs} {Q:EQ} {τ:Tab} {d:Nat} {s:SV}
theorem run_call_enter {f:FuncId} (hc:Callable P f) {args:Array Operand} {tys:Array TypeId} {o:Oper} (ho:o.op=.call ⟨.value (.func f),args,tys⟩) {a:Act} {vs:List Value} (hv:args.toList.map a.eval=vs) (W:World) :
  (execOp a.eval o).run P W=.ok (.enter f vs.toArray) W:=by
 have hm:args.map a.eval=vs.toArray:=by rw [← hv,← Array.toList_map]
 unfold execOp
 simp only [ho,resolve,hm,Act.eval,Deferred.ofValue,Sem.run_bind,Sem.run_pure,Result.andThen_ok,invoke]
 simp [hc vs.toArray W]
theorem EVL.call {f:FuncId} {args:Array Operand} {tys:Array TypeId} (ho:o.op=.call ⟨.value (.func f),args,tys⟩) (hw:wantB ops env o=some true) (hd:o.dst=some d) (hn:Nat.blt d n=true)
  {vs:List Value} (ha:argsK env args.toList some=some vs) {Φ:Value→Hp→Prop} (hpc:PC P f vs.toArray H.ro Φ)
  (h:∀ v H',Φ v H'→H.ro.Le H'→EVL P n ops rest ((d,.v v)::env) bx ⟨H',H.ow,H.base⟩ Q):EVL P n ops (o::rest) env bx H Q:=fun W0 β a W r=>by
 obtain ⟨vs',hk,hm⟩:=argsK_spec env _ _ _ ha
 cases hk
 have hvs:=hm β H.ro a.eval (fun y s _ hy=>r.op hy)
 unfold wpList
 rw [if_pos (r.want hw)]
 refine .inl ?_
 unfold Oper.wp
 rw [run_call_enter hpc.can ho hvs,Oper.upon_enter]
 refine (hpc.run W r.fits r.globW).mono ?_
 rintro e W' ⟨v,H',rfl,hΦ,hle,hf,hb,hnew⟩
 rw [hd]
 exact h v H' hΦ hle W0 β _ W' ((r.grow hle hf hb hnew).put hn rfl rfl)
theorem EVL.callV {f:FuncId} {args:Array Operand} {tys:Array TypeId} (ho:o.op=.call ⟨.value (.func f),args,tys⟩) (hw:wantB ops env o=some true) (hd:o.dst=some d) (hn:Nat.blt d n=true)
  {vs:List Value} (ha:argsK env args.toList some=some vs) {v:Value} (hpc:PV P f vs.toArray v)
  (h:EVL P n ops rest ((d,.v v)::env) bx H Q):EVL P n ops (o::rest) env bx H Q :=
 EVL.call ho hw hd hn ha (hpc.pc H.ro) (by rintro _ _ ⟨rfl,rfl⟩ _;exact h)
end
def resK {α:Type} (τ:Tab) (env:Env) (bx:Bxs):List ResultVar→(List Value→Option α)→Option α
 | [],k=>k []
 | .tmp t::r,k=>match env.get t with
  | some (.v x)=>resK τ env bx r fun l=>k (x::l)
  | _=>none
 | .cell t T::r,k=>match env.get t,τ.get T with
  | some s,some te=>pload te s bx fun v=>resK τ env bx r fun l=>k (v::l)
  | _,_=>none
def one?:List Value→Option Value
 | [v]=>some v
 | l=>some (.tuple l.toArray)
def retQ (τ:Tab) (rs:List ResultVar) (Φ:Value→Hp→Prop):EQ
 | .normal,env,bx,H=>∃ v,resK τ env bx rs one?=some v∧Φ v H.ro
 | .ret,env,bx,H=>∃ v,resK τ env bx rs one?=some v∧Φ v H.ro
 | _,_,_,_=>False
theorem retQ.ret {τ:Tab} {rs:List ResultVar} {Φ:Value→Hp→Prop} {env:Env} {bx:Bxs} {H:Hs} {v:Value} (hv:resK τ env bx rs one?=some v) (h:Φ v H.ro):retQ τ rs Φ .ret env bx H:=⟨v,hv,h⟩
theorem retQ.normal {τ:Tab} {rs:List ResultVar} {Φ:Value→Hp→Prop} {env:Env} {bx:Bxs} {H:Hs} {v:Value} (hv:resK τ env bx rs one?=some v) (h:Φ v H.ro):retQ τ rs Φ .normal env bx H:=⟨v,hv,h⟩
def resF (tmps:Array Value):ResultVar→Sem Value
 | .tmp t=>pure (tmps.getD t undef)
 | .cell t T=>do loadVar T (← asAddr (tmps.getD t undef))
theorem resK_spec {P:Program} {τ:Tab} (hτ:TabOk P τ) {n:Nat} {W0:World} {H0:Bs} {β:Nat→Nat} {env:Env} {bx:Bxs} {H:Hs} {a:Act} {W:World} (r:Rel n W0 H0 β env bx H a W) {α:Type} :
  ∀ (rs:List ResultVar) (k:List Value→Option α) (x:α),resK τ env bx rs k=some x→∃ vs,k vs=some x ∧
   (rs.mapM (resF a.tmps)).run P W=.ok vs W
 | [],k,x,h=>⟨[],h,by simp⟩
 | .tmp t::rs,k,x,h=>by
  unfold resK at h
  split at h
  ·rename_i y hy
   obtain ⟨vs,hk,hr⟩:=resK_spec hτ r rs _ x h
   obtain ⟨z,hz,hs⟩:=r.slot t _ hy
   have hs':z=y:=hs
   subst hs'
   refine ⟨z::vs,hk,?_⟩
   have h1:(resF a.tmps (.tmp t)).run P W=.ok z W:=by simp [resF,Array.getD_eq_getD_getElem?,hz]
   rw [List.mapM_cons]
   simp only [Sem.run_bind,Sem.run_pure,h1,hr,Result.andThen_ok]
  ·cases h
 | .cell t T::rs,k,x,h=>by
  unfold resK at h
  split at h
  ·rename_i s te hs ht
   obtain ⟨z,hz,hrep⟩:=r.slot t _ hs
   obtain ⟨v,hv,hk⟩:=pload_sound hτ ht r.box r.fits hrep h
   obtain ⟨vs,hk',hr⟩:=resK_spec hτ r rs _ x hk
   refine ⟨v::vs,hk',?_⟩
   have hz':∃ ad,z=.pointer (some ad):=by
    cases s with
    | v _=>cases h
    | p i off=>exact ⟨_,hrep⟩
    | ro cs=>obtain ⟨b,off,c,e,_⟩:=hrep;exact ⟨_,e⟩
   obtain ⟨ad,rfl⟩:=hz'
   have hl:(loadVar T ad).run P W=.ok v W:=by
    simpa [Instr.loadAt,Instr.sureAddr] using hv
   have h1:(resF a.tmps (.cell t T)).run P W=.ok v W:=by simp [resF,Array.getD_eq_getD_getElem?,hz,asAddr,hl]
   rw [List.mapM_cons]
   simp only [Sem.run_bind,Sem.run_pure,h1,hr,Result.andThen_ok]
  ·cases h
theorem results_of {P:Program} {τ:Tab} (hτ:TabOk P τ) {fn:Func} {n:Nat} {W0:World} {H0:Bs} {β:Nat→Nat} {env:Env} {bx:Bxs} {H:Hs} {a:Act} {W:World} (r:Rel n W0 H0 β env bx H a W) {v:Value}
  (h:resK τ env bx fn.results.toList one?=some v):(results fn a.tmps).run P W=.ok v W:=by
 obtain ⟨vs,hk,hr⟩:=resK_spec hτ r _ _ _ h
 have:(fn.results.mapM (resF a.tmps)).run P W=.ok vs.toArray W:=by
  rw [← Array.toArray_toList (xs:=fn.results),List.mapM_toArray]
  simp [hr]
 have e:results fn a.tmps=(do let vs ← fn.results.mapM (resF a.tmps);pure (if h:vs.size=1 then vs[0] else .tuple vs)):=by
  unfold results
  congr 1
 rw [e,Sem.run_bind,this]
 simp only [Result.andThen_ok,Sem.run_pure]
 unfold one? at hk
 split at hk
 ·cases hk;simp
 ·rename_i hne
  cases hk
  rw [dif_neg]
  intro e
  match vs,e with
  | [x],_=>exact hne x rfl
def argEnv:Nat→List Value→Env
 | _,[]=>[]
 | k,v::r=>(k,.v v)::argEnv (k+1) r
theorem argEnv_get:∀ (l:List Value) (k t:Nat) (s:SV),Env.get (argEnv k l) t=some s→∃ x,s=.v x∧k≤t∧l[t-k]?=some x
 | [],k,t,s,h=>by cases h
 | v::r,k,t,s,h=>by
  unfold argEnv at h
  rw [Env.get_cons] at h
  by_cases e:k=t
  ·subst e;rw [if_pos rfl] at h;cases h;exact ⟨v,rfl,Nat.le_refl _,by simp⟩
  ·rw [if_neg e] at h
   obtain ⟨x,h1,h2,h3⟩:=argEnv_get r (k+1) t s h
   exact ⟨x,h1,by omega,by rw [show t-k=(t-(k+1))+1 by omega];simpa using h3⟩
theorem cOf {P:Program} {f:FuncId} {fn:Func} {c:Code} (hf:P.funcs[f]?=some fn) (hb:fn.body=some c) (hn:(fn.name == "runtime.NumGoroutine")=false):Callable P f:=fun args w=>by
 have hn':¬ fn.name = "runtime.NumGoroutine" := by simpa using hn
 unfold callFunc
 simp [hf,hn',hb]
theorem PC.body {P:Program} {τ:Tab} (hτ:TabOk P τ) {f:FuncId} {fn:Func} {c:Code} (hf:P.funcs[f]?=some fn) (hb:fn.body=some c) (hname:(fn.name == "runtime.NumGoroutine")=false) {n:Nat} (hn:fn.ntmps=n) {rs:List ResultVar} (hrs:fn.results.toList=rs)
  {args:List Value} (hl:Nat.ble args.length n=true) {H:Hp} {Φ:Value→Hp→Prop} (h:EV P n c (argEnv 0 args) [] ⟨H,[],⟨H,[]⟩⟩ (retQ τ rs Φ)):PC P f args.toArray H Φ:=by
 refine ⟨cOf hf hb hname,fun W hW hgl=>?_⟩
 have hle:=Nat.le_of_ble_eq_true hl
 refine calls_of_wp hf hb (wp_mono (h W (fun _=>0) _ W ?_) ?_)
 ·refine ⟨by simp [hn];omega,rfl,fun t s hs=>?_,fun i T cs hg=>(by cases hg),fun i hi=>(by cases hi),fun i j hi=>(by cases hi),fun t i off ht=>?_,hW,Hp.Le.refl H,Nw.refl _ _ _,Kept.refl _ _,⟨hgl,fun b hb=>by cases hb⟩,fun j b T cs hj=>(by simp at hj),fun j j' b T T' cs cs' hj=>(by simp at hj)⟩
  ·obtain ⟨x,rfl,_,hx⟩:=argEnv_get args 0 t s hs
   rw [Nat.sub_zero] at hx
   have hlt:t<args.length:=(List.getElem?_eq_some_iff.1 hx).1
   exact ⟨x,by rw [Array.getElem?_append_left (by simpa using hlt)];simpa using hx,rfl⟩
  ·obtain ⟨x,hx,_⟩:=argEnv_get args 0 t _ ht
   cases hx
 ·rintro e a W' ⟨β,env,bx,H',_,hq,r⟩
  have fin:∀ v,resK τ env bx rs one?=some v→Φ v H'.ro→a.defers=[]∧∃ v,(results fn a.tmps).run P W'=.ok v W'∧∃ u H'',Ending.returned v=.returned u∧Φ u H''∧H.Le H''∧Fits H'' W'∧Below W.heap.size W W'∧Nw H W.heap.size H'' W' :=
   fun v hv hΦ=>⟨r.defers,v,results_of hτ r (by rw [hrs];exact hv),v,H'.ro,rfl,hΦ,r.le,r.fits,r.bel.below _ (Nat.le_refl _) (fun _ _ hb=>by cases hb),r.new⟩
  cases e with
  | normal=>obtain ⟨v,hv,hΦ⟩:=hq;exact fin v hv hΦ
  | ret=>obtain ⟨v,hv,hΦ⟩:=hq;exact fin v hv hΦ
  | _=>exact hq.elim
theorem PV.of_pc {P:Program} {f:FuncId} {args:Array Value} {v:Value} (h:PC P f args (fun _=>none) fun x _=>x=v):PV P f args v :=
 ⟨h.can,fun W hg=>(h.run W (fun b c e=>by cases e) hg).mono fun e W' ⟨x,H',he,hx,_,_,hb,_⟩=>⟨by rw [he,hx],hb⟩⟩
inductive Kd where
 | val (Sp:Value→World→Prop)
 | fresh (T:TypeId) (z:Array Value) (st:Nat) (cs:Array Value)
 | store (al:Nat)
def ptrV (b:Nat):Value:=.pointer (some ⟨b,0,none⟩)
def QF:Exit→Act→World→Prop:=fun _ _ _=>False
section
variable (ops:Array Oper)
def dstOf (i:Nat):Option Tmp:=(ops[i]?).bind (·.dst)
def upd (x:Nat→Value) (i:Nat) (v:Value):Nat→Value:=fun j=>if j=i then v else x j
def seesB (i:Nat):Bool :=
 match ops[i]? with
 | none=>true
 | some o=>(o.looksAt ops).all fun d=>(List.range ops.size).all fun j=>dstOf ops j != some d || (decide (j<i) && Region.waitsFor .any ops i j) || j == i || (decide (i<j) && Region.waitsFor .any ops j i)
def goodB (m n:Nat):Bool :=
 (List.range m).all (fun i=>seesB ops i) &&
 (List.range ops.size).all (fun i=>(match dstOf ops i with | some d=>decide (d<n) | none=>true) && (List.range ops.size).all fun j=>i == j || dstOf ops i == none || dstOf ops i != dstOf ops j) &&
 Region.noSelect ops
def edgesB:Bool:=(List.range ops.size).all fun i=>match ops[i]? with
 | none=>true
 | some o=>o.after.all fun e => !Region.binds .any e || decide (e.on<i)
end
theorem getD_set_self {L:Array Bool} {i:Nat} (h:i<L.size):(L.setIfInBounds i true).getD i false=true:=by simp [h]
theorem getD_set_or {L:Array Bool} {i j:Nat} (h:(L.setIfInBounds i true).getD j false=true):j=i∨L.getD j false=true:=by
 by_cases e:i=j
 ·exact .inl e.symm
 ·right;rw [getD_set_ne false e] at h;exact h
theorem waits_of {ops:Array Oper} {i j:Nat} {L:Array Bool} (h:Region.waitsFor .any ops i j=true) (hr:i∈Region.ready .any ops L):L.getD j false=true:=by
 obtain ⟨oi,hoi,e,he,hb,hon⟩:=Region.waitsFor_spec h
 obtain ⟨_,o,ho,hall⟩:=mem_ready.1 hr
 have:o=oi:=Option.some.inj (ho.symm.trans hoi)
 subst this
 rw [← hon];exact hall e he hb
theorem waits_not {md:Region.Mode} {ops:Array Oper} {m i j:Nat} {L:Array Bool} (inv:HeadInv md ops m L) (h:Region.waitsFor md ops j i=true) (hi:L.getD i false=false):L.getD j false=false:=by
 obtain ⟨oj,hoj,e,he,hb,hon⟩:=Region.waitsFor_spec h
 cases hl:L.getD j false with
 | false=>rfl
 | true =>
  have:=inv.closed j oj hoj hl e he hb
  rw [hon,hi] at this
  cases this
theorem dst_lt {ops:Array Oper} {m n i:Nat} {d:Tmp} (h:goodB ops m n=true) (hd:dstOf ops i=some d):d<n:=by
 simp only [goodB,Bool.and_eq_true] at h
 have hi:i<ops.size:=by
  unfold dstOf at hd
  cases ho:ops[i]? with
  | none=>rw [ho] at hd;cases hd
  | some o=>exact (Array.getElem?_eq_some_iff.1 ho).1
 have:=List.all_eq_true.1 h.1.2 i (List.mem_range.2 hi)
 simp only [hd,Bool.and_eq_true,decide_eq_true_eq] at this
 exact this.1
theorem dst_inj {ops:Array Oper} {m n i j:Nat} {d:Tmp} (h:goodB ops m n=true) (hi:dstOf ops i=some d) (hj:dstOf ops j=some d):i=j:=by
 have hlt:∀ {k},dstOf ops k=some d→k<ops.size:=fun {k} hd=>by
  unfold dstOf at hd
  cases ho:ops[k]? with
  | none=>rw [ho] at hd;cases hd
  | some o=>exact (Array.getElem?_eq_some_iff.1 ho).1
 simp only [goodB,Bool.and_eq_true] at h
 have h1:=List.all_eq_true.1 h.1.2 i (List.mem_range.2 (hlt hi))
 simp only [Bool.and_eq_true] at h1
 have h2:=List.all_eq_true.1 h1.2 j (List.mem_range.2 (hlt hj))
 rw [hi,hj] at h2
 simpa using h2
section
variable {P:Program} {ops:Array Oper} {a0:Act} {m base:Nat} {ks:Nat→Kd} {C:World→Prop} {w0:World} {L:Array Bool} {a:Act} {w:World} {x:Nat→Value}
variable {Q:Exit→Act→World→Prop} {Ts:List TypeId}
def unl (L:Array Bool) (m:Nat):Nat:=((List.range m).filter fun i=>L.getD i false == false).length
theorem unl_set {L:Array Bool} {m i:Nat} (hi:i<m) (hl:i<L.size) (hun:L.getD i false=false):unl (L.setIfInBounds i true) m+1=unl L m:=by
 unfold unl
 induction m with
 | zero=>omega
 | succ m ih =>
  rw [List.range_succ,List.filter_append,List.filter_append,List.length_append,List.length_append]
  by_cases e:i=m
  ·subst e
   have h1:((List.range i).filter fun j=>(L.setIfInBounds i true).getD j false == false)=(List.range i).filter fun j=>L.getD j false == false:=by
    apply List.filter_congr
    intro j hj
    have:=List.mem_range.1 hj
    rw [getD_set_ne false (by omega)]
   rw [h1]
   have h2:=getD_set_self (L:=L) hl
   simp only [List.filter_cons,List.filter_nil,h2,hun]
   simp
  ·have:=ih (by omega)
   simp only [List.filter_cons,List.filter_nil,getD_set_ne false e]
   omega
theorem unl_zero {L:Array Bool} {m:Nat} (h:unl L m=0):∀ i,i<m→L.getD i false=true:=by
 intro i hi
 unfold unl at h
 have:=List.eq_nil_of_length_eq_zero h
 rw [List.filter_eq_nil_iff] at this
 have:=this i (List.mem_range.2 hi)
 simpa using this
theorem ready_some (he:edgesB ops=true) (hs:L.size=ops.size):∀ (n i:Nat),i≤n→i<ops.size→L.getD i false=false→Region.ready .any ops L≠[]:=by
 intro n
 induction n with
 | zero =>
  intro i hi hlt hun hnil
  obtain rfl:i=0:=by omega
  exact here 0 hlt hun (fun j hj=>by omega) hnil
 | succ n ih =>
  intro i hi hlt hun hnil
  by_cases hex:∃ j,j<i∧L.getD j false=false
  ·obtain ⟨j,hj,hjun⟩:=hex
   exact ih j (by omega) (by omega) hjun hnil
  ·refine here i hlt hun (fun j hj=>?_) hnil
   cases hl:L.getD j false with
   | true=>rfl
   | false=>exact absurd ⟨j,hj,hl⟩ hex
where
 here (i:Nat) (hlt:i<ops.size) (hun:L.getD i false=false) (hall:∀ j,j<i→L.getD j false=true) (hnil:Region.ready .any ops L=[]):False:=by
  have:i∈Region.ready .any ops L:=by
   refine mem_ready.2 ⟨getD_in (by rw [hs];exact hlt) hun,ops[i],Array.getElem?_eq_getElem hlt,fun e hmem hb=>hall _ ?_⟩
   have h1:=List.all_eq_true.1 he i (List.mem_range.2 hlt)
   simp only [Array.getElem?_eq_getElem hlt] at h1
   have h2:=Array.all_eq_true_iff_forall_mem.1 h1 e hmem
   simpa [hb] using h2
  rw [hnil] at this;cases this
def regB (ops:Array Oper) (m n:Nat):Bool :=
 edgesB ops && goodB ops m n && decide (m≤ops.size) && (m == ops.size || (decide (m<ops.size) && Region.sinkB .any ops m && Region.chainB .any ops m)) &&
 Region.seqB .any ops (ops.size-m) m (Array.replicate m true++Array.replicate (ops.size-m) false)
end
inductive SC where
 | k (vs:List Value)
 | f (q:Nat) (g:Value→List Value)
def SC.at (x:Nat→Value):SC→List Value
 | .k vs=>vs
 | .f q g=>g (x q)
def SC.deps (p:Nat→Prop):SC→Prop
 | .k _=>True
 | .f q _=>p q
theorem SC.deps.mono {p p':Nat→Prop} {c:SC} (h:c.deps p) (k:∀ q,p q→p' q):c.deps p':=by
 cases c with
 | k vs=>trivial
 | f q g=>exact k q h
inductive DK where
 | sv (s:SV)
 | call (Φ:Value→Hp→Prop)
 | own (Φ:Value→Ows→Prop)
 | fn (j:Nat) (f:Value→Value)
 | fresh (d:Nat) (T:TypeId) (z:List Value)
 | store (al:Nat) (vs:SC)
 | setb (d:Nat) (T:TypeId) (vs:SC)
abbrev Fcts:=List (Nat × (Hp→Prop))
def reachN (ops:Array Oper):Nat→Nat→Nat→Bool
 | 0,_,_=>false
 | f+1,i,j=>Region.waitsFor .any ops i j || (List.range ops.size).any fun k=>Region.waitsFor .any ops i k && reachN ops f k j
def reach (ops:Array Oper) (i j:Nat):Bool:=reachN ops ops.size i j
theorem reachN_done {ops:Array Oper} {m:Nat} {L:Array Bool} (inv:HeadInv .any ops m L):∀ (f k j:Nat),L.getD k false=true→reachN ops f k j=true→L.getD j false=true
 | 0,_,_,_,h=>by cases h
 | f+1,k,j,hk,h=>by
  have step:∀ q,Region.waitsFor .any ops k q=true→L.getD q false=true:=fun q hq=>by
   obtain ⟨o,ho,e,he,hb,hon⟩:=Region.waitsFor_spec hq
   rw [← hon];exact inv.closed k o ho hk e he hb
  unfold reachN at h
  rcases Bool.or_eq_true_iff.1 h with h | h
  ·exact step j h
  ·obtain ⟨q,_,hq⟩:=List.any_eq_true.1 h
   simp only [Bool.and_eq_true] at hq
   exact reachN_done inv f q j (step q hq.1) hq.2
theorem reach_of {ops:Array Oper} {m:Nat} {L:Array Bool} (inv:HeadInv .any ops m L) {i j:Nat} (hr:i∈Region.ready .any ops L) (h:reach ops i j=true):L.getD j false=true:=by
 unfold reach at h
 cases hs:ops.size with
 | zero=>rw [hs] at h;cases h
 | succ f =>
  rw [hs] at h
  unfold reachN at h
  rcases Bool.or_eq_true_iff.1 h with h | h
  ·exact waits_of h hr
  ·obtain ⟨q,_,hq⟩:=List.any_eq_true.1 h
   simp only [Bool.and_eq_true] at hq
   exact reachN_done inv f q j (waits_of hq.1 hr) hq.2
def DepF (ops:Array Oper) (i:Nat) (Γ:Fcts) (G:Hp):Prop:=∀ j F,(j,F)∈Γ→reach ops i j=true→F G
theorem DepF.head {ops:Array Oper} {i j:Nat} {F:Hp→Prop} {Γ:Fcts} {G:Hp} (h:DepF ops i ((j,F)::Γ) G) (hw:reach ops i j=true):F G:=h j F (List.mem_cons_self ..) hw
theorem DepF.tail {ops:Array Oper} {i:Nat} {p:Nat × (Hp→Prop)} {Γ:Fcts} {G:Hp} (h:DepF ops i (p::Γ) G):DepF ops i Γ G:=fun j F hm=>h j F (List.mem_cons_of_mem _ hm)
def AllF:Fcts→Hp→Prop
 | [],_=>True
 | (_,F)::Γ,G=>F G∧AllF Γ G
def BoxesAt (bx:Bxs) (β:Nat→Nat) (W:World):Prop:=∀ i T cs,bx.get i=some (T,cs)→Box W (β i) cs.toArray T
def SeesAt (ops:Array Oper) (o:Oper) (env:Env) (β:Nat→Nat) (G:Hp) (a:Act):Prop:=∀ t s,t∈o.looksAt ops→env.get t=some s→∃ x,a.tmps[t]?=some x∧s.rep β G x
theorem SeesAt.op {ops:Array Oper} {o:Oper} {env:Env} {β:Nat→Nat} {G:Hp} {a:Act} (h:SeesAt ops o env β G a) {y:Operand} {s:SV} (hm:y∈o.op.operands) (hy:env.op y=some s):s.rep β G (a.eval y):=by
 cases y with
 | tmp t =>
  obtain ⟨x,hx,hs⟩:=h t s (List.mem_append_left _ (List.mem_filterMap.2 ⟨.tmp t,by simpa using hm,rfl⟩)) hy
  simp only [Act.eval,Array.getD_eq_getD_getElem?,hx,Option.getD_some];exact hs
 | const v=>cases hy;rfl
 | global g=>cases hy
 | func f=>cases hy;rfl
theorem SeesAt.want {ops:Array Oper} {o:Oper} {env:Env} {β:Nat→Nat} {G:Hp} {a:Act} (h:SeesAt ops o env β G a) {b:Bool} (hw:wantB ops env o=some b):Region.wanted o (yielded ops a.tmps)=b :=
 wantB_sound hw fun t s ⟨j,w,hg,hd⟩ ht=>h t s (List.mem_append_right _ (by simp [hg,hd])) ht
def OwnsAt (ow:Ows) (W:World):Prop:=∀ (j b:Nat) (T:TypeId) (cs:List Value),ow[j]?=some (b,T,cs)→Box W b cs.toArray T
def ValOk (P:Program) (ops:Array Oper) (o:Oper) (env:Env) (bx:Bxs) (ow:Ows) (H:Hp) (F:Hp→Prop) (R:(Nat→Nat)→Value→Hp→Prop):Prop :=
 ∀ (β:Nat→Nat) (a:Act) (W:World) (G:Hp),H.Le G→Fits G W→Fits gH W→BoxesAt bx β W→OwnsAt ow W→SeesAt ops o env β G a→F G →
  if Region.wanted o (yielded ops a.tmps)=true then Oper.wp P o a W (fun a' W'=>∃ v G',a'=a.put o.dst v∧R β v G'∧G.Le G'∧Fits G' W'∧Below W.heap.size W W'∧Nw G W.heap.size G' W') QF else R β undef G
def AllocOk (P:Program) (o:Oper) (T:TypeId) (z:List Value):Prop:=∀ (a:Act) (W:World) (K:Act→World→Prop),K (a.put o.dst (ptrV W.heap.size)) (W.alloc (.cells z.toArray T))→Oper.wp P o a W K QF
def StoreOk (P:Program) (ops:Array Oper) (o:Oper) (env:Env) (F:Hp→Prop) (d:Nat) (T:TypeId) (z vs:List Value):Prop :=
 ∀ (β:Nat→Nat) (a:Act) (W:World) (G:Hp),SeesAt ops o env β G a→F G→Box W (β d) z.toArray T→∀ K:Act→World→Prop,(∀ W',Box W' (β d) vs.toArray T→Kept (fun k=>k=β d) W W'→K a W')→Oper.wp P o a W K QF
def OwNew (m:Nat) (W:World) (ow:Ows):Prop:=ow.length≤1∧∀ b T cs,(b,T,cs)∈ow→m≤b∧Box W b cs.toArray T
def OwnOk (P:Program) (ops:Array Oper) (o:Oper) (env:Env) (bx:Bxs) (H:Hp) (F:Hp→Prop) (Φ:Value→Ows→Prop):Prop :=
 ∀ (β:Nat→Nat) (a:Act) (W:World) (G:Hp),H.Le G→Fits G W→Fits gH W→BoxesAt bx β W→SeesAt ops o env β G a→F G →
  Oper.wp P o a W (fun a' W'=>∃ v ow,a'=a.put o.dst v∧Φ v ow∧OwNew W.heap.size W' ow∧Below W.heap.size W W') QF
def FnOk (P:Program) (ops:Array Oper) (o:Oper) (env:Env) (bx:Bxs) (F:Hp→Prop) (v:Value):Prop :=
 ∀ (β:Nat→Nat) (a:Act) (W:World) (G:Hp),Fits G W→BoxesAt bx β W→SeesAt ops o env β G a→F G→∀ K:Act→World→Prop,K (a.put o.dst v) W→Oper.wp P o a W K QF
section
variable (P:Program) (n:Nat) (ops:Array Oper) (tail:List Oper) (sb bx:Bxs) (H:Hs) (Q:EQ) (x:Nat→Value) (y:Nat→Ows) (kl:List DK)
def DJ:Nat→List Oper→List DK→Env→Bxs→Fcts→Ows→Prop
 | _,[],[],env,bx',Γ,ow'=>∀ G,H.ro.Le G→AllF Γ G→EVL P n ops tail env bx' ⟨G,ow',H.base⟩ Q
 | i,o::l,.sv s::ks,env,bx',Γ,ow'=>∃ d,o.dst=some d∧Nat.blt d n=true∧pinB (sb++bx) s=true∧ValOk P ops o env bx H.ow H.ro (DepF ops i Γ) (fun β v G=>s.rep β G v)∧DJ (i+1) l ks ((d,s)::env) bx' Γ ow'
 | i,o::l,.call Φ::ks,env,bx',Γ,ow'=>∃ d,o.dst=some d∧Nat.blt d n=true∧(∀ v G G',Φ v G→G.Le G'→Φ v G')∧ValOk P ops o env bx H.ow H.ro (DepF ops i Γ) (fun _ v G=>Φ v G)∧DJ (i+1) l ks ((d,.v (x i))::env) bx' ((i,Φ (x i))::Γ) ow'
 | i,o::l,.own Φ::ks,env,bx',Γ,ow'=>∃ d,o.dst=some d∧Nat.blt d n=true∧o.guard=none∧OwnOk P ops o env bx H.ro (DepF ops i Γ) Φ∧DJ (i+1) l ks ((d,.v (x i))::env) bx' ((i,fun _=>Φ (x i) (y i))::Γ) (y i++ow')
 | i,o::l,.fn j f::ks,env,bx',Γ,ow'=>∃ d,o.dst=some d∧Nat.blt d n=true∧o.guard=none∧reach ops i j=true∧FnOk P ops o env bx (DepF ops i Γ) (f (x j))∧DJ (i+1) l ks ((d,.v (f (x j)))::env) bx' Γ ow'
 | i,o::l,.fresh d T z::ks,env,bx',Γ,ow'=>o.dst=some d∧Nat.blt d n=true∧(sb++bx).get d=none∧o.guard=none∧AllocOk P o T z∧DJ (i+1) l ks ((d,.p d 0)::env) ((d,T,z)::bx') Γ ow'
 | i,o::l,.store al vs::ks,env,bx',Γ,ow'=>o.dst=none∧o.guard=none∧∃ d T z,kl[al]?=some (.fresh d T z)∧Nat.blt al i=true∧Region.waitsFor .any ops i al=true∧vs.deps (fun q=>reach ops i q=true)∧StoreOk P ops o env (DepF ops i Γ) d T z (vs.at x)∧DJ (i+1) l ks env ((d,T,vs.at x)::bx') Γ ow'
 | i,o::l,.setb d T vs::ks,env,bx',Γ,ow'=>o.dst=none∧o.guard=none∧∃ z,sb.get d=some (T,z)∧vs.deps (fun q=>reach ops i q=true)∧StoreOk P ops o env (DepF ops i Γ) d T z (vs.at x)∧DJ (i+1) l ks env ((d,T,vs.at x)::bx') Γ ow'
 | _,_,_,_,_,_,_=>False
end
section
variable {P:Program} {n:Nat} {ops:Array Oper} {tail:List Oper} {sb bx:Bxs} {ow:Ows} {H:Hs} {Q:EQ} {x:Nat→Value} {y:Nat→Ows} {ow':Ows} {kl:List DK} {i:Nat} {o:Oper} {l:List Oper} {ks:List DK} {env:Env} {bx':Bxs} {Γ:Fcts} {τ:Tab} {d:Nat} {s:SV}
theorem Oper.wp_any {o:Oper} {a:Act} {w:World} {K:Act→World→Prop} {Q:Exit→Act→World→Prop} (h:Oper.wp P o a w K QF):Oper.wp P o a w K Q:=by
 unfold Oper.wp at *
 generalize (execOp a.eval o).run P w=r at *
 cases r with
 | ok m w' =>
  cases m <;> simp only [Oper.upon] at h ⊢ <;> try exact h
  case enter f args =>
   refine h.mono fun e w'' he=>?_
   cases e with
   | returned v=>exact he
   | panicked c=>exact he.elim
   | outgrown=>obtain ⟨_,_,h⟩:=he;exact h.elim
 | halt y w' =>
  cases y <;> simp only [Oper.upon] at h ⊢
  case panic v=>exact h.elim
theorem ValOk.plain (hτ:TabOk P τ) (hw:wantB ops env o=some true) (hv:pval τ env bx o.op=some s) {R:Hp} {F:Hp→Prop}:ValOk P ops o env bx ow R F (fun β v G=>s.rep β G v) :=
 fun β a W G _ hf _ hb _ hs _=>by
  obtain ⟨v,hx,hr⟩:=pval_sound hτ hv (fun y s hm hy=>hs.op hm hy) hb hf
  rw [if_pos (hs.want hw)]
  unfold Oper.wp
  rw [hx,Oper.upon_value]
  exact ⟨v,G,rfl,hr,Hp.Le.refl G,hf,Below.refl _ _,Nw.refl _ _ _⟩
theorem ValOk.skip (hw:wantB ops env o=some false) {R:Hp} {F:Hp→Prop}:ValOk P ops o env bx ow R F (fun β v G=>(SV.v undef).rep β G v) :=
 fun β a W G _ hf _ hb _ hs _=>by rw [if_neg (by rw [hs.want hw];simp)];rfl
theorem ValOk.callG {f:FuncId} {args:Array Operand} {tys:Array TypeId} (ho:o.op=.call ⟨.value (.func f),args,tys⟩) (hw:wantB ops env o=some true) {vs:List Value} (ha:argsK env args.toList some=some vs) {F:Hp→Prop} {Φ:Value→Hp→Prop} (hc:Callable P f) {R:Hp}
  (hpc:∀ G,R.Le G→F G→PC P f vs.toArray G Φ):ValOk P ops o env bx ow R F (fun _ v G=>Φ v G):=fun β a W G hle hf hgl hb _ hs hF=>by
 obtain ⟨vs',hk,hm⟩:=argsK_spec env _ _ _ ha
 cases hk
 have hvs:=hm β G a.eval (fun y s hy=>hs.op (by simp [ho,Op.operands,Call.operands];exact .inr (by simpa using hy)))
 rw [if_pos (hs.want hw)]
 unfold Oper.wp
 rw [run_call_enter hc ho hvs,Oper.upon_enter]
 refine ((hpc G hle hF).run W hf hgl).mono ?_
 rintro e W' ⟨v,H',rfl,hΦ,hle',hf',hb',hnew⟩
 exact ⟨v,H',rfl,hΦ,hle',hf',hb',hnew⟩
theorem DJ.val (hτ:TabOk P τ) (hw:wantB ops env o=some true) (hd:o.dst=some d) (hn:Nat.blt d n=true) (hv:pval τ env bx o.op=some s) (hp:pinB (sb++bx) s=true)
  (h:DJ P n ops tail sb bx H Q x y kl (i+1) l ks ((d,s)::env) bx' Γ ow'):DJ P n ops tail sb bx H Q x y kl i (o::l) (.sv s::ks) env bx' Γ ow':=⟨d,hd,hn,hp,ValOk.plain hτ hw hv,h⟩
theorem DJ.skip (hw:wantB ops env o=some false) (hd:o.dst=some d) (hn:Nat.blt d n=true)
  (h:DJ P n ops tail sb bx H Q x y kl (i+1) l ks ((d,.v undef)::env) bx' Γ ow'):DJ P n ops tail sb bx H Q x y kl i (o::l) (.sv (.v undef)::ks) env bx' Γ ow':=⟨d,hd,hn,rfl,ValOk.skip hw,h⟩
theorem DJ.callV {f:FuncId} {args:Array Operand} {tys:Array TypeId} (ho:o.op=.call ⟨.value (.func f),args,tys⟩) (hw:wantB ops env o=some true) (hd:o.dst=some d) (hn:Nat.blt d n=true)
  {vs:List Value} (ha:argsK env args.toList some=some vs) {v:Value} (hpc:PV P f vs.toArray v)
  (h:DJ P n ops tail sb bx H Q x y kl (i+1) l ks ((d,.v v)::env) bx' Γ ow'):DJ P n ops tail sb bx H Q x y kl i (o::l) (.sv (.v v)::ks) env bx' Γ ow':=by
 refine ⟨d,hd,hn,rfl,?_,h⟩
 have:=ValOk.callG (P:=P) (ops:=ops) (bx:=bx) (ow:=H.ow) (R:=H.ro) (F:=DepF ops i Γ) (Φ:=fun u _=>u=v) ho hw ha hpc.can (fun G _ _=>(hpc.pc G).mono fun _ _ h _=>h.1)
 exact this
theorem DJ.call {f:FuncId} {args:Array Operand} {tys:Array TypeId} (ho:o.op=.call ⟨.value (.func f),args,tys⟩) (hw:wantB ops env o=some true) (hd:o.dst=some d) (hn:Nat.blt d n=true)
  {vs:List Value} (ha:argsK env args.toList some=some vs) (hc:Callable P f) {Φ:Value→Hp→Prop} (hpc:∀ G,H.ro.Le G→DepF ops i Γ G→PC P f vs.toArray G Φ) (hm:∀ v G G',Φ v G→G.Le G'→Φ v G')
  (h:DJ P n ops tail sb bx H Q x y kl (i+1) l ks ((d,.v (x i))::env) bx' ((i,Φ (x i))::Γ) ow'):DJ P n ops tail sb bx H Q x y kl i (o::l) (.call Φ::ks) env bx' Γ ow' :=
 ⟨d,hd,hn,hm,ValOk.callG ho hw ha hc hpc,h⟩
theorem DJ.callS {f:FuncId} {args:Array Operand} {tys:Array TypeId} (ho:o.op=.call ⟨.value (.func f),args,tys⟩) (hw:wantB ops env o=some true) (hd:o.dst=some d) (hn:Nat.blt d n=true)
  {vs:List Value} (ha:argsK env args.toList some=some vs) (hc:Callable P f) {v:Value} (hpc:∀ G,H.ro.Le G→DepF ops i Γ G→PC P f vs.toArray G (fun u _=>u=v))
  (h:DJ P n ops tail sb bx H Q x y kl (i+1) l ks ((d,.v v)::env) bx' Γ ow'):DJ P n ops tail sb bx H Q x y kl i (o::l) (.sv (.v v)::ks) env bx' Γ ow':=by
 refine ⟨d,hd,hn,rfl,?_,h⟩
 have:=ValOk.callG (P:=P) (ops:=ops) (bx:=bx) (ow:=H.ow) (R:=H.ro) (F:=DepF ops i Γ) (Φ:=fun u _=>u=v) ho hw ha hc hpc
 exact this
theorem DJ.alloc (hτ:TabOk P τ) {T:TypeId} (ho:o.op=.alloc T) (hg:o.guard=none) (hd:o.dst=some d) (hn:Nat.blt d n=true) {te:TE} (ht:τ.get T=some te) (hfr:(sb++bx).get d=none)
  (h:DJ P n ops tail sb bx H Q x y kl (i+1) l ks ((d,.p d 0)::env) ((d,T,te.zero)::bx') Γ ow'):DJ P n ops tail sb bx H Q x y kl i (o::l) (.fresh d T te.zero::ks) env bx' Γ ow':=by
 refine ⟨hd,hn,hfr,hg,fun a W K hK=>?_,h⟩
 obtain ⟨z,hz,hzc⟩:=(hτ.get ht).zero
 have hx:(execOp a.eval o).run P W=.ok (.value (.pointer (some ⟨W.heap.size,0,none⟩))) (W.alloc (.cells te.zero.toArray T)):=by
  unfold execOp
  simp [ho,Instr.alloc,hz,newVar,newRow,hzc]
 unfold Oper.wp
 rw [hx,Oper.upon_value]
 exact hK
theorem StoreOk.of (hτ:TabOk P τ) {T:TypeId} {ad yo:Operand} (ho:o.op=.store T ad yo) (hd:o.dst=none) {off:Nat} (hx:env.op ad=some (.p d off)) {v:Value} (hy:env.op yo=some (.v v)) {te:TE} (ht:τ.get T=some te) {T':TypeId} {z vs cs:List Value} {F:Hp→Prop}
  (hvs:∀ G,F G→v.cells=vs.toArray∧vs.length=te.size∧oneB vs=true) (hc:∀ G,F G→cs=z.take off++vs++z.drop (off+vs.length)∧off+vs.length≤z.length):StoreOk P ops o env F d T' z cs:=fun β a W G hs hF hB K hK=>by
 obtain ⟨hcl,hlen,h1⟩:=hvs G hF
 obtain ⟨rfl,hle⟩:=hc G hF
 have ex:a.eval ad=.pointer (some ⟨β d,off,none⟩):=hs.op (by simp [ho,Op.operands]) hx
 have ey:a.eval yo=v:=hs.op (by simp [ho,Op.operands]) hy
 have hsc:(storeCells ⟨β d,off,none⟩ vs 0).run P W=.ok () (W.setCells (β d) (off+0) vs) :=
  run_storeCells_cells (P:=P) (β d) off vs 0 W (fun j hj=>by rw [Nat.add_zero,cell_of_row W (β d) (off+j) _ T' (0,0) hB];simp;omega) (fun j hj=>by exact hB.free _) (fun u hu=>oneB_mem h1 u hu)
 rw [Nat.add_zero] at hsc
 have hrun:(execOp a.eval o).run P W=.ok .skip (W.setCells (β d) off vs):=by
  unfold execOp
  simp only [ho,ex,ey,Instr.storeAt,Instr.sureAddr,storeVar,hcl,Sem.run_bind,Sem.run_pure,Result.andThen_ok,(hτ.get ht).size]
  simp [hlen,hsc]
 unfold Oper.wp
 rw [hrun,Oper.upon_skip,hd]
 exact hK _ (hB.setCells vs off W z hle) (kept_setCells _ _ _ _)
theorem DJ.store (hτ:TabOk P τ) {T:TypeId} {ad yo:Operand} (ho:o.op=.store T ad yo) (hg:o.guard=none) (hd:o.dst=none) (hx:env.op ad=some (.p d 0)) {v:Value} (hy:env.op yo=some (.v v)) {te:TE} (ht:τ.get T=some te)
  (al:Nat) {T':TypeId} {z:List Value} (hal:kl[al]?=some (.fresh d T' z)) (hlt:Nat.blt al i=true) (hwf:Region.waitsFor .any ops i al=true) {vs:List Value} (hvs:boxL v=some vs) (hl:Nat.beq vs.length te.size=true) (hz:Nat.beq z.length te.size=true) (h1:oneB vs=true)
  (h:DJ P n ops tail sb bx H Q x y kl (i+1) l ks env ((d,T',vs)::bx') Γ ow'):DJ P n ops tail sb bx H Q x y kl i (o::l) (.store al (.k vs)::ks) env bx' Γ ow':=by
 have hlen:=Nat.eq_of_beq_eq_true hl
 have hzl:=Nat.eq_of_beq_eq_true hz
 exact ⟨hd,hg,d,T',z,hal,hlt,hwf,trivial,StoreOk.of hτ ho hd hx hy ht (fun _ _=>⟨boxL_cells hvs,hlen,h1⟩) (fun _ _=>⟨by simp [SC.at,hlen,← hzl],by omega⟩),h⟩
theorem DJ.storeD (hτ:TabOk P τ) {T:TypeId} {ad yo:Operand} (ho:o.op=.store T ad yo) (hg:o.guard=none) (hd:o.dst=none) (hx:env.op ad=some (.p d 0)) (q:Nat) (f:Value→Value) (hy:env.op yo=some (.v (f (x q)))) {te:TE} (ht:τ.get T=some te)
  (al:Nat) {T':TypeId} {z:List Value} (hal:kl[al]?=some (.fresh d T' z)) (hlt:Nat.blt al i=true) (hwf:Region.waitsFor .any ops i al=true) (hq:reach ops i q=true) (hz:Nat.beq z.length te.size=true) (hvs:∀ G,DepF ops i Γ G→(vlist (f (x q))).length=te.size∧oneB (vlist (f (x q)))=true)
  (h:DJ P n ops tail sb bx H Q x y kl (i+1) l ks env ((d,T',vlist (f (x q)))::bx') Γ ow'):DJ P n ops tail sb bx H Q x y kl i (o::l) (.store al (.f q fun u=>vlist (f u))::ks) env bx' Γ ow':=by
 have hzl:=Nat.eq_of_beq_eq_true hz
 exact ⟨hd,hg,d,T',z,hal,hlt,hwf,hq,StoreOk.of hτ ho hd hx hy ht (fun G hG=>⟨vlist_cells _,hvs G hG⟩) (fun G hG=>⟨by simp [SC.at,(hvs G hG).1,← hzl],by have:=(hvs G hG).1;omega⟩),h⟩
theorem DJ.setb (hτ:TabOk P τ) {T:TypeId} {ad yo:Operand} (ho:o.op=.store T ad yo) (hg:o.guard=none) (hd:o.dst=none) {off:Nat} (hx:env.op ad=some (.p d off)) {v:Value} (hy:env.op yo=some (.v v)) {te:TE} (ht:τ.get T=some te)
  {T':TypeId} {z:List Value} (hz:sb.get d=some (T',z)) {vs:List Value} (hvs:boxL v=some vs) (hl:Nat.beq vs.length te.size=true) (h1:oneB vs=true) {cs:List Value} (hc:wrK off vs z some=some cs)
  (h:DJ P n ops tail sb bx H Q x y kl (i+1) l ks env ((d,T',cs)::bx') Γ ow'):DJ P n ops tail sb bx H Q x y kl i (o::l) (.setb d T' (.k cs)::ks) env bx' Γ ow':=by
 obtain ⟨e,hle⟩:=wrK_spec off vs z some cs hc
 cases e
 exact ⟨hd,hg,z,hz,trivial,StoreOk.of hτ ho hd hx hy ht (fun _ _=>⟨boxL_cells hvs,Nat.eq_of_beq_eq_true hl,h1⟩) (fun _ _=>⟨rfl,hle⟩),h⟩
theorem DJ.copy (j:Nat) {z:Operand} (ho:o.op=.move z∨o.op=.assign z) (hg:o.guard=none) (hd:o.dst=some d) (hn:Nat.blt d n=true) (f:Value→Value) (hz:env.op z=some (.v (f (x j)))) (hw:reach ops i j=true)
  (h:DJ P n ops tail sb bx H Q x y kl (i+1) l ks ((d,.v (f (x j)))::env) bx' Γ ow'):DJ P n ops tail sb bx H Q x y kl i (o::l) (.fn j f::ks) env bx' Γ ow':=by
 refine ⟨d,hd,hn,hg,hw,fun β a W G _ _ hs _ K hK=>?_,h⟩
 have hv:a.eval z=f (x j):=hs.op (by rcases ho with ho | ho <;> simp [ho,Op.operands]) hz
 have hrun:(execOp a.eval o).run P W=.ok (.value (f (x j))) W:=by
  unfold execOp
  rcases ho with ho | ho <;> simp [ho,hv]
 unfold Oper.wp
 rw [hrun,Oper.upon_value]
 exact hK
def tupAt (k:Nat):Value→Value
 | .tuple vs=>vs.getD k undef
 | v=>v
theorem DJ.extract (j:Nat) {z:Operand} {k:Nat} (ho:o.op=.extract z k) (hg:o.guard=none) (hd:o.dst=some d) (hn:Nat.blt d n=true) (hz:env.op z=some (.v (x j))) (hw:reach ops i j=true) (ht:∀ G,DepF ops i Γ G→∃ vs:Array Value,x j=.tuple vs∧k<vs.size)
  (h:DJ P n ops tail sb bx H Q x y kl (i+1) l ks ((d,.v (tupAt k (x j)))::env) bx' Γ ow'):DJ P n ops tail sb bx H Q x y kl i (o::l) (.fn j (tupAt k)::ks) env bx' Γ ow':=by
 refine ⟨d,hd,hn,hg,hw,fun β a W G _ _ hs hF K hK=>?_,h⟩
 obtain ⟨vs,hx,hk⟩:=ht G hF
 have hv:a.eval z=.tuple vs:=(hs.op (by simp [ho,Op.operands]) hz).trans hx
 have hrun:(execOp a.eval o).run P W=.ok (.value (tupAt k (x j))) W:=by
  unfold execOp
  simp [ho,hv,Instr.extract,hx,tupAt,hk]
 unfold Oper.wp
 rw [hrun,Oper.upon_value]
 exact hK
theorem DJ.nil (h:∀ G,H.ro.Le G→AllF Γ G→EVL P n ops tail env bx' ⟨G,ow',H.base⟩ Q):DJ P n ops tail sb bx H Q x y kl i [] [] env bx' Γ ow':=h
structure PO (P:Program) (f:FuncId) (args:Array Value) (H:Hp) (Φ:Value→Ows→Prop):Prop where
 can:Callable P f
 run:∀ W,Fits H W→Fits gH W→Calls P f args W fun e W'=>∃ v ow,e=.returned v∧Φ v ow∧OwNew W.heap.size W' ow∧Below W.heap.size W W'
theorem DJ.callO {f:FuncId} {args:Array Operand} {tys:Array TypeId} (ho:o.op=.call ⟨.value (.func f),args,tys⟩) (hg:o.guard=none) (hd:o.dst=some d) (hn:Nat.blt d n=true)
  {vs:List Value} (ha:argsK env args.toList some=some vs) (hc:Callable P f) {Φ:Value→Ows→Prop} (hpc:∀ G,H.ro.Le G→DepF ops i Γ G→PO P f vs.toArray G Φ)
  (h:DJ P n ops tail sb bx H Q x y kl (i+1) l ks ((d,.v (x i))::env) bx' ((i,fun _=>Φ (x i) (y i))::Γ) (y i++ow')):DJ P n ops tail sb bx H Q x y kl i (o::l) (.own Φ::ks) env bx' Γ ow':=by
 refine ⟨d,hd,hn,hg,fun β a W G hle hf hgl hb hs hF=>?_,h⟩
 obtain ⟨vs',hk,hm⟩:=argsK_spec env _ _ _ ha
 cases hk
 have hvs:=hm β G a.eval (fun y s hy=>hs.op (by simp [ho,Op.operands,Call.operands];exact .inr (by simpa using hy)))
 unfold Oper.wp
 rw [run_call_enter hc ho hvs,Oper.upon_enter]
 refine ((hpc G hle hF).run W hf hgl).mono ?_
 rintro e W' ⟨v,ow,rfl,hΦ,hnew,hb'⟩
 exact ⟨v,ow,rfl,hΦ,hnew,hb'⟩
end
theorem Bxs.get_app {sb bx:Bxs} {d:Nat}:(sb++bx).get d=(sb.get d).or (bx.get d):=by
 induction sb with
 | nil=>simp [Bxs.get]
 | cons p sb ih =>
  obtain ⟨t,s⟩:=p
  show Bxs.get ((t,s)::(sb++bx)) d=_
  rw [Bxs.get_cons,Bxs.get_cons]
  by_cases e:t=d
  ·simp [e]
  ·simp [e,ih]
theorem Bxs.get_app_left {sb bx:Bxs} {d:Nat} (h:(sb.get d).isSome=true):((sb++bx).get d).isSome=true:=by rw [Bxs.get_app];simp [h]
theorem Bxs.get_app_right {sb bx:Bxs} {d:Nat} (h:(bx.get d).isSome=true):((sb++bx).get d).isSome=true:=by rw [Bxs.get_app];simp [h]
def svOf (x:Nat→Value) (i:Nat):DK→SV
 | .sv s=>s
 | .call _=>.v (x i)
 | .own _=>.v (x i)
 | .fn j f=>.v (f (x j))
 | .fresh d _ _=>.p d 0
 | .store _ _=>.v undef
 | .setb _ _ _=>.v undef
def envS (o:Oper) (k:DK) (x:Nat→Value) (i:Nat) (env:Env):Env:=match o.dst with
 | some d=>(d,svOf x i k)::env
 | none=>env
def bxS (kl:List DK) (x:Nat→Value) (k:DK) (bx:Bxs):Bxs:=match k with
 | .fresh d T z=>(d,T,z)::bx
 | .store al vs=>match kl[al]? with
  | some (.fresh d T _)=>(d,T,vs.at x)::bx
  | _=>bx
 | .setb d T vs=>(d,T,vs.at x)::bx
 | _=>bx
def fcS (i:Nat) (k:DK) (v:Value) (w:Ows) (Γ:Fcts):Fcts:=match k with
 | .call Φ=>(i,Φ v)::Γ
 | .own Φ=>(i,fun _=>Φ v w)::Γ
 | _=>Γ
def owS (k:DK) (w:Ows) (ow:Ows):Ows:=match k with
 | .own _=>w++ow
 | _=>ow
def envN (ops:Array Oper) (kl:List DK) (x:Nat→Value) (env:Env):Nat→Env
 | 0=>env
 | i+1=>match ops[i]?,kl[i]? with
  | some o,some k=>envS o k x i (envN ops kl x env i)
  | _,_=>envN ops kl x env i
def bxN (kl:List DK) (x:Nat→Value) (bx:Bxs):Nat→Bxs
 | 0=>bx
 | i+1=>match kl[i]? with
  | some k=>bxS kl x k (bxN kl x bx i)
  | none=>bxN kl x bx i
def fcN (kl:List DK) (x:Nat→Value) (y:Nat→Ows):Nat→Fcts
 | 0=>[]
 | i+1=>match kl[i]? with
  | some k=>fcS i k (x i) (y i) (fcN kl x y i)
  | none=>fcN kl x y i
def owN (kl:List DK) (y:Nat→Ows) (ow:Ows):Nat→Ows
 | 0=>ow
 | i+1=>match kl[i]? with
  | some k=>owS k (y i) (owN kl y ow i)
  | none=>owN kl y ow i
def DOb (P:Program) (n:Nat) (ops:Array Oper) (sb bx:Bxs) (ow:Ows) (H:Hp) (kl:List DK) (x:Nat→Value) (i:Nat) (o:Oper) (k:DK) (env:Env) (Γ:Fcts):Prop:=match k with
 | .sv s=>∃ d,o.dst=some d∧pinB (sb++bx) s=true∧ValOk P ops o env bx ow H (DepF ops i Γ) (fun β v G=>s.rep β G v)
 | .call Φ=>∃ d,o.dst=some d∧(∀ v G G',Φ v G→G.Le G'→Φ v G')∧ValOk P ops o env bx ow H (DepF ops i Γ) (fun _ v G=>Φ v G)
 | .own Φ=>∃ d,o.dst=some d∧o.guard=none∧OwnOk P ops o env bx H (DepF ops i Γ) Φ
 | .fn j f=>∃ d,o.dst=some d∧o.guard=none∧reach ops i j=true∧FnOk P ops o env bx (DepF ops i Γ) (f (x j))
 | .fresh d T z=>o.dst=some d∧(sb++bx).get d=none∧o.guard=none∧AllocOk P o T z
 | .store al vs=>o.dst=none∧o.guard=none∧∃ d T z,kl[al]?=some (.fresh d T z)∧al<i∧Region.waitsFor .any ops i al=true∧vs.deps (fun q=>reach ops i q=true)∧StoreOk P ops o env (DepF ops i Γ) d T z (vs.at x)
 | .setb d T vs=>o.dst=none∧o.guard=none∧∃ z,sb.get d=some (T,z)∧vs.deps (fun q=>reach ops i q=true)∧StoreOk P ops o env (DepF ops i Γ) d T z (vs.at x)
theorem DJ.all {P:Program} {n:Nat} {ops:Array Oper} {tail:List Oper} {sb bx bs:Bxs} {H:Hs} {Q:EQ} {x:Nat→Value} {y:Nat→Ows} {kl:List DK} {env0:Env} :
  ∀ (l:List Oper) (i:Nat) (ks:List DK),(∀ j,j<l.length→l[j]?=ops[i+j]?)→(∀ j,ks[j]?=kl[i+j]?)→DJ P n ops tail sb bx H Q x y kl i l ks (envN ops kl x env0 i) (bxN kl x bs i) (fcN kl x y i) (owN kl y H.ow i) →
   ks.length=l.length∧(∀ j o k,j<l.length→ops[i+j]?=some o→kl[i+j]?=some k→DOb P n ops sb bx H.ow H.ro kl x (i+j) o k (envN ops kl x env0 (i+j)) (fcN kl x y (i+j))) ∧
   ∀ G,H.ro.Le G→AllF (fcN kl x y (i+l.length)) G→EVL P n ops tail (envN ops kl x env0 (i+l.length)) (bxN kl x bs (i+l.length)) ⟨G,owN kl y H.ow (i+l.length),H.base⟩ Q
 | [],i,[],_,_,h=>⟨rfl,fun j o k hj=>(by cases hj),h⟩
 | [],i,k::ks,_,_,h=>by cases k <;> exact h.elim
 | o::l,i,[],_,_,h=>h.elim
 | o::l,i,k::ks,hl,hk,h=>by
  have ho:ops[i]?=some o:=by simpa using (hl 0 (by simp)).symm
  have hki:kl[i]?=some k:=by simpa using (hk 0).symm
  have step:DOb P n ops sb bx H.ow H.ro kl x i o k (envN ops kl x env0 i) (fcN kl x y i)∧DJ P n ops tail sb bx H Q x y kl (i+1) l ks (envN ops kl x env0 (i+1)) (bxN kl x bs (i+1)) (fcN kl x y (i+1)) (owN kl y H.ow (i+1)):=by
   have e1:envN ops kl x env0 (i+1)=envS o k x i (envN ops kl x env0 i):=by simp [envN,ho,hki]
   have e2:bxN kl x bs (i+1)=bxS kl x k (bxN kl x bs i):=by simp [bxN,hki]
   have e3:fcN kl x y (i+1)=fcS i k (x i) (y i) (fcN kl x y i):=by simp [fcN,hki]
   have e4:owN kl y H.ow (i+1)=owS k (y i) (owN kl y H.ow i):=by simp [owN,hki]
   rw [e1,e2,e3,e4]
   cases k with
   | sv s=>obtain ⟨d,hd,hn,hp,hv,h⟩:=h;exact ⟨⟨d,hd,hp,hv⟩,by simpa [envS,hd,bxS,fcS,svOf,owS] using h⟩
   | call Φ=>obtain ⟨d,hd,hn,hm,hv,h⟩:=h;exact ⟨⟨d,hd,hm,hv⟩,by simpa [envS,hd,bxS,fcS,svOf,owS] using h⟩
   | own Φ=>obtain ⟨d,hd,hn,hg,hv,h⟩:=h;exact ⟨⟨d,hd,hg,hv⟩,by simpa [envS,hd,bxS,fcS,svOf,owS] using h⟩
   | fn q f=>obtain ⟨d,hd,hn,hg,hw,hv,h⟩:=h;exact ⟨⟨d,hd,hg,hw,hv⟩,by simpa [envS,hd,bxS,fcS,svOf,owS] using h⟩
   | fresh d T z=>obtain ⟨hd,hn,hfr,hg,ha,h⟩:=h;exact ⟨⟨hd,hfr,hg,ha⟩,by simpa [envS,hd,bxS,fcS,svOf,owS] using h⟩
   | setb d T vs=>obtain ⟨hd,hg,z,hz,hq,hs,h⟩:=h;exact ⟨⟨hd,hg,z,hz,hq,hs⟩,by simpa [envS,hd,bxS,fcS,owS] using h⟩
   | store al vs=>obtain ⟨hd,hg,d,T,z,hal,hlt,hw,hq,hs,h⟩:=h;exact ⟨⟨hd,hg,d,T,z,hal,Nat.blt_eq.mp hlt,hw,hq,hs⟩,by simpa [envS,hd,bxS,fcS,hal,owS] using h⟩
  obtain ⟨hob,hrest⟩:=step
  obtain ⟨h1,h2,h3⟩:=DJ.all l (i+1) ks (fun j hj=>by have:=hl (j+1) (by simp;omega);rw [show i+1+j=i+(j+1) by omega];simpa using this) (fun j=>by have:=hk (j+1);rw [show i+1+j=i+(j+1) by omega];simpa using this) hrest
  refine ⟨by simp [h1],fun j o' k' hj ho' hk'=>?_,by rw [show i+(o::l).length=i+1+l.length by simp;omega];exact h3⟩
  cases j with
  | zero =>
   rw [Nat.add_zero] at ho' hk'
   rw [ho] at ho';rw [hki] at hk';cases ho';cases hk'
   exact hob
  | succ j =>
   have:=h2 j o' k' (by simp at hj;omega) (by rw [show i+1+j=i+(j+1) by omega];exact ho') (by rw [show i+1+j=i+(j+1) by omega];exact hk')
   rwa [show i+1+j=i+(j+1) by omega] at this
theorem envN_get {ops:Array Oper} {kl:List DK} {x:Nat→Value} {env:Env} {t:Nat} {s:SV}:∀ (i:Nat),(envN ops kl x env i).get t=some s →
  (∃ j k,j<i∧dstOf ops j=some t∧kl[j]?=some k∧s=svOf x j k)∨((∀ j,j<i→dstOf ops j=some t→kl[j]?=none)∧env.get t=some s)
 | 0,h=>.inr ⟨fun j hj=>by omega,h⟩
 | i+1,h=>by
  unfold envN at h
  split at h
  ·rename_i o k ho hk
   unfold envS at h
   split at h
   ·rename_i d hd
    rw [Env.get_cons] at h
    by_cases e:d=t
    ·subst e
     rw [if_pos rfl] at h
     cases h
     exact .inl ⟨i,k,by omega,by simp [dstOf,ho,hd],hk,rfl⟩
    ·rw [if_neg e] at h
     rcases envN_get i h with ⟨j,k',h1,h2⟩ | ⟨h1,h2⟩
     ·exact .inl ⟨j,k',by omega,h2⟩
     ·refine .inr ⟨fun j hj hd'=>?_,h2⟩
      by_cases ej:j=i
      ·subst ej
       simp [dstOf,ho,hd] at hd'
       exact absurd hd' e
      ·exact h1 j (by omega) hd'
   ·rename_i hd
    rcases envN_get i h with ⟨j,k',h1,h2⟩ | ⟨h1,h2⟩
    ·exact .inl ⟨j,k',by omega,h2⟩
    ·refine .inr ⟨fun j hj hd'=>?_,h2⟩
     by_cases ej:j=i
     ·subst ej
      simp [dstOf,ho,hd] at hd'
     ·exact h1 j (by omega) hd'
  ·rename_i hno
   rcases envN_get i h with ⟨j,k',h1,h2⟩ | ⟨h1,h2⟩
   ·exact .inl ⟨j,k',by omega,h2⟩
   ·refine .inr ⟨fun j hj hd'=>?_,h2⟩
    by_cases ej:j=i
    ·subst ej
     cases hk:kl[j]? with
     | none=>rfl
     | some k =>
      cases ho:ops[j]? with
      | none=>simp [dstOf,ho] at hd'
      | some o=>exact absurd hk (hno o k ho)
    ·exact h1 j (by omega) hd'
structure MidD (ops:Array Oper) (a0:Act) (m:Nat) (β0:Nat→Nat) (sb bx:Bxs) (H:Hs) (Ws:World) (kl:List DK) (L:Array Bool) (a:Act) (W:World) (x:Nat→Value) (β:Nat→Nat) (G:Hp) (y:Nat→Ows):Prop where
 inv:HeadInv .any ops m L
 size:a.tmps.size=a0.tmps.size
 defers:a.defers=a0.defers
 set:∀ i d,dstOf ops i=some d→L.getD i false=true→a.tmps[d]?=some (x i)
 old:∀ t,(∀ i,dstOf ops i=some t→L.getD i false=false)→a.tmps[t]?=a0.tmps[t]?
 beta:∀ i,((sb++bx).get i).isSome=true→β i=β0 i
 box:BoxesAt bx β W
 off:∀ i,(bx.get i).isSome=true→G (β i)=none
 le:H.ro.Le G
 fits:Fits G W
 own:∀ (j b:Nat) (T:TypeId) (cs:List Value),H.ow[j]?=some (b,T,cs)→Box W b cs.toArray T∧G b=none
 new:Nw H.ro Ws.heap.size G W
 bel:Kept (fun k=>∃ d,(sb.get d).isSome=true∧k=β0 d) Ws W
 vals:∀ i s,kl[i]?=some (.sv s)→L.getD i false=true→s.rep β G (x i)
 calls:∀ i Φ,kl[i]?=some (.call Φ)→L.getD i false=true→Φ (x i) G
 fresh:∀ i d T z,kl[i]?=some (.fresh d T z)→L.getD i false=true→x i=ptrV (β d)∧Ws.heap.size≤β d∧G (β d)=none ∧
  ∃ cur:List Value,Box W (β d) cur.toArray T∧(∀ j vs,kl[j]?=some (.store i vs)→L.getD j false=true→cur=vs.at x∧vs.deps (fun q=>L.getD q false=true))∧((∀ j vs,kl[j]?=some (.store i vs)→L.getD j false=false)→cur=z)
 copies:∀ i j f,kl[i]?=some (.fn j f)→L.getD i false=true→x i=f (x j)∧L.getD j false=true
 owned:∀ i Φ,kl[i]?=some (.own Φ)→L.getD i false=true→Φ (x i) (y i)∧OwNew Ws.heap.size W (y i)∧∀ b T cs,(b,T,cs)∈y i→G b=none∧∀ j d T z,kl[j]?=some (.fresh d T z)→L.getD j false=true→β d≠b
 ownA:∀ i j Φ Ψ b T cs T' cs',i≠j→kl[i]?=some (.own Φ)→kl[j]?=some (.own Ψ)→L.getD i false=true→L.getD j false=true→(b,T,cs)∈y i→(b,T',cs') ∉ y j
 apart:∀ i j d T z d' T' z',i≠j→kl[i]?=some (.fresh d T z)→kl[j]?=some (.fresh d' T' z')→L.getD i false=true→L.getD j false=true→β d≠β d'
 sbox:∀ d T z,sb.get d=some (T,z)→G (β d)=none∧∃ cur:List Value,Box W (β d) cur.toArray T∧(∀ j U vs,kl[j]?=some (.setb d U vs)→L.getD j false=true→cur=vs.at x∧vs.deps (fun q=>L.getD q false=true))∧((∀ j U vs,kl[j]?=some (.setb d U vs)→L.getD j false=false)→cur=z)
theorem put_frame {ops:Array Oper} {a0 a:Act} {m:Nat} {L:Array Bool} {x:Nat→Value} (hg:goodB ops m a0.tmps.size=true) (hsz:a.tmps.size=a0.tmps.size) (hset:∀ i d,dstOf ops i=some d→L.getD i false=true→a.tmps[d]?=some (x i))
  (hold:∀ t,(∀ i,dstOf ops i=some t→L.getD i false=false)→a.tmps[t]?=a0.tmps[t]?) {i:Nat} (hlt:i<L.size) (v:Value) :
  (a.put (dstOf ops i) v).tmps.size=a0.tmps.size∧(∀ j d,dstOf ops j=some d→(L.setIfInBounds i true).getD j false=true→(a.put (dstOf ops i) v).tmps[d]?=some (upd x i v j)) ∧
  (∀ t,(∀ j,dstOf ops j=some t→(L.setIfInBounds i true).getD j false=false)→(a.put (dstOf ops i) v).tmps[t]?=a0.tmps[t]?):=by
 refine ⟨?_,fun j d hj hl=>?_,fun t ht=>?_⟩
 ·cases dstOf ops i <;> simp [Act.put,hsz]
 ·by_cases e:j=i
  ·subst e
   rw [hj]
   have:=dst_lt hg hj
   simp [Act.put,upd,hsz,this]
  ·have hl':=(getD_set_or hl).resolve_left e
   have h1:=hset j d hj hl'
   simp only [upd,if_neg e]
   cases hd:dstOf ops i with
   | none=>simpa [Act.put] using h1
   | some d' =>
    have:d'≠d:=fun e'=>e (dst_inj hg hj (by rw [hd,e']))
    simp only [Act.put]
    rw [Array.getElem?_setIfInBounds_ne this];exact h1
 ·have h1:=hold t (fun j hj=>by
   have:=ht j hj
   cases hl:L.getD j false with
   | false=>rfl
   | true=>rw [getD_set_true hl] at this;cases this)
  cases hd:dstOf ops i with
  | none=>simpa [Act.put] using h1
  | some d =>
   have:d≠t:=fun e=>by
    subst e
    have:=ht i hd
    rw [getD_set_self hlt] at this;cases this
   simp only [Act.put]
   rw [Array.getElem?_setIfInBounds_ne this];exact h1
section
variable {P:Program} {n:Nat} {ops:Array Oper} {a0:Act} {m:Nat} {β0:Nat→Nat} {sb bx:Bxs} {H:Hs} {Ws:World} {kl:List DK} {L:Array Bool} {a:Act} {W:World} {x:Nat→Value} {β:Nat→Nat} {G:Hp} {y:Nat→Ows} {env0:Env} {W0:World} {H0:Bs}
theorem MidD.slot (h:MidD ops a0 m β0 sb bx H Ws kl L a W x β G y) (r0:Rel n W0 H0 β0 env0 (sb++bx) H a0 Ws) {i t:Nat} {s:SV} (hget:(envN ops kl x env0 i).get t=some s)
  (hdone:∀ j,j<i→dstOf ops j=some t→kl[j]?≠none→L.getD j false=true) (hnot:(∀ j,j<i→dstOf ops j=some t→kl[j]?=none)→∀ j,dstOf ops j=some t→L.getD j false=false)
  (hst:∀ (j al:Nat) (vs:SC),kl[j]?=some (DK.store al vs)→dstOf ops j=none) (hsb:∀ (j d:Nat) (T:TypeId) (vs:SC),kl[j]?=some (DK.setb d T vs)→dstOf ops j=none) :
  ∃ u,a.tmps[t]?=some u∧s.rep β G u:=by
 rcases envN_get i hget with ⟨j,k,hj,hd,hk,rfl⟩ | ⟨hno,hg⟩
 ·have hl:=hdone j hj hd (by rw [hk];simp)
  refine ⟨x j,h.set j t hd hl,?_⟩
  cases k with
  | sv s=>exact h.vals j s hk hl
  | call Φ=>rfl
  | own Φ=>rfl
  | fn q f=>exact (h.copies j q f hk hl).1
  | fresh d T z=>exact (h.fresh j d T z hk hl).1
  | store al vs=>rw [hst j al vs hk] at hd;cases hd
  | setb d T vs=>rw [hsb j d T vs hk] at hd;cases hd
 ·obtain ⟨y,hy,hr⟩:=r0.slot t s hg
  refine ⟨y,by rw [h.old t (hnot hno)];exact hy,?_⟩
  cases s with
  | v u=>exact hr
  | p i' off =>
   have:=h.beta i' (r0.pin t i' off hg)
   simp only [SV.rep,this];exact hr
  | ro cs=>exact SV.rep.mono (s:=.ro cs) hr h.le
theorem MidD.sees (h:MidD ops a0 m β0 sb bx H Ws kl L a W x β G y) (r0:Rel n W0 H0 β0 env0 (sb++bx) H a0 Ws) (hg:goodB ops m a0.tmps.size=true) (hst:∀ (j al:Nat) (vs:SC),kl[j]?=some (DK.store al vs)→dstOf ops j=none) (hsb:∀ (j d:Nat) (T:TypeId) (vs:SC),kl[j]?=some (DK.setb d T vs)→dstOf ops j=none) (hkl:kl.length=m)
  {i:Nat} {o:Oper} (ho:ops[i]?=some o) (him:i<m) (hr:i∈Region.ready .any ops L):SeesAt ops o (envN ops kl x env0 i) β G a:=by
 intro d s hd hget
 simp only [goodB,Bool.and_eq_true] at hg
 have h1:=List.all_eq_true.1 hg.1.1 i (List.mem_range.2 him)
 simp only [seesB,ho] at h1
 have h2:=List.all_eq_true.1 h1 d hd
 have hun:L.getD i false=false:=getD_both (mem_ready.1 hr).1
 have cases3:∀ j,dstOf ops j=some d→(j<i∧Region.waitsFor .any ops i j=true)∨j=i∨(i<j∧Region.waitsFor .any ops j i=true):=fun j hj=>by
  have hlt:j<ops.size:=by
   unfold dstOf at hj
   cases hoj:ops[j]? with
   | none=>rw [hoj] at hj;cases hj
   | some o=>exact (Array.getElem?_eq_some_iff.1 hoj).1
  have h3:=List.all_eq_true.1 h2 j (List.mem_range.2 hlt)
  simp only [hj,bne_self_eq_false,Bool.false_or,Bool.or_eq_true,Bool.and_eq_true,decide_eq_true_eq,beq_iff_eq] at h3
  rcases h3 with (h3 | h3) | h3
  ·exact .inl h3
  ·exact .inr (.inl h3)
  ·exact .inr (.inr h3)
 refine h.slot r0 hget (fun j hj hjd _=>?_) (fun hno j hjd=>?_) hst hsb
 ·rcases cases3 j hjd with h3 | h3 | h3
  ·exact waits_of h3.2 hr
  ·omega
  ·omega
 ·rcases cases3 j hjd with h3 | h3 | h3
  ·have:=hno j h3.1 hjd
   have hlt:j<kl.length:=by omega
   rw [List.getElem?_eq_getElem hlt] at this
   cases this
  ·rw [h3];exact hun
  ·exact waits_not h.inv h3.2 hun
variable {Q:Exit→Act→World→Prop}
theorem MidD.step (h:MidD ops a0 m β0 sb bx H Ws kl L a W x β G y) (r0:Rel n W0 H0 β0 env0 (sb++bx) H a0 Ws) (hg:goodB ops m a0.tmps.size=true) (hkl:kl.length=m)
  (hst:∀ (j al:Nat) (vs:SC),kl[j]?=some (DK.store al vs)→dstOf ops j=none) (hsb:∀ (j d:Nat) (T:TypeId) (vs:SC),kl[j]?=some (DK.setb d T vs)→dstOf ops j=none) (hfr:∀ (j d:Nat) (T:TypeId) (z:List Value),kl[j]?=some (DK.fresh d T z)→dstOf ops j=some d∧(sb++bx).get d=none) (hdj:∀ d,(sb.get d).isSome=true→bx.get d=none) (hone2:∀ (j j' d:Nat) (T T':TypeId) (vs vs':SC),kl[j]?=some (DK.setb d T vs)→kl[j']?=some (DK.setb d T' vs')→j=j')
  (hsv:∀ (j:Nat) (s:SV),kl[j]?=some (DK.sv s)→pinB (sb++bx) s=true) (hmo:∀ (j:Nat) (Φ:Value→Hp→Prop),kl[j]?=some (DK.call Φ)→∀ (v:Value) (G G':Hp),Φ v G→G.Le G'→Φ v G')
  (hws:∀ (j al:Nat) (vs:SC),kl[j]?=some (DK.store al vs)→Region.waitsFor .any ops j al=true) (hone:∀ (j j' al:Nat) (vs vs':SC),kl[j]?=some (DK.store al vs)→kl[j']?=some (DK.store al vs')→j=j')
  {i:Nat} {o:Oper} {k:DK} (ho:ops[i]?=some o) (hk:kl[i]?=some k) (him:i<m) (hr:i∈Region.ready .any ops L) (hO:DOb P n ops sb bx H.ow H.ro kl x i o k (envN ops kl x env0 i) (fcN kl x y i)) :
  wpOp P ops Q i (fun a' W'=>∃ x' β' G' y',MidD ops a0 m β0 sb bx H Ws kl (L.setIfInBounds i true) a' W' x' β' G' y') a W:=by
 have hsee:=h.sees r0 hg hst hsb hkl ho him hr
 have hown:OwnsAt H.ow W:=fun j b T cs hj=>(h.own j b T cs hj).1
 have inSb:∀ d,(sb.get d).isSome=true→((sb++bx).get d).isSome=true:=fun d hd=>Bxs.get_app_left hd
 have inBx:∀ d,(bx.get d).isSome=true→((sb++bx).get d).isSome=true:=fun d hd=>Bxs.get_app_right hd
 have upd':∀ (v:Value) (cur:List Value) (vs:SC),(cur=vs.at x∧vs.deps (fun q=>L.getD q false=true))→cur=vs.at (upd x i v)∧vs.deps (fun q=>(L.setIfInBounds i true).getD q false=true):=by
  intro v cur vs h
  refine ⟨?_,h.2.mono fun q hq=>getD_set_true hq⟩
  rw [h.1]
  cases vs with
  | k vs=>rfl
  | f q g =>
   have hq:L.getD q false=true:=h.2
   have hun:L.getD i false=false:=getD_both (mem_ready.1 hr).1
   have:q≠i:=fun e=>by subst e;rw [hun] at hq;cases hq
   simp only [SC.at,upd,if_neg this]
 have same':∀ (cur:List Value) (vs:SC),(cur=vs.at x∧vs.deps (fun q=>L.getD q false=true))→cur=vs.at x∧vs.deps (fun q=>(L.setIfInBounds i true).getD q false=true):=fun cur vs h=>⟨h.1,h.2.mono fun q hq=>getD_set_true hq⟩
 have sbk:(∀ d T vs,k≠.setb d T vs)→∀ (x':Nat→Value) (hx':∀ (cur:List Value) (vs:SC),(cur=vs.at x∧vs.deps (fun q=>L.getD q false=true))→cur=vs.at x'∧vs.deps (fun q=>(L.setIfInBounds i true).getD q false=true)) (β':Nat→Nat) (G':Hp) (W':World),(∀ d,(sb.get d).isSome=true→β' d=β d)→(∀ d,(sb.get d).isSome=true→G (β d)=none→G' (β d)=none)→(∀ d T cs,(sb.get d).isSome=true→Box W (β d) cs T→Box W' (β d) cs T)→∀ d T z,sb.get d=some (T,z)→G' (β' d)=none∧∃ cur:List Value,Box W' (β' d) cur.toArray T∧(∀ j U vs,kl[j]?=some (.setb d U vs)→(L.setIfInBounds i true).getD j false=true→cur=vs.at x'∧vs.deps (fun q=>(L.setIfInBounds i true).getD q false=true))∧((∀ j U vs,kl[j]?=some (.setb d U vs)→(L.setIfInBounds i true).getD j false=false)→cur=z):=by
  intro hns x' hx' β' G' W' hβ hG hW d T z hz
  obtain ⟨h1,cur,h2,h3,h4⟩:=h.sbox d T z hz
  have hd:(sb.get d).isSome=true:=by rw [hz];rfl
  have hne:∀ j U vs,kl[j]?=some (.setb d U vs)→j≠i:=fun j U vs hj e'=>by subst e';rw [hk] at hj;cases hj;exact hns _ _ _ rfl
  rw [hβ d hd]
  refine ⟨hG d hd h1,cur,hW d T _ hd h2,fun j U vs hj hl=>hx' _ _ (h3 j U vs hj ((getD_set_or hl).resolve_left (hne j U vs hj))),fun hall=>h4 fun j U vs hj=>?_⟩
  have:=hall j U vs hj
  rwa [getD_set_ne false (Ne.symm (hne j U vs hj))] at this
 have hinv:HeadInv .any ops m (L.setIfInBounds i true):=h.inv.set hr him
 have hlt:i<L.size:=by rw [h.inv.size];exact (Array.getElem?_eq_some_iff.1 ho).1
 have hun:L.getD i false=false:=getD_both (mem_ready.1 hr).1
 have hdo:dstOf ops i=o.dst:=by simp [dstOf,ho]
 have hsz:Ws.heap.size≤W.heap.size:=h.bel.size
 have inS:∀ j,(L.setIfInBounds i true).getD j false=true→j=i∨L.getD j false=true:=fun j hj=>getD_set_or hj
 have cpy:∀ v,(∀ q f,k=.fn q f→v=f (x q)∧L.getD q false=true)→∀ (j q:Nat) (f:Value→Value),kl[j]?=some (DK.fn q f)→(L.setIfInBounds i true).getD j false=true→upd x i v j=f (upd x i v q)∧(L.setIfInBounds i true).getD q false=true:=by
  intro v hcp j q f hj hl
  have up:L.getD q false=true→(L.setIfInBounds i true).getD q false=true:=fun h=>getD_set_true h
  have nq:L.getD q false=true→q≠i:=fun h e=>by subst e;rw [hun] at h;cases h
  by_cases e:j=i
  ·subst e
   rw [hk] at hj;cases hj
   obtain ⟨h1,h2⟩:=hcp q f rfl
   refine ⟨?_,up h2⟩
   simp only [upd,if_true,if_neg (nq h2)]
   exact h1
  ·obtain ⟨h1,h2⟩:=h.copies j q f hj ((inS j hl).resolve_left e)
   refine ⟨?_,up h2⟩
   simp only [upd,if_neg e,if_neg (nq h2)]
   exact h1
 have next:∀ v G' W',(∀ s,k=.sv s→s.rep β G' v)→(∀ Φ,k=.call Φ→Φ v G')→(∀ d T z,k≠.fresh d T z)→(∀ al vs,k≠.store al vs)→(∀ d T vs,k≠.setb d T vs)→(∀ Φ,k≠.own Φ)→(∀ q f,k=.fn q f→v=f (x q)∧L.getD q false=true)→G.Le G'→Fits G' W'→Below W.heap.size W W'→Nw G W.heap.size G' W' →
   ∃ x' β' G'' y',MidD ops a0 m β0 sb bx H Ws kl (L.setIfInBounds i true) (a.put o.dst v) W' x' β' G'' y':=by
  intro v G' W' hv1 hv2 hnf hns hnb hno hcp hle hf hb hnew
  obtain ⟨p1,p3,p4⟩:=put_frame hg h.size h.set h.old hlt v
  rw [hdo] at p1 p3 p4
  have gone:∀ b,b<W.heap.size→G b=none→G' b=none:=fun b hb' hG=>hnew.gone hb' hG
  refine ⟨upd x i v,β,G',y,hinv,p1,?_,p3,p4,h.beta,fun j T cs hj=>(h.box j T cs hj).keep hb,fun j hj=>?_,h.le.trans hle,hf,fun j b T cs hj=>⟨(h.own j b T cs hj).1.keep hb,gone b (h.own j b T cs hj).1.lt (h.own j b T cs hj).2⟩,h.new.grow h.fits hb hsz hnew,h.bel.trans (Kept.of_below hb _),?_,?_,?_,cpy v hcp,?_,?_,?_,sbk hnb _ (upd' v) β G' W' (fun _ _=>rfl) (fun d hd hG=>(by
   obtain ⟨⟨T,z⟩,hz⟩:=Option.isSome_iff_exists.1 hd
   obtain ⟨_,cur,h2,_⟩:=h.sbox d T z hz
   exact gone _ h2.lt hG)) (fun d T cs _ hB=>hB.keep hb)⟩
  ·have:=h.defers;cases o.dst <;> simpa [Act.put] using this
  ·obtain ⟨⟨T,cs⟩,hcs⟩:=Option.isSome_iff_exists.1 hj
   exact gone _ (h.box j T cs hcs).lt (h.off j hj)
  ·intro j s hj hl
   by_cases e:j=i
   ·subst e
    rw [hk] at hj;cases hj
    simpa [upd] using hv1 s rfl
   ·simp only [upd,if_neg e]
    exact (h.vals j s hj ((inS j hl).resolve_left e)).mono hle
  ·intro j Φ hj hl
   by_cases e:j=i
   ·subst e
    rw [hk] at hj;cases hj
    simpa [upd] using hv2 Φ rfl
   ·simp only [upd,if_neg e]
    exact hmo j Φ hj _ _ _ (h.calls j Φ hj ((inS j hl).resolve_left e)) hle
  ·intro j d T z hj hl
   have e:j≠i:=fun e=>by subst e;rw [hk] at hj;cases hj;exact hnf _ _ _ rfl
   obtain ⟨h1,h2,h3,cur,h4,h5,h6⟩:=h.fresh j d T z hj ((inS j hl).resolve_left e)
   have hne:∀ j' vs,kl[j']?=some (.store j vs)→j'≠i:=fun j' vs hj' e'=>by subst e';rw [hk] at hj';cases hj';exact hns _ _ rfl
   refine ⟨by simp only [upd,if_neg e];exact h1,h2,gone _ h4.lt h3,cur,h4.keep hb,fun j' vs hj' hl'=>upd' v _ _ (h5 j' vs hj' ((inS j' hl').resolve_left (hne j' vs hj'))),fun hall=>h6 fun j' vs hj'=>?_⟩
   have:=hall j' vs hj'
   rwa [getD_set_ne false (Ne.symm (hne j' vs hj'))] at this
  ·intro j Φ hj hl
   have e:j≠i:=fun e=>by subst e;rw [hk] at hj;cases hj;exact hno _ rfl
   obtain ⟨h1,h2,h3⟩:=h.owned j Φ hj ((inS j hl).resolve_left e)
   refine ⟨by simp only [upd,if_neg e];exact h1,⟨h2.1,fun b T cs hm=>⟨(h2.2 b T cs hm).1,(h2.2 b T cs hm).2.keep hb⟩⟩,fun b T cs hm=>⟨gone b (h2.2 b T cs hm).2.lt (h3 b T cs hm).1,fun j' d T' z hj' hl'=>?_⟩⟩
   have e':j'≠i:=fun e=>by subst e;rw [hk] at hj';cases hj';exact hnf _ _ _ rfl
   exact (h3 b T cs hm).2 j' d T' z hj' ((inS j' hl').resolve_left e')
  ·intro j j' Φ Ψ b T cs T' cs' hjj hj hj' hl hl'
   have e:j≠i:=fun e=>by subst e;rw [hk] at hj;cases hj;exact hno _ rfl
   have e':j'≠i:=fun e=>by subst e;rw [hk] at hj';cases hj';exact hno _ rfl
   exact h.ownA j j' Φ Ψ b T cs T' cs' hjj hj hj' ((inS j hl).resolve_left e) ((inS j' hl').resolve_left e')
  ·intro j j' d T z d' T' z' hjj hj hj' hl hl'
   have e:j≠i:=fun e=>by subst e;rw [hk] at hj;cases hj;exact hnf _ _ _ rfl
   have e':j'≠i:=fun e=>by subst e;rw [hk] at hj';cases hj';exact hnf _ _ _ rfl
   exact h.apart j j' d T z d' T' z' hjj hj hj' ((inS j hl).resolve_left e) ((inS j' hl').resolve_left e')
 have hgl:Fits gH W:=fun b c e=>by
  have hl:=r0.glob.1.lt (b:=b) (by rw [e];simp)
  rw [h.bel.block b (r0.globW.lt (by rw [e];simp)) (fun ⟨d,hd,e'⟩=>by have:=(r0.low d (Bxs.get_app_left hd)).1;omega)]
  exact r0.globW b c e
 have depf:DepF ops i (fcN kl x y i) G:=by
  have:∀ q,q≤i→∀ j F,(j,F)∈fcN kl x y q→(∃ Φ,kl[j]?=some (.call Φ)∧F=Φ (x j))∨∃ Φ,kl[j]?=some (.own Φ)∧F=fun _=>Φ (x j) (y j):=by
   intro q
   induction q with
   | zero=>intro _ j F hm;cases hm
   | succ q ih =>
    intro hq j F hm
    unfold fcN at hm
    split at hm
    ·rename_i k' hk'
     unfold fcS at hm
     split at hm
     ·rename_i Φ
      rcases List.mem_cons.1 hm with e | hm
      ·cases e;exact .inl ⟨Φ,hk',rfl⟩
      ·exact ih (by omega) j F hm
     ·rename_i Φ
      rcases List.mem_cons.1 hm with e | hm
      ·cases e;exact .inr ⟨Φ,hk',rfl⟩
      ·exact ih (by omega) j F hm
     ·exact ih (by omega) j F hm
    ·exact ih (by omega) j F hm
  intro j F hm hw
  rcases this i (Nat.le_refl _) j F hm with ⟨Φ,hΦ,rfl⟩ | ⟨Φ,hΦ,rfl⟩
  ·exact h.calls j Φ hΦ (reach_of h.inv hr hw)
  ·exact (h.owned j Φ hΦ (reach_of h.inv hr hw)).1
 unfold wpOp
 simp only [ho]
 unfold DOb at hO
 cases k with
 | sv s =>
  obtain ⟨d,hd,hp,hO⟩:=hO
  have hO':=hO β a W G h.le h.fits hgl h.box hown hsee depf
  split
  ·rename_i hw
   rw [if_pos hw] at hO'
   refine .inl (Oper.wp_any (Oper.wp_mono ?_ hO'))
   rintro a' W' ⟨v,G',rfl,h1,h2,h3,h4,h5⟩
   exact next v G' W' (fun s' e=>by cases e;exact h1) (fun Φ e=>by cases e) (fun _ _ _ e=>by cases e) (fun _ _ e=>by cases e) (fun _ _ _ e=>by cases e) (fun _ e=>by cases e) (fun _ _ e=>by cases e) h2 h3 h4 h5
  ·rename_i hw
   rw [if_neg hw] at hO'
   exact next undef G W (fun s' e=>by cases e;exact hO') (fun Φ e=>by cases e) (fun _ _ _ e=>by cases e) (fun _ _ e=>by cases e) (fun _ _ _ e=>by cases e) (fun _ e=>by cases e) (fun _ _ e=>by cases e) (Hp.Le.refl G) h.fits (Below.refl _ _) (Nw.refl _ _ _)
 | call Φ =>
  obtain ⟨d,hd,hm,hO⟩:=hO
  have hO':=hO β a W G h.le h.fits hgl h.box hown hsee depf
  split
  ·rename_i hw
   rw [if_pos hw] at hO'
   refine .inl (Oper.wp_any (Oper.wp_mono ?_ hO'))
   rintro a' W' ⟨v,G',rfl,h1,h2,h3,h4,h5⟩
   exact next v G' W' (fun s' e=>by cases e) (fun Φ e=>by cases e;exact h1) (fun _ _ _ e=>by cases e) (fun _ _ e=>by cases e) (fun _ _ _ e=>by cases e) (fun _ e=>by cases e) (fun _ _ e=>by cases e) h2 h3 h4 h5
  ·rename_i hw
   rw [if_neg hw] at hO'
   exact next undef G W (fun s' e=>by cases e) (fun Φ e=>by cases e;exact hO') (fun _ _ _ e=>by cases e) (fun _ _ e=>by cases e) (fun _ _ _ e=>by cases e) (fun _ e=>by cases e) (fun _ _ e=>by cases e) (Hp.Le.refl G) h.fits (Below.refl _ _) (Nw.refl _ _ _)
 | fn q f =>
  obtain ⟨d,hd,hgd,hwq,hO⟩:=hO
  rw [if_pos (by simp [Region.wanted,hgd])]
  refine .inl (Oper.wp_any (hO β a W G h.fits h.box hsee depf _ ?_))
  exact next (f (x q)) G W (fun s' e=>by cases e) (fun Φ e=>by cases e) (fun _ _ _ e=>by cases e) (fun _ _ e=>by cases e) (fun _ _ _ e=>by cases e) (fun _ e=>by cases e) (fun q' f' e=>by cases e;exact ⟨rfl,reach_of h.inv hr hwq⟩) (Hp.Le.refl G) h.fits (Below.refl _ _) (Nw.refl _ _ _)
 | own Φ =>
  obtain ⟨d,hd,hgd,hO⟩:=hO
  rw [if_pos (by simp [Region.wanted,hgd])]
  refine .inl (Oper.wp_any (Oper.wp_mono ?_ (hO β a W G h.le h.fits hgl h.box hsee depf)))
  rintro a' W' ⟨v,ow,rfl,hΦ,hnw,hb⟩
  obtain ⟨p1,p3,p4⟩:=put_frame hg h.size h.set h.old hlt v
  rw [hdo] at p1 p3 p4
  have ynew:∀ j,(if j=i then ow else y j)=if j=i then ow else y j:=fun _=>rfl
  refine ⟨upd x i v,β,G,fun j=>if j=i then ow else y j,hinv,p1,?_,p3,p4,h.beta,fun j T cs hj=>(h.box j T cs hj).keep hb,h.off,h.le,h.fits.below hb,fun j b T cs hj=>⟨(h.own j b T cs hj).1.keep hb,(h.own j b T cs hj).2⟩,h.new.below h.fits hb,h.bel.trans (Kept.of_below hb _),?_,?_,?_,cpy v (fun q f e=>by cases e),?_,?_,?_,sbk (fun _ _ _ e=>by cases e) _ (upd' v) β G W' (fun _ _=>rfl) (fun _ _ hG=>hG) (fun d T cs _ hB=>hB.keep hb)⟩
  ·have:=h.defers;cases o.dst <;> simpa [Act.put] using this
  ·intro j s hj hl
   have e:j≠i:=fun e=>by subst e;rw [hk] at hj;cases hj
   simp only [upd,if_neg e]
   exact h.vals j s hj ((inS j hl).resolve_left e)
  ·intro j Ψ hj hl
   have e:j≠i:=fun e=>by subst e;rw [hk] at hj;cases hj
   simp only [upd,if_neg e]
   exact h.calls j Ψ hj ((inS j hl).resolve_left e)
  ·intro j d' T z hj hl
   have e:j≠i:=fun e=>by subst e;rw [hk] at hj;cases hj
   obtain ⟨h1,h2,h3,cur,h4,h5,h6⟩:=h.fresh j d' T z hj ((inS j hl).resolve_left e)
   have hne:∀ j' vs,kl[j']?=some (.store j vs)→j'≠i:=fun j' vs hj' e'=>by subst e';rw [hk] at hj';cases hj'
   refine ⟨by simp only [upd,if_neg e];exact h1,h2,h3,cur,h4.keep hb,fun j' vs hj' hl'=>upd' v _ _ (h5 j' vs hj' ((inS j' hl').resolve_left (hne j' vs hj'))),fun hall=>h6 fun j' vs hj'=>?_⟩
   have:=hall j' vs hj'
   rwa [getD_set_ne false (Ne.symm (hne j' vs hj'))] at this
  ·intro j Ψ hj hl
   by_cases e:j=i
   ·subst e
    rw [hk] at hj;cases hj
    refine ⟨by simpa [upd] using hΦ,by simp only [if_true];exact ⟨hnw.1,fun b T cs hm=>⟨Nat.le_trans hsz (hnw.2 b T cs hm).1,(hnw.2 b T cs hm).2⟩⟩,fun b T cs hm=>?_⟩
    simp only [if_true] at hm
    refine ⟨?_,fun j' d' T' z hj' hl'=>?_⟩
    ·cases hc:G b with
     | none=>rfl
     | some c=>have:=h.fits.lt (b:=b) (by rw [hc];simp);have:=(hnw.2 b T cs hm).1;omega
    ·have e':j'≠j:=fun e=>by subst e;rw [hk] at hj';cases hj'
     obtain ⟨_,_,_,cur,h4,_⟩:=h.fresh j' d' T' z hj' ((inS j' hl').resolve_left e')
     have:=h4.lt
     have:=(hnw.2 b T cs hm).1
     omega
   ·obtain ⟨h1,h2,h3⟩:=h.owned j Ψ hj ((inS j hl).resolve_left e)
    simp only [upd,if_neg e]
    refine ⟨h1,⟨h2.1,fun b T cs hm=>⟨(h2.2 b T cs hm).1,(h2.2 b T cs hm).2.keep hb⟩⟩,fun b T cs hm=>⟨(h3 b T cs hm).1,fun j' d' T' z hj' hl'=>?_⟩⟩
    have e':j'≠i:=fun e=>by subst e;rw [hk] at hj';cases hj'
    exact (h3 b T cs hm).2 j' d' T' z hj' ((inS j' hl').resolve_left e')
  ·intro j j' Ψ Ψ' b T cs T' cs' hjj hj hj' hl hl' hm hm'
   by_cases e:j=i
   ·have e':j'≠i:=fun e'=>hjj (e.trans e'.symm)
    simp only [if_pos e,if_neg e'] at hm hm'
    have h1:=(hnw.2 b T cs hm).1
    have h2:=((h.owned j' Ψ' hj' ((inS j' hl').resolve_left e')).2.1.2 b T' cs' hm').2.lt
    omega
   ·by_cases e':j'=i
    ·simp only [if_neg e,if_pos e'] at hm hm'
     have h1:=(hnw.2 b T' cs' hm').1
     have h2:=((h.owned j Ψ hj ((inS j hl).resolve_left e)).2.1.2 b T cs hm).2.lt
     omega
    ·simp only [if_neg e,if_neg e'] at hm hm'
     exact h.ownA j j' Ψ Ψ' b T cs T' cs' hjj hj hj' ((inS j hl).resolve_left e) ((inS j' hl').resolve_left e') hm hm'
  ·intro j j' d1 T1 z1 d2 T2 z2 hjj hj hj' hl hl'
   have e:j≠i:=fun e=>by subst e;rw [hk] at hj;cases hj
   have e':j'≠i:=fun e=>by subst e;rw [hk] at hj';cases hj'
   exact h.apart j j' d1 T1 z1 d2 T2 z2 hjj hj hj' ((inS j hl).resolve_left e) ((inS j' hl').resolve_left e')
 | fresh d T z =>
  obtain ⟨hd,hbd,hgd,hO⟩:=hO
  rw [if_pos (by simp [Region.wanted,hgd])]
  refine .inl (Oper.wp_any (hO a W _ ?_))
  have hb:Below W.heap.size W (W.alloc (.cells z.toArray T)):=(Below.refl _ _).alloc (Nat.le_refl _) _
  obtain ⟨p1,p3,p4⟩:=put_frame hg h.size h.set h.old hlt (ptrV W.heap.size)
  rw [hdo] at p1 p3 p4
  have hbx':∀ j,((sb++bx).get j).isSome=true→j≠d:=fun j hj e=>by subst e;rw [hbd] at hj;cases hj
  have hbx:∀ j,(bx.get j).isSome=true→j≠d:=fun j hj=>hbx' j (inBx j hj)
  have hfd:∀ j d' T' z',j≠i→kl[j]?=some (.fresh d' T' z')→d'≠d:=fun j d' T' z' hj hkj e=>hj (dst_inj hg (hfr j d' T' z' hkj).1 (by rw [hdo,hd,e]))
  refine ⟨upd x i (ptrV W.heap.size),fun j=>if j=d then W.heap.size else β j,G,y,hinv,p1,?_,p3,p4,fun j hj=>by simp only [if_neg (hbx' j hj)];exact h.beta j hj,fun j T' cs hj=>?_,fun j hj=>by simp only [if_neg (hbx j hj)];exact h.off j hj,h.le,h.fits.below hb,fun j b T cs hj=>⟨(h.own j b T cs hj).1.keep hb,(h.own j b T cs hj).2⟩,h.new.alloc h.fits _,h.bel.alloc _,?_,?_,?_,cpy _ (fun q f e=>by cases e),?_,?_,?_,sbk (fun _ _ _ e=>by cases e) _ (upd' _) _ G _ (fun d' hd'=>if_neg (hbx' d' (inSb d' hd'))) (fun _ _ hG=>hG) (fun d' T cs _ hB=>hB.keep hb)⟩
  ·have:=h.defers;cases o.dst <;> simpa [Act.put] using this
  ·simp only [if_neg (hbx j (by rw [hj];rfl))]
   exact (h.box j T' cs hj).keep hb
  ·intro j s hj hl
   have e:j≠i:=fun e=>by subst e;rw [hk] at hj;cases hj
   simp only [upd,if_neg e]
   have hv:=h.vals j s hj ((inS j hl).resolve_left e)
   cases s with
   | v u=>exact hv
   | p i' off =>
    have:=hbx' i' (hsv j _ hj)
    simp only [SV.rep,if_neg this];exact hv
   | ro cs=>exact hv
  ·intro j Φ hj hl
   have e:j≠i:=fun e=>by subst e;rw [hk] at hj;cases hj
   simp only [upd,if_neg e]
   exact h.calls j Φ hj ((inS j hl).resolve_left e)
  ·intro j d' T' z' hj hl
   by_cases e:j=i
   ·subst e
    rw [hk] at hj;cases hj
    refine ⟨by simp [upd],by simpa using hsz,?_,z,by simpa using Box.new W z.toArray T,fun j' vs hj' hl'=>?_,fun _=>rfl⟩
    ·simp only [if_true]
     cases hc:G W.heap.size with
     | none=>rfl
     | some c=>exact absurd (h.fits.lt (b:=W.heap.size) (by rw [hc];simp)) (Nat.lt_irrefl _)
    ·have hne:j'≠j:=fun e'=>by subst e';rw [hk] at hj';cases hj'
     have:=(inS j' hl').resolve_left hne
     rw [waits_not h.inv (hws j' j vs hj') hun] at this
     cases this
   ·obtain ⟨h1,h2,h3,cur,h4,h5,h6⟩:=h.fresh j d' T' z' hj ((inS j hl).resolve_left e)
    have hne:=hfd j d' T' z' e hj
    have hns:∀ j' vs,kl[j']?=some (.store j vs)→j'≠i:=fun j' vs hj' e'=>by subst e';rw [hk] at hj';cases hj'
    simp only [if_neg hne]
    refine ⟨by simp only [upd,if_neg e];exact h1,h2,h3,cur,h4.keep hb,fun j' vs hj' hl'=>upd' _ _ _ (h5 j' vs hj' ((inS j' hl').resolve_left (hns j' vs hj'))),fun hall=>h6 fun j' vs hj'=>?_⟩
    have:=hall j' vs hj'
    rwa [getD_set_ne false (Ne.symm (hns j' vs hj'))] at this
  ·intro j Φ hj hl
   have e:j≠i:=fun e=>by subst e;rw [hk] at hj;cases hj
   obtain ⟨h1,h2,h3⟩:=h.owned j Φ hj ((inS j hl).resolve_left e)
   refine ⟨by simp only [upd,if_neg e];exact h1,⟨h2.1,fun b T cs hm=>⟨(h2.2 b T cs hm).1,(h2.2 b T cs hm).2.keep hb⟩⟩,fun b T cs hm=>⟨(h3 b T cs hm).1,fun j' d' T' z' hj' hl'=>?_⟩⟩
   by_cases e':j'=i
   ·subst e'
    rw [hk] at hj';cases hj'
    simp only [if_true]
    have:=(h2.2 b T cs hm).2.lt
    omega
   ·simp only [if_neg (hfd j' d' T' z' e' hj')]
    exact (h3 b T cs hm).2 j' d' T' z' hj' ((inS j' hl').resolve_left e')
  ·intro j j' Φ Ψ b T cs T' cs' hjj hj hj' hl hl'
   have e:j≠i:=fun e=>by subst e;rw [hk] at hj;cases hj
   have e':j'≠i:=fun e=>by subst e;rw [hk] at hj';cases hj'
   exact h.ownA j j' Φ Ψ b T cs T' cs' hjj hj hj' ((inS j hl).resolve_left e) ((inS j' hl').resolve_left e')
  ·intro j j' d1 T1 z1 d2 T2 z2 hjj hj hj' hl hl'
   have oldlt:∀ j d' T' z',kl[j]?=some (.fresh d' T' z')→L.getD j false=true→β d'≠W.heap.size:=fun j d' T' z' hj hl e=>by
    obtain ⟨_,_,_,cur,h4,_⟩:=h.fresh j d' T' z' hj hl
    have:=h4.lt
    omega
   by_cases e:j=i
   ·subst e
    rw [hk] at hj;cases hj
    have e':j'≠j:=fun e=>hjj e.symm
    simp only [if_true,if_neg (hfd j' d2 T2 z2 e' hj')]
    exact (oldlt j' d2 T2 z2 hj' ((inS j' hl').resolve_left e')).symm
   ·by_cases e':j'=i
    ·subst e'
     rw [hk] at hj';cases hj'
     simp only [if_true,if_neg (hfd j d1 T1 z1 e hj)]
     exact oldlt j d1 T1 z1 hj ((inS j hl).resolve_left e)
    ·simp only [if_neg (hfd j d1 T1 z1 e hj),if_neg (hfd j' d2 T2 z2 e' hj')]
     exact h.apart j j' d1 T1 z1 d2 T2 z2 hjj hj hj' ((inS j hl).resolve_left e) ((inS j' hl').resolve_left e')
 | store al vs =>
  obtain ⟨hd,hgd,d,T,z,hal,halt,hwf,hq,hO⟩:=hO
  rw [if_pos (by simp [Region.wanted,hgd])]
  have hla:=waits_of hwf hr
  obtain ⟨f1,f2,f3,cur,f4,f5,f6⟩:=h.fresh al d T z hal hla
  have hcur:cur=z:=f6 fun j' vs' hj'=>by rw [hone j' i al vs' vs hj' hk];exact hun
  subst hcur
  refine .inl (Oper.wp_any (hO β a W G hsee depf f4 _ ?_))
  intro W' hB hK
  have hdn:dstOf ops i=none:=by rw [hdo,hd]
  have blk:∀ j T' cs',Box W j cs' T'→j≠β d→Box W' j cs' T':=fun j T' cs' hbx hne=>(hK.block j hbx.lt hne).trans hbx
  have lowb':∀ j,((sb++bx).get j).isSome=true→β j≠β d:=fun j hj e=>by
   have h1:=r0.lt hj
   rw [← h.beta j hj] at h1
   omega
  have lowb:∀ j,(bx.get j).isSome=true→β j≠β d:=fun j hj=>lowb' j (inBx j hj)
  have ownb:∀ (j b:Nat) (T:TypeId) (cs:List Value),H.ow[j]?=some (b,T,cs)→b≠β d:=fun j b T cs hj e=>by
   have:=(r0.own j b T cs hj).1.lt
   omega
  refine ⟨x,β,G,y,hinv,h.size,h.defers,fun j d' hj hl=>h.set j d' hj ((inS j hl).resolve_left (fun e=>by subst e;rw [hdn] at hj;cases hj)),fun t ht=>h.old t (fun j hj=>?_),h.beta,fun j T' cs' hj=>blk _ _ _ (h.box j T' cs' hj) (lowb j (by rw [hj];rfl)),h.off,h.le,fun b c hc=>?_,fun j b T' cs' hj=>⟨blk _ _ _ (h.own j b T' cs' hj).1 (ownb j b T' cs' hj),(h.own j b T' cs' hj).2⟩,h.new.kept h.fits hK (fun b hb e=>hb (by rw [e];exact f3)),?_,fun j s hj hl=>h.vals j s hj ((inS j hl).resolve_left (fun e=>by subst e;rw [hk] at hj;cases hj)),fun j Φ hj hl=>h.calls j Φ hj ((inS j hl).resolve_left (fun e=>by subst e;rw [hk] at hj;cases hj)),?_,fun j q f hj hl=>(by
    obtain ⟨h1,h2⟩:=h.copies j q f hj ((inS j hl).resolve_left (fun e=>by subst e;rw [hk] at hj;cases hj))
    exact ⟨h1,getD_set_true h2⟩),?_,fun j j' Φ Ψ b T' cs T'' cs' hjj hj hj' hl hl'=>h.ownA j j' Φ Ψ b T' cs T'' cs' hjj hj hj' ((inS j hl).resolve_left (fun e=>by subst e;rw [hk] at hj;cases hj)) ((inS j' hl').resolve_left (fun e=>by subst e;rw [hk] at hj';cases hj')),?_,sbk (fun _ _ _ e=>by cases e) _ same' β G W' (fun _ _=>rfl) (fun _ _ hG=>hG) (fun d' T cs hd' hB=>blk _ _ _ hB (lowb' d' (inSb d' hd')))⟩
  ·have:=ht j hj
   cases hl:L.getD j false with
   | false=>rfl
   | true=>rw [getD_set_true hl] at this;cases this
  ·have hne:b≠β d:=fun e=>by subst e;rw [f3] at hc;cases hc
   rw [hK.block b (h.fits.lt (by rw [hc];simp)) hne]
   exact h.fits b c hc
  ·exact h.bel.then hK (fun j hj e=>by omega)
  ·intro j d' T' z' hj hl
   have e:j≠i:=fun e=>by subst e;rw [hk] at hj;cases hj
   have hl':=(inS j hl).resolve_left e
   obtain ⟨g1,g2,g3,cur',g4,g5,g6⟩:=h.fresh j d' T' z' hj hl'
   by_cases ej:j=al
   ·subst ej
    rw [hal] at hj;cases hj
    refine ⟨g1,g2,g3,vs.at x,hB,fun j' vs' hj' _=>?_,fun hall=>?_⟩
    ·have:=hone j' i j vs' vs hj' hk
     subst this
     rw [hk] at hj';cases hj';exact ⟨rfl,hq.mono fun q h'=>getD_set_true (reach_of h.inv hr h')⟩
    ·have:=hall i vs hk
     rw [getD_set_self hlt] at this;cases this
   ·have hne:∀ j' vs',kl[j']?=some (.store j vs')→j'≠i:=fun j' vs' hj' e'=>by subst e';rw [hk] at hj';cases hj';exact ej rfl
    refine ⟨g1,g2,g3,cur',blk _ _ _ g4 (h.apart j al d' T' z' d T cur ej hj hal hl' hla),fun j' vs' hj' hl''=>same' _ _ (g5 j' vs' hj' ((inS j' hl'').resolve_left (hne j' vs' hj'))),fun hall=>g6 fun j' vs' hj'=>?_⟩
    have:=hall j' vs' hj'
    rwa [getD_set_ne false (Ne.symm (hne j' vs' hj'))] at this
  ·intro j Φ hj hl
   have e:j≠i:=fun e=>by subst e;rw [hk] at hj;cases hj
   obtain ⟨h1,h2,h3⟩:=h.owned j Φ hj ((inS j hl).resolve_left e)
   refine ⟨h1,⟨h2.1,fun b T' cs' hm=>⟨(h2.2 b T' cs' hm).1,blk _ _ _ (h2.2 b T' cs' hm).2 (fun e'=>(h3 b T' cs' hm).2 al d T cur hal hla e'.symm)⟩⟩,fun b T' cs' hm=>⟨(h3 b T' cs' hm).1,fun j' d' T'' z' hj' hl'=>?_⟩⟩
   have e':j'≠i:=fun e=>by subst e;rw [hk] at hj';cases hj'
   exact (h3 b T' cs' hm).2 j' d' T'' z' hj' ((inS j' hl').resolve_left e')
  ·intro j j' d1 T1 z1 d2 T2 z2 hjj hj hj' hl hl'
   have e:j≠i:=fun e=>by subst e;rw [hk] at hj;cases hj
   have e':j'≠i:=fun e=>by subst e;rw [hk] at hj';cases hj'
   exact h.apart j j' d1 T1 z1 d2 T2 z2 hjj hj hj' ((inS j hl).resolve_left e) ((inS j' hl').resolve_left e')
 | setb d T vs =>
  obtain ⟨hd,hgd,z,hz,hq,hO⟩:=hO
  rw [if_pos (by simp [Region.wanted,hgd])]
  have hds:(sb.get d).isSome=true:=by rw [hz];rfl
  obtain ⟨f3,cur,f4,f5,f6⟩:=h.sbox d T z hz
  have hcur:cur=z:=f6 fun j' U vs' hj'=>by rw [hone2 j' i d U T vs' vs hj' hk];exact hun
  subst hcur
  refine .inl (Oper.wp_any (hO β a W G hsee depf f4 _ ?_))
  intro W' hB hK
  have hdn:dstOf ops i=none:=by rw [hdo,hd]
  have blk:∀ j T' cs',Box W j cs' T'→j≠β d→Box W' j cs' T':=fun j T' cs' hbx hne=>(hK.block j hbx.lt hne).trans hbx
  have bd:=h.beta d (inSb d hds)
  have lowb':∀ j,j≠d→((sb++bx).get j).isSome=true→β j≠β d:=fun j hj hs e=>by
   rw [h.beta j hs,bd] at e
   exact hj (r0.inj j d hs (inSb d hds) e)
  have lowb:∀ j,(bx.get j).isSome=true→β j≠β d:=fun j hj=>lowb' j (fun e=>by subst e;rw [hdj j hds] at hj;cases hj) (inBx j hj)
  have dlow:β d<Ws.heap.size:=by rw [bd];exact r0.lt (inSb d hds)
  have ownb:∀ (j b:Nat) (T:TypeId) (cs:List Value),H.ow[j]?=some (b,T,cs)→b≠β d:=fun j b T cs hj e=>by
   rw [bd] at e
   exact (r0.own j b T cs hj).2.2.2 d (inSb d hds) e.symm
  have ne:∀ j k',kl[j]?=some k'→(∀ d T vs,k'≠.setb d T vs)→j≠i:=fun j k' hj hk' e=>by subst e;rw [hk] at hj;cases hj;exact hk' _ _ _ rfl
  refine ⟨x,β,G,y,hinv,h.size,h.defers,fun j d' hj hl=>h.set j d' hj ((inS j hl).resolve_left (fun e=>by subst e;rw [hdn] at hj;cases hj)),fun t ht=>h.old t (fun j hj=>?_),h.beta,fun j T' cs' hj=>blk _ _ _ (h.box j T' cs' hj) (lowb j (by rw [hj];rfl)),h.off,h.le,fun b c hc=>?_,fun j b T' cs' hj=>⟨blk _ _ _ (h.own j b T' cs' hj).1 (ownb j b T' cs' hj),(h.own j b T' cs' hj).2⟩,h.new.kept h.fits hK (fun b hb e=>hb (by rw [e];exact f3)),?_,fun j s hj hl=>h.vals j s hj ((inS j hl).resolve_left (fun e=>by subst e;rw [hk] at hj;cases hj)),fun j Φ hj hl=>h.calls j Φ hj ((inS j hl).resolve_left (fun e=>by subst e;rw [hk] at hj;cases hj)),?_,fun j q f hj hl=>(by
    obtain ⟨h1,h2⟩:=h.copies j q f hj ((inS j hl).resolve_left (fun e=>by subst e;rw [hk] at hj;cases hj))
    exact ⟨h1,getD_set_true h2⟩),?_,fun j j' Φ Ψ b T' cs T'' cs' hjj hj hj' hl hl'=>h.ownA j j' Φ Ψ b T' cs T'' cs' hjj hj hj' ((inS j hl).resolve_left (fun e=>by subst e;rw [hk] at hj;cases hj)) ((inS j' hl').resolve_left (fun e=>by subst e;rw [hk] at hj';cases hj')),fun j j' d1 T1 z1 d2 T2 z2 hjj hj hj' hl hl'=>h.apart j j' d1 T1 z1 d2 T2 z2 hjj hj hj' ((inS j hl).resolve_left (fun e=>by subst e;rw [hk] at hj;cases hj)) ((inS j' hl').resolve_left (fun e=>by subst e;rw [hk] at hj';cases hj')),?_⟩
  ·have:=ht j hj
   cases hl:L.getD j false with
   | false=>rfl
   | true=>rw [getD_set_true hl] at this;cases this
  ·have hne:b≠β d:=fun e=>by subst e;rw [f3] at hc;cases hc
   rw [hK.block b (h.fits.lt (by rw [hc];simp)) hne]
   exact h.fits b c hc
  ·exact h.bel.then hK (fun j hj e=>⟨d,hds,e.trans bd⟩)
  ·intro j d' T' z' hj hl
   have hl':=(inS j hl).resolve_left (ne j _ hj (fun _ _ _ e=>by cases e))
   obtain ⟨g1,g2,g3,cur',g4,g5,g6⟩:=h.fresh j d' T' z' hj hl'
   have hne:∀ j' vs',kl[j']?=some (.store j vs')→j'≠i:=fun j' vs' hj'=>ne j' _ hj' (fun _ _ _ e=>by cases e)
   refine ⟨g1,g2,g3,cur',blk _ _ _ g4 (by omega),fun j' vs' hj' hl''=>same' _ _ (g5 j' vs' hj' ((inS j' hl'').resolve_left (hne j' vs' hj'))),fun hall=>g6 fun j' vs' hj'=>?_⟩
   have:=hall j' vs' hj'
   rwa [getD_set_ne false (Ne.symm (hne j' vs' hj'))] at this
  ·intro j Φ hj hl
   obtain ⟨h1,h2,h3⟩:=h.owned j Φ hj ((inS j hl).resolve_left (ne j _ hj (fun _ _ _ e=>by cases e)))
   refine ⟨h1,⟨h2.1,fun b T' cs' hm=>⟨(h2.2 b T' cs' hm).1,blk _ _ _ (h2.2 b T' cs' hm).2 (by have:=(h2.2 b T' cs' hm).1;omega)⟩⟩,fun b T' cs' hm=>⟨(h3 b T' cs' hm).1,fun j' d' T'' z' hj' hl'=>?_⟩⟩
   exact (h3 b T' cs' hm).2 j' d' T'' z' hj' ((inS j' hl').resolve_left (ne j' _ hj' (fun _ _ _ e=>by cases e)))
  ·intro d' T' z' hz'
   obtain ⟨g1,cur',g2,g3,g4⟩:=h.sbox d' T' z' hz'
   by_cases e:d'=d
   ·subst e
    rw [hz] at hz';cases hz'
    refine ⟨f3,vs.at x,hB,fun j U vs' hj _=>?_,fun hall=>?_⟩
    ·have:=hone2 j i d' U T vs' vs hj hk
     subst this
     rw [hk] at hj;cases hj;exact ⟨rfl,hq.mono fun q h'=>getD_set_true (reach_of h.inv hr h')⟩
    ·have:=hall i T vs hk
     rw [getD_set_self hlt] at this;cases this
   ·have hne:∀ j U vs',kl[j]?=some (.setb d' U vs')→j≠i:=fun j U vs' hj e'=>by subst e';rw [hk] at hj;cases hj;exact e rfl
    refine ⟨g1,cur',blk _ _ _ g2 (lowb' d' e (inSb d' (by rw [hz'];rfl))),fun j U vs' hj hl=>same' _ _ (g3 j U vs' hj ((inS j hl).resolve_left (hne j U vs' hj))),fun hall=>g4 fun j U vs' hj=>?_⟩
    have:=hall j U vs' hj
    rwa [getD_set_ne false (Ne.symm (hne j U vs' hj))] at this
end
def storesB:Nat→List DK→List Nat→Bool
 | _,[],_=>true
 | i,.store al _::l,seen => !seen.contains al && storesB (i+1) l (al::seen)
 | i,_::l,seen=>storesB (i+1) l seen
theorem storesB_spec:∀ (l:List DK) (i:Nat) (seen:List Nat),storesB i l seen=true→(∀ (j al:Nat) (vs:SC),l[j]?=some (DK.store al vs)→al ∉ seen)∧(∀ (j j' al:Nat) (vs vs':SC),l[j]?=some (DK.store al vs)→l[j']?=some (DK.store al vs')→j=j')
 | [],_,_,_=>⟨fun j al vs h=>by simp at h,fun j j' al vs vs' h=>by simp at h⟩
 | k::l,i,seen,h=>by
  have other:(∀ al vs,k≠.store al vs)→storesB (i+1) l seen=true:=fun hk=>by
   cases k with
   | store al vs=>exact absurd rfl (hk al vs)
   | _=>exact h
  by_cases hk:∃ al vs,k=.store al vs
  ·obtain ⟨al,vs,rfl⟩:=hk
   simp only [storesB,Bool.and_eq_true,Bool.not_eq_true',List.contains_eq_mem,decide_eq_false_iff_not] at h
   obtain ⟨h1,h2⟩:=storesB_spec l (i+1) (al::seen) h.2
   refine ⟨fun j al' vs' hj=>?_,fun j j' al' vs1 vs2 hj hj'=>?_⟩
   ·cases j with
    | zero=>simp at hj;obtain ⟨rfl,rfl⟩:=hj;exact h.1
    | succ j=>exact fun hm=>h1 j al' vs' (by simpa using hj) (List.mem_cons_of_mem _ hm)
   ·cases j with
    | zero =>
     simp at hj;obtain ⟨rfl,rfl⟩:=hj
     cases j' with
     | zero=>rfl
     | succ j'=>exact absurd (List.mem_cons_self ..) (h1 j' al vs2 (by simpa using hj'))
    | succ j =>
     cases j' with
     | zero=>simp at hj';obtain ⟨rfl,rfl⟩:=hj';exact absurd (List.mem_cons_self ..) (h1 j al vs1 (by simpa using hj))
     | succ j'=>rw [h2 j j' al' vs1 vs2 (by simpa using hj) (by simpa using hj')]
  ·have hno:∀ al vs,k≠.store al vs:=fun al vs e=>hk ⟨al,vs,e⟩
   obtain ⟨h1,h2⟩:=storesB_spec l (i+1) seen (other hno)
   refine ⟨fun j al' vs' hj=>?_,fun j j' al' vs1 vs2 hj hj'=>?_⟩
   ·cases j with
    | zero=>simp at hj;exact absurd hj (hno al' vs')
    | succ j=>exact h1 j al' vs' (by simpa using hj)
   ·cases j with
    | zero=>simp at hj;exact absurd hj (hno al' vs1)
    | succ j =>
     cases j' with
     | zero=>simp at hj';exact absurd hj' (hno al' vs2)
     | succ j'=>rw [h2 j j' al' vs1 vs2 (by simpa using hj) (by simpa using hj')]
def setsB:List DK→List Nat→Bool
 | [],_=>true
 | .setb d _ _::l,seen => !seen.contains d && setsB l (d::seen)
 | _::l,seen=>setsB l seen
theorem setsB_spec:∀ (l:List DK) (seen:List Nat),setsB l seen=true→(∀ (j d:Nat) (T:TypeId) (vs:SC),l[j]?=some (DK.setb d T vs)→d ∉ seen)∧(∀ (j j' d:Nat) (T T':TypeId) (vs vs':SC),l[j]?=some (DK.setb d T vs)→l[j']?=some (DK.setb d T' vs')→j=j')
 | [],seen,_=>⟨fun j d T vs h=>by simp at h,fun j j' d T T' vs vs' h=>by simp at h⟩
 | k::l,seen,h=>by
  by_cases hk:∃ d T vs,k=.setb d T vs
  ·obtain ⟨d,T,vs,rfl⟩:=hk
   simp only [setsB,Bool.and_eq_true,Bool.not_eq_true',List.contains_eq_mem,decide_eq_false_iff_not] at h
   obtain ⟨h1,h2⟩:=setsB_spec l (d::seen) h.2
   have old:∀ (j d':Nat) (T':TypeId) (vs':SC),l[j]?=some (DK.setb d' T' vs')→d'≠d∧d' ∉ seen:=fun j d' T' vs' hj=>by
    have:=h1 j d' T' vs' hj
    simp only [List.mem_cons,not_or] at this
    exact this
   refine ⟨fun j d' T' vs' hj=>?_,fun j j' d' T1 T2 v1 v2 hj hj'=>?_⟩
   ·cases j with
    | zero=>simp at hj;obtain ⟨rfl,_,_⟩:=hj;exact h.1
    | succ j=>exact (old j d' T' vs' (by simpa using hj)).2
   ·cases j with
    | zero =>
     cases j' with
     | zero=>rfl
     | succ j' =>
      simp at hj
      obtain ⟨rfl,_,_⟩:=hj
      exact absurd rfl (old j' d T2 v2 (by simpa using hj')).1
    | succ j =>
     cases j' with
     | zero =>
      simp at hj'
      obtain ⟨rfl,_,_⟩:=hj'
      exact absurd rfl (old j d T1 v1 (by simpa using hj)).1
     | succ j'=>rw [h2 j j' d' T1 T2 v1 v2 (by simpa using hj) (by simpa using hj')]
  ·have hno:∀ d T vs,k≠.setb d T vs:=fun d T vs e=>hk ⟨d,T,vs,e⟩
   have h':setsB l seen=true:=by
    cases k <;> first | exact h | exact absurd rfl (hno _ _ _)
   obtain ⟨h1,h2⟩:=setsB_spec l seen h'
   refine ⟨fun j d' T' vs' hj=>?_,fun j j' d' T1 T2 v1 v2 hj hj'=>?_⟩
   ·cases j with
    | zero=>simp at hj;exact absurd hj (hno d' T' vs')
    | succ j=>exact h1 j d' T' vs' (by simpa using hj)
   ·cases j with
    | zero=>simp at hj;exact absurd hj (hno d' T1 v1)
    | succ j =>
     cases j' with
     | zero=>simp at hj';exact absurd hj' (hno d' T2 v2)
     | succ j'=>rw [h2 j j' d' T1 T2 v1 v2 (by simpa using hj) (by simpa using hj')]
def barB (ops:Array Oper) (m:Nat):Bool:=(List.range ops.size).all fun i=>decide (i<m) || (List.range m).all fun j=>reach ops i j
theorem barB_spec {ops:Array Oper} {m:Nat} (h:barB ops m=true) {i j:Nat} (hi:i<ops.size) (him:m≤i) (hj:j<m):reach ops i j=true:=by
 have h1:=List.all_eq_true.1 h i (List.mem_range.2 hi)
 simp only [Bool.or_eq_true,decide_eq_true_eq] at h1
 rcases h1 with h1 | h1
 ·omega
 ·exact List.all_eq_true.1 h1 j (List.mem_range.2 hj)
section
variable {P:Program} {n:Nat} {ops:Array Oper} {a0:Act} {m:Nat} {β0:Nat→Nat} {sb bx:Bxs} {H:Hs} {Ws:World} {kl:List DK} {env0:Env} {W0:World} {H0:Bs} {Q:Exit→Act→World→Prop}
theorem MidD.all (r0:Rel n W0 H0 β0 env0 (sb++bx) H a0 Ws) (hed:edgesB ops=true) (hg:goodB ops m a0.tmps.size=true) (hm:m≤ops.size) (htail:m=ops.size∨(m<ops.size∧Region.sinkB .any ops m=true∧Region.chainB .any ops m=true)∨barB ops m=true) (hkl:kl.length=m)
  (hO:∀ (x:Nat→Value) (y:Nat→Ows) (i:Nat) (o:Oper) (k:DK),i<m→ops[i]?=some o→kl[i]?=some k→DOb P n ops sb bx H.ow H.ro kl x i o k (envN ops kl x env0 i) (fcN kl x y i)) (hone:∀ (j j' al:Nat) (vs vs':SC),kl[j]?=some (DK.store al vs)→kl[j']?=some (DK.store al vs')→j=j') (hdj:∀ d,(sb.get d).isSome=true→bx.get d=none) (hone2:∀ (j j' d:Nat) (T T':TypeId) (vs vs':SC),kl[j]?=some (DK.setb d T vs)→kl[j']?=some (DK.setb d T' vs')→j=j')
  (hend:∀ L a W x β G y,MidD ops a0 m β0 sb bx H Ws kl L a W x β G y→(∀ i,i<m→L.getD i false=true)→wpAny P .any ops Q (ops.size-m) L a W) :
  ∀ (f:Nat) (L:Array Bool) (a:Act) (W:World) (x:Nat→Value) (β:Nat→Nat) (G:Hp) (y:Nat→Ows),unl L m=f→MidD ops a0 m β0 sb bx H Ws kl L a W x β G y→wpAny P .any ops Q (f+(ops.size-m)) L a W:=by
 have opk:∀ (i:Nat) (k:DK),kl[i]?=some k→∃ o,ops[i]?=some o∧i<m:=fun i k hk=>by
  have h1:i<kl.length:=(List.getElem?_eq_some_iff.1 hk).1
  exact ⟨ops[i]'(by omega),Array.getElem?_eq_getElem (by omega),by omega⟩
 have hst:∀ (j al:Nat) (vs:SC),kl[j]?=some (DK.store al vs)→dstOf ops j=none:=fun j al vs hk=>by
  obtain ⟨o,ho,hj⟩:=opk j _ hk
  have:=hO (fun _=>undef) (fun _=>[]) j o _ hj ho hk
  unfold DOb at this
  simp [dstOf,ho,this.1]
 have hsb:∀ (j d:Nat) (T:TypeId) (vs:SC),kl[j]?=some (DK.setb d T vs)→dstOf ops j=none:=fun j d T vs hk=>by
  obtain ⟨o,ho,hj⟩:=opk j _ hk
  have:=hO (fun _=>undef) (fun _=>[]) j o _ hj ho hk
  unfold DOb at this
  simp [dstOf,ho,this.1]
 have hfr:∀ (j d:Nat) (T:TypeId) (z:List Value),kl[j]?=some (DK.fresh d T z)→dstOf ops j=some d∧(sb++bx).get d=none:=fun j d T z hk=>by
  obtain ⟨o,ho,hj⟩:=opk j _ hk
  have:=hO (fun _=>undef) (fun _=>[]) j o _ hj ho hk
  unfold DOb at this
  exact ⟨by simp [dstOf,ho,this.1],this.2.1⟩
 have hsv:∀ (j:Nat) (s:SV),kl[j]?=some (DK.sv s)→pinB (sb++bx) s=true:=fun j s hk=>by
  obtain ⟨o,ho,hj⟩:=opk j _ hk
  have:=hO (fun _=>undef) (fun _=>[]) j o _ hj ho hk
  unfold DOb at this
  obtain ⟨d,_,hp,_⟩:=this
  exact hp
 have hmo:∀ (j:Nat) (Φ:Value→Hp→Prop),kl[j]?=some (DK.call Φ)→∀ (v:Value) (G G':Hp),Φ v G→G.Le G'→Φ v G':=fun j Φ hk=>by
  obtain ⟨o,ho,hj⟩:=opk j _ hk
  have:=hO (fun _=>undef) (fun _=>[]) j o _ hj ho hk
  unfold DOb at this
  obtain ⟨d,_,hp,_⟩:=this
  exact hp
 have hws:∀ (j al:Nat) (vs:SC),kl[j]?=some (DK.store al vs)→Region.waitsFor .any ops j al=true:=fun j al vs hk=>by
  obtain ⟨o,ho,hj⟩:=opk j _ hk
  have:=hO (fun _=>undef) (fun _=>[]) j o _ hj ho hk
  unfold DOb at this
  obtain ⟨_,_,d,T,z,_,_,hw,_⟩:=this
  exact hw
 intro f
 induction f with
 | zero =>
  intro L a w x β G y hf h
  rw [Nat.zero_add]
  exact hend L a w x β G y h (unl_zero hf)
 | succ f ih =>
  intro L a w x β G y hf h
  rw [show f+1+(ops.size-m)=(f+(ops.size-m))+1 by omega]
  obtain ⟨i0,hi0,hun0⟩:∃ i,i<m∧L.getD i false=false:=by
   cases he:(List.range m).filter fun i=>L.getD i false == false with
   | nil=>unfold unl at hf;rw [he] at hf;cases hf
   | cons i l =>
    have:=List.mem_filter.1 (he ▸ List.mem_cons_self (a:=i) (l:=l))
    exact ⟨i,List.mem_range.1 this.1,by simpa using this.2⟩
  have hin:∀ i∈Region.ready .any ops L,i<m:=fun i hi=>by
   rcases htail with e | ⟨hlt,hs,hc⟩ | hbar
   ·obtain ⟨_,o,ho,_⟩:=mem_ready.1 hi
    rw [e];exact (Array.getElem?_eq_some_iff.1 ho).1
   ·rcases Nat.lt_or_ge i m with h' | h'
    ·exact h'
    ·exact absurd hi (tail_waits hs hc hlt h.inv _ i0 rfl hi0 (getD_in (by rw [h.inv.size];omega) hun0) i h')
   ·rcases Nat.lt_or_ge i m with h' | h'
    ·exact h'
    ·obtain ⟨_,o,ho,_⟩:=mem_ready.1 hi
     have:=reach_of h.inv hi (barB_spec hbar (Array.getElem?_eq_some_iff.1 ho).1 h' hi0)
     rw [hun0] at this
     cases this
  refine ⟨fun hnil=>?_,fun i hi=>?_⟩
  ·exact absurd hnil (ready_some hed h.inv.size i0 i0 (Nat.le_refl _) (by omega) hun0)
  ·have him:=hin i hi
   obtain ⟨_,o,ho,_⟩:=mem_ready.1 hi
   have hlt:i<L.size:=by rw [h.inv.size];exact (Array.getElem?_eq_some_iff.1 ho).1
   have hun:L.getD i false=false:=getD_both (mem_ready.1 hi).1
   have hk:kl[i]?=some (kl[i]'(by omega)):=List.getElem?_eq_getElem (by omega)
   refine wpOp_mono ?_ (h.step (P:=P) (Q:=Q) r0 hg hkl hst hsb hfr hdj hone2 hsv hmo hws hone ho hk him hi (hO x y i o _ him ho hk))
   rintro a' w' ⟨x',β',G',y',h'⟩
   exact ih _ a' w' x' β' G' y' (by have:=unl_set him hlt hun;omega) h'
end
theorem bxN_spec {kl:List DK} {x:Nat→Value} {bx:Bxs} {P:Nat→TypeId→List Value→Prop} (hold:∀ t T cs,bx.get t=some (T,cs)→(∀ (j:Nat) (U:TypeId) (vs:SC),kl[j]?≠some (DK.setb t U vs))→P t T cs)
  (hset:∀ (j t:Nat) (T:TypeId) (vs:SC),kl[j]?=some (DK.setb t T vs)→P t T (vs.at x))
  (hst:∀ (j al:Nat) (vs:SC),kl[j]?=some (DK.store al vs)→al<j) (m:Nat) (hm:∀ (j:Nat) (k:DK),kl[j]?=some k→j<m)
  (hfr:∀ (j d:Nat) (T:TypeId) (z:List Value),kl[j]?=some (DK.fresh d T z)→∃ cur,P d T cur∧(∀ (j':Nat) (vs:SC),kl[j']?=some (DK.store j vs)→cur=vs.at x)∧((∀ (j':Nat) (vs:SC),kl[j']?≠some (DK.store j vs))→cur=z)) :
   ∀ t T cs,(bxN kl x bx m).get t=some (T,cs)→P t T cs:=by
 have key:∀ (i t:Nat) (T:TypeId) (cs:List Value),(bxN kl x bx i).get t=some (T,cs)→(bx.get t=some (T,cs)∧∀ (j:Nat) (U:TypeId) (vs:SC),j<i→kl[j]?≠some (DK.setb t U vs))∨(∃ (j:Nat) (vs:SC),kl[j]?=some (DK.setb t T vs)∧cs=vs.at x)∨∃ (j:Nat) (z:List Value),kl[j]?=some (DK.fresh t T z)∧((∃ (j':Nat) (vs:SC),kl[j']?=some (DK.store j vs)∧cs=vs.at x)∨((∀ (j':Nat) (vs:SC),j'<i→kl[j']?≠some (DK.store j vs))∧cs=z)):=by
  intro i
  induction i with
  | zero=>intro t T cs h;exact .inl ⟨h,fun j U vs hj=>by omega⟩
  | succ i ih =>
   intro t T cs h
   unfold bxN at h
   have up:(∀ (U:TypeId) (vs:SC),kl[i]?≠some (DK.setb t U vs))→(∀ (j:Nat) (z:List Value) (vs:SC),kl[j]?=some (DK.fresh t T z)→kl[i]?≠some (DK.store j vs))→(bxN kl x bx i).get t=some (T,cs)→(bx.get t=some (T,cs)∧∀ (j:Nat) (U:TypeId) (vs:SC),j<i+1→kl[j]?≠some (DK.setb t U vs))∨(∃ (j:Nat) (vs:SC),kl[j]?=some (DK.setb t T vs)∧cs=vs.at x)∨∃ (j:Nat) (z:List Value),kl[j]?=some (DK.fresh t T z)∧((∃ (j':Nat) (vs:SC),kl[j']?=some (DK.store j vs)∧cs=vs.at x)∨((∀ (j':Nat) (vs:SC),j'<i+1→kl[j']?≠some (DK.store j vs))∧cs=z)):=by
    intro hns hno h
    rcases ih t T cs h with ⟨h1,h0⟩ | h1 | ⟨j,z,hk,h2⟩
    ·refine .inl ⟨h1,fun j U vs hj=>?_⟩
     by_cases ej:j=i
     ·subst ej;exact hns U vs
     ·exact h0 j U vs (by omega)
    ·exact .inr (.inl h1)
    ·refine .inr (.inr ⟨j,z,hk,?_⟩)
     rcases h2 with h2 | ⟨h2,e⟩
     ·exact .inl h2
     ·refine .inr ⟨fun j' vs hj'=>?_,e⟩
      by_cases ej:j'=i
      ·subst ej;exact hno j z vs hk
      ·exact h2 j' vs (by omega)
   split at h
   ·rename_i k hk
    unfold bxS at h
    split at h
    ·rename_i d T' z
     rw [Bxs.get_cons] at h
     by_cases e:d=t
     ·subst e
      rw [if_pos rfl] at h;cases h
      refine .inr (.inr ⟨i,cs,hk,.inr ⟨fun j' vs hj' hc=>?_,rfl⟩⟩)
      have:=hst j' i vs hc
      omega
     ·rw [if_neg e] at h
      exact up (fun U vs hc=>by rw [hk] at hc;cases hc) (fun j z' vs _ hc=>by rw [hk] at hc;cases hc) h
    ·rename_i al vs
     split at h
     ·rename_i d T' z hal
      rw [Bxs.get_cons] at h
      by_cases e:d=t
      ·subst e
       rw [if_pos rfl] at h;cases h
       exact .inr (.inr ⟨al,z,hal,.inl ⟨i,vs,hk,rfl⟩⟩)
      ·rw [if_neg e] at h
       refine up (fun U vs hc=>by rw [hk] at hc;cases hc) (fun j z' vs' hj hc=>?_) h
       rw [hk] at hc
       cases hc
       rw [hal] at hj
       cases hj
       exact e rfl
     ·rename_i hno
      refine up (fun U vs hc=>by rw [hk] at hc;cases hc) (fun j z' vs' hj hc=>?_) h
      rw [hk] at hc
      cases hc
      exact hno _ _ _ hj
    ·rename_i d T' vs
     rw [Bxs.get_cons] at h
     by_cases e:d=t
     ·subst e
      rw [if_pos rfl] at h;cases h
      exact .inr (.inl ⟨i,vs,hk,rfl⟩)
     ·rw [if_neg e] at h
      exact up (fun U vs' hc=>by rw [hk] at hc;cases hc;exact e rfl) (fun j z' vs' _ hc=>by rw [hk] at hc;cases hc) h
    ·rename_i h1 h2 h3
     exact up (fun U vs hc=>by rw [hk] at hc;cases hc;exact h3 _ _ _ rfl) (fun j z' vs' _ hc=>by rw [hk] at hc;cases hc;exact h2 _ _ rfl) h
   ·rename_i hk
    exact up (fun U vs hc=>by rw [hk] at hc;cases hc) (fun j z' vs' _ hc=>by rw [hk] at hc;cases hc) h
 intro t T cs h
 rcases key m t T cs h with ⟨h1,h0⟩ | ⟨j,vs,h1,rfl⟩ | ⟨j,z,hk,h2⟩
 ·exact hold t T cs h1 fun j U vs hc=>h0 j U vs (hm j _ hc) hc
 ·exact hset j t T vs h1
 ·obtain ⟨cur,h3,h4,h5⟩:=hfr j t T z hk
  rcases h2 with ⟨j',vs,h2,rfl⟩ | ⟨h2,e⟩
  ·rw [← h4 j' vs h2];exact h3
  ·rw [e,← h5 fun j' vs hc=>h2 j' vs (hm j' _ hc) hc];exact h3
theorem bxN_some {kl:List DK} {x:Nat→Value} {bx:Bxs} (hst:∀ (j al:Nat) (vs:SC),kl[j]?=some (DK.store al vs)→al<j) (hsb:∀ (j d:Nat) (T:TypeId) (vs:SC),kl[j]?=some (DK.setb d T vs)→(bx.get d).isSome=true):∀ (i t:Nat),((bxN kl x bx i).get t).isSome=true↔((bx.get t).isSome=true∨∃ (j:Nat) (T:TypeId) (z:List Value),j<i∧kl[j]?=some (DK.fresh t T z))
 | 0,t=>by simp [bxN]
 | i+1,t=>by
  have ih:=bxN_some (x:=x) (bx:=bx) hst hsb i t
  have more:(∃ (j:Nat) (T:TypeId) (z:List Value),j<i+1∧kl[j]?=some (DK.fresh t T z))↔((∃ (j:Nat) (T:TypeId) (z:List Value),j<i∧kl[j]?=some (DK.fresh t T z))∨∃ (T:TypeId) (z:List Value),kl[i]?=some (DK.fresh t T z)):=by
   constructor
   ·rintro ⟨j,T,z,hj,hk⟩
    by_cases e:j=i
    ·subst e;exact .inr ⟨T,z,hk⟩
    ·exact .inl ⟨j,T,z,by omega,hk⟩
   ·rintro (⟨j,T,z,hj,hk⟩ | ⟨T,z,hk⟩)
    ·exact ⟨j,T,z,by omega,hk⟩
    ·exact ⟨i,T,z,by omega,hk⟩
  rw [more]
  unfold bxN
  cases hk:kl[i]? with
  | none=>simp [ih]
  | some k =>
   cases k with
   | sv s=>simp [bxS,ih]
   | call Φ=>simp [bxS,ih]
   | own Φ=>simp [bxS,ih]
   | fn q f=>simp [bxS,ih]
   | fresh d T z =>
    simp only [bxS,Bxs.get_cons]
    by_cases e:d=t
    ·subst e;simp
    ·simp [e,ih]
   | setb d T vs =>
    simp only [bxS,Bxs.get_cons]
    by_cases e:d=t
    ·subst e
     simp only [if_true,Option.isSome_some,true_iff]
     exact .inl (hsb i d T vs hk)
    ·simp [e,ih]
   | store al vs =>
    simp only [bxS]
    cases hal:kl[al]? with
    | none=>simp [ih]
    | some k' =>
     cases k' with
     | fresh d T z =>
      simp only [Bxs.get_cons]
      by_cases e:d=t
      ·subst e
       simp only [if_true,Option.isSome_some,true_iff]
       exact .inr (.inl ⟨al,T,z,hst i al vs hk,hal⟩)
      ·simp [e,ih]
     | _=>simp [ih]
theorem Rel.drew {n:Nat} {W0:World} {H0:Bs} {β:Nat→Nat} {env:Env} {bx:Bxs} {H:Hs} {a:Act} {W:World} (r:Rel n W0 H0 β env bx H a W):Rel n W0 H0 β env bx H a W.drew :=
 ⟨r.size,r.defers,r.slot,r.box,r.low,r.inj,r.pin,r.fits,r.le,r.new,r.bel.drew,r.glob,r.own,r.one⟩
theorem AllF_of {ops:Array Oper} {a0:Act} {m:Nat} {β0:Nat→Nat} {sb bx:Bxs} {H:Hs} {Ws:World} {kl:List DK} {L:Array Bool} {a:Act} {W:World} {x:Nat→Value} {β:Nat→Nat} {G:Hp} {y:Nat→Ows} (h:MidD ops a0 m β0 sb bx H Ws kl L a W x β G y)
  (hall:∀ i,i<m→L.getD i false=true):∀ i,i≤m→AllF (fcN kl x y i) G
 | 0,_=>trivial
 | i+1,hi=>by
  have ih:=AllF_of h hall i (by omega)
  unfold fcN
  cases hk:kl[i]? with
  | none=>exact ih
  | some k =>
   cases k with
   | call Φ=>exact ⟨h.calls i Φ hk (hall i (by omega)),ih⟩
   | own Φ=>exact ⟨(h.owned i Φ hk (hall i (by omega))).1,ih⟩
   | _=>exact ih
theorem owN_get {kl:List DK} {y:Nat→Ows} {ow:Ows} {p:Nat × TypeId × List Value}:∀ (i j:Nat),(owN kl y ow i)[j]?=some p→(∃ (q:Nat) (Φ:Value→Ows→Prop),q<i∧kl[q]?=some (DK.own Φ)∧p∈y q)∨∃ j':Nat,ow[j']?=some p
 | 0,j,h=>.inr ⟨j,h⟩
 | i+1,j,h=>by
  have up:((∃ (q:Nat) (Φ:Value→Ows→Prop),q<i∧kl[q]?=some (DK.own Φ)∧p∈y q)∨∃ j':Nat,ow[j']?=some p)→((∃ (q:Nat) (Φ:Value→Ows→Prop),q<i+1∧kl[q]?=some (DK.own Φ)∧p∈y q)∨∃ j':Nat,ow[j']?=some p):=by
   rintro (⟨q,Φ,hq,h⟩ | h)
   ·exact .inl ⟨q,Φ,by omega,h⟩
   ·exact .inr h
  unfold owN at h
  cases hk:kl[i]? with
  | none=>rw [hk] at h;exact up (owN_get i j h)
  | some k =>
   rw [hk] at h
   cases k with
   | own Φ =>
    simp only [owS] at h
    by_cases hj:j<(y i).length
    ·rw [List.getElem?_append_left hj] at h
     exact .inl ⟨i,Φ,by omega,hk,List.mem_of_getElem? h⟩
    ·rw [List.getElem?_append_right (by omega)] at h
     exact up (owN_get i _ h)
   | _=>exact up (owN_get i j h)
theorem owN_one {kl:List DK} {y:Nat→Ows} {ow:Ows} (hone:∀ (j j' b:Nat) (T T':TypeId) (cs cs':List Value),ow[j]?=some (b,T,cs)→ow[j']?=some (b,T',cs')→j=j')
  (hy:∀ (q:Nat) (Φ:Value→Ows→Prop),kl[q]?=some (DK.own Φ)→(y q).length≤1) (hlow:∀ (q j b:Nat) (Φ:Value→Ows→Prop) (T T':TypeId) (cs cs':List Value),kl[q]?=some (DK.own Φ)→(b,T,cs)∈y q→ow[j]?≠some (b,T',cs'))
  (hA:∀ (q q' b:Nat) (Φ Ψ:Value→Ows→Prop) (T T':TypeId) (cs cs':List Value),q≠q'→kl[q]?=some (DK.own Φ)→kl[q']?=some (DK.own Ψ)→(b,T,cs)∈y q→(b,T',cs') ∉ y q') :
  ∀ (i j j' b:Nat) (T T':TypeId) (cs cs':List Value),(owN kl y ow i)[j]?=some (b,T,cs)→(owN kl y ow i)[j']?=some (b,T',cs')→j=j'
 | 0,j,j',b,T,T',cs,cs',h,h'=>hone j j' b T T' cs cs' h h'
 | i+1,j,j',b,T,T',cs,cs',h,h'=>by
  have ih:=owN_one (i:=i) hone hy hlow hA
  unfold owN at h h'
  cases hk:kl[i]? with
  | none=>rw [hk] at h h';exact ih j j' b T T' cs cs' h h'
  | some k =>
   rw [hk] at h h'
   cases k with
   | own Φ =>
    simp only [owS] at h h'
    have hlen:=hy i Φ hk
    have cross:∀ (T1 T2:TypeId) (c1 c2:List Value) (r:Nat),(b,T1,c1)∈y i→(owN kl y ow i)[r]?=some (b,T2,c2)→False:=fun T1 T2 c1 c2 r h1 h2=>by
     rcases owN_get i r h2 with ⟨q,Ψ,hq,hkq,hm⟩ | ⟨r',hr'⟩
     ·exact hA i q b Φ Ψ T1 T2 c1 c2 (by omega) hk hkq h1 hm
     ·exact hlow i r' b Φ T1 T2 c1 c2 hk h1 hr'
    by_cases hj:j<(y i).length
    ·rw [List.getElem?_append_left hj] at h
     by_cases hj':j'<(y i).length
     ·omega
     ·rw [List.getElem?_append_right (by omega)] at h'
      exact (cross T T' cs cs' _ (List.mem_of_getElem? h) h').elim
    ·rw [List.getElem?_append_right (by omega)] at h
     by_cases hj':j'<(y i).length
     ·rw [List.getElem?_append_left hj'] at h'
      exact (cross T' T cs' cs _ (List.mem_of_getElem? h') h).elim
     ·rw [List.getElem?_append_right (by omega)] at h'
      have:=ih _ _ b T T' cs cs' h h'
      omega
   | _=>exact ih j j' b T T' cs cs' h h'
def doneL (p s:Nat):Array Bool:=Array.replicate p true++Array.replicate (s-p) false
theorem doneL_zero (s:Nat):doneL 0 s=Array.replicate s false:=by simp [doneL]
def EVD (P:Program) (n:Nat) (ops:Array Oper) (p:Nat) (env:Env) (bx:Bxs) (H:Hs) (Q:EQ):Prop:=∀ W0 β a W,Rel n W0 H.base β env bx H a W→wpAny P .any ops (lift n W0 H.base Q) (ops.size-p) (doneL p ops.size) a W
theorem EVD.core {P:Program} {n:Nat} {env:Env} (sb:Bxs) {bx:Bxs} {H:Hs} {Q1 Q:EQ} {l:List Oper} (tail:List Oper) (m:Nat) {kl:List DK} (hed:edgesB l.toArray=true) (hg:goodB l.toArray m n=true) (hmle:m≤l.toArray.size)
  (htail':m=l.toArray.size∨(m<l.toArray.size∧Region.sinkB .any l.toArray m=true∧Region.chainB .any l.toArray m=true)∨barB l.toArray m=true)
  (h:∀ x y,DJ P n l.toArray tail sb bx H Q1 x y kl 0 (l.take m) kl env (sb++bx) [] H.ow) (hS:storesB 0 kl []=true) (hS2:setsB kl []=true) (hD:(sb.all fun p=>(bx.get p.1).isNone)=true)
  (hend:∀ (W0:World) (a:Act) (W':World),wpList P l.toArray (lift n W0 H.base Q1) tail a W'→wpAny P .any l.toArray (lift n W0 H.base Q) (l.toArray.size-m) (doneL m l.toArray.size) a W'):EVD P n l.toArray 0 env (sb++bx) H Q:=fun W0 β0 a0 W r=>by
 have hn:a0.tmps.size=n:=r.size
 rw [← hn] at hg
 rw [doneL_zero,Nat.sub_zero]
 have hm':m≤l.length:=by simpa using hmle
 have hone:=(storesB_spec kl 0 [] hS).2
 have r0:Rel n W0 H.base β0 env (sb++bx) H a0 W:=r
 have hA:∀ x y,kl.length=m∧(∀ (j:Nat) (o:Oper) (k:DK),j<m→l.toArray[j]?=some o→kl[j]?=some k→DOb P n l.toArray sb bx H.ow H.ro kl x j o k (envN l.toArray kl x env j) (fcN kl x y j)) ∧
   ∀ G,H.ro.Le G→AllF (fcN kl x y m) G→EVL P n l.toArray tail (envN l.toArray kl x env m) (bxN kl x (sb++bx) m) ⟨G,owN kl y H.ow m,H.base⟩ Q1:=fun x y=>by
  have hl:(l.take m).length=m:=by simp;omega
  have:=DJ.all (P:=P) (n:=n) (ops:=l.toArray) (tail:=tail) (sb:=sb) (bx:=bx) (bs:=sb++bx) (H:=H) (Q:=Q1) (x:=x) (y:=y) (kl:=kl) (env0:=env) (l.take m) 0 kl
   (fun j hj=>by rw [hl] at hj;rw [List.getElem?_take_of_lt hj];simp) (fun j=>by simp) (h x y)
  rw [hl] at this
  simpa using this
 have hkl:kl.length=m:=(hA (fun _=>undef) (fun _=>[])).1
 have hob:=fun x y=>(hA x y).2.1
 have opk:∀ (i:Nat) (k:DK),kl[i]?=some k→∃ o,l.toArray[i]?=some o∧i<m:=fun i k hk=>by
  have h1:i<kl.length:=(List.getElem?_eq_some_iff.1 hk).1
  exact ⟨l[i]'(by omega),by simp [show i<l.length by omega],by omega⟩
 have dob:∀ (i:Nat) (k:DK),kl[i]?=some k→∃ o,l.toArray[i]?=some o∧DOb P n l.toArray sb bx H.ow H.ro kl (fun _=>undef) i o k (envN l.toArray kl (fun _=>undef) env i) (fcN kl (fun _=>undef) (fun _=>[]) i):=fun i k hk=>by
  obtain ⟨o,ho,hi⟩:=opk i k hk
  exact ⟨o,ho,hob _ _ i o k hi ho hk⟩
 have hst:∀ (j al:Nat) (vs:SC),kl[j]?=some (DK.store al vs)→dstOf l.toArray j=none∧al<j:=fun j al vs hk=>by
  obtain ⟨o,ho,hd⟩:=dob j _ hk
  unfold DOb at hd
  obtain ⟨h1,_,d,T,z,_,h2,_⟩:=hd
  exact ⟨by rw [dstOf,ho];exact h1,h2⟩
 have hfr:∀ (j d:Nat) (T:TypeId) (z:List Value),kl[j]?=some (DK.fresh d T z)→dstOf l.toArray j=some d∧(sb++bx).get d=none:=fun j d T z hk=>by
  obtain ⟨o,ho,hd⟩:=dob j _ hk
  unfold DOb at hd
  exact ⟨by rw [dstOf,ho];exact hd.1,hd.2.1⟩
 have hsb:∀ (j d:Nat) (T:TypeId) (vs:SC),kl[j]?=some (DK.setb d T vs)→dstOf l.toArray j=none∧∃ z,sb.get d=some (T,z):=fun j d T vs hk=>by
  obtain ⟨o,ho,hd⟩:=dob j _ hk
  unfold DOb at hd
  obtain ⟨h1,_,z,h2,_⟩:=hd
  exact ⟨by rw [dstOf,ho];exact h1,z,h2⟩
 have hone2:=(setsB_spec kl [] hS2).2
 have hdj:∀ d,(sb.get d).isSome=true→bx.get d=none:=fun d hd=>by
  have:=List.all_eq_true.1 hD
  have key:∀ (l:Bxs),(∀ p∈l,(bx.get p.1).isNone=true)→(l.get d).isSome=true→bx.get d=none:=fun l=>by
   induction l with
   | nil=>intro _ h;simp [Bxs.get] at h
   | cons p l ih =>
    obtain ⟨t,s⟩:=p
    intro h1 h2
    rw [Bxs.get_cons] at h2
    by_cases e:t=d
    ·subst e;simpa using h1 (t,s) (List.mem_cons_self ..)
    ·rw [if_neg e] at h2;exact ih (fun p hp=>h1 p (List.mem_cons_of_mem _ hp)) h2
  exact key sb this hd
 have hsv:∀ (j:Nat) (s:SV),kl[j]?=some (DK.sv s)→pinB (sb++bx) s=true:=fun j s hk=>by
  obtain ⟨o,ho,hd⟩:=dob j _ hk
  unfold DOb at hd
  obtain ⟨d,_,hp,_⟩:=hd
  exact hp
 have inv0:HeadInv .any l.toArray m (Array.replicate l.toArray.size false) :=
  ⟨by simp,fun j oj _ hl=>(by rw [getD_replicate_false] at hl;cases hl),fun t _ ht=>getD_in (by simpa using ht) (getD_replicate_false _ _)⟩
 have none':∀ i,(Array.replicate l.toArray.size false).getD i false=false:=getD_replicate_false _
 have box0:BoxesAt bx β0 W:=fun i T cs hi=>by
  have hs:sb.get i=none:=by
   cases hs:sb.get i with
   | none=>rfl
   | some p=>rw [hdj i (by rw [hs];rfl)] at hi;cases hi
  exact r0.box i T cs (by rw [Bxs.get_app,hi,hs];rfl)
 have mid0:MidD l.toArray a0 m β0 sb bx H W kl (Array.replicate l.toArray.size false) a0 W (fun _=>undef) β0 H.ro (fun _=>[]) :=
  ⟨inv0,rfl,rfl,fun i d _ h=>(by rw [none'] at h;cases h),fun t _=>rfl,fun _ _=>rfl,box0,fun i hi=>(r0.low i (Bxs.get_app_right hi)).2,Hp.Le.refl _,r0.fits,fun j b T cs hj=>⟨(r0.own j b T cs hj).1,(r0.own j b T cs hj).2.2.1⟩,Nw.refl _ _ _,Kept.refl _ _,
   fun i s _ h=>(by rw [none'] at h;cases h),fun i Φ _ h=>(by rw [none'] at h;cases h),fun i d T z _ h=>(by rw [none'] at h;cases h),fun i j f _ h=>(by rw [none'] at h;cases h),fun i Φ _ h=>(by rw [none'] at h;cases h),fun i j Φ Ψ b T cs T' cs' _ _ _ h=>(by rw [none'] at h;cases h),fun i j d T z d' T' z' _ _ _ h=>(by rw [none'] at h;cases h),fun d T z hz=>⟨(r0.low d (Bxs.get_app_left (by rw [hz];rfl))).2,z,r0.box d T z (by rw [Bxs.get_app,hz];rfl),fun j U vs _ h=>(by rw [none'] at h;cases h),fun _=>rfl⟩⟩
 have hunl:unl (Array.replicate l.toArray.size false) m=m:=by
  unfold unl
  rw [List.filter_eq_self.2 (fun i _=>by simp only [none'];rfl)]
  simp
 have:=MidD.all (P:=P) (Q:=lift n W0 H.base Q) r0 hed hg hmle htail' hkl hob hone hdj hone2 (fun L a W' x β G y h hall=>?_) m _ a0 W (fun _=>undef) β0 H.ro (fun _=>[]) hunl mid0
 ·rw [show m+(l.toArray.size-m)=l.toArray.size by omega] at this
  exact this
 ·have hL:L=Array.replicate m true++Array.replicate (l.toArray.size-m) false:=by
   apply Array.ext
   ·simp [h.inv.size];omega
   ·intro i h1 h2
    by_cases him:i<m
    ·have:=hall i him
     rw [Array.getElem_append_left (by simpa using him)]
     simpa [h1] using this
    ·rw [Array.getElem_append_right (by simp;omega)]
     have:=h.inv.tail i (by omega) (by rw [← h.inv.size];exact h1)
     simpa [h1] using this
  have tailF:∀ j,m≤j→L.getD j false=false:=fun j hj=>by
   rcases Nat.lt_or_ge j l.toArray.size with h' | h'
   ·exact getD_both (h.inv.tail j hj h')
   ·rw [Array.getD_eq_getD_getElem?,Array.getElem?_eq_none (by rw [h.inv.size];exact h')];rfl
  have hsz0:W0.heap.size≤W.heap.size:=r0.bel.size
  have frs:=fun (j d:Nat) (T:TypeId) (z:List Value) (hk:kl[j]?=some (DK.fresh d T z))=>h.fresh j d T z hk (hall j (opk j _ hk).choose_spec.2)
  have hsome:=bxN_some (x:=x) (bx:=sb++bx) (fun j al vs hk=>(hst j al vs hk).2) (fun j d T vs hk=>by obtain ⟨_,z,hz⟩:=hsb j d T vs hk;exact Bxs.get_app_left (by rw [hz];rfl)) m
  have low2:∀ d,(sb.get d).isSome=true→W0.heap.size≤β0 d:=fun d hd=>(r0.low d (Bxs.get_app_left hd)).1
  have notX:∀ b,H.ro b≠none→¬ ∃ d,(sb.get d).isSome=true∧b=β0 d:=fun b hb ⟨d,hd,e⟩=>hb (by rw [e];exact (r0.low d (Bxs.get_app_left hd)).2)
  have rel:Rel n W0 H.base β (envN l.toArray kl x env m) (bxN kl x (sb++bx) m) ⟨G,owN kl y H.ow m,H.base⟩ a W':=by
   refine ⟨h.size.trans hn,h.defers.trans r0.defers,fun t s hs=>?_,fun t T cs hg'=>?_,fun t ht=>?_,fun t t' ht ht' e=>?_,fun t i off ht=>?_,h.fits,r0.le.trans h.le,(fun b c hb=>by
    rcases h.new b c hb with h1 | ⟨h1,h2⟩
    ·exact r0.new.kept r0.fits h.bel notX b c h1
    ·exact .inr ⟨by omega,h2⟩),r0.bel.then h.bel (fun j hj ⟨d,hd,e⟩=>absurd hj (by have:=low2 d hd;omega)),r0.glob,fun j b T cs hj=>?_,?_⟩
   ·refine h.slot r0 hs (fun j hj _ _=>hall j hj) (fun hno j hjd=>?_) (fun j al vs hk=>(hst j al vs hk).1) (fun j d T vs hk=>(hsb j d T vs hk).1)
    rcases Nat.lt_or_ge j m with h' | h'
    ·have:=hno j h' hjd
     rw [List.getElem?_eq_getElem (by omega)] at this
     cases this
    ·exact tailF j h'
   ·refine bxN_spec (P:=fun t T cs=>Box W' (β t) cs.toArray T) (fun t T cs hg hno=>?_) (fun j t T vs hk=>?_) (fun j al vs hk=>(hst j al vs hk).2) m (fun j k hk=>(opk j k hk).choose_spec.2) (fun j d T z hk=>?_) t T cs hg'
    ·rw [Bxs.get_app] at hg
     cases hs:sb.get t with
     | none=>rw [hs] at hg;exact h.box t T cs (by simpa using hg)
     | some p =>
      rw [hs] at hg
      cases hg
      obtain ⟨_,cur,h2,_,h4⟩:=h.sbox t T cs hs
      rw [h4 fun j U vs hk=>absurd hk (hno j U vs)] at h2
      exact h2
    ·obtain ⟨_,z,hz⟩:=hsb j t T vs hk
     obtain ⟨_,cur,h2,h3,_⟩:=h.sbox t T z hz
     rw [(h3 j T vs hk (hall j (opk j _ hk).choose_spec.2)).1] at h2
     exact h2
    ·obtain ⟨_,_,_,cur,h4,h5,h6⟩:=frs j d T z hk
     refine ⟨cur,h4,fun j' vs hk'=>(h5 j' vs hk' (hall j' (opk j' _ hk').choose_spec.2)).1,fun hno=>h6 fun j' vs hk'=>?_⟩
     exact absurd hk' (hno j' vs)
   ·rcases (hsome t).1 ht with h1 | ⟨j,T,z,hj,hk⟩
    ·refine ⟨by rw [h.beta t h1];exact (r0.low t h1).1,?_⟩
     cases hs:sb.get t with
     | none=>exact h.off t (by rw [Bxs.get_app,hs] at h1;simpa using h1)
     | some p=>exact (h.sbox t p.1 p.2 hs).1
    ·obtain ⟨_,h2,h3,_⟩:=frs j t T z hk
     exact ⟨Nat.le_trans hsz0 h2,h3⟩
   ·rcases (hsome t).1 ht with h1 | ⟨j,T,z,hj,hk⟩
    ·rcases (hsome t').1 ht' with h2 | ⟨j',T',z',hj',hk'⟩
     ·rw [h.beta t h1,h.beta t' h2] at e
      exact r0.inj t t' h1 h2 e
     ·obtain ⟨_,h3,_⟩:=frs j' t' T' z' hk'
      have:=r0.lt h1
      rw [← h.beta t h1] at this
      omega
    ·rcases (hsome t').1 ht' with h2 | ⟨j',T',z',hj',hk'⟩
     ·obtain ⟨_,h3,_⟩:=frs j t T z hk
      have:=r0.lt h2
      rw [← h.beta t' h2] at this
      omega
     ·by_cases ej:j=j'
      ·subst ej;rw [hk] at hk';cases hk';rfl
      ·exact absurd e (h.apart j j' t T z t' T' z' ej hk hk' (hall j hj) (hall j' hj'))
   ·rw [hsome]
    rcases envN_get m ht with ⟨j,k,hj,hd,hk,e⟩ | ⟨_,hg'⟩
    ·cases k with
     | sv s =>
      have e':s=.p i off:=e.symm
      subst e'
      exact .inl (hsv j _ hk)
     | call Φ=>cases e
     | own Φ=>cases e
     | fn q f=>cases e
     | fresh d T z =>
      cases e
      exact .inr ⟨j,T,z,hj,hk⟩
     | store al vs=>cases e
     | setb d T vs=>cases e
    ·exact .inl (r0.pin t i off hg')
   ·rcases owN_get m j hj with ⟨q,Φ,hq,hk,hm⟩ | ⟨j',hj'⟩
    ·obtain ⟨h1,h2,h3⟩:=h.owned q Φ hk (hall q hq)
     refine ⟨(h2.2 b T cs hm).2,.inl (Nat.le_trans hsz0 (h2.2 b T cs hm).1),(h3 b T cs hm).1,fun t ht=>?_⟩
     rcases (hsome t).1 ht with h4 | ⟨j',T',z',hj',hk'⟩
     ·have:=r0.lt h4
      rw [← h.beta t h4] at this
      have:=(h2.2 b T cs hm).1
      omega
     ·exact (h3 b T cs hm).2 j' t T' z' hk' (hall j' hj')
    ·refine ⟨(h.own j' b T cs hj').1,(r0.own j' b T cs hj').2.1,(h.own j' b T cs hj').2,fun t ht=>?_⟩
     rcases (hsome t).1 ht with h1 | ⟨q,T',z',hq,hk'⟩
     ·rw [h.beta t h1];exact (r0.own j' b T cs hj').2.2.2 t h1
     ·obtain ⟨_,h3,_⟩:=frs q t T' z' hk'
      have:=(r0.own j' b T cs hj').1.lt
      omega
   ·refine owN_one r0.one (fun q Φ hk=>(h.owned q Φ hk (hall q (opk q _ hk).choose_spec.2)).2.1.1) (fun q j b Φ T T' cs cs' hk hm hj=>?_) (fun q q' b Φ Ψ T T' cs cs' hqq hk hk' hm=>h.ownA q q' Φ Ψ b T cs T' cs' hqq hk hk' (hall q (opk q _ hk).choose_spec.2) (hall q' (opk q' _ hk').choose_spec.2) hm) m
    have h1:=((h.owned q Φ hk (hall q (opk q _ hk).choose_spec.2)).2.1.2 b T cs hm).1
    have h2:=(r0.own j b T' cs' hj).1.lt
    omega
  have hw:=(hA x y).2.2 G h.le (AllF_of h hall m (Nat.le_refl _)) W0 β a W' rel
  rw [hL]
  exact hend W0 a W' hw
theorem EVD.start {P:Program} {n:Nat} {env:Env} {bx:Bxs} {H:Hs} {Q:EQ} {id:Nat} {l:List Oper} (hm:P.follows .mixedOrders=true) (h:EVD P n l.toArray 0 env bx H Q):EV P n (.region id l.toArray true) env bx H Q:=fun W0 β a W r=>by
 refine wp_region_any hm ?_
 have:=h W0 β a W.drew r.drew
 rwa [doneL_zero,Nat.sub_zero] at this
theorem EVD.drawnS {P:Program} {n:Nat} {env:Env} (sb:Bxs) {bx:Bxs} {H:Hs} {Q:EQ} {l:List Oper} (m:Nat) {kl:List DK} (hB:regB l.toArray m n=true)
  (h:∀ x y,DJ P n l.toArray (l.drop m) sb bx H Q x y kl 0 (l.take m) kl env (sb++bx) [] H.ow) (hS:storesB 0 kl []=true) (hS2:setsB kl []=true) (hD:(sb.all fun p=>(bx.get p.1).isNone)=true):EVD P n l.toArray 0 env (sb++bx) H Q:=by
 simp only [regB,Bool.and_eq_true,decide_eq_true_eq,Bool.or_eq_true,beq_iff_eq] at hB
 obtain ⟨⟨⟨⟨hed,hg⟩,hmle⟩,htail⟩,hseq⟩:=hB
 have htail':m=l.toArray.size∨(m<l.toArray.size∧Region.sinkB .any l.toArray m=true∧Region.chainB .any l.toArray m=true)∨barB l.toArray m=true:=by
  rcases htail with h | h
  ·exact .inl h
  ·exact .inr (.inl ⟨h.1.1,h.1.2,h.2⟩)
 refine EVD.core sb (l.drop m) m hed hg hmle htail' h hS hS2 hD fun W0 a W' hw=>?_
 have hd:(l.drop m).length=l.toArray.size-m:=by simp
 have:=wpAny_of_seq (P:=P) (ops:=l.toArray) (md:=.any) (Q':=lift n W0 H.base Q) (l.drop m) m (doneL m l.toArray.size) a W' (fun j=>by simp [List.getElem?_drop]) (by rw [hd];exact hseq) hw
 rwa [hd] at this
theorem EV.drawnS {P:Program} {n:Nat} {env:Env} (sb:Bxs) {bx:Bxs} {H:Hs} {Q:EQ} {id:Nat} {l:List Oper} (m:Nat) {kl:List DK} (hm:P.follows .mixedOrders=true) (hB:regB l.toArray m n=true)
  (h:∀ x y,DJ P n l.toArray (l.drop m) sb bx H Q x y kl 0 (l.take m) kl env (sb++bx) [] H.ow) (hS:storesB 0 kl []=true) (hS2:setsB kl []=true) (hD:(sb.all fun p=>(bx.get p.1).isNone)=true):EV P n (.region id l.toArray true) env (sb++bx) H Q:=EVD.start hm (EVD.drawnS sb m hB h hS hS2 hD)
theorem EVD.head {P:Program} {n:Nat} {env:Env} (sb:Bxs) {bx:Bxs} {H:Hs} {Q:EQ} {l:List Oper} (m:Nat) {kl:List DK} (hB:(edgesB l.toArray && goodB l.toArray m n && decide (m≤l.toArray.size) && barB l.toArray m)=true)
  (h:∀ x y,DJ P n l.toArray [] sb bx H (fun e env bx H'=>e=.normal∧EVD P n l.toArray m env bx H' Q) x y kl 0 (l.take m) kl env (sb++bx) [] H.ow) (hS:storesB 0 kl []=true) (hS2:setsB kl []=true) (hD:(sb.all fun p=>(bx.get p.1).isNone)=true):EVD P n l.toArray 0 env (sb++bx) H Q:=by
 simp only [Bool.and_eq_true,decide_eq_true_eq] at hB
 obtain ⟨⟨⟨hed,hg⟩,hmle⟩,hbar⟩:=hB
 refine EVD.core sb [] m hed hg hmle (.inr (.inr hbar)) h hS hS2 hD fun W0 a W' hw=>?_
 obtain ⟨β,env',bx',H',hbase,⟨_,hE⟩,rel⟩:=hw
 have:=hE W0 β a W' (by rw [hbase];exact rel)
 rwa [hbase] at this
theorem Oper.wp_exits {P:Program} {o:Oper} {a:Act} {W:World} {K:Act→World→Prop} {Q Q':Exit→Act→World→Prop} (hp:∀ c a W,Q (.panic c) a W→Q' (.panic c) a W) (ho:LetsOut Q→LetsOut Q') (h:Oper.wp P o a W K Q):Oper.wp P o a W K Q':=by
 unfold Oper.wp at *
 generalize (execOp a.eval o).run P W=r at *
 cases r with
 | ok m w' =>
  cases m <;> simp only [Oper.upon] at h ⊢ <;> try exact h
  case enter f args =>
   refine h.mono fun e w'' he=>?_
   cases e with
   | returned v=>exact he
   | panicked c=>exact hp _ _ _ he
   | outgrown=>exact ho he
 | halt y w' =>
  cases y <;> simp only [Oper.upon] at h ⊢
  case panic v=>exact hp _ _ _ h
theorem EVD.one {P:Program} {n:Nat} {env:Env} {bx:Bxs} {H:Hs} {Q:EQ} {ops:Array Oper} {p:Nat} {o:Oper} (hr:(Region.ready .any ops (doneL p ops.size) == [p] && (doneL p ops.size).setIfInBounds p true == doneL (p+1) ops.size)=true) (ho:ops[p]?=some o)
  (h:EVL P n ops [o] env bx H (fun e env bx H'=>e=.normal∧EVD P n ops (p+1) env bx H' Q)):EVD P n ops p env bx H Q:=fun W0 β a W r=>by
 simp only [Bool.and_eq_true,beq_iff_eq] at hr
 obtain ⟨hr,hset⟩:=hr
 have hlt:p<ops.size:=(Array.getElem?_eq_some_iff.1 ho).1
 have h1:=h W0 β a W r
 have hk:∀ a W,lift n W0 H.base (fun e env bx H'=>e=.normal∧EVD P n ops (p+1) env bx H' Q) .normal a W→wpAny P .any ops (lift n W0 H.base Q) (ops.size-(p+1)) (doneL (p+1) ops.size) a W:=by
  rintro a W ⟨β',env',bx',H',hbase,⟨_,hE⟩,rel⟩
  have:=hE W0 β' a W (by rw [hbase];exact rel)
  rwa [hbase] at this
 rw [show ops.size-p=(ops.size-(p+1))+1 by omega]
 refine ⟨fun e=>(by rw [hr] at e;cases e),fun i hi=>?_⟩
 rw [hr] at hi
 obtain rfl:i=p:=by simpa using hi
 rw [hset]
 unfold wpOp
 simp only [ho]
 unfold wpList at h1
 split
 ·rename_i hw
  rw [if_pos hw] at h1
  rcases h1 with h1 | ⟨h1,h2⟩
  ·refine .inl (Oper.wp_exits (fun c a W hq=>?_) (fun hq=>?_) (Oper.wp_mono (fun a W h=>hk a W h) h1))
   ·obtain ⟨_,_,_,_,_,⟨e,_⟩,_⟩:=hq
    cases e
   ·obtain ⟨a0,w0,_,_,_,_,_,⟨e,_⟩,_⟩:=hq
    cases e
  ·obtain ⟨a0,w0,_,_,_,_,_,⟨e,_⟩,_⟩:=h2
   cases e
 ·rename_i hw
  rw [if_neg hw] at h1
  exact hk _ _ h1
def shO (p:Nat) (o:Oper):Oper:={ o with after:=((o.after.toList.filter fun e=>decide (p≤e.on)).map fun e=>{ e with on:=e.on-p }).toArray }
def shOps (p:Nat) (l:List Oper):Array Oper:=((l.drop p).map (shO p)).toArray
theorem wpAny_shift {P:Program} {l:List Oper} {p:Nat} {Q:Exit→Act→World→Prop} (hg:((l.drop p).all fun o=>o.guard.isNone)=true):∀ (f:Nat) (L L':Array Bool) (a:Act) (W:World),(∀ j,j<p→L.getD j false=true)→(∀ i b,L.getD (p+i) b=L'.getD i b)→L.size=p+L'.size →
  wpAny P .any (shOps p l) Q f L' a W→wpAny P .any l.toArray Q f L a W:=by
 have hops:∀ k,(shOps p l)[k]?=(l[p+k]?).map (shO p):=fun k=>by simp [shOps]
 have rdy:∀ (L L':Array Bool),(∀ j,j<p→L.getD j false=true)→(∀ i b,L.getD (p+i) b=L'.getD i b)→∀ i,i∈Region.ready .any l.toArray L↔∃ k,i=p+k∧k∈Region.ready .any (shOps p l) L':=by
  intro L L' h1 h2 i
  constructor
  ·intro hi
   obtain ⟨hu,o,ho,hall⟩:=mem_ready.1 hi
   have hip:p≤i:=Nat.le_of_not_lt fun hlt=>by have:=getD_both hu;rw [h1 i hlt] at this;cases this
   obtain ⟨k,rfl⟩:=Nat.exists_eq_add_of_le hip
   refine ⟨k,rfl,mem_ready.2 ⟨by rw [← h2];exact hu,shO p o,(by
    have e1:l[p+k]?=some o:=by simpa using ho
    rw [hops,e1];rfl),fun e he hb=>?_⟩⟩
   simp only [shO,List.mem_toArray,List.mem_map,List.mem_filter,decide_eq_true_eq,Array.mem_toList_iff] at he
   obtain ⟨e0,⟨he0,hpe⟩,rfl⟩:=he
   rw [← h2]
   have:=hall e0 he0 hb
   rwa [show e0.on=p+(e0.on-p) by omega] at this
  ·rintro ⟨k,rfl,hk⟩
   obtain ⟨hu,o',ho',hall⟩:=mem_ready.1 hk
   rw [hops] at ho'
   obtain ⟨o,ho,rfl⟩:=Option.map_eq_some_iff.1 ho'
   refine mem_ready.2 ⟨by rw [h2];exact hu,o,by simpa using ho,fun e he hb=>?_⟩
   rcases Nat.lt_or_ge e.on p with hlt | hge
   ·exact h1 _ hlt
   ·have:=hall { e with on:=e.on-p } (by simp only [shO,List.mem_toArray,List.mem_map,List.mem_filter,decide_eq_true_eq,Array.mem_toList_iff];exact ⟨e,⟨he,hge⟩,rfl⟩) hb
    rw [← h2] at this
    rwa [show p+(e.on-p)=e.on by omega] at this
 have nil:∀ (L L':Array Bool),(∀ j,j<p→L.getD j false=true)→(∀ i b,L.getD (p+i) b=L'.getD i b)→Region.ready .any l.toArray L=[]→Region.ready .any (shOps p l) L'=[]:=fun L L' h1 h2 he=>by
  cases hr:Region.ready .any (shOps p l) L' with
  | nil=>rfl
  | cons k r =>
   have:=(rdy L L' h1 h2 (p+k)).2 ⟨k,rfl,by rw [hr];exact List.mem_cons_self ..⟩
   rw [he] at this;cases this
 have nil':∀ (L L':Array Bool),(∀ j,j<p→L.getD j false=true)→(∀ i b,L.getD (p+i) b=L'.getD i b)→Region.ready .any (shOps p l) L'=[]→Region.ready .any l.toArray L=[]:=fun L L' h1 h2 he=>by
  cases hr:Region.ready .any l.toArray L with
  | nil=>rfl
  | cons k r =>
   obtain ⟨q,_,hq⟩:=(rdy L L' h1 h2 k).1 (by rw [hr];exact List.mem_cons_self ..)
   rw [he] at hq;cases hq
 intro f
 induction f with
 | zero=>intro L L' a W h1 h2 h3 h;exact ⟨nil' L L' h1 h2 h.1,h.2⟩
 | succ f ih =>
  intro L L' a W h1 h2 h3 h
  refine ⟨fun he=>h.1 (nil L L' h1 h2 he),fun i hi=>?_⟩
  obtain ⟨k,rfl,hk⟩:=(rdy L L' h1 h2 i).1 hi
  have hw:=h.2 k hk
  obtain ⟨hu,o,ho,_⟩:=mem_ready.1 hi
  have ho1:l[p+k]?=some o:=by simpa using ho
  have ho2:(shOps p l)[k]?=some (shO p o):=by rw [hops,ho1];rfl
  have hgo:o.guard=none:=by
   have:=List.all_eq_true.1 hg o (List.mem_of_getElem? (i:=k) (by rw [List.getElem?_drop];exact ho1))
   simpa using this
  have next:∀ a W,wpAny P .any (shOps p l) Q f (L'.setIfInBounds k true) a W→wpAny P .any l.toArray Q f (L.setIfInBounds (p+k) true) a W:=fun a W h=>by
   refine ih _ (L'.setIfInBounds k true) a W (fun j hj=>?_) (fun q b=>?_) (by simp [h3]) h
   ·rw [getD_set_ne false (by omega)];exact h1 j hj
   ·by_cases e:q=k
    ·subst e
     by_cases hin:q<L'.size
     ·rw [Array.getD_eq_getD_getElem?,Array.getD_eq_getD_getElem?,Array.getElem?_setIfInBounds_self_of_lt (by omega),Array.getElem?_setIfInBounds_self_of_lt hin]
     ·rw [Array.setIfInBounds_eq_of_size_le (by omega),Array.setIfInBounds_eq_of_size_le (by omega)];exact h2 q b
    ·rw [getD_set_ne b (by omega),getD_set_ne b (Ne.symm e)];exact h2 q b
  unfold wpOp at hw ⊢
  simp only [ho,ho2] at hw ⊢
  have w1:Region.wanted o (yielded l.toArray a.tmps)=true:=by simp [Region.wanted,hgo]
  have w2:Region.wanted (shO p o) (yielded (shOps p l) a.tmps)=true:=by simp [Region.wanted,shO,hgo]
  rw [if_pos w1]
  rw [if_pos w2] at hw
  rcases hw with hw | ⟨hw,hl⟩
  ·exact .inl (Oper.wp_mono next hw)
  ·exact .inr ⟨hw,hl⟩
theorem EVD.shift {P:Program} {n:Nat} {env:Env} {bx:Bxs} {H:Hs} {Q:EQ} {l:List Oper} (p:Nat) (hg:((l.drop p).all fun o=>o.guard.isNone)=true) (hp:p≤l.length) (h:EVD P n (shOps p l) 0 env bx H Q):EVD P n l.toArray p env bx H Q:=fun W0 β a W r=>by
 have h1:=h W0 β a W r
 have hs:(shOps p l).size=l.length-p:=by simp [shOps]
 have hs2:l.toArray.size=l.length:=by simp
 rw [doneL_zero,Nat.sub_zero,hs] at h1
 rw [hs2]
 refine wpAny_shift hg _ _ _ a W (fun j hj=>?_) (fun i b=>?_) ?_ h1
 ·simp [doneL,Array.getD_eq_getD_getElem?,Array.getElem?_append,hj]
 ·simp [doneL,Array.getD_eq_getD_getElem?,Array.getElem?_append,Array.getElem?_replicate,show ¬ (p+i<p) by omega]
 ·simp [doneL]
theorem EVD.drawn {P:Program} {n:Nat} {env:Env} {bx:Bxs} {H:Hs} {Q:EQ} {l:List Oper} (m:Nat) {kl:List DK} (hB:regB l.toArray m n=true)
  (h:∀ x y,DJ P n l.toArray (l.drop m) [] bx H Q x y kl 0 (l.take m) kl env bx [] H.ow) (hS:storesB 0 kl []=true) (hS2:setsB kl []=true):EVD P n l.toArray 0 env bx H Q :=
 EVD.drawnS [] m hB h hS hS2 rfl
theorem EVD.head0 {P:Program} {n:Nat} {env:Env} {bx:Bxs} {H:Hs} {Q:EQ} {l:List Oper} (m:Nat) {kl:List DK} (hB:(edgesB l.toArray && goodB l.toArray m n && decide (m≤l.toArray.size) && barB l.toArray m)=true)
  (h:∀ x y,DJ P n l.toArray [] [] bx H (fun e env bx H'=>e=.normal∧EVD P n l.toArray m env bx H' Q) x y kl 0 (l.take m) kl env bx [] H.ow) (hS:storesB 0 kl []=true) (hS2:setsB kl []=true):EVD P n l.toArray 0 env bx H Q :=
 EVD.head [] m hB h hS hS2 rfl
theorem EV.drawn {P:Program} {n:Nat} {env:Env} {bx:Bxs} {H:Hs} {Q:EQ} {id:Nat} {l:List Oper} (m:Nat) {kl:List DK} (hm:P.follows .mixedOrders=true) (hB:regB l.toArray m n=true)
  (h:∀ x y,DJ P n l.toArray (l.drop m) [] bx H Q x y kl 0 (l.take m) kl env bx [] H.ow) (hS:storesB 0 kl []=true) (hS2:setsB kl []=true):EV P n (.region id l.toArray true) env bx H Q :=
 EV.drawnS [] m hm hB h hS hS2 rfl
def subB (env' env:Env):Prop:=∀ t s,env'.get t=some s→env.get t=some s
def pinAll (env:Env) (bx:Bxs):Bool:=env.all fun p=>match p.2 with
 | .p i _=>(bx.get i).isSome
 | _=>true
theorem mem_of_get:∀ {env:Env} {t:Nat} {s:SV},env.get t=some s→(t,s)∈env
 | [],t,s,h=>by cases h
 | (t',s')::e,t,s,h=>by
  rw [Env.get_cons] at h
  by_cases e':t'=t
  ·subst e';rw [if_pos rfl] at h;cases h;exact List.mem_cons_self ..
  ·rw [if_neg e'] at h;exact List.mem_cons_of_mem _ (mem_of_get h)
theorem Rel.weaken {n:Nat} {W0:World} {H0:Bs} {β:Nat→Nat} {env env':Env} {bx bx':Bxs} {H:Hs} {a:Act} {W:World} (r:Rel n W0 H0 β env bx H a W) (he:subB env' env) (hb:∀ t p,bx'.get t=some p→bx.get t=some p) (hp:pinAll env' bx'=true):Rel n W0 H0 β env' bx' H a W:=by
 have isS:∀ t,(bx'.get t).isSome=true→(bx.get t).isSome=true:=fun t ht=>by
  obtain ⟨p,hp⟩:=Option.isSome_iff_exists.1 ht
  rw [hb t p hp];rfl
 refine ⟨r.size,r.defers,fun t s hs=>r.slot t s (he t s hs),fun i T cs hg=>r.box i T cs (hb i _ hg),fun i hi=>r.low i (isS i hi),fun i j hi hj=>r.inj i j (isS i hi) (isS j hj),fun t i off ht=>?_,r.fits,r.le,r.new,r.bel,r.glob,fun j b T cs hj=>⟨(r.own j b T cs hj).1,(r.own j b T cs hj).2.1,(r.own j b T cs hj).2.2.1,fun i hi=>(r.own j b T cs hj).2.2.2 i (isS i hi)⟩,r.one⟩
 have:=List.all_eq_true.1 hp _ (mem_of_get ht)
 exact this
def SubL (env:Env):Env→Prop
 | []=>True
 | (t,s)::r=>env.get t=some s∧SubL env r
theorem SubL.sub {env:Env}:∀ {env':Env},SubL env env'→subB env' env
 | [],_,t,s,h=>by cases h
 | (t',s')::r,hs,t,s,h=>by
  rw [Env.get_cons] at h
  by_cases e:t'=t
  ·subst e;rw [if_pos rfl] at h;cases h;exact hs.1
  ·rw [if_neg e] at h;exact hs.2.sub t s h
def SubX (bx:Bxs):Bxs→Prop
 | []=>True
 | (t,p)::r=>bx.get t=some p∧SubX bx r
theorem SubX.sub {bx:Bxs}:∀ {bx':Bxs},SubX bx bx'→∀ t p,bx'.get t=some p→bx.get t=some p
 | [],_,t,s,h=>by cases h
 | (t',s')::r,hs,t,s,h=>by
  rw [Bxs.get_cons] at h
  by_cases e:t'=t
  ·subst e;rw [if_pos rfl] at h;cases h;exact hs.1
  ·rw [if_neg e] at h;exact hs.2.sub t s h
theorem EV.loop {P:Program} {n:Nat} {c:Code} {env:Env} {bx:Bxs} {H:Hs} {Q:EQ} {ι:Type} (E:ι→Env) (B:ι→Bxs) (O:ι→Ows) (I:ι→Hp→Prop) (μ:ι→Nat) (i0:ι)
  (he:SubL env (E i0)) (hb:SubX bx (B i0)) (ho:H.ow=O i0) (hp:∀ i,pinAll (E i) (B i)=true) (h0:I i0 H.ro)
  (h:∀ i G,H.ro.Le G→I i G→EV P n c (E i) (B i) ⟨G,O i,H.base⟩ (thenQ (fun env' bx' G'=>∃ i',SubL env' (E i')∧SubX bx' (B i')∧G'.ow=O i'∧I i' G'.ro∧G.Le G'.ro∧μ i'<μ i) Q)):EV P n (.loop c) env bx H Q:=fun W0 β a W r=>by
 refine wp_loop_ghost (fun k a w=>∃ i β G,μ i=k∧H.ro.Le G∧I i G∧Rel n W0 H.base β (E i) (B i) ⟨G,O i,H.base⟩ a w) (μ i0) ⟨i0,β,H.ro,rfl,Hp.Le.refl _,h0,by rw [← ho];exact r.weaken he.sub hb.sub (hp i0)⟩ ?_
 rintro k a w ⟨i,β,G,rfl,hle,hI,r⟩
 refine wp_mono (h i G hle hI W0 β a w r) ?_
 rintro e a' w' ⟨β',env',bx',G',hbase,hq,r'⟩
 cases e with
 | normal =>
  obtain ⟨i',h1,h2,ho',h3,h4,h5⟩:=hq
  exact ⟨μ i',h5,i',β',G'.ro,rfl,hle.trans h4,h3,by have:=r'.weaken h1.sub h2.sub (hp i');obtain ⟨ro,ow,ba⟩:=G';cases hbase;rw [← ho'];exact this⟩
 | _=>exact ⟨β',env',bx',G',hbase,hq,r'⟩
section
variable {P:Program} {n:Nat} {ops:Array Oper} {o:Oper} {rest:List Oper} {env:Env} {bx:Bxs} {sb:Bxs} {ow:Ows} {H:Hs} {Q:EQ} {τ:Tab} {d:Nat} {s:SV}
theorem Rel.sees {W0:World} {H0:Bs} {β:Nat→Nat} {a:Act} {W:World} (r:Rel n W0 H0 β env bx H a W):SeesAt ops o env β H.ro a:=fun t s _ ht=>r.slot t s ht
theorem EVL.ofVal (hv:ValOk P ops o env bx H.ow H.ro (fun _=>True) (fun β v G=>s.rep β G v)) (hd:o.dst=some d) (hn:Nat.blt d n=true) (hp:pinB bx s=true)
  (h:∀ G,H.ro.Le G→EVL P n ops rest ((d,s)::env) bx ⟨G,H.ow,H.base⟩ Q):EVL P n ops (o::rest) env bx H Q:=fun W0 β a W r=>by
 have h1:=hv β a W H.ro (Hp.Le.refl _) r.fits r.globW r.box (fun j b T cs hj=>(r.own j b T cs hj).1) r.sees trivial
 unfold wpList
 split at h1
 ·rename_i hw
  rw [if_pos hw]
  refine .inl (Oper.wp_any (Oper.wp_mono ?_ h1))
  rintro a' W' ⟨v,G',rfl,hr,hle,hf,hb,hnew⟩
  rw [hd]
  exact h G' hle W0 β _ W' ((r.grow hle hf hb hnew).put hn hr hp)
 ·rename_i hw
  rw [if_neg hw,hd]
  exact h H.ro (Hp.Le.refl _) W0 β _ W (r.put hn h1 hp)
theorem DJ.ofVal {tail l:List Oper} {x:Nat→Value} {y:Nat→Ows} {ow':Ows} {kl ks:List DK} {i:Nat} {bx':Bxs} {Γ:Fcts} (hv:ValOk P ops o env bx H.ow H.ro (DepF ops i Γ) (fun β v G=>s.rep β G v)) (hd:o.dst=some d) (hn:Nat.blt d n=true) (hp:pinB (sb++bx) s=true)
  (h:DJ P n ops tail sb bx H Q x y kl (i+1) l ks ((d,s)::env) bx' Γ ow'):DJ P n ops tail sb bx H Q x y kl i (o::l) (.sv s::ks) env bx' Γ ow':=⟨d,hd,hn,hp,hv,h⟩
theorem ValOk.gen {R:Hp} {F:Hp→Prop} {v:Value} (hw:wantB ops env o=some true) (h:∀ (ev:Operand→Value) (W:World),(∀ y x,y∈o.op.operands→env.op y=some (.v x)→ev y=x)→(execOp ev o).run P W=.ok (.value v) W):ValOk P ops o env bx ow R F (fun β u G=>(SV.v v).rep β G u) :=
 fun β a W G _ hf _ hb _ hs _=>by
  rw [if_pos (hs.want hw)]
  unfold Oper.wp
  rw [h a.eval W (fun y x hm hy=>hs.op hm hy),Oper.upon_value]
  exact ⟨v,G,rfl,rfl,Hp.Le.refl G,hf,Below.refl _ _,Nw.refl _ _ _⟩
theorem ValOk.rem {R:Hp} {F:Hp→Prop} {T T':TypeId} {x y:Operand} {k:IntKind} {a b:Int} (ho:o.op=.binOp .rem T x y T') (hw:wantB ops env o=some true) (hx:env.op x=some (.v (.int k a))) (hy:env.op y=some (.v (.int k b))) (hb:b≠0) :
  ValOk P ops o env bx ow R F (fun β u G=>(SV.v (.int k (a.tmod b))).rep β G u) :=
 ValOk.gen hw fun ev W he=>by
  have h1:=he x _ (by simp [ho,Op.operands]) hx
  have h2:=he y _ (by simp [ho,Op.operands]) hy
  unfold execOp
  simp [ho,h1,h2,eqGuard,binOp,Op.intDiv,hb]
theorem ValOk.shl {R:Hp} {F:Hp→Prop} {T T':TypeId} {x y:Operand} {k k':IntKind} {a b:Int} (ho:o.op=.binOp .shl T x y T') (hw:wantB ops env o=some true) (hx:env.op x=some (.v (.int k a))) (hy:env.op y=some (.v (.int k' b))) (hb:0≤b) :
  ValOk P ops o env bx ow R F (fun β u G=>(SV.v (.int k (k.wrap (a*2 ^ (min b.toNat k.bits))))).rep β G u) :=
 ValOk.gen hw fun ev W he=>by
  have h1:=he x _ (by simp [ho,Op.operands]) hx
  have h2:=he y _ (by simp [ho,Op.operands]) hy
  unfold execOp
  simp [ho,h1,h2,eqGuard,binOp,Op.shift,show ¬ b<0 by omega]
theorem ValOk.shr {R:Hp} {F:Hp→Prop} {T T':TypeId} {x y:Operand} {k k':IntKind} {a b:Int} (ho:o.op=.binOp .shr T x y T') (hw:wantB ops env o=some true) (hx:env.op x=some (.v (.int k a))) (hy:env.op y=some (.v (.int k' b))) (hb:0≤b) :
  ValOk P ops o env bx ow R F (fun β u G=>(SV.v (.int k (a.fdiv (2 ^ (min b.toNat k.bits))))).rep β G u) :=
 ValOk.gen hw fun ev W he=>by
  have h1:=he x _ (by simp [ho,Op.operands]) hx
  have h2:=he y _ (by simp [ho,Op.operands]) hy
  unfold execOp
  simp [ho,h1,h2,eqGuard,binOp,Op.shift,show ¬ b<0 by omega]
def SlC (H:Hp) (v:Value) (n size:Nat) (xs:List Value):Prop:=xs.length=n*size∧((n=0∧∃ a cap,v=.slice a 0 cap)∨∃ b off cap c,v=.slice (some ⟨b,off,none⟩) n cap∧n≤cap∧H b=some c∧∀ j x,xs[j]?=some x→c[off+j]?=some x)
theorem SlC.mono {H G:Hp} {v:Value} {m size:Nat} {xs:List Value} (h:SlC H v m size xs) (k:H.Le G):SlC G v m size xs:=by
 refine ⟨h.1,?_⟩
 rcases h.2 with h1 | ⟨b,off,cap,c,h1,h2,h3,h4⟩
 ·exact .inl h1
 ·exact .inr ⟨b,off,cap,c,h1,h2,k b c h3,h4⟩
theorem SlC.val {H:Hp} {v:Value} {m size:Nat} {xs:List Value} (h:SlC H v m size xs):∃ a cap,v=.slice a m cap:=by
 rcases h.2 with ⟨rfl,a,cap,rfl⟩ | ⟨b,off,cap,c,h1,_⟩
 ·exact ⟨a,cap,rfl⟩
 ·exact ⟨_,_,h1⟩
theorem ValOk.idx {R:Hp} {F:Hp→Prop} (hτ:TabOk P τ) {T:TypeId} {x y:Operand} (ho:o.op=.indexAddr T x y) (hw:wantB ops env o=some true) {te te':TE} {e:TypeId} (ht:τ.get T=some te) (hk:te.kind=.slice e) (ht':τ.get e=some te')
  {v:Value} (hx:env.op x=some (.v v)) {k:IntKind} {z:Int} (hy:env.op y=some (.v (.int k z))) {m:Nat} {xs:List Value} (hs:SlC R v m te'.size xs) (j:Nat) (hz:z=j) (hj:j<m) :
  ValOk P ops o env bx ow R F (fun β u G=>(SV.ro ((xs.drop (j*te'.size)).take te'.size)).rep β G u) :=
 fun β a W G hle hf _ hb _ hsee _=>by
  have ex:a.eval x=v:=hsee.op (by simp [ho,Op.operands]) hx
  have ey:a.eval y=.int k z:=hsee.op (by simp [ho,Op.operands]) hy
  have hkd:=(hτ.get ht).kind
  rw [hk] at hkd
  have hkd':P.underlying T=some (.slice e):=hkd
  rw [if_pos (hsee.want hw)]
  rcases hs.2 with ⟨h0,_⟩ | ⟨b,off,cap,c,rfl,hc,hH,hcs⟩
  ·omega
  ·have hrun:(execOp a.eval o).run P W=.ok (.value (.pointer (some ⟨b,off+j*te'.size,none⟩))) W:=by
    unfold execOp
    simp [ho,ex,ey,Instr.indexAt,asIntOf,run_underlying hkd',hz,(hτ.get ht').size,Addr.add_mid,hj]
   unfold Oper.wp
   rw [hrun,Oper.upon_value]
   refine ⟨_,G,rfl,⟨b,off+j*te'.size,c,rfl,hle b c hH,fun q u hq=>?_⟩,Hp.Le.refl G,hf,Below.refl _ _,Nw.refl _ _ _⟩
   rw [List.getElem?_take] at hq
   split at hq
   ·rw [List.getElem?_drop] at hq
    rw [Nat.add_assoc]
    exact hcs _ _ hq
   ·cases hq
theorem SlC.sub {H:Hp} {a:Option Addr} {m cap size:Nat} {xs:List Value} (h:SlC H (.slice a m cap) m size xs) (lo hi:Nat) (h1:lo≤hi) (h2:hi≤m) (h3:m≤cap) :
  SlC H (.slice (if cap=lo then a else a.map (·.add (lo*size))) (hi-lo) (cap-lo)) (hi-lo) size ((xs.drop (lo*size)).take ((hi-lo)*size)):=by
 have hl:=h.1
 have hmul:lo*size+(hi-lo)*size≤m*size:=by rw [← Nat.add_mul];exact Nat.mul_le_mul_right _ (by omega)
 refine ⟨by simp;omega,?_⟩
 by_cases e:hi-lo=0
 ·left
  exact ⟨e,_,_,by rw [e]⟩
 ·right
  rcases h.2 with ⟨h0,_⟩ | ⟨b,off,cap',c,hv,hc,hH,hcs⟩
  ·omega
  ·cases hv
   rw [if_neg (by omega)]
   refine ⟨b,off+lo*size,cap-lo,c,by simp [Addr.add_mid],by omega,hH,fun j x hj=>?_⟩
   rw [List.getElem?_take] at hj
   split at hj
   ·rw [List.getElem?_drop] at hj
    rw [Nat.add_assoc]
    exact hcs _ _ hj
   ·cases hj
theorem ValOk.sliceV {R:Hp} {F:Hp→Prop} (hτ:TabOk P τ) {T:TypeId} {x:Operand} {lo hi:Option Operand} (ho:o.op=.slice T x lo hi none) (hw:wantB ops env o=some true) {te te':TE} {e:TypeId} (ht:τ.get T=some te) (hk:te.kind=.slice e) (ht':τ.get e=some te')
  {a:Option Addr} {m cap:Nat} (hx:env.op x=some (.v (.slice a m cap))) (l h:Nat) (hlo:lo=none∧l=0∨∃ y k,lo=some y∧env.op y=some (.v (.int k (l:Int)))) (hhi:hi=none∧h=m∨∃ y k,hi=some y∧env.op y=some (.v (.int k (h:Int)))) (hlh:l≤h) (hhc:h≤cap) (hmc:m≤cap) :
  ValOk P ops o env bx ow R F (fun β u G=>(SV.v (.slice (if cap=l then a else a.map (·.add (l*te'.size))) (h-l) (cap-l))).rep β G u) :=
 ValOk.gen hw fun ev W he=>by
  have hkd:=(hτ.get ht).kind
  rw [hk] at hkd
  have hkd':P.underlying T=some (.slice e):=hkd
  have h1:ev x=.slice a m cap:=he x _ (by simp [ho,Op.operands]) hx
  unfold execOp
  simp only [ho,Instr.sliceAt,h1,Option.map_none]
  rcases hlo with ⟨rfl,rfl⟩ | ⟨y,k,rfl,hy⟩
  ·rcases hhi with ⟨rfl,rfl⟩ | ⟨y',k',rfl,hy'⟩
   ·simp [run_underlying hkd',Instr.slice,Instr.sliceBounds,(hτ.get ht').size]
   ·have h2:ev y'=.int k' h:=he y' _ (by simp [ho,Op.operands]) hy'
    simp [run_underlying hkd',Instr.slice,Instr.sliceBounds,Instr.sliceBound,h2,asIntOf,(hτ.get ht').size,hhc]
  ·have h3:ev y=.int k l:=he y _ (by simp [ho,Op.operands]) hy
   rcases hhi with ⟨rfl,rfl⟩ | ⟨y',k',rfl,hy'⟩
   ·simp [run_underlying hkd',Instr.slice,Instr.sliceBounds,Instr.sliceBound,h3,asIntOf,(hτ.get ht').size,hlh]
   ·have h2:ev y'=.int k' h:=he y' _ (by simp [ho,Op.operands]) hy'
    simp [run_underlying hkd',Instr.slice,Instr.sliceBounds,Instr.sliceBound,h2,h3,asIntOf,(hτ.get ht').size,hhc,hlh]
theorem Rel.newOwn {W0:World} {H0:Bs} {β:Nat→Nat} {a:Act} {W:World} (r:Rel n W0 H0 β env bx H a W) (T:TypeId) (cs:List Value) :
  Rel n W0 H0 β env bx ⟨H.ro,(W.heap.size,T,cs)::H.ow,H.base⟩ a (W.alloc (.cells cs.toArray T)):=by
 have hsz:W0.heap.size≤W.heap.size:=r.bel.size
 have hbl:Below W.heap.size W (W.alloc (.cells cs.toArray T)):=(Below.refl _ _).alloc (Nat.le_refl _) _
 have hro:H.ro W.heap.size=none:=by
  cases hc:H.ro W.heap.size with
  | none=>rfl
  | some c=>exact absurd (r.fits.lt (b:=W.heap.size) (by rw [hc];simp)) (Nat.lt_irrefl _)
 refine ⟨r.size,r.defers,r.slot,fun i T' cs' hg=>(r.box i T' cs' hg).alloc _,r.low,r.inj,r.pin,r.fits.below hbl,r.le,r.new.alloc r.fits _,r.bel.alloc _,r.glob,fun j b T' cs' hj=>?_,fun j j' b T1 T2 c1 c2 hj hj'=>?_⟩
 ·cases j with
  | zero =>
   simp at hj
   obtain ⟨rfl,rfl,rfl⟩:=hj
   exact ⟨Box.new _ _ _,.inl hsz,hro,fun i hi e=>by have:=r.lt hi;omega⟩
  | succ j =>
   obtain ⟨h1,h2,h3,h4⟩:=r.own j b T' cs' (by simpa using hj)
   exact ⟨h1.alloc _,h2,h3,h4⟩
 ·have lt:∀ j T c,H.ow[j]?=some (W.heap.size,T,c)→False:=fun j T c hj=>by
   have:=(r.own j _ T c hj).1.lt
   omega
  cases j with
  | zero =>
   simp at hj
   cases j' with
   | zero=>rfl
   | succ j'=>exact (lt j' T2 c2 (by rw [hj.1];simpa using hj')).elim
  | succ j =>
   cases j' with
   | zero=>simp at hj';exact (lt j T1 c1 (by rw [hj'.1];simpa using hj)).elim
   | succ j'=>rw [r.one j j' b T1 T2 c1 c2 (by simpa using hj) (by simpa using hj')]
theorem Rel.subOw {W0:World} {H0:Bs} {β:Nat→Nat} {a:Act} {W:World} (r:Rel n W0 H0 β env bx H a W) (pre mid post:Ows) (e:H.ow=pre++(mid++post)):Rel n W0 H0 β env bx ⟨H.ro,pre++post,H.base⟩ a W:=by
 have key:∀ j p,(pre++post)[j]?=some p→∃ j',H.ow[j']?=some p∧j'=(if j<pre.length then j else j+mid.length):=fun j p hj=>by
  by_cases h:j<pre.length
  ·refine ⟨j,?_,by rw [if_pos h]⟩
   rw [e,List.getElem?_append_left h]
   rwa [List.getElem?_append_left h] at hj
  ·refine ⟨j+mid.length,?_,by rw [if_neg h]⟩
   rw [List.getElem?_append_right (by omega)] at hj
   rw [e,List.getElem?_append_right (by omega),List.getElem?_append_right (by omega)]
   rw [show j+mid.length-pre.length-mid.length=j-pre.length by omega]
   exact hj
 refine ⟨r.size,r.defers,r.slot,r.box,r.low,r.inj,r.pin,r.fits,r.le,r.new,r.bel,r.glob,fun j b T cs hj=>?_,fun j j' b T1 T2 c1 c2 hj hj'=>?_⟩
 ·obtain ⟨q,hq,_⟩:=key j _ hj
  exact r.own q b T cs hq
 ·obtain ⟨q,hq,eq⟩:=key j _ hj
  obtain ⟨q',hq',eq'⟩:=key j' _ hj'
  have:=r.one q q' b T1 T2 c1 c2 hq hq'
  subst eq;subst eq'
  split at this <;> split at this <;> omega
theorem EVL.subOw (pre mid post:Ows) (e:H.ow=pre++(mid++post)) (h:EVL P n ops rest env bx ⟨H.ro,pre++post,H.base⟩ Q):EVL P n ops rest env bx H Q :=
 fun W0 β a W r=>h W0 β a W (r.subOw pre mid post e)
theorem EV.subOw {c:Code} (pre mid post:Ows) (e:H.ow=pre++(mid++post)) (h:EV P n c env bx ⟨H.ro,pre++post,H.base⟩ Q):EV P n c env bx H Q :=
 fun W0 β a W r=>h W0 β a W (r.subOw pre mid post e)
theorem Rel.publish {W0:World} {H0:Bs} {β:Nat→Nat} {a:Act} {W:World} (r:Rel n W0 H0 β env bx H a W) (pre post:Ows) (b:Nat) (T:TypeId) (cs:List Value) (e:H.ow=pre++((b,T,cs)::post)) (hnl:∀ k,k∈H0.lent→k≠b) :
  Rel n W0 H0 β env bx ⟨fun k=>if k=b then some cs.toArray else H.ro k,pre++post,H.base⟩ a W∧H.ro.Le (fun k=>if k=b then some cs.toArray else H.ro k):=by
 have hown:H.ow[pre.length]?=some (b,T,cs):=by rw [e];simp
 obtain ⟨hB,hlow,hro,hbx⟩:=r.own _ b T cs hown
 have hle:H.ro.Le (fun k=>if k=b then some cs.toArray else H.ro k):=fun k c hk=>by
  have:k≠b:=fun e'=>by subst e';rw [hro] at hk;cases hk
  simp only [if_neg this];exact hk
 refine ⟨?_,hle⟩
 have r':=r.subOw pre [(b,T,cs)] post (by rw [e];rfl)
 refine ⟨r.size,r.defers,fun t s hs=>?_,r.box,fun i hi=>⟨(r.low i hi).1,?_⟩,r.inj,r.pin,fun k c hk=>?_,r.le.trans hle,fun k c hk=>?_,r.bel,r.glob,fun j b' T' cs' hj=>?_,r'.one⟩
 ·obtain ⟨x,hx,hr⟩:=r.slot t s hs
  exact ⟨x,hx,hr.mono hle⟩
 ·simp only [if_neg (hbx i hi)];exact (r.low i hi).2
 ·by_cases ek:k=b
  ·subst ek
   simp only [if_true] at hk
   cases hk
   exact ⟨T,(0,0),hB⟩
  ·simp only [if_neg ek] at hk
   exact r.fits k c hk
 ·by_cases ek:k=b
  ·subst ek
   simp only [if_true] at hk
   cases hk
   exact .inr ⟨hlow.resolve_right (fun hk=>hnl _ hk rfl),T,hB⟩
  ·simp only [if_neg ek] at hk;exact r.new k c hk
 ·obtain ⟨h1,h2,h3,h4⟩:=r'.own j b' T' cs' hj
  refine ⟨h1,h2,?_,h4⟩
  have hne:b'≠b:=fun e'=>by
   subst e'
   have key:∃ q,H.ow[q]?=some (b',T',cs')∧q≠pre.length:=by
    by_cases hj':j<pre.length
    ·refine ⟨j,?_,by omega⟩
     rw [e,List.getElem?_append_left hj']
     rwa [List.getElem?_append_left hj'] at hj
    ·refine ⟨j+1,?_,by omega⟩
     rw [List.getElem?_append_right (by omega)] at hj
     rw [e,List.getElem?_append_right (by omega),show j+1-pre.length=(j-pre.length)+1 by omega,List.getElem?_cons_succ]
     exact hj
   obtain ⟨q,hq,hne⟩:=key
   exact hne (r.one q pre.length b' T' T cs' cs hq hown)
  simp only [if_neg hne];exact h3
theorem EVL.publish (pre post:Ows) {b:Nat} {T:TypeId} {cs:List Value} (e:H.ow=pre++((b,T,cs)::post)) (h:∀ G,H.ro.Le G→G b=some cs.toArray→EVL P n ops rest env bx ⟨G,pre++post,H.base⟩ Q) (hnl:∀ k,k∈H.base.lent→k≠b:=by exact fun _ h=>noLent h):EVL P n ops rest env bx H Q :=
 fun W0 β a W r=>by
  obtain ⟨r',hle⟩:=r.publish pre post b T cs e hnl
  exact h _ hle (by simp) W0 β a W r'
theorem EV.publish {c:Code} (pre post:Ows) {b:Nat} {T:TypeId} {cs:List Value} (e:H.ow=pre++((b,T,cs)::post)) (h:∀ G,H.ro.Le G→G b=some cs.toArray→EV P n c env bx ⟨G,pre++post,H.base⟩ Q) (hnl:∀ k,k∈H.base.lent→k≠b:=by exact fun _ h=>noLent h):EV P n c env bx H Q :=
 fun W0 β a W r=>by
  obtain ⟨r',hle⟩:=r.publish pre post b T cs e hnl
  exact h _ hle (by simp) W0 β a W r'
theorem EVL.make (hτ:TabOk P τ) {T:TypeId} {x y:Operand} (ho:o.op=.makeSlice T x y) (hg:o.guard=none) (hd:o.dst=some d) (hn:Nat.blt d n=true) {te te':TE} {e:TypeId} (ht:τ.get T=some te) (hk:te.kind=.slice e) (ht':τ.get e=some te')
  {k k':IntKind} {z:Int} (hx:env.op x=some (.v (.int k z))) (hy:env.op y=some (.v (.int k' z))) (m:Nat) (hz:z=m) (hm:m≤1000000000) (hby:Nat.ble te'.bytes 10000=true) (hsz:Nat.beq te'.zero.length te'.size=true)
  (h:∀ b,EVL P n ops rest ((d,.v (.slice (some ⟨b,0,none⟩) m m))::env) bx ⟨H.ro,(b,e,(List.replicate m te'.zero).flatten)::H.ow,H.base⟩ Q):EVL P n ops (o::rest) env bx H Q:=fun W0 β a W r=>by
 have hkd:=(hτ.get ht).kind
 rw [hk] at hkd
 have hkd':P.underlying T=some (.slice e):=hkd
 obtain ⟨zv,hinfo,hzc⟩:=(hτ.get ht').info
 obtain ⟨i0,hi,hz0,hz1,hz2⟩:=info_parts hinfo
 have ex:a.eval x=.int k z:=r.op hx
 have ey:a.eval y=.int k' z:=r.op hy
 have hb:=Nat.le_of_ble_eq_true hby
 have hl:=Nat.eq_of_beq_eq_true hsz
 have hrun:=run_make (P:=P) W T e i0 zv hkd' hi hz0 k k' z z (by omega) (Int.le_refl _) (by
  rw [hz2,hz]
  have:te'.bytes*m≤10000*1000000000:=Nat.mul_le_mul hb hm
  have h2:((te'.bytes*m:Nat):Int)≤((10000*1000000000:Nat):Int):=by exact_mod_cast this
  rw [Int.natCast_mul] at h2
  omega) (by omega)
 have hmc:madeCells zv.cells (z.toNat*i0.size)=((List.replicate m te'.zero).flatten).toArray:=by
  rw [hzc,hz1,hz,Int.toNat_natCast]
  apply Array.ext
  ·simp [madeCells,hl]
  ·intro i h1 h2
   simp only [madeCells,Array.getElem_map,Array.getElem_range]
   have hi':i<m*te'.size:=by simpa [madeCells] using h1
   have hpos:0<te'.size:=by rcases Nat.eq_zero_or_pos te'.size with h | h;(rw [h] at hi';omega);exact h
   have key:∀ (q i:Nat),i<q*te'.size→((List.replicate q te'.zero).flatten)[i]?=te'.zero[i % te'.size]?:=by
    intro q
    induction q with
    | zero=>intro i hi;omega
    | succ q ih =>
     intro i hi
     rw [List.replicate_succ,List.flatten_cons]
     by_cases hlt:i<te'.size
     ·rw [List.getElem?_append_left (by omega),Nat.mod_eq_of_lt hlt]
     ·rw [List.getElem?_append_right (by omega),ih (i-te'.zero.length) (by rw [Nat.add_mul] at hi;omega),hl]
      congr 1
      exact (Nat.mod_eq_sub_mod (by omega)).symm
   have h3:=key m i hi'
   have h4:i % te'.size<te'.zero.length:=by rw [hl];exact Nat.mod_lt _ hpos
   rw [List.getElem?_eq_getElem (by simpa using h2),List.getElem?_eq_getElem h4] at h3
   have h5:=Option.some.inj h3
   simp only [List.getElem_toArray,h5]
   simp [hl,getElem!_pos,Nat.mod_lt _ hpos]
 refine wpList_plain hg fun K hK=>?_
 have hx':(execOp a.eval o).run P W=.ok (.value (.slice (some ⟨W.heap.size,0,none⟩) m m)) (W.alloc (.cells ((List.replicate m te'.zero).flatten).toArray e)):=by
  unfold execOp
  simp only [ho,ex,ey,Sem.run_bind,hrun,Result.andThen_ok,Sem.run_pure]
  rw [hmc,hz,Int.toNat_natCast]
 unfold Oper.wp
 rw [hx',Oper.upon_value,hd]
 exact hK _ _ (h W.heap.size W0 β _ _ ((r.newOwn e _).put hn rfl rfl))
end
theorem flat_get (z:List Value) (size:Nat) (hl:z.length=size):∀ (q i:Nat),i<q*size→((List.replicate q z).flatten)[i]?=z[i % size]?:=by
 intro q
 induction q with
 | zero=>intro i hi;omega
 | succ q ih =>
  intro i hi
  rw [List.replicate_succ,List.flatten_cons]
  by_cases hlt:i<size
  ·rw [List.getElem?_append_left (by omega),Nat.mod_eq_of_lt hlt]
  ·rw [List.getElem?_append_right (by omega),ih (i-z.length) (by rw [Nat.add_mul] at hi;omega),hl]
   congr 1
   exact (Nat.mod_eq_sub_mod (by omega)).symm
theorem made_flat (z:List Value) (size m:Nat) (hl:z.length=size):((Array.range (m*size)).map (z.toArray[· % z.toArray.size]!))=((List.replicate m z).flatten).toArray:=by
 apply Array.ext
 ·simp [hl]
 ·intro i h1 h2
  have hi':i<m*size:=by simpa using h1
  have hpos:0<size:=by rcases Nat.eq_zero_or_pos size with h | h;(rw [h] at hi';omega);exact h
  have h3:=flat_get z size hl m i hi'
  have h4:i % size<z.length:=by rw [hl];exact Nat.mod_lt _ hpos
  rw [List.getElem?_eq_getElem (by simpa using h2),List.getElem?_eq_getElem h4] at h3
  have h5:=Option.some.inj h3
  simp only [Array.getElem_map,Array.getElem_range,List.getElem_toArray,h5]
  simp [hl,getElem!_pos,Nat.mod_lt _ hpos]
def consAllK {α:Type}:List Value→List Value→(List Value→Option α)→Option α
 | [],r,k=>k r
 | c::cs,r,k=>consAllK cs r fun r'=>k (c::r')
def zerosK {α:Type} (z:List Value):Nat→(List Value→Option α)→Option α
 | 0,k=>k []
 | m+1,k=>zerosK z m fun r=>consAllK z r k
def litK {α:Type} (env:Env) (size:Nat):List (Nat × Operand)→List Value→(List Value→Option α)→Option α
 | [],cs,k=>k cs
 | (f,x)::r,cs,k=>match env.op x with
  | some (.v v)=>match boxL v with
   | some vs=>match Nat.beq vs.length size with
    | true=>wrK (f*size) vs cs fun cs'=>litK env size r cs' k
    | false=>none
   | none=>none
  | _=>none
theorem consAllK_eq {α:Type}:∀ (cs r:List Value) (k:List Value→Option α),consAllK cs r k=k (cs++r)
 | [],_,_=>rfl
 | c::cs,r,k=>by unfold consAllK;rw [consAllK_eq];rfl
theorem zerosK_eq {α:Type} (z:List Value):∀ (m:Nat) (k:List Value→Option α),zerosK z m k=k ((List.replicate m z).flatten)
 | 0,_=>rfl
 | m+1,k=>by unfold zerosK;rw [zerosK_eq z m,consAllK_eq,List.replicate_succ,List.flatten_cons]
theorem litK_spec {α:Type} {env:Env} {size:Nat}:∀ (ps:List (Nat × Operand)) (cs:List Value) (k:List Value→Option α) (r:α),litK env size ps cs k=some r →
  ∃ cs',k cs'=some r∧∀ (β:Nat→Nat) (H:Hp) (ev:Operand→Value),(∀ y s,y∈ps.map (·.2)→env.op y=some s→s.rep β H (ev y)) →
   Instr.fill (fun i=>some (i*size,size)) cs.toArray (ps.map fun p=>(p.1,ev p.2))=some cs'.toArray
 | [],cs,k,r,h=>⟨cs,h,fun _ _ _ _=>rfl⟩
 | (f,x)::ps,cs,k,r,h=>by
  unfold litK at h
  split at h
  ·rename_i v hx
   split at h
   ·rename_i vs hvs
    split at h
    ·rename_i hl
     obtain ⟨h1,h2⟩:=wrK_spec _ _ _ _ _ h
     obtain ⟨cs',hk,hfill⟩:=litK_spec ps _ k r h1
     refine ⟨cs',hk,fun β H ev he=>?_⟩
     have hv:ev x=v:=he x _ (by simp) hx
     have hlen:=Nat.eq_of_beq_eq_true hl
     rw [List.map_cons]
     unfold Instr.fill
     simp only [hv,boxL_cells hvs]
     rw [if_neg (by simp [hlen];omega)]
     have:=fold_set vs cs (f*size) 0 (by omega)
     rw [Nat.add_zero] at this
     have e:(vs.toArray.zipIdx.foldl (fun (cs:Array Value) (x:Value × Nat)=>match x with | (c,j)=>cs.setIfInBounds (f*size+j) c) cs.toArray)=(vs.zipIdx.foldl (fun (c:Array Value) (p:Value × Nat)=>c.setIfInBounds (f*size+p.2) p.1) cs.toArray):=by
      simp
     rw [e,this]
     exact hfill β H ev (fun y s hy=>he y s (by simp at hy ⊢;exact .inr hy))
    ·cases h
   ·cases h
  ·cases h
section
variable {P:Program} {n:Nat} {ops:Array Oper} {o:Oper} {rest:List Oper} {env:Env} {bx:Bxs} {sb:Bxs} {ow:Ows} {H:Hs} {Q:EQ} {τ:Tab} {d:Nat} {s:SV}
theorem EVL.lit (hτ:TabOk P τ) {T:TypeId} {len:Nat} {parts:Array (Nat × Operand)} (ho:o.op=.buildSlice T len parts) (hg:o.guard=none) (hd:o.dst=some d) (hn:Nat.blt d n=true) {te te':TE} {e:TypeId} (ht:τ.get T=some te) (hk:te.kind=.slice e) (ht':τ.get e=some te')
  (hsz:Nat.beq te'.zero.length te'.size=true) (hpos:Nat.ble 1 (len*te'.size)=true) (hsm:Nat.ble (len*te'.size) 10000=true) {cs:List Value} (hc:zerosK te'.zero len (fun zs=>litK env te'.size parts.toList zs some)=some cs)
  (h:∀ b,EVL P n ops rest ((d,.v (.slice (some ⟨b,0,none⟩) len len))::env) bx ⟨H.ro,(b,e,cs)::H.ow,H.base⟩ Q):EVL P n ops (o::rest) env bx H Q:=fun W0 β a W r=>by
 have hkd:=(hτ.get ht).kind
 rw [hk] at hkd
 have hkd':P.underlying T=some (.slice e):=hkd
 obtain ⟨zv,hinfo,hzc⟩:=(hτ.get ht').info
 obtain ⟨i0,hi,hz0,hz1,hz2⟩:=info_parts hinfo
 have hl:=Nat.eq_of_beq_eq_true hsz
 have hp:=Nat.le_of_ble_eq_true hpos
 have hm:=Nat.le_of_ble_eq_true hsm
 rw [zerosK_eq] at hc
 obtain ⟨cs',hcs,hfill⟩:=litK_spec _ _ _ _ hc
 cases hcs
 have hff:=hfill β H.ro a.eval (fun y s' _ hy=>r.op hy)
 have hrun:=run_buildSlice (P:=P) W T e len (parts.map fun (i,x)=>(i,a.eval x)) cs.toArray i0 zv hkd' hi hz0 (by rw [hz1];omega) (by rw [hz1];omega) (by
  rw [hz1,hzc,made_flat te'.zero te'.size len hl,← hff]
  congr 1
  simp)
 refine wpList_plain hg fun K hK=>?_
 have hx':(execOp a.eval o).run P W=.ok (.value (.slice (some ⟨W.heap.size,0,none⟩) len len)) (W.alloc (.cells cs.toArray e)):=by
  unfold execOp
  simp only [ho,Sem.run_bind,hrun,Result.andThen_ok,Sem.run_pure]
 unfold Oper.wp
 rw [hx',Oper.upon_value,hd]
 exact hK _ _ (h W.heap.size W0 β _ _ ((r.newOwn e _).put hn rfl rfl))
theorem EVL.lit0 (hτ:TabOk P τ) {T:TypeId} (ho:o.op=.buildSlice T 0 #[]) (hg:o.guard=none) (hd:o.dst=some d) (hn:Nat.blt d n=true) {te te':TE} {e:TypeId} (ht:τ.get T=some te) (hk:te.kind=.slice e) (ht':τ.get e=some te')
  (h:∀ b,EVL P n ops rest ((d,.v (.slice (some ⟨b,0,none⟩) 0 0))::env) bx ⟨H.ro,(b,e,[])::H.ow,H.base⟩ Q):EVL P n ops (o::rest) env bx H Q:=fun W0 β a W r=>by
 have hkd:=(hτ.get ht).kind
 rw [hk] at hkd
 have hkd':P.underlying T=some (.slice e):=hkd
 refine wpList_plain hg fun K hK=>?_
 have hx':(execOp a.eval o).run P W=.ok (.value (.slice (some ⟨W.heap.size,0,none⟩) 0 0)) (W.alloc (.cells ([]:List Value).toArray e)):=by
  unfold execOp
  have hsz:(sizeOf e).run P W=.ok te'.size W:=(hτ.get ht').size W
  simp [ho,Instr.buildSlice,run_underlying hkd',hsz,Instr.fill,newRow,Array.range_zero']
 unfold Oper.wp
 rw [hx',Oper.upon_value,hd]
 exact hK _ _ (h W.heap.size W0 β _ _ ((r.newOwn e _).put hn rfl rfl))
theorem ValOk.idxP {R:Hp} {F:Hp→Prop} (hτ:TabOk P τ) {T:TypeId} {x y:Operand} (ho:o.op=.indexAddr T x y) (hw:wantB ops env o=some true) {te te':TE} {e:TypeId} (ht:τ.get T=some te) (hk:te.kind=.slice e) (ht':τ.get e=some te')
  {b off m cap:Nat} (hx:env.op x=some (.v (.slice (some ⟨b,off,none⟩) m cap))) {k:IntKind} {z:Int} (hy:env.op y=some (.v (.int k z))) (j:Nat) (hz:z=j) (hj:j<m) :
  ValOk P ops o env bx ow R F (fun β u G=>(SV.v (.pointer (some ⟨b,off+j*te'.size,none⟩))).rep β G u) :=
 ValOk.gen hw fun ev W he=>by
  have ex:=he x _ (by simp [ho,Op.operands]) hx
  have ey:=he y _ (by simp [ho,Op.operands]) hy
  have hkd:=(hτ.get ht).kind
  rw [hk] at hkd
  have hkd':P.underlying T=some (.slice e):=hkd
  unfold execOp
  simp [ho,ex,ey,Instr.indexAt,asIntOf,run_underlying hkd',hz,(hτ.get ht').size,Addr.add_mid,hj]
theorem EVL.loadOwn (hτ:TabOk P τ) {T:TypeId} {x:Operand} (ho:o.op=.load T x) (hw:wantB ops env o=some true) (hd:o.dst=some d) (hn:Nat.blt d n=true) {te:TE} (ht:τ.get T=some te)
  {b q:Nat} (hx:env.op x=some (.v (.pointer (some ⟨b,q,none⟩)))) (jj:Nat) {T':TypeId} {cs:List Value} (hj:H.ow[jj]?=some (b,T',cs)) {l:List Value} (hl:(cs.drop q).take te.size=l) (hlen:l.length=te.size) {v:Value} (hv:asVar te.agg l=some v)
  (h:EVL P n ops rest ((d,.v v)::env) bx H Q):EVL P n ops (o::rest) env bx H Q:=fun W0 β a W r=>by
 obtain ⟨hB,_⟩:=r.own jj b T' cs hj
 have ex:a.eval x=.pointer (some ⟨b,q,none⟩):=r.op hx
 have hrun:=run_load_cells (hτ.get ht) (by have:=hB.range q te.size;rw [hl] at this;exact this) hlen hv
 unfold wpList
 rw [if_pos (r.want hw)]
 refine .inl ?_
 have hx':(execOp a.eval o).run P W=.ok (.value v) W:=by
  unfold execOp
  simp only [ho,ex,Sem.run_bind,hrun,Result.andThen_ok,Sem.run_pure]
 unfold Oper.wp
 rw [hx',Oper.upon_value,hd]
 exact h W0 β _ W (r.put hn rfl rfl)
theorem Rel.setOwn {W0:World} {H0:Bs} {β:Nat→Nat} {a:Act} {W:World} (r:Rel n W0 H0 β env bx H a W) (pre post:Ows) {b:Nat} {T:TypeId} {cs:List Value} (e:H.ow=pre++((b,T,cs)::post)) (off:Nat) (vs:List Value) (hl:off+vs.length≤cs.length) :
    Rel n W0 H0 β env bx ⟨H.ro,pre++((b,T,cs.take off++vs++cs.drop (off+vs.length))::post),H.base⟩ a (W.setCells b off vs):=by
  have k:=kept_setCells b vs off W
  have hown:H.ow[pre.length]?=some (b,T,cs):=by rw [e];simp
  obtain ⟨hB,hlow,hro,hbx⟩:=r.own _ b T cs hown
  have hsz:W0.heap.size≤W.heap.size:=r.bel.size
  have key:∀ (j b':Nat) (T':TypeId) (cs':List Value),(pre++((b,T,cs.take off++vs++cs.drop (off+vs.length))::post))[j]?=some (b',T',cs')→(j=pre.length∧b'=b∧T'=T∧cs'=cs.take off++vs++cs.drop (off+vs.length))∨(j≠pre.length∧H.ow[j]?=some (b',T',cs')):=by
    intro j b' T' cs' hj
    by_cases ej:j=pre.length
    · subst ej
      simp at hj
      obtain ⟨rfl,rfl,rfl⟩:=hj
      exact .inl ⟨rfl,rfl,rfl,by simp⟩
    · refine .inr ⟨ej,?_⟩
      rw [e]
      by_cases h:j<pre.length
      · rw [List.getElem?_append_left h] at hj ⊢;exact hj
      · rw [List.getElem?_append_right (by omega)] at hj ⊢
        rw [show j-pre.length=(j-pre.length-1)+1 by omega,List.getElem?_cons_succ] at hj ⊢
        exact hj
  refine ⟨r.size,r.defers,r.slot,fun i T' cs' hg=>?_,r.low,r.inj,r.pin,fun c x hc=>?_,r.le,r.new.kept r.fits k (fun c hc e=>hc (by rw [e];exact hro)),?_,r.glob,fun j b' T' cs' hj=>?_,fun j j' b' T1 T2 c1 c2 hj hj'=>?_⟩
  · have hb:=r.box i T' cs' hg
    exact (k.block (β i) hb.lt (hbx i (by rw [hg];rfl))).trans hb
  · have hne:c≠b:=fun e'=>by subst e';rw [hro] at hc;cases hc
    rw [k.block c (r.fits.lt (by rw [hc];simp)) hne]
    exact r.fits c x hc
  · exact r.bel.then k (fun j hj e => by subst e; rcases hlow with h | h; · omega
                                         · exact h)
  · rcases key j b' T' cs' hj with ⟨rfl,rfl,rfl,rfl⟩ | ⟨hne,hj'⟩
    · exact ⟨hB.setCells vs off W cs hl,hlow,hro,hbx⟩
    · obtain ⟨h1,h2,h3,h4⟩:=r.own j b' T' cs' hj'
      have hb:b'≠b:=fun e'=>by subst e';exact hne (r.one j pre.length b' T' T cs' cs hj' hown)
      exact ⟨(k.block b' h1.lt hb).trans h1,h2,h3,h4⟩
  · rcases key j b' T1 c1 hj with ⟨rfl,rfl,rfl,rfl⟩ | ⟨hne,hq⟩
    · rcases key j' b' T2 c2 hj' with ⟨rfl,_,_,_⟩ | ⟨hne',hq'⟩
      · rfl
      · exact r.one pre.length j' b' T1 T2 cs c2 hown hq'
    · rcases key j' b' T2 c2 hj' with ⟨rfl,rfl,rfl,rfl⟩ | ⟨hne',hq'⟩
      · exact r.one j pre.length b' T1 T2 c1 cs hq hown
      · exact r.one j j' b' T1 T2 c1 c2 hq hq'
theorem EVL.storeOwn (hτ:TabOk P τ) {T:TypeId} {x y:Operand} (ho:o.op=.store T x y) (hg:o.guard=none) (hd:o.dst=none) {te:TE} (ht:τ.get T=some te) {b q:Nat} (hx:env.op x=some (.v (.pointer (some ⟨b,q,none⟩)))) {v:Value} (hy:env.op y=some (.v v))
  (pre post:Ows) {T':TypeId} {cs:List Value} (e:H.ow=pre++((b,T',cs)::post)) {vs:List Value} (hvs:boxL v=some vs) (hl:Nat.beq vs.length te.size=true) (h1:oneB vs=true) (hle:q+te.size≤cs.length) {cs':List Value} (hcs:cs.take q++vs++cs.drop (q+te.size)=cs')
  (h:EVL P n ops rest env bx ⟨H.ro,pre++((b,T',cs')::post),H.base⟩ Q):EVL P n ops (o::rest) env bx H Q:=fun W0 β a W r=>by
 have hown:H.ow[pre.length]?=some (b,T',cs):=by rw [e];simp
 obtain ⟨hB,_⟩:=r.own _ b T' cs hown
 have ex:a.eval x=.pointer (some ⟨b,q,none⟩):=r.op hx
 have ey:a.eval y=v:=r.op hy
 have hlen:=Nat.eq_of_beq_eq_true hl
 have hsc:(storeCells ⟨b,q,none⟩ vs 0).run P W=.ok () (W.setCells b (q+0) vs) :=
  run_storeCells_cells (P:=P) b q vs 0 W (fun j hj=>by rw [Nat.add_zero,cell_of_row W b (q+j) _ T' (0,0) hB];simp;omega) (fun j hj=>by exact hB.free _) (fun u hu=>oneB_mem h1 u hu)
 rw [Nat.add_zero] at hsc
 refine wpList_plain hg fun K hK=>?_
 have hrun:(execOp a.eval o).run P W=.ok .skip (W.setCells b q vs):=by
  unfold execOp
  simp only [ho,ex,ey,Instr.storeAt,Instr.sureAddr,storeVar,boxL_cells hvs,Sem.run_bind,Sem.run_pure,Result.andThen_ok,(hτ.get ht).size]
  simp [hlen,hsc]
 unfold Oper.wp
 rw [hrun,Oper.upon_skip,hd]
 have r':=r.setOwn pre post e q vs (by omega)
 rw [hlen,hcs] at r'
 exact hK _ _ (h W0 β a _ r')
theorem EVL.set1 (hτ:TabOk P τ) {T:TypeId} {x y:Operand} (ho:o.op=.store T x y) (hg:o.guard=none) (hd:o.dst=none) {te:TE} (ht:τ.get T=some te) (h1s:te.size=1) {b q:Nat} (hx:env.op x=some (.v (.pointer (some ⟨b,q,none⟩)))) {v:Value} (hy:env.op y=some (.v v))
  {post:Ows} {T':TypeId} {cs:List Value} (e:H.ow=(b,T',cs)::post) (hvs:boxL v=some [v]) (h1:oneB [v]=true) (hle:q<cs.length)
  (h:EVL P n ops rest env bx ⟨H.ro,(b,T',cs.set q v)::post,H.base⟩ Q):EVL P n ops (o::rest) env bx H Q :=
 EVL.storeOwn hτ ho hg hd ht hx hy [] post e hvs (by rw [h1s];rfl) h1 (by omega) (by rw [h1s,List.set_eq_take_append_cons_drop,if_pos hle];simp) h
theorem run_append_place {P:Program} (w:World) (base:Nat) (t ty e:TypeId) (i:TypeInfo) (z:Value) (size bytes:Nat) (ht:P.underlying t=some (.slice e)) (hi:P.info? e=some i) (hz:i.zero=some z)
  (hsize:i.size=size) (hby:i.bytes=bytes) (hzs:z.cells.size=size) (hsz:0<size) (v:Value) (n:Nat) (xs:List Value) (hown:w.ownsRow base e size v n xs)
  (a:Addr) (m c:Nat) (news:List Value) (hl:news.length=m*size) (hnews:∀ j u,news[j]?=some u→w.cell? (a.add j)=some u) (h1:∀ u∈news,u.oneCell'=true)
  (h63:n+m≤maxLen) (hbytes:(n+m)*bytes≤140737488355328) (hbase:base≤w.heap.size) :
  ∃ v' w',(Builtin.append_ #[t,t] ty #[v,.slice (some a) m c]).run P w=.ok v' w'∧w'.ownsRow base e size v' (n+m) (xs++news)∧w.grownBy w' v.ownBlock ∧
   (v'=.slice none 0 0↔v=.slice none 0 0∧m=0)∧∀ g,v'.ownBlock=some g→v.ownBlock=some g∨w.heap.size≤g:=by
 obtain ⟨v',w',hr,h2,h3,h4⟩:=run_append_own (P:=P) w base t ty e i z size bytes ht hi hz hsize hby hzs hsz v n xs hown a m c news hl hnews h1 h63 hbytes hbase
 refine ⟨v',w',hr,h2,h3,h4,fun g hg=>?_⟩
 have hsmall:n+m≤9223372036854775807:=by simp only [maxLen] at h63;omega
 rcases hown.2 with ⟨rfl,rfl⟩ | ⟨g0,cap,cur,rfl,hbg,hgb,hnc,hcm,hcs,htake⟩
 ·
  have hx:xs=[]:=List.eq_nil_of_length_eq_zero (by simpa using hown.1)
  subst hx
  obtain ⟨v2,w2,hr2,h22,_⟩:=run_append_own (P:=P) w w.heap.size t ty e i z size bytes ht hi hz hsize hby hzs hsz (.slice none 0 0) 0 [] (World.ownsRow_nil w w.heap.size e size) a m c news hl hnews h1 h63 hbytes (Nat.le_refl _)
  rw [hr] at hr2
  cases hr2
  exact .inr ((h22.lt g hg).1)
 ·subst hsize
  by_cases hroom:n+m≤cap
  ·have hfit:n*i.size+news.length≤cur.size:=by rw [hl,hcs,← Nat.add_mul];exact Nat.mul_le_mul_right _ hroom
   have hr2:=run_append_room (P:=P) w t ty e i ht hi g0 n cap cur hgb a m c news hl hnews h1 hroom hfit
   rw [hr] at hr2
   cases hr2
   left;exact hg
  ·have holds:∀ j u,xs[j]?=some u→w.cell? ((⟨g0,0,none⟩:Addr).add j)=some u:=hown.cells (g:=g0) rfl
   have hr2:=run_append_grow (P:=P) w t ty e i z ht hi hz ⟨g0,0,none⟩ n cap xs hown.1 holds a m c news hl hnews (by omega) (by omega) (growslice_fits (by omega) (by rw [hby];exact hbytes))
   rw [hr] at hr2
   cases hr2
   right
   have:w.heap.size=g:=by simpa [Value.ownBlock] using hg
   omega
def OwnL (e:TypeId) (size:Nat) (v:Value) (m:Nat) (xs:List Value) (ow:Ows):Prop:=xs.length=m*size ∧
 ((v=.slice none 0 0∧m=0∧ow=[])∨∃ g cap sp,v=.slice (some ⟨g,0,none⟩) m cap∧ow=[(g,e,xs++sp)]∧(xs++sp).length=cap*size∧m≤cap∧cap≤maxLen)
theorem OwnL.nil (e:TypeId) (size:Nat):OwnL e size (.slice none 0 0) 0 [] []:=⟨by simp,.inl ⟨rfl,rfl,rfl⟩⟩
theorem OwnL.full {e:TypeId} {size m b:Nat} {cs:List Value} (h:cs.length=m*size) (hm:m≤1000000000):OwnL e size (.slice (some ⟨b,0,none⟩) m m) m cs [(b,e,cs)] :=
 ⟨h,.inr ⟨b,m,[],rfl,by simp,by simpa using h,Nat.le_refl _,by simp only [maxLen];omega⟩⟩
def SrcAt (H:Hs) (v:Value) (m size:Nat) (ys:List Value):Prop:=ys.length=m*size∧∃ b off cap,v=.slice (some ⟨b,off,none⟩) m cap ∧
 ((∃ (j:Nat) (T:TypeId) (cs:List Value),H.ow[j]?=some (b,T,cs)∧∀ q x,ys[q]?=some x→cs[off+q]?=some x)∨∃ c,H.ro b=some c∧∀ q x,ys[q]?=some x→c[off+q]?=some x)
theorem SrcAt.own {H:Hs} {m size b cap:Nat} {T:TypeId} {ys:List Value} (j:Nat) (hj:H.ow[j]?=some (b,T,ys)) (hl:ys.length=m*size):SrcAt H (.slice (some ⟨b,0,none⟩) m cap) m size ys :=
 ⟨hl,b,0,cap,rfl,.inl ⟨j,T,ys,hj,fun q x hq=>by simpa using hq⟩⟩
theorem SrcAt.ro {H:Hs} {v:Value} {m size:Nat} {ys:List Value} (h:SlC H.ro v m size ys) (hm:0<m):SrcAt H v m size ys:=by
 refine ⟨h.1,?_⟩
 rcases h.2 with ⟨h0,_⟩ | ⟨b,off,cap,c,h1,_,h2,h3⟩
 ·omega
 ·exact ⟨b,off,cap,h1,.inr ⟨c,h2,h3⟩⟩
theorem EVL.appendN (hτ:TabOk P τ) {T:TypeId} {x y:Operand} (ho:o.op=.call { callee:=.builtin .append,args:=#[x,y],argTypes:=#[T,T] }) (hg:o.guard=none) (hd:o.dst=some d) (hn:Nat.blt d n=true) {te te':TE} {e:TypeId} (ht:τ.get T=some te) (hk:te.kind=.slice e) (ht':τ.get e=some te')
  (hzs:Nat.beq te'.zero.length te'.size=true) (hpos:Nat.ble 1 te'.size=true) (hby:Nat.ble te'.bytes 10000=true) {v:Value} (hx:env.op x=some (.v v)) {u:Value} (hy:env.op y=some (.v u)) (pre ow post:Ows) (he:H.ow=pre++(ow++post)) {m1 m2:Nat} {xs ys:List Value}
  (hown:OwnL e te'.size v m1 xs ow) (hsrc:SrcAt H u m2 te'.size ys) (h1:oneB ys=true) (hm:m1+m2≤1000000000)
  (h:∀ v' ow',OwnL e te'.size v' (m1+m2) (xs++ys) ow'→(∀ k,k∈H.base.lent→(∀ p,p∈ow→k≠p.1)→∀ p,p∈ow'→k≠p.1)→EVL P n ops rest ((d,.v v')::env) bx ⟨H.ro,pre++(ow'++post),H.base⟩ Q):EVL P n ops (o::rest) env bx H Q:=fun W0 β a W r=>by
 have hkd:=(hτ.get ht).kind
 rw [hk] at hkd
 have hkd':P.underlying T=some (.slice e):=hkd
 obtain ⟨zv,hinfo,hzc⟩:=(hτ.get ht').info
 obtain ⟨i0,hi,hz0,hz1,hz2⟩:=info_parts hinfo
 have ex:a.eval x=v:=r.op hx
 have ey:a.eval y=u:=r.op hy
 have hl:=Nat.eq_of_beq_eq_true hzs
 have hp:=Nat.le_of_ble_eq_true hpos
 have hb:=Nat.le_of_ble_eq_true hby
 have hsz:W0.heap.size≤W.heap.size:=r.bel.size
 obtain ⟨hyl,sb,so,sc,rfl,hcell⟩:=hsrc
 have hnews:∀ j w,ys[j]?=some w→W.cell? ((⟨sb,so,none⟩:Addr).add j)=some w:=fun j w hj=>by
  rw [Addr.add_mid]
  rcases hcell with ⟨jj,T',cs,hjj,hq⟩ | ⟨c,hc,hq⟩
  ·exact (r.own jj sb T' cs hjj).1.at (so+j) (by simpa using hq j w hj)
  ·obtain ⟨T',fz,hW⟩:=r.fits sb c hc
   rw [cell_of_row W sb (so+j) c T' fz hW]
   exact hq j w hj
 have hrow:W.ownsRow 0 e te'.size v m1 xs:=by
  refine ⟨hown.1,?_⟩
  rcases hown.2 with ⟨h2,h3,_⟩ | ⟨g,cap,sp,h2,h3,h4,h5,h6⟩
  ·exact .inl ⟨h2,h3⟩
  ·have hjg:H.ow[pre.length]?=some (g,e,xs++sp):=by rw [he,h3];simp
   obtain ⟨hB,hlow,_⟩:=r.own _ _ _ _ hjg
   exact .inr ⟨g,cap,(xs++sp).toArray,h2,Nat.zero_le _,hB,h5,h6,by simpa using h4,by simp only [List.toList_toArray];rw [← hown.1];exact List.take_left⟩
 refine wpList_plain hg fun K hK=>?_
 have hby':(m1+m2)*te'.bytes≤140737488355328:=by
  have:(m1+m2)*te'.bytes≤1000000000*10000:=Nat.mul_le_mul hm hb
  omega
 obtain ⟨v',W',hrn,hrow',hgr,hnil,hplace⟩:=run_append_place (P:=P) W 0 T o.type e i0 zv te'.size te'.bytes hkd' hi hz0 hz1 hz2 (by rw [hzc];simpa using hl) (by omega) v m1 xs hrow ⟨sb,so,none⟩ m2 sc ys hyl hnews (oneB_mem h1) (by simp only [maxLen];omega) hby' (Nat.zero_le _)
 ·have hx':(execOp a.eval o).run P W=.ok (.value v') W':=by
   unfold execOp
   simp only [ho,resolve,invoke,builtin,Sem.run_bind,Sem.run_pure,Result.andThen_ok,List.map_toArray,List.map_cons,List.map_nil,ex,ey,hrn]
  unfold Oper.wp
  rw [hx',Oper.upon_value]
  apply hK
  rw [hd]
  have hbl:Kept (fun k=>v.ownBlock=some k) W W':=⟨hgr.os,hgr.tape,hgr.output,hgr.size,fun k hk hx=>hgr.block k hk (fun e=>hx e.symm)⟩
  have vb:∀ k,v.ownBlock=some k→∃ xs',ow=[(k,e,xs')]:=fun k hk=>by
   rcases hown.2 with ⟨h2,_,_⟩ | ⟨g,cap,sp,h2,h3,_⟩
   ·rw [h2] at hk;cases hk
   ·rw [h2] at hk;cases hk;exact ⟨_,h3⟩
  have vin:∀ k,v.ownBlock=some k→∃ xs',H.ow[pre.length]?=some (k,e,xs'):=fun k hk=>by
   obtain ⟨xs',h2⟩:=vb k hk
   exact ⟨xs',by rw [he,h2];simp⟩
  have oldOw:∀ (j b:Nat) (T':TypeId) (cs:List Value),(pre++post)[j]?=some (b,T',cs)→∃ q,H.ow[q]?=some (b,T',cs)∧v.ownBlock≠some b:=fun j b T' cs hj=>by
   have key:∃ q,H.ow[q]?=some (b,T',cs)∧(q<pre.length∨pre.length+ow.length≤q):=by
    by_cases h:j<pre.length
    ·exact ⟨j,by rw [he,List.getElem?_append_left h];rwa [List.getElem?_append_left h] at hj,.inl h⟩
    ·refine ⟨j+ow.length,?_,.inr (by omega)⟩
     rw [List.getElem?_append_right (by omega)] at hj
     rw [he,List.getElem?_append_right (by omega),List.getElem?_append_right (by omega),show j+ow.length-pre.length-ow.length=j-pre.length by omega]
     exact hj
   obtain ⟨q,hq,hpos⟩:=key
   refine ⟨q,hq,fun hvb=>?_⟩
   obtain ⟨xs',h2⟩:=vb b hvb
   obtain ⟨xs2,h3⟩:=vin b hvb
   have:=r.one q pre.length b T' e cs xs2 hq h3
   rw [h2] at hpos
   simp at hpos
   omega
  have rbase:Rel n W0 H.base β env bx ⟨H.ro,pre++post,H.base⟩ a W':=by
   refine ⟨r.size,r.defers,r.slot,fun i T' cs' hg=>?_,r.low,r.inj,r.pin,fun c z hc=>?_,r.le,r.new.kept r.fits hbl (fun c hc hvb=>?_),?_,r.glob,fun j b T' cs' hj=>?_,(r.subOw pre ow post he).one⟩
   ·have hbx:=r.box i T' cs' hg
    refine (hbl.block (β i) hbx.lt (fun hvb=>?_)).trans hbx
    obtain ⟨xs',h2⟩:=vin _ hvb
    exact (r.own _ _ _ _ h2).2.2.2 i (by rw [hg];rfl) rfl
   ·rw [hbl.block c (r.fits.lt (by rw [hc];simp)) (fun hvb=>?_)]
    ·exact r.fits c z hc
    ·obtain ⟨xs',h2⟩:=vin _ hvb
     rw [(r.own _ _ _ _ h2).2.2.1] at hc
     cases hc
   ·obtain ⟨xs',h2⟩:=vin _ hvb
    exact hc (r.own _ _ _ _ h2).2.2.1
   ·refine r.bel.then hbl (fun j hj hvb=>?_)
    obtain ⟨xs',h2⟩:=vin _ hvb
    rcases (r.own _ _ _ _ h2).2.1 with h | h
    ·omega
    ·exact h
   ·obtain ⟨q,hq,hne⟩:=oldOw j b T' cs' hj
    obtain ⟨h2,h3,h4,h5⟩:=r.own q b T' cs' hq
    exact ⟨(hbl.block b h2.lt hne).trans h2,h3,h4,h5⟩
  rcases hrow'.2 with ⟨hv',hm0⟩ | ⟨g,cap,cur,hv',hg0,hcur,hcap,hmx,hsize,htake⟩
  ·
   have hown':OwnL e te'.size v' (m1+m2) (xs++ys) []:=⟨hrow'.1,.inl ⟨hv',hm0,rfl⟩⟩
   exact h v' [] hown' (fun _ _ _ p hp=>by cases hp) W0 β _ W' (rbase.put hn rfl rfl)
  ·have hcl:cur.toList=(xs++ys)++cur.toList.drop ((m1+m2)*te'.size):=by
    rw [← htake];exact (List.take_append_drop _ _).symm
   have hown':OwnL e te'.size v' (m1+m2) (xs++ys) [(g,e,(xs++ys)++cur.toList.drop ((m1+m2)*te'.size))] :=
    ⟨hrow'.1,.inr ⟨g,cap,_,hv',rfl,by rw [← hcl];simpa using hsize,hcap,hmx⟩⟩
   have hBg:Box W' g ((xs++ys)++cur.toList.drop ((m1+m2)*te'.size)).toArray e:=by
    rw [← hcl];simpa [Box] using hcur
   have hgnew:v.ownBlock=some g∨W.heap.size≤g:=hplace g (by rw [hv'];rfl)
   have hgl:W0.heap.size≤g∨g∈H.base.lent:=by
    rcases hgnew with hvb | hge
    ·obtain ⟨xs',h2⟩:=vin _ hvb
     exact (r.own _ _ _ _ h2).2.1
    ·exact .inl (by omega)
   have gro:H.ro g=none∧(∀ i,(bx.get i).isSome=true→β i≠g)∧∀ (j:Nat) (T':TypeId) (cs':List Value),(pre++post)[j]?≠some (g,T',cs'):=by
    rcases hgnew with hvb | hge
    ·obtain ⟨xs',h2⟩:=vin _ hvb
     obtain ⟨_,_,h3,h4⟩:=r.own _ _ _ _ h2
     exact ⟨h3,h4,fun j T' cs' hj=>(oldOw j g T' cs' hj).choose_spec.2 hvb⟩
    ·refine ⟨?_,fun i hi e=>by have:=r.lt hi;omega,fun j T' cs' hj=>?_⟩
     ·cases hc:H.ro g with
      | none=>rfl
      | some c=>exact absurd (r.fits.lt (b:=g) (by rw [hc];simp)) (by omega)
     ·obtain ⟨q,hq,_⟩:=oldOw j g T' cs' hj
      have:=(r.own q g T' cs' hq).1.lt
      omega
   have hnw:∀ k,k∈H.base.lent→(∀ p,p∈ow→k≠p.1)→∀ p,p∈[(g,e,(xs++ys)++cur.toList.drop ((m1+m2)*te'.size))]→k≠p.1:=fun k hk hold p hp=>by
    obtain rfl:=List.mem_singleton.1 hp
    rcases hgnew with hvb | hge
    ·obtain ⟨xs',h2⟩:=vb g hvb
     exact hold (g,e,xs') (by rw [h2];exact List.mem_singleton.2 rfl)
    ·have:=(r.glob.2 k hk).2
     show k≠g
     omega
   refine h v' _ hown' hnw W0 β _ W' (Rel.put ?_ hn rfl rfl)
   have key:∀ (j b:Nat) (T':TypeId) (cs':List Value),(pre++([(g,e,(xs++ys)++cur.toList.drop ((m1+m2)*te'.size))]++post))[j]?=some (b,T',cs')→(j=pre.length∧b=g∧T'=e∧cs'=(xs++ys)++cur.toList.drop ((m1+m2)*te'.size))∨(b≠g∧(pre++post)[if j<pre.length then j else j-1]?=some (b,T',cs')∧j≠pre.length):=by
    intro j b T' cs' hj
    by_cases ej:j=pre.length
    ·subst ej
     simp at hj
     obtain ⟨rfl,rfl,rfl⟩:=hj
     exact .inl ⟨rfl,rfl,rfl,by simp⟩
    ·have hq:(pre++post)[if j<pre.length then j else j-1]?=some (b,T',cs'):=by
      by_cases hlt:j<pre.length
      ·rw [if_pos hlt,List.getElem?_append_left hlt]
       rwa [List.getElem?_append_left hlt] at hj
      ·rw [if_neg hlt,List.getElem?_append_right (by omega)]
       rw [List.getElem?_append_right (by omega),List.getElem?_append_right (by simp;omega)] at hj
       simp only [List.length_cons,List.length_nil] at hj
       rw [show j-1-pre.length=j-pre.length-(0+1) by omega]
       exact hj
     refine .inr ⟨fun e'=>?_,hq,ej⟩
     subst e'
     exact gro.2.2 _ _ _ hq
   refine ⟨rbase.size,rbase.defers,rbase.slot,rbase.box,rbase.low,rbase.inj,rbase.pin,rbase.fits,rbase.le,rbase.new,rbase.bel,rbase.glob,fun j b T' cs' hj=>?_,fun j j' b T1 T2 c1 c2 hj hj'=>?_⟩
   ·rcases key j b T' cs' hj with ⟨_,rfl,rfl,rfl⟩ | ⟨_,hq,_⟩
    ·exact ⟨hBg,hgl,gro.1,gro.2.1⟩
    ·exact rbase.own _ b T' cs' hq
   ·rcases key j b T1 c1 hj with ⟨h2,h2b,_⟩ | ⟨h2,hq,hjn⟩
    ·rcases key j' b T2 c2 hj' with ⟨h3,_⟩ | ⟨h3,_⟩
     ·omega
     ·exact absurd h2b h3
    ·rcases key j' b T2 c2 hj' with ⟨_,h3,_⟩ | ⟨_,hq',hjn'⟩
     ·exact absurd h3 h2
     ·have:=rbase.one _ _ b T1 T2 c1 c2 hq hq'
      split at this <;> split at this <;> omega
theorem EVL.append (hτ:TabOk P τ) {T:TypeId} {x y:Operand} (ho:o.op=.call { callee:=.builtin .append,args:=#[x,y],argTypes:=#[T,T] }) (hg:o.guard=none) (hd:o.dst=some d) (hn:Nat.blt d n=true) {te te':TE} {e:TypeId} (ht:τ.get T=some te) (hk:te.kind=.slice e) (ht':τ.get e=some te')
  (hzs:Nat.beq te'.zero.length te'.size=true) (hpos:Nat.ble 1 te'.size=true) (hby:Nat.ble te'.bytes 10000=true) {v:Value} (hx:env.op x=some (.v v)) {u:Value} (hy:env.op y=some (.v u)) (pre ow post:Ows) (he:H.ow=pre++(ow++post)) {m1 m2:Nat} {xs ys:List Value}
  (hown:OwnL e te'.size v m1 xs ow) (hsrc:SrcAt H u m2 te'.size ys) (h1:oneB ys=true) (hm:m1+m2≤1000000000)
  (h:∀ v' ow',OwnL e te'.size v' (m1+m2) (xs++ys) ow'→EVL P n ops rest ((d,.v v')::env) bx ⟨H.ro,pre++(ow'++post),H.base⟩ Q):EVL P n ops (o::rest) env bx H Q :=
 EVL.appendN hτ ho hg hd hn ht hk ht' hzs hpos hby hx hy pre ow post he hown hsrc h1 hm fun v' ow' h2 _=>h v' ow' h2
end
end Go.Proofs.YtbcfidllfimehaaGreatDoor
