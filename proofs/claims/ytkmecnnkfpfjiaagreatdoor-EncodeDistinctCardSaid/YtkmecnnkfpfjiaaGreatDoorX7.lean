/- DERIVED: THE SHELF's CONTRACTS AT THIS DUMP,IN PLAIN WORDS (tools/lay-plain.mjs out of 'TUx.lean',which tools/lay-shelf.mjs wrote): THE SAME DECLARATIONS UNDER THE SAME NAMES: 'import','namespace','open','def','theorem' AND NOTHING ELSE: no command of the shelf's: FOR A HAND-IN. Each laying: the table of numbers ('.._ren') and one theorem,a field a fact of the dump's own or the kernel's comparison;each contract: ONE APPLICATION. Of the library: utf8.ValidString, strconv.Atoi, strings.Split at the dot, strings.Compare. flagstoneref3: parts, list, Check; flagstoneref1.Valid. flagstoneref3: list, Check. flagstoneref6: Split, Spans, members, Serve, None. flagstoneref6: counts, part, walk, Expr. flagstoneref6: prerequisites, targets, rules, variations, Flag. flagstoneref6: Segment, Layer, Experiment. flagstoneref6: settings, declared, the lists, Environment. What a well-formed environment is made of; flagError. flagstoneref17: experimentError. flagstoneref17: Environment, Valid. The draws: segments. The draws: a layer. The draws: a flag: states. The draws: a flag. The draws: a flag, its rules; the whole. The draws: an experiment. The draws: an environment: states. The draws: an environm -/
import Derived.Test.YtkmecnnkfpfjiaaGreatDoorX6
import Derived.Shelf.LaysC
import Derived.Shelf.Small.Strs
import Derived.Shelf.Strconv.AtoiAll
import Derived.Shelf.Strings.Split
import Derived.Shelf.Unicode.ValidAny
import Derived.Test.YtkmecnnkfpfjiaaGreatDoorProg
import Derived.Lib.SplitLaws
import Derived.Lib.ValidU
set_option linter.unusedVariables false
set_option linter.unusedSimpArgs false
namespace Go.Proofs
open Go.Shelf
def Tryz.zM:Go.Shelf.Ren:=⟨fun | 172=>232 | 244=>239 | 245=>240 | 247=>246 | 279=>247 | 280=>248 | 281=>249 | 282=>250 | 287=>256 | 316=>257 | 171=>259 | 205=>258 | 321=>262 | 322=>263 | 243=>264 | 246=>265 | 283=>266 | 284=>267 | 285=>268 | 286=>269 | 129=>271 | 317=>270 | 318=>272 | 319=>273 | 320=>274 | 337=>275 | 338=>276 | n=>n,fun | 9=>9 | 3=>3 | 75=>313 | 76=>314 | 4=>4 | 5=>5 | 167=>325 | 37=>22 | 0=>0 | 85=>326 | 2=>2 | 168=>328 | 53=>43 | 175=>331 | 46=>235 | 210=>335 | 127=>341 | 145=>344 | 143=>342 | 21=>21 | 171=>346 | 173=>349 | 212=>352 | 51=>286 | 20=>20 | 213=>353 | 232=>356 | 233=>357 | 80=>49 | n=>n,fun | 15=>8 | 16=>9 | 17=>10 | 18=>11 | 19=>12 | n=>n⟩
theorem Tryz.DA:Go.Proofs.LaysC.n172 Tryz.prog Tryz.zM:={
 mixed:=by kernel_rfl
 f129:=Tryz.func271.trans (congrArg some (by kernel_rfl))
 f171:=Tryz.func259.trans (congrArg some (by kernel_rfl))
 f172:=Tryz.func232.trans (congrArg some (by kernel_rfl))
 f205:=Tryz.func258.trans (congrArg some (by kernel_rfl))
 f243:=Tryz.func264.trans (congrArg some (by kernel_rfl))
 f244:=Tryz.func239.trans (congrArg some (by kernel_rfl))
 f245:=Tryz.func240.trans (congrArg some (by kernel_rfl))
 f246:=Tryz.func265.trans (congrArg some (by kernel_rfl))
 f247:=Tryz.func246.trans (congrArg some (by kernel_rfl))
 f279:=Tryz.func247.trans (congrArg some (by kernel_rfl))
 f280:=Tryz.func248.trans (congrArg some (by kernel_rfl))
 f281:=Tryz.func249.trans (congrArg some (by kernel_rfl))
 f282:=Tryz.func250.trans (congrArg some (by kernel_rfl))
 f283:=Tryz.func266.trans (congrArg some (by kernel_rfl))
 f284:=Tryz.func267.trans (congrArg some (by kernel_rfl))
 f285:=Tryz.func268.trans (congrArg some (by kernel_rfl))
 f286:=Tryz.func269.trans (congrArg some (by kernel_rfl))
 f287:=Tryz.func256.trans (congrArg some (by kernel_rfl))
 f316:=Tryz.func257.trans (congrArg some (by kernel_rfl))
 f317:=Tryz.func270.trans (congrArg some (by kernel_rfl))
 f318:=Tryz.func272.trans (congrArg some (by kernel_rfl))
 f319:=Tryz.func273.trans (congrArg some (by kernel_rfl))
 f320:=Tryz.func274.trans (congrArg some (by kernel_rfl))
 f321:=Tryz.func262.trans (congrArg some (by kernel_rfl))
 f322:=Tryz.func263.trans (congrArg some (by kernel_rfl))
 f337:=Tryz.func275.trans (congrArg some (by kernel_rfl))
 f338:=Tryz.func276.trans (congrArg some (by kernel_rfl))
 t0:=Tryz.underlying0
 a0:=Tryz.isAgg0
 z0:=Tryz.sizeOf0
 v0:=Tryz.zeroValue0
 t2:=Tryz.underlying2
 a2:=Tryz.isAgg2
 z2:=Tryz.sizeOf2
 v2:=Tryz.zeroValue2
 t3:=Tryz.underlying3
 a3:=Tryz.isAgg3
 z3:=Tryz.sizeOf3
 v3:=Tryz.zeroValue3
 t4:=Tryz.underlying4
 a4:=Tryz.isAgg4
 z4:=Tryz.sizeOf4
 v4:=Tryz.zeroValue4
 t5:=Tryz.underlying5
 a5:=Tryz.isAgg5
 z5:=Tryz.sizeOf5
 v5:=Tryz.zeroValue5
 t9:=Tryz.underlying9
 a9:=Tryz.isAgg9
 z9:=Tryz.sizeOf9
 v9:=Tryz.zeroValue9
 t20:=Tryz.underlying20
 a20:=Tryz.isAgg20
 z20:=Tryz.sizeOf20
 v20:=Tryz.zeroValue20
 t21:=Tryz.underlying21
 a21:=Tryz.isAgg21
 z21:=Tryz.sizeOf21
 v21:=Tryz.zeroValue21
 t37:=Tryz.underlying22
 a37:=Tryz.isAgg22
 z37:=Tryz.sizeOf22
 v37:=Tryz.zeroValue22
 t46:=Tryz.underlying235
 a46:=Tryz.isAgg235
 z46:=Tryz.sizeOf235
 v46:=Tryz.zeroValue235
 t51:=Tryz.underlying286
 a51:=Tryz.isAgg286
 z51:=Tryz.sizeOf286
 v51:=Tryz.zeroValue286
 t53:=Tryz.underlying43
 a53:=Tryz.isAgg43
 z53:=Tryz.sizeOf43
 v53:=Tryz.zeroValue43
 t75:=Tryz.underlying313
 a75:=Tryz.isAgg313
 z75:=Tryz.sizeOf313
 v75:=Tryz.zeroValue313
 t76:=Tryz.underlying314
 a76:=Tryz.isAgg314
 z76:=Tryz.sizeOf314
 v76:=Tryz.zeroValue314
 t85:=Tryz.underlying326
 a85:=Tryz.isAgg326
 z85:=Tryz.sizeOf326
 v85:=Tryz.zeroValue326
 t127:=Tryz.underlying341
 a127:=Tryz.isAgg341
 z127:=Tryz.sizeOf341
 v127:=Tryz.zeroValue341
 t143:=Tryz.underlying342
 a143:=Tryz.isAgg342
 z143:=Tryz.sizeOf342
 v143:=Tryz.zeroValue342
 t145:=Tryz.underlying344
 a145:=Tryz.isAgg344
 z145:=Tryz.sizeOf344
 v145:=Tryz.zeroValue344
 t167:=Tryz.underlying325
 a167:=Tryz.isAgg325
 z167:=Tryz.sizeOf325
 v167:=Tryz.zeroValue325
 t168:=Tryz.underlying328
 a168:=Tryz.isAgg328
 z168:=Tryz.sizeOf328
 v168:=Tryz.zeroValue328
 t171:=Tryz.underlying346
 a171:=Tryz.isAgg346
 z171:=Tryz.sizeOf346
 v171:=Tryz.zeroValue346
 t173:=Tryz.underlying349
 a173:=Tryz.isAgg349
 z173:=Tryz.sizeOf349
 v173:=Tryz.zeroValue349
 t175:=Tryz.underlying331
 a175:=Tryz.isAgg331
 z175:=Tryz.sizeOf331
 v175:=Tryz.zeroValue331
 t210:=Tryz.underlying335
 a210:=Tryz.isAgg335
 z210:=Tryz.sizeOf335
 v210:=Tryz.zeroValue335
 t212:=Tryz.underlying352
 a212:=Tryz.isAgg352
 z212:=Tryz.sizeOf352
 v212:=Tryz.zeroValue352
 t213:=Tryz.underlying353
 a213:=Tryz.isAgg353
 z213:=Tryz.sizeOf353
 t232:=Tryz.underlying356
 a232:=Tryz.isAgg356
 z232:=Tryz.sizeOf356
 v232:=Tryz.zeroValue356
 t233:=Tryz.underlying357
 a233:=Tryz.isAgg357
 z233:=Tryz.sizeOf357
 v233:=Tryz.zeroValue357
 g15:=by kernel_rfl
 g16:=by kernel_rfl
 g17:=by kernel_rfl
 g18:=by kernel_rfl
 g19:=by kernel_rfl
 t80:=Tryz.underlying49
 a80:=Tryz.isAgg49
 z80:=Tryz.sizeOf49
 v80:=Tryz.zeroValue49
 i0:=by kernel_rfl
 i2:=by kernel_rfl
 i3:=by kernel_rfl
 i4:=by kernel_rfl
 i5:=by kernel_rfl
 i9:=by kernel_rfl
 i20:=by kernel_rfl
 i21:=by kernel_rfl
 i37:=by kernel_rfl
 i46:=by kernel_rfl
 i51:=by kernel_rfl
 i53:=by kernel_rfl
 i75:=by kernel_rfl
 i76:=by kernel_rfl
 i80:=by kernel_rfl
 i85:=by kernel_rfl
 i127:=by kernel_rfl
 i143:=by kernel_rfl
 i145:=by kernel_rfl
 i167:=by kernel_rfl
 i168:=by kernel_rfl
 i171:=by kernel_rfl
 i173:=by kernel_rfl
 i175:=by kernel_rfl
 i210:=by kernel_rfl
 i212:=by kernel_rfl
 i232:=by kernel_rfl
 i233:=by kernel_rfl
 m15:=by kernel_rfl
 m16:=by kernel_rfl
 m17:=by kernel_rfl
 m18:=by kernel_rfl
 m19:=by kernel_rfl
 c0:=by kernel_rfl
 c2:=by kernel_rfl
 c3:=by kernel_rfl
 c4:=by kernel_rfl
 c5:=by kernel_rfl
 c9:=by kernel_rfl
 c20:=by kernel_rfl
 c21:=by kernel_rfl
 c37:=by kernel_rfl
 c46:=by kernel_rfl
 c51:=by kernel_rfl
 c53:=by kernel_rfl
 c75:=by kernel_rfl
 c76:=by kernel_rfl
 c80:=by kernel_rfl
 c85:=by kernel_rfl
 c127:=by kernel_rfl
 c143:=by kernel_rfl
 c145:=by kernel_rfl
 c167:=by kernel_rfl
 c168:=by kernel_rfl
 c171:=by kernel_rfl
 c173:=by kernel_rfl
 c175:=by kernel_rfl
 c210:=by kernel_rfl
 c212:=by kernel_rfl
 c213:=by kernel_rfl
 c232:=by kernel_rfl
 c233:=by kernel_rfl}
open Go.RowKit in
theorem Tryz.strconv_Atoi_ok (s:ByteArray) (hmax:s.size<=9223372036854775806) (v:Int) (h:Lib.atoiAll s.data.toList=.ok v) (w:World) :
  Calls Tryz.prog 232 #[.string s] w λe w'=>e=.returned (.tuple #[.int .i64 v,.nilIface])/\(w'=w∨∃t,w'=Lib.bytesWorld w 5 t):=Any.strconv_Atoi_ok Tryz.DA s hmax v h w
open Go.RowKit in
theorem Tryz.strconv_Atoi_range (s:ByteArray) (hlim:s.size<=281474976710656) (h:Lib.atoiAll s.data.toList=.range) (ev:Value) (w:World) (hv:w.cell? ⟨9,0,none⟩=some ev) (hev:ev=.nilIface∨∃te pe,ev=.iface te pe) :
  Calls Tryz.prog 232 #[.string s] w λe w'=>∃N,e=.returned (.tuple #[.int .i64 (Lib.atoiSat s.data.toList),.iface 328 (.pointer (some ⟨N,0,none⟩))])/\w.heap.size<=N/\w'.heap[N]?=some (.cells #[.string ⟨#[65,116,111,105]⟩,.string s,ev] 335 (0,0))/\Below w.heap.size w w':=Any.strconv_Atoi_range Tryz.DA s hlim h ev w hv hev
def Tryz.BK:Go.Shelf.Ren:=⟨fun | 146=>216 | 221=>230 | 268=>235 | 138=>236 | 143=>237 | 195=>241 | 197=>242 | 218=>243 | 219=>244 | 260=>251 | 217=>252 | 225=>253 | 224=>254 | 267=>255 | 266=>260 | 314=>261 | n=>n,fun | 9=>9 | 31=>52 | 3=>3 | 4=>4 | 0=>0 | 105=>321 | 21=>21 | 5=>5 | 46=>235 | 119=>252 | 139=>255 | 138=>254 | 146=>338 | 51=>286 | n=>n,fun | 1=>7 | 3=>3 | 4=>4 | n=>n⟩
theorem Tryz.Oo:Go.Proofs.Lays.n146 Tryz.prog Tryz.BK:={
 mixed:=by kernel_rfl
 f138:=Tryz.func236.trans (congrArg some (by kernel_rfl))
 f143:=Tryz.func237.trans (congrArg some (by kernel_rfl))
 f146:=Tryz.func216.trans (congrArg some (by kernel_rfl))
 f195:=Tryz.func241.trans (congrArg some (by kernel_rfl))
 f197:=Tryz.func242.trans (congrArg some (by kernel_rfl))
 f217:=Tryz.func252.trans (congrArg some (by kernel_rfl))
 f218:=Tryz.func243.trans (congrArg some (by kernel_rfl))
 f219:=Tryz.func244.trans (congrArg some (by kernel_rfl))
 f221:=Tryz.func230.trans (congrArg some (by kernel_rfl))
 f224:=Tryz.func254.trans (congrArg some (by kernel_rfl))
 f225:=Tryz.func253.trans (congrArg some (by kernel_rfl))
 f260:=Tryz.func251.trans (congrArg some (by kernel_rfl))
 f266:=Tryz.func260.trans (congrArg some (by kernel_rfl))
 f267:=Tryz.func255.trans (congrArg some (by kernel_rfl))
 f268:=Tryz.func235.trans (congrArg some (by kernel_rfl))
 f314:=Tryz.func261.trans (congrArg some (by kernel_rfl))
 t0:=Tryz.underlying0
 a0:=Tryz.isAgg0
 z0:=Tryz.sizeOf0
 v0:=Tryz.zeroValue0
 t3:=Tryz.underlying3
 a3:=Tryz.isAgg3
 z3:=Tryz.sizeOf3
 v3:=Tryz.zeroValue3
 t4:=Tryz.underlying4
 a4:=Tryz.isAgg4
 z4:=Tryz.sizeOf4
 v4:=Tryz.zeroValue4
 t5:=Tryz.underlying5
 a5:=Tryz.isAgg5
 z5:=Tryz.sizeOf5
 v5:=Tryz.zeroValue5
 t9:=Tryz.underlying9
 a9:=Tryz.isAgg9
 z9:=Tryz.sizeOf9
 v9:=Tryz.zeroValue9
 t21:=Tryz.underlying21
 a21:=Tryz.isAgg21
 z21:=Tryz.sizeOf21
 v21:=Tryz.zeroValue21
 t31:=Tryz.underlying52
 a31:=Tryz.isAgg52
 z31:=Tryz.sizeOf52
 v31:=Tryz.zeroValue52
 t46:=Tryz.underlying235
 a46:=Tryz.isAgg235
 z46:=Tryz.sizeOf235
 v46:=Tryz.zeroValue235
 t51:=Tryz.underlying286
 a51:=Tryz.isAgg286
 z51:=Tryz.sizeOf286
 v51:=Tryz.zeroValue286
 t105:=Tryz.underlying321
 a105:=Tryz.isAgg321
 z105:=Tryz.sizeOf321
 v105:=Tryz.zeroValue321
 t119:=Tryz.underlying252
 a119:=Tryz.isAgg252
 z119:=Tryz.sizeOf252
 t138:=Tryz.underlying254
 a138:=Tryz.isAgg254
 z138:=Tryz.sizeOf254
 v138:=Tryz.zeroValue254
 t139:=Tryz.underlying255
 a139:=Tryz.isAgg255
 z139:=Tryz.sizeOf255
 v139:=Tryz.zeroValue255
 t146:=Tryz.underlying338
 a146:=Tryz.isAgg338
 z146:=Tryz.sizeOf338
 v146:=Tryz.zeroValue338
 g1:=by kernel_rfl
 g3:=by kernel_rfl
 g4:=by kernel_rfl}
open Go.RowKit Go.Lib in
theorem Tryz.strings_Split (s sep:ByteArray) (m:Int) (w:World) (hs:s.size < 4294967281) (hm:w.cell? ⟨7,0,none⟩=some (.int .i64 m)) (h1:1<=sep.size) :
  Calls Tryz.prog 216 #[.string s,.string sep] w λe w'=>
   e=.returned (.slice (some ⟨w.heap.size,0,none⟩) (Lib.countB s sep+1) (Lib.countB s sep+1))/\w'=w.alloc (.cells ((Lib.splitB sep 0 (Lib.countB s sep) s).map Value.string).toArray 9):=Any.strings_Split Tryz.Oo (by kernel_rfl) s sep m w hs hm h1
def Tryz.BM:Go.Shelf.Ren:=⟨fun | 106=>112 | 213=>191 | 265=>214 | n=>n,fun | 9=>9 | 3=>3 | n=>n,fun | n=>n⟩
theorem Tryz.Oq:Go.Proofs.Lays.n106 Tryz.prog Tryz.BM:={
 mixed:=by kernel_rfl
 f106:=Tryz.func112.trans (congrArg some (by kernel_rfl))
 f213:=Tryz.func191.trans (congrArg some (by kernel_rfl))
 f265:=Tryz.func214.trans (congrArg some (by kernel_rfl))
 t3:=Tryz.underlying3
 a3:=Tryz.isAgg3
 z3:=Tryz.sizeOf3
 v3:=Tryz.zeroValue3
 t9:=Tryz.underlying9
 a9:=Tryz.isAgg9
 z9:=Tryz.sizeOf9
 v9:=Tryz.zeroValue9}
open Go.RowKit in
theorem Tryz.strings_Compare (a b:ByteArray) (w:World) :
  Calls Tryz.prog 112 #[.string a,.string b] w λe w'=>e=.returned (.int .i64 (Lib.compareBytes a.data.toList b.data.toList))/\w'=w:=Any.strings_Compare Tryz.Oq a b w
def Tryz.BJ:Go.Shelf.Ren:=⟨fun | 196=>109 | 259=>188 | n=>n,fun | 9=>9 | 4=>4 | 3=>3 | 5=>5 | 12=>12 | 119=>252 | 0=>0 | 46=>235 | 139=>255 | 138=>254 | 53=>43 | n=>n,fun | 3=>3 | 4=>4 | n=>n⟩
theorem Tryz.On:Go.Proofs.Lays.n196 Tryz.prog Tryz.BJ:={
 mixed:=by kernel_rfl
 f196:=Tryz.func109.trans (congrArg some (by kernel_rfl))
 f259:=Tryz.func188.trans (congrArg some (by kernel_rfl))
 t0:=Tryz.underlying0
 a0:=Tryz.isAgg0
 z0:=Tryz.sizeOf0
 v0:=Tryz.zeroValue0
 t3:=Tryz.underlying3
 a3:=Tryz.isAgg3
 z3:=Tryz.sizeOf3
 v3:=Tryz.zeroValue3
 t4:=Tryz.underlying4
 a4:=Tryz.isAgg4
 z4:=Tryz.sizeOf4
 v4:=Tryz.zeroValue4
 t5:=Tryz.underlying5
 a5:=Tryz.isAgg5
 z5:=Tryz.sizeOf5
 v5:=Tryz.zeroValue5
 t9:=Tryz.underlying9
 a9:=Tryz.isAgg9
 z9:=Tryz.sizeOf9
 v9:=Tryz.zeroValue9
 t12:=Tryz.underlying12
 a12:=Tryz.isAgg12
 z12:=Tryz.sizeOf12
 v12:=Tryz.zeroValue12
 t46:=Tryz.underlying235
 a46:=Tryz.isAgg235
 z46:=Tryz.sizeOf235
 v46:=Tryz.zeroValue235
 t53:=Tryz.underlying43
 a53:=Tryz.isAgg43
 z53:=Tryz.sizeOf43
 v53:=Tryz.zeroValue43
 t119:=Tryz.underlying252
 a119:=Tryz.isAgg252
 z119:=Tryz.sizeOf252
 t138:=Tryz.underlying254
 a138:=Tryz.isAgg254
 z138:=Tryz.sizeOf254
 v138:=Tryz.zeroValue254
 t139:=Tryz.underlying255
 a139:=Tryz.isAgg255
 z139:=Tryz.sizeOf255
 v139:=Tryz.zeroValue255
 g3:=by kernel_rfl
 g4:=by kernel_rfl}
open Go.RowKit in
theorem Tryz.utf8_ValidString (s:ByteArray) (w:World) (hs:s.size<=9223372036854775807) (hT:Lib.Utf8Tabs 3 4 w) :
  Calls Tryz.prog 109 #[.string s] w λe w'=>e=.returned (.bool (Lib.validD s.data.toList))/\Below w.heap.size w w':=Any.utf8_ValidString Tryz.On s w hs hT
end Go.Proofs
namespace Go.T
open Go Go.Ab Go.Proofs Go.SH Go.RowKit
section
variable {c:Cx}
theorem tO (hg:Ab.Good glb c) {g:Nat} {cs:List AV} (h:glb g=some cs) {i:Nat} {k:IntKind} {z:Int} (hi:cs[i]?=some (.int k z)):c.w.cell? ⟨g,i,none⟩=some (.int k z):=by
 have h1:=hg.globs g cs h
 generalize hp:Value.pointer (some ⟨g,0,none⟩)=p at h1
 cases h1 with
 | elt cs off b o vals hl hc hr=>
  simp only [Value.pointer.injEq,Option.some.injEq,Addr.mk.injEq,and_true] at hp
  obtain ⟨rfl,h0⟩:=hp
  have h2:=(hc i _ hi).2.1
  have h3:vals i=.int k z:=by
   have h4:=hr i _ hi
   generalize vals i=w at h4 ⊢
   cases h4;rfl
  have h0':o=0:=by omega
  rw [h3,h0',Nat.zero_add] at h2
  exact h2
theorem DP (hg:Ab.Good glb c) {g:Nat} {u:AV} (h:glb g=some [u]):∃v,Rep c u v/\c.w.cell? ⟨g,0,none⟩=some v:=by
 have h1:=hg.globs g _ h
 generalize hp:Value.pointer (some ⟨g,0,none⟩)=p at h1
 cases h1 with
 | elt cs off b o vals hl hc hr=>
  simp only [Value.pointer.injEq,Option.some.injEq,Addr.mk.injEq,and_true] at hp
  obtain ⟨rfl,h0⟩:=hp
  have h2:=(hc 0 _ rfl).2.1
  have h0':o=0:=by omega
  rw [h0'] at h2
  exact ⟨_,hr 0 _ rfl,h2⟩
theorem firstCells:glb 3=some ((List.range 256).map λc=>AV.int .u8 (Lib.firstT c)):=by kernel_rfl
theorem uH:glb 4=some ((List.range 32).map λj=>AV.int .u8 (if j % 2=0 then (Lib.accLo (j / 2):Int) else Lib.accHi (j / 2))):=by kernel_rfl
theorem JF (hg:Ab.Good glb c):Lib.Utf8Tabs 3 4 c.w:=by
 refine ⟨λi hi=>?_,λi hi=>⟨?_,?_⟩⟩
 ·exact tO hg firstCells (by rw [List.getElem?_map,List.getElem?_range hi];rfl)
 ·refine tO hg uH ?_
  rw [List.getElem?_map,List.getElem?_range (by omega)]
  simp only [Option.map_some,Nat.mul_mod_right,if_true,Nat.mul_div_cancel_left i (show 0 < 2 by omega)]
 ·refine tO hg uH ?_
  rw [List.getElem?_map,List.getElem?_range (by omega)]
  simp only [Option.map_some]
  rw [if_neg (by omega),show (2*i+1) / 2=i by omega]
end
theorem L3 (s:List UInt8) (hs:s.length<=HN):aJ wd ng φB (rS Jm) [.str s] []:=⟨Jm s,.mk rfl,by
 refine Ce (x:=.bool (Jm s)) (λc=>.bool _) rfl ?_ λc vs hg hsz hr=>?_
 ·exact ⟨_,Tryz.func109,by kernel_rfl,by kernel_rfl⟩
 ·have h1:=Vu hsz (pE (hr 0 _ rfl))
  subst h1
  exact (Tryz.utf8_ValidString ⟨s.toArray⟩ c.w (by have h2:=hs;unfold HN at h2;show s.toArray.size<=_;rw [List.size_toArray];omega) (JF hg)).mono λe w' h=>by
   simpa [Jm] using h⟩
noncomputable abbrev SS:Ent:=bc wd ng φB (rS Jm)
def Fs (s:List UInt8):List AV:=match Lib.atoiAll s with
 | .ok v=>[.int .i64 v,.nili]
 | _=>[.int .i64 (Lib.atoiSat s),.nni]
def isNum (s:List UInt8):Prop:=(∃v,Lib.atoiAll s=.ok v)∨Lib.atoiAll s=.range
theorem Cl (w:World) (t:ByteArray):Below w.heap.size w (Lib.bytesWorld w 5 t):=by
 refine ⟨rfl,rfl,rfl,?_,λk hk=>Lib.bytesWorld_at_old w 5 t k hk⟩
 simp [Lib.bytesWorld,World.freeze,World.alloc,World.drew,-World.alloc_eq,-World.drew_eq]
theorem I8 (s:List UInt8) (hs:s.length<=1048576) (h:isNum s):Ct wd.P wd.G nE [.str s] [] (.tup (Fs s),[]):=by
 refine uv (by unfold Fs;split <;> rfl) ⟨_,Tryz.func232,by kernel_rfl,by kernel_rfl⟩ λc vs hg hsz hr=>?_
 have h1:=Vu hsz (pE (hr 0 _ rfl))
 subst h1
 have hsz:(ByteArray.mk s.toArray).size<=1048576:=by show s.toArray.size<=_;simpa using hs
 rcases h with ⟨v,hv⟩ | hv
 ·refine (Tryz.strconv_Atoi_ok ⟨s.toArray⟩ (by omega) v (by simpa using hv) c.w).mono ?_
  rintro e w' ⟨rfl,hw⟩
  refine ⟨_,rfl,?_,λ_ _=>False,λ_ _ h=>h.elim,?_⟩
  ·rcases hw with rfl | ⟨t,rfl⟩
   ·exact Below.refl _ _
   ·exact Cl _ _
  ·unfold Fs;rw [hv]
   refine .tup _ _ rfl λi u hu=>?_
   match i,hu with
   | 0,hu=>simp at hu;subst hu;exact .int _ _
   | 1,hu=>simp at hu;subst hu;exact .nili
 ·obtain ⟨ev,h4,hc⟩:=DP hg (g:=9) (u:=.nni) (by kernel_rfl)
  have hev:∃te pe,ev=.iface te pe:=by cases h4;exact ⟨_,_,rfl⟩
  refine (Tryz.strconv_Atoi_range ⟨s.toArray⟩ (by omega) (by simpa using hv) _ c.w hc (.inr hev)).mono ?_
  rintro e w' ⟨N,rfl,_,_,hb⟩
  refine ⟨_,rfl,hb,λ_ _=>False,λ_ _ h=>h.elim,?_⟩
  unfold Fs;rw [hv]
  refine .tup _ _ rfl λi u hu=>?_
  match i,hu with
  | 0,hu=>simp at hu;subst hu;exact .int _ _
  | 1,hu=>simp at hu;subst hu;exact .nni _ _
theorem Pa (s:List UInt8) (hs:s.length<=1048576):Ct wd.P wd.G oc [.str s,.str [46]] [] (Qn (Lib.split s [46]),[]):=by
 have e:Lib.split s [46]=(Lib.splitB ⟨#[46]⟩ 0 (Lib.countB ⟨s.toArray⟩ ⟨#[46]⟩) ⟨s.toArray⟩).map λs=>s.data.toList:=by
  rw [Lib.splitB_data];simp [Lib.split,Lib.countB]
 rw [e]
 have hl:=Lib.splitB_all ⟨#[46]⟩ (by decide) 0 _ ⟨s.toArray⟩ rfl
 refine Cd _ 9 ⟨_,Tryz.func216,by kernel_rfl,by kernel_rfl⟩ λc vs hg hsz hr=>?_
 have h1:=Vt hsz (pE (hr 0 _ rfl)) (pE (hr 1 _ rfl))
 subst h1
 obtain ⟨m,h4,hm⟩:=DP hg (g:=7) (u:=.num .i64) (by kernel_rfl)
 obtain ⟨m,rfl⟩:∃n,m=.int .i64 n:=by cases h4;exact ⟨_,rfl⟩
 refine (Tryz.strings_Split ⟨s.toArray⟩ ⟨#[46]⟩ m c.w (by show s.toArray.size < _;simp;omega) hm (by decide)).mono λe w' h=>?_
 rw [hl]
 exact h
def UL (l:List AV) (_:List AO) (x:Int):Prop:=∀a b,l=[.str a,.str b]->x=Lib.compareBytes a b
theorem wu (a b:List UInt8):aJ wd vt SM.φI' UL [.str a,.str b] []:=⟨Lib.compareBytes a b,λa' b' e=>by
  simp only [List.cons.injEq,AV.str.injEq,and_true] at e
  rw [e.1,e.2],by
 refine uv rfl ⟨_,Tryz.func112,by kernel_rfl,by kernel_rfl⟩ λc vs hg hsz hr=>?_
 have h1:=Vt hsz (pE (hr 0 _ rfl)) (pE (hr 1 _ rfl))
 subst h1
 refine (Tryz.strings_Compare ⟨a.toArray⟩ ⟨b.toArray⟩ c.w).mono ?_
 rintro e w' ⟨rfl,rfl⟩
 refine ⟨_,rfl,Below.refl _ _,λ_ _=>False,λ_ _ h=>h.elim,?_⟩
 simp only
 exact .int _ _⟩
noncomputable abbrev Vq:Ent:=bc wd vt SM.φI' UL
open Go Go.Ab Go.Proofs Go.SH
def mkP (g:St->Bool) (v:St->Nat) (slot ex:Nat):Orc:=λs k=>cond (g s) (k (.exit ex) {env:=aput s.env slot (.int .i64 (v s)),objs:=s.objs}) none
instance:Inhabited St:=⟨{env:=[],objs:=[]}⟩
open Classical in
theorem E0 {α:Type} {X:Cfg} {f:FuncId} {p:List Nat} (S:α->St) (Inv:α->Prop) (μ:α->Nat) (w:α->Nat) (slot ex:Nat) (hi:∀a b,Inv a->Inv b->S a=S b->w a=w b) (hb:jv (ef (bD X.P f) p)=true) (m:Nat)
  (round:∀v,Inv v->∀ (k:Ex->St->Res) (kn:St->Res),(∀v',Inv v'->μ v' < μ v->kn (S v')=k (.exit ex) {env:=aput (S v').env slot (.int .i64 (w v')),objs:=(S v').objs})->dP X f m p (S v) kn k=k (.exit ex) {env:=aput (S v).env slot (.int .i64 (w v)),objs:=(S v).objs}) :
  bH X f p (mkP (dK S Inv) (gU S Inv w) slot ex):=by
 obtain ⟨b,hb⟩:∃b,ef (bD X.P f) p=.loop b:=by
  cases hc:ef (bD X.P f) p with
  | loop b=>exact ⟨b,rfl⟩
  | _=>rw [hc] at hb;cases hb
 intro s k r h
 have hl:=zI (τ:=St) S Inv μ (λa=>{env:=aput (S a).env slot (.int .i64 (w a)),objs:=(S a).objs}) (λst k=>k (.exit ex) st) hb m round
 refine hl s k r ?_
 unfold mkP at h
 unfold mkO
 obtain ⟨hg,h⟩:=bB h
 rw [hg]
 have hx:∃a,Inv a/\S a=s:=by unfold dK at hg;exact of_decide_eq_true hg
 obtain ⟨a,ha,rfl⟩:=hx
 rw [AI hi ha] at h
 rw [cond_true,AI (w:=λa=>({env:=aput (S a).env slot (.int .i64 (w a)),objs:=(S a).objs}:St)) (λa b ha hb e=>by show St.mk _ _=St.mk _ _;rw [e,hi a b ha hb e]) ha]
 exact h
def QZ (s:List UInt8) (a:(Nat->List AV)×(Nat->List AV)×Int×Int×Int):St:={env:=[(0,.str s),(2,.ref 2 0),(4,.ref 4 0),(5,.int .i64 a.2.2.1),(6,.int .i64 a.2.2.2.1),(7,.int .i64 a.2.2.2.2)],objs:=[(2,.arr 1 3 a.1),(4,.arr 1 3 a.2.1)]}
def qW (s:List UInt8) (a:(Nat->List AV)×(Nat->List AV)×Int×Int×Int):Nat:=a.2.2.1.toNat+nx (s.drop a.2.2.1.toNat)
theorem Mm {s:List UInt8} {a b:(Nat->List AV)×(Nat->List AV)×Int×Int×Int} (h:QZ s a=QZ s b):qW s a=qW s b:=by
 unfold QZ at h
 simp only [St.mk.injEq,List.cons.injEq,Prod.mk.injEq,AV.int.injEq,and_true,true_and] at h
 unfold qW;rw [h.1.1]
abbrev PQ:List Nat:=[1,1,1,0,1,0,0,1,0,0,1,0,0]
theorem EW (s:List UInt8) (hs:s.length<=1048576) (T:List Ent):∃ (u:St->Bool) (w:St->Nat),(∀a,(0<=a.2.2.1/\a.2.2.1<=(s.length:Int))->cn u w (QZ s a) (λt=>t=qW s a))/\∀L,bH (V0.run T 1 [] L [] sw) sw PQ (mkP u w 5 2):=by
 refine ⟨dK (QZ s) (λa=>0<=a.2.2.1/\a.2.2.1<=(s.length:Int)),gU (QZ s) (λa=>0<=a.2.2.1/\a.2.2.1<=(s.length:Int)) (qW s),λa ha=>⟨iE ha,AI (λa b _ _ h=>Mm h) ha⟩,λL=>?_⟩
 refine E0 (QZ s) _ (λa=>(s.length - a.2.2.1).toNat) (qW s) 5 2 (λa b _ _ h=>Mm h) (by kernel_rfl) 9 λa ha k kn hk=>?_
 obtain ⟨g2,g4,i,x,y⟩:=a
 have h0:0<=i:=ha.1
 have h1:i<=(s.length:Int):=ha.2
 refine Eq.trans (b:=cond (bif within i s.length then true else !bif decide (i < (s.length:Int))==true then true else false) (cond (bif decide (i < (s.length:Int)) then ((s.getD i.toNat 0).toNat:Int) !=46 else false) (kn (QZ s (g2,g4,IntKind.wrap .i64 (i+1),x,y))) (k (.exit 2) (QZ s (g2,g4,i,x,y)))) none) (by kernel_rfl) ?_
 by_cases h:i < s.length
 ·rw [aA h0 h,decide_eq_true h]
  have hi:i.toNat < s.length:=by omega
  by_cases hd:s.getD i.toNat 0=46
  ·have e:(((s.getD i.toNat 0).toNat:Int) !=46)=false:=by rw [hd];rfl
   rw [e]
   show k (.exit 2) (QZ s (g2,g4,i,x,y))=k (.exit 2) {env:=aput (QZ s (g2,g4,i,x,y)).env 5 (.int .i64 ((i.toNat+nx (s.drop i.toNat):Nat):Int)),objs:=_}
   rw [Oa hi hd,Nat.add_zero,Int.toNat_of_nonneg h0];rfl
  ·have e:(((s.getD i.toNat 0).toNat:Int) !=46)=true:=bne_iff_ne.2 (λe=>hd (UInt8.toNat_inj.1 (by show _=46;omega)))
   rw [e,wrap_i64 (by omega) (by omega)]
   refine (hk (g2,g4,i+1,x,y) ⟨by show 0<=i+1;omega,by show i+1<=(s.length:Int);omega⟩ (by show (s.length - (i+1)).toNat < (s.length - i).toNat;omega)).trans ?_
   show k (.exit 2) {env:=aput (QZ s (g2,g4,i+1,x,y)).env 5 (.int .i64 (((i+1).toNat+nx (s.drop (i+1).toNat):Nat):Int)),objs:=_}=k (.exit 2) {env:=aput (QZ s (g2,g4,i,x,y)).env 5 (.int .i64 ((i.toNat+nx (s.drop i.toNat):Nat):Int)),objs:=_}
   rw [Ob hi hd,show (i+1).toNat=i.toNat+1 by omega,show i.toNat+1+nx (s.drop (i.toNat+1))=i.toNat+(nx (s.drop (i.toNat+1))+1) by omega];rfl
 ·have hw:within i s.length=false:=by unfold within;rw [decide_eq_false (show ¬ i < (s.length:Int) from h)];cases decide (0<=i) <;> rfl
  rw [decide_eq_false h,hw]
  show k (.exit 2) (QZ s (g2,g4,i,x,y))=k (.exit 2) {env:=aput (QZ s (g2,g4,i,x,y)).env 5 (.int .i64 ((i.toNat+nx (s.drop i.toNat):Nat):Int)),objs:=_}
  rw [List.drop_eq_nil_of_le (by omega),QX,Nat.add_zero,Int.toNat_of_nonneg h0];rfl
def φ3P (x:(Nat->Int)×Bool):AV×List AO:=(.tup [.arr 1 3 λj=>[.int .i64 (x.1 j)],.bool x.2],[])
instance:Inhabited ((Nat->Int)×Bool):=⟨(λ_=>0,false)⟩
def r3P (l:List AV) (_:List AO) (x:(Nat->Int)×Bool):Prop:=∀s,l=[.str s]->x.2=gY s
theorem r3P.mk {s:List UInt8} {os:List AO} {x:(Nat->Int)×Bool} (h:x.2=gY s):r3P [.str s] os x:=λs' e=>by
 simp only [List.cons.injEq,AV.str.injEq,and_true] at e
 rw [<-e];exact h
theorem EX {s r q:List UInt8} (hr:s.drop (nx s+1)=r) (hq:r.drop (nx r+1)=q):gY s=(decide (nx s < s.length)&&(!mX (s.take (nx s))&&(decide (nx r < r.length)&&(!mX (r.take (nx r))&&(!decide (nx q < q.length)&&!mX (q.take (nx q))))))):=by
 by_cases d1:nx s < s.length
 ·by_cases d2:nx r < r.length
  ·by_cases d3:nx q < q.length
   ·rw [QE d1 hr d2 hq d3,decide_eq_true d3]
    cases decide (nx s < s.length) <;> cases decide (nx r < r.length) <;> cases mX (s.take (nx s)) <;> cases mX (r.take (nx r)) <;> rfl
   ·rw [QD d1 hr d2 hq d3,decide_eq_true d1,decide_eq_true d2,decide_eq_false d3,List.take_of_length_le (by have:=K7 q;omega:q.length<=nx q)]
    cases mX (s.take (nx s)) <;> cases mX (r.take (nx r)) <;> cases mX q <;> rfl
  ·rw [QF d1 hr d2,decide_eq_false d2]
   cases decide (nx s < s.length) <;> cases mX (s.take (nx s)) <;> rfl
 ·rw [QG d1,decide_eq_false d1];rfl
theorem p1 {b d:Bool} (x:Bool) (h:(bif b then true else !true==d)=true):(d&&(!b&&x))=false:=by cases b <;> cases d <;> first | rfl | cases h
theorem p2 {b d:Bool} (h:(bif b then true else !true==d)=false):d=true/\b=false:=by cases b <;> cases d <;> first | exact ⟨rfl,rfl⟩ | cases h
theorem p3 {b d:Bool} (h:(bif b then true else !false==d)=true):(!d&&!b)=false:=by cases b <;> cases d <;> first | rfl | cases h
theorem p4 {b d:Bool} (h:(bif b then true else !false==d)=false):(!d&&!b)=true:=by cases b <;> cases d <;> first | rfl | cases h
theorem GW (s:List UInt8) (hs:s.length<=1048576):aJ wd sw φ3P r3P [.str s] []:=by
 obtain ⟨u,w,h,hl⟩:=EW s hs [RH]
 obtain ⟨r,hr⟩:∃r,s.drop (nx s+1)=r:=⟨_,rfl⟩
 obtain ⟨q,hq⟩:∃q,r.drop (nx r+1)=q:=⟨_,rfl⟩
 have pc:=EX hr hq
 have no:gY s=false->Run (r3P [.str s] []) φ3P (some (.tup [.arr 1 3 λ_=>[.int .i64 0],.bool false],[])):=λe=>.r (λ_=>0,false) (.mk e.symm)
 have ls:=K7 s
 have lr:=K7 r
 have lq:=K7 q
 have len:∀ (a b:Nat),(List.take a (s.drop b)).length<=1048576:=λa b=>by rw [List.length_take,List.length_drop];omega
 exact dy (V:=V0) (T:=[RH]) (d:=1) 0 (ah (hl _) aE) aB (.lp (h ((λ_=>[.int .i64 0]),(λ_=>[.int .i64 0]),0,0,0) ⟨Int.le_refl _,by show (0:Int)<=(s.length:Int);omega⟩) λt1 q1=>
  have q1:t1=nx s:=by rw [q1];show 0+nx (s.drop 0)=nx s;rw [List.drop_zero,Nat.zero_add]
  .n (c:=decide ((0:Int)<=0)&&(decide ((0:Int)<=(t1:Int))&&decide ((t1:Int)<=(s.length:Int)))) (slT (Int.le_refl _) (by omega) (by omega)) (.call (A2 (List.take (Int.toNat (t1:Int) - Int.toNat 0) (List.drop (Int.toNat 0) s)) (len _ _)) λx1 y1=>
  have e1:(bif bif x1.2 !=0 then true else decide (x1.1 < 0) then true else decide (x1.1 > 999999))=mX (s.take (nx s)):=by rw [y1 _ rfl,q1];rfl
  .b (bif bif bif x1.2 !=0 then true else decide (x1.1 < 0) then true else decide (x1.1 > 999999) then true else !decide ((0:Int) < 2)==decide ((t1:Int) < (s.length:Int))) (λhc=>no (by
   rw [e1,q1,Oi] at hc
   rw [pc];exact p1 _ hc)) λhc=>
  have hc:decide (nx s < s.length)=true/\mX (s.take (nx s))=false:=by
   rw [e1,q1,Oi] at hc
   exact p2 hc
  have hlt:=of_decide_eq_true hc.1
  have a1:IntKind.wrap .i64 ((t1:Int)+1)=((nx s+1:Nat):Int):=by rw [q1,bg (by omega)]
  have lr':r.length=s.length - (nx s+1):=by rw [<-hr,List.length_drop]
  .lp (h ((λ_=>[.int .i64 0]),(λj=>bif Nat.beq j (Int.toNat 0) then [.int .i64 x1.1] else [.int .i64 0]),IntKind.wrap .i64 ((t1:Int)+1),IntKind.wrap .i64 (0+1),IntKind.wrap .i64 ((t1:Int)+1)) ⟨by show (0:Int)<=IntKind.wrap .i64 ((t1:Int)+1);omega,by show IntKind.wrap .i64 ((t1:Int)+1)<=(s.length:Int);omega⟩) λt2 q2=>
  have q2:t2=nx s+1+nx r:=by rw [q2];show (IntKind.wrap .i64 ((t1:Int)+1)).toNat+nx (s.drop (IntKind.wrap .i64 ((t1:Int)+1)).toNat)=_;rw [a1,Int.toNat_natCast,hr]
  .n (c:=decide (0<=IntKind.wrap .i64 ((t1:Int)+1))&&(decide (IntKind.wrap .i64 ((t1:Int)+1)<=(t2:Int))&&decide ((t2:Int)<=(s.length:Int)))) (slT (by omega) (by omega) (by omega)) (.call (A2 (List.take (Int.toNat (t2:Int) - Int.toNat (IntKind.wrap .i64 ((t1:Int)+1))) (List.drop (Int.toNat (IntKind.wrap .i64 ((t1:Int)+1))) s)) (len _ _)) λx2 y2=>
  have e2:(bif bif x2.2 !=0 then true else decide (x2.1 < 0) then true else decide (x2.1 > 999999))=mX (r.take (nx r)):=by rw [y2 _ rfl,q2,a1,Int.toNat_natCast,Int.toNat_natCast,Nat.add_sub_cancel_left,hr];rfl
  have f2:decide ((t2:Int) < (s.length:Int))=decide (nx r < r.length):=by
   rw [q2]
   by_cases hx:nx r < r.length
   ·rw [decide_eq_true hx,decide_eq_true (by omega)]
   ·rw [decide_eq_false hx,decide_eq_false (by omega)]
  .b (bif bif bif x2.2 !=0 then true else decide (x2.1 < 0) then true else decide (x2.1 > 999999) then true else !decide (IntKind.wrap .i64 (0+1) < 2)==decide ((t2:Int) < (s.length:Int))) (λhc2=>no (by
   rw [e2,f2] at hc2
   rw [pc,hc.1,hc.2];exact (p1 (b:=mX (r.take (nx r))) (d:=decide (nx r < r.length)) _ hc2:(decide (nx r < r.length)&&(!mX (r.take (nx r))&&(!decide (nx q < q.length)&&!mX (q.take (nx q)))))=false))) λhc2=>
  have hc2:decide (nx r < r.length)=true/\mX (r.take (nx r))=false:=by
   rw [e2,f2] at hc2
   exact p2 hc2
  have hlt2:=of_decide_eq_true hc2.1
  have a2:IntKind.wrap .i64 ((t2:Int)+1)=((nx s+1+nx r+1:Nat):Int):=by rw [q2,bg (by omega)]
  have hq':s.drop (nx s+1+nx r+1)=q:=by rw [<-hq,<-hr,List.drop_drop];congr 1
  have lq':q.length=r.length - (nx r+1):=by rw [<-hq,List.length_drop]
  .lp (h ((λ_=>[.int .i64 0]),(λj=>bif Nat.beq j (Int.toNat (IntKind.wrap .i64 (0+1))) then [.int .i64 x2.1] else bif Nat.beq j (Int.toNat 0) then [.int .i64 x1.1] else [.int .i64 0]),IntKind.wrap .i64 ((t2:Int)+1),IntKind.wrap .i64 (IntKind.wrap .i64 (0+1)+1),IntKind.wrap .i64 ((t2:Int)+1)) ⟨by show (0:Int)<=IntKind.wrap .i64 ((t2:Int)+1);omega,by show IntKind.wrap .i64 ((t2:Int)+1)<=(s.length:Int);omega⟩) λt3 q3=>
  have q3:t3=nx s+1+nx r+1+nx q:=by rw [q3];show (IntKind.wrap .i64 ((t2:Int)+1)).toNat+nx (s.drop (IntKind.wrap .i64 ((t2:Int)+1)).toNat)=_;rw [a2,Int.toNat_natCast,hq']
  .n (c:=decide (0<=IntKind.wrap .i64 ((t2:Int)+1))&&(decide (IntKind.wrap .i64 ((t2:Int)+1)<=(t3:Int))&&decide ((t3:Int)<=(s.length:Int)))) (slT (by omega) (by omega) (by omega)) (.call (A2 (List.take (Int.toNat (t3:Int) - Int.toNat (IntKind.wrap .i64 ((t2:Int)+1))) (List.drop (Int.toNat (IntKind.wrap .i64 ((t2:Int)+1))) s)) (len _ _)) λx3 y3=>
  have e3:(bif bif x3.2 !=0 then true else decide (x3.1 < 0) then true else decide (x3.1 > 999999))=mX (q.take (nx q)):=by rw [y3 _ rfl,q3,a2,Int.toNat_natCast,Int.toNat_natCast,Nat.add_sub_cancel_left,hq'];rfl
  have f3:decide ((t3:Int) < (s.length:Int))=decide (nx q < q.length):=by
   rw [q3]
   by_cases hx:nx q < q.length
   ·rw [decide_eq_true hx,decide_eq_true (by omega)]
   ·rw [decide_eq_false hx,decide_eq_false (by omega)]
  .b (bif bif bif x3.2 !=0 then true else decide (x3.1 < 0) then true else decide (x3.1 > 999999) then true else !decide (IntKind.wrap .i64 (IntKind.wrap .i64 (0+1)+1) < 2)==decide ((t3:Int) < (s.length:Int))) (λhc3=>no (by
   rw [e3,f3] at hc3
   rw [pc,hc.1,hc.2,hc2.1,hc2.2];exact p3 (b:=mX (q.take (nx q))) (d:=decide (nx q < q.length)) hc3)) λhc3=>
  .e ((λj=>bif Nat.beq j 2 then x3.1 else bif Nat.beq j 1 then x2.1 else bif Nat.beq j 0 then x1.1 else 0),true) (r:=(.tup [.arr 1 3 λj=>bif Nat.beq j (Int.toNat (IntKind.wrap .i64 (IntKind.wrap .i64 (0+1)+1))) then [.int .i64 x3.1] else bif Nat.beq j (Int.toNat (IntKind.wrap .i64 (0+1))) then [.int .i64 x2.1] else bif Nat.beq j (Int.toNat 0) then [.int .i64 x1.1] else [.int .i64 0],.bool true],[])) (.mk (by
   rw [e3,f3] at hc3
   rw [pc,hc.1,hc.2,hc2.1,hc2.2];exact (p4 (b:=mX (q.take (nx q))) (d:=decide (nx q < q.length)) hc3).symm)) (by
   have e:(λj=>bif Nat.beq j (Int.toNat (IntKind.wrap .i64 (IntKind.wrap .i64 (0+1)+1))) then [AV.int .i64 x3.1] else bif Nat.beq j (Int.toNat (IntKind.wrap .i64 (0+1))) then [.int .i64 x2.1] else bif Nat.beq j (Int.toNat 0) then [.int .i64 x1.1] else [.int .i64 0])=λj=>[AV.int .i64 (bif Nat.beq j 2 then x3.1 else bif Nat.beq j 1 then x2.1 else bif Nat.beq j 0 then x1.1 else 0)]:=by
    funext j
    show (bif Nat.beq j 2 then [AV.int .i64 x3.1] else bif Nat.beq j 1 then [.int .i64 x2.1] else bif Nat.beq j 0 then [.int .i64 x1.1] else [.int .i64 0])=_
    cases Nat.beq j 2 <;> cases Nat.beq j 1 <;> cases Nat.beq j 0 <;> rfl
   rw [e];rfl))))) (by kernel_rfl)
noncomputable abbrev V7:Ent:=bc wd sw φ3P r3P
theorem iV (s:List UInt8) (hs:s.length<=HN):aJ wd xt φB (rS df) [.str s] []:=by
 obtain ⟨u,o,hu,hl⟩:=bQ (V:=V0) (T:=[SS]) (d:=1) (W:=[]) (f:=xt) (p:=P3) (Lf:=λL=>L) (SwZ s) s.length (λi=>bif ctrl (s.getD i 0).toNat then some false else none) (Pw 2) (λk=>k (.exit 0) {env:=[],objs:=[]}) (by kernel_rfl)
  (λi a=>.n a.w (.n (c:=bif within (i:Int) s.length then true else !bif decide (((s.getD i 0).toNat:Int) < 32)==false then true else false) (gw a.w) (.b (ctrl (s.getD i 0).toNat) (λh=>.sp false a (pa h)) λh=>.up a hs (pb h)))) (λi L k kn=>by kernel_rfl)
 exact gC (V:=V0) [SS] 1 hl (.call (L3 s hs) λb q=>.b (bif decide ((s.length:Int) > 200) then true else !b) (λh=>.r false (.mk (by
   rw [Dy,q s rfl] at h
   unfold df
   cases hx:decide (s.length<=200) <;> cases hy:Jm s <;> simp_all))) λh=>.lp hu λt qt=>.b t.1 (λh1=>.r t.2 (.mk (by
   have qt:t=mT s:=qt
   rw [qt] at h1 ⊢
   have hv:(mT s).2=false:=mE h1
   unfold df;rw [hv,h1];simp))) λh1=>.r true (.mk (by
   have qt:t=mT s:=qt
   rw [Dy,q s rfl] at h
   rw [qt] at h1
   unfold df
   cases hx:decide (s.length<=200) <;> cases hy:Jm s <;> simp_all))) (by kernel_rfl)
noncomputable abbrev uh:Ent:=bc wd xt φB (rS df)
theorem Jr (n k:Nat):decide ((n:Int) > (k:Int))=decide (n > k):=tM n k
theorem bef {i n:Nat} (h:i < n) (hn:n<=4611686018427387904):IntKind.wrap .i64 (((1+i:Nat):Int) - 1)=(i:Int):=by rw [wrap_i64 (by omega) (by omega)];omega
theorem Kz (l:List (List UInt8)) (hl:jj l):aJ wd xq SH.φE (rIs (bR l)) [cr l] []:=by
 have hm:=hl.1
 obtain ⟨u1,w1,h1,l1⟩:=bQ (V:=V0) (T:=[uh]) (d:=1) (W:=[]) (f:=xq) (p:=P3) (Lf:=λL=>L) (LZ (cr l)) l.length (λi=>bif !df (l.getD i []) then some () else none) (λ_ k=>k .ret {env:=[(2,.int .i64 2)],objs:=[]}) (λk=>k (.exit 0) {env:=[(0,cr l)],objs:=[]}) (by kernel_rfl)
  (λi a=>.n a.w (.call (iV _ (hl.at a.lt)) λb q=>.b (!b) (λh=>.sp () a (pa (by rw [<-q _ rfl];exact h))) λh=>.up a hm (pb (by rw [<-q _ rfl];exact h)))) (λi L k kn=>by kernel_rfl)
 obtain ⟨u2,w2,h2,l2⟩:=lN (V:=V0) (T:=[uh]) (d:=1) (W:=[]) (f:=xq) (p:=PB) (Lf:=λL=>L) (Z2 l) (l.length - 1) (·+1) (s1 _) (λi=>bif !aG (l.getD i []) (l.getD (1+i) []) then some () else none) (λ_ k=>k .ret {env:=[(2,.int .i64 9)],objs:=[]}) (λ_ k=>k (.exit 2) {env:=[],objs:=[]}) (λi=>decide (((1+i:Nat):Int) < (l.length:Int))) (λi=>by
   by_cases h:i < l.length - 1
   ·rw [decide_eq_true h,decide_eq_true (by omega)]
   ·rw [decide_eq_false h,decide_eq_false (by omega)]) (by kernel_rfl)
  (λi a=>
   have ai:=a.lt
   have w:=bef (i:=i) (n:=l.length) (by omega) hm
   .n (dD (show 1+i < l.length by omega)) (.n (c:=within (IntKind.wrap .i64 (((1+i:Nat):Int) - 1)) l.length) (by rw [w];exact dD (by omega))
   (.b (aG (l.getD (1+i) []) (l.getD (Int.toNat (IntKind.wrap .i64 (((1+i:Nat):Int) - 1))) [])||l.getD (1+i) []==l.getD (Int.toNat (IntKind.wrap .i64 (((1+i:Nat):Int) - 1))) [])
    (λh=>.sp () a (pa (by rw [w,Int.toNat_natCast,BG] at h;exact h)))
    λh=>.on {env:=[(0,cr l),(4,.int .i64 (IntKind.wrap .i64 (((1+i:Nat):Int)+1)))],objs:=[]} a (pb (by rw [w,Int.toNat_natCast,BG] at h;exact h)) (by rw [bg (by omega)];rfl)))) (λi L k kn=>by kernel_rfl)
 exact dy (V:=V0) (T:=[uh]) (d:=1) 0 (ah (l1 _) (ah (l2 _) aE)) aB (.b (decide ((l.length:Int) > 20)) (λh=>.r 5 (by
   have h:decide (l.length > 20)=true:=(Jr _ 20).symm.trans h
   unfold rIs bR;rw [h];rfl)) λh=>
  have h:decide (l.length > 20)=false:=(Jr _ 20).symm.trans h
  .lp h1 λt q=>have q:t=FW l:=q
  .b t.1 (λh3=>.r 2 (by rw [q] at h3;unfold rIs bR;rw [h,h3];rfl)) λh3=>.lp h2 λt2 q2=>
   have q2:t2.1=(zn l).1:=by rw [Hx,show t2=Bh l from q2]
   .b t2.1 (λh4=>.r 9 (by rw [q] at h3;rw [q2] at h4;unfold rIs bR;rw [h,h3,h4];rfl)) λh4=>.r 0 (by rw [q] at h3;rw [q2] at h4;unfold rIs bR;rw [h,h3,h4];rfl)) (by kernel_rfl)
theorem Hg (v:VAL) (hv:v.Ok):aJ wd xr SH.φE (rIs (cy v)) [.agg v.c] []:=by
 have ht:jg v.text:=by have:=hv.1;unfold jg HN;omega
 exact cW (V:=V0) [uh,V7,bc wd xq SH.φE (rIs (bR v.list))] 9 (.b (bif decide (v.kind < 1) then true else decide (v.kind > 5)) (λh=>.r 7 (by unfold rIs cy;rw [<-Bool.cond_true_left,h];rfl)) λh=>
  have h1:(decide (v.kind < 1)||decide (v.kind > 5))=false:=by rw [<-Bool.cond_true_left];exact h
  have sh:(!bif bif bif bif v.kind==1 then true else v.kind==2 then true else v.num==0 then bif bif v.kind==3 then true else v.kind==4 then true else v.text==[] else false then bif v.kind==5 then true else (v.list.length:Int)==0 else false)=!jl v:=by
   have hk:v.kind=1∨v.kind=2∨v.kind=3∨v.kind=4∨v.kind=5:=by simp at h1;omega
   unfold jl
   rw [dx]
   rcases hk with hk | hk | hk | hk | hk <;> rw [hk] <;> cases v.num==0 <;> cases v.text==[] <;> cases v.list.length==0 <;> rfl
  .b (!bif bif bif bif v.kind==1 then true else v.kind==2 then true else v.num==0 then bif bif v.kind==3 then true else v.kind==4 then true else v.text==[] else false then bif v.kind==5 then true else (v.list.length:Int)==0 else false) (λh2=>.r 15 (by rw [sh] at h2;unfold rIs cy;rw [h1,h2];rfl)) λh2=>
  have h2:(!jl v)=false:=sh.symm.trans h2
  .b (v.kind==1) (λk=>.b (bif v.num !=0 then v.num !=1 else false) (λh3=>.r 3 (by rw [Bool.cond_false_right] at h3;unfold rIs cy;rw [h1,h2,k,h3];rfl)) λh3=>.r 0 (by rw [Bool.cond_false_right] at h3;unfold rIs cy;rw [h1,h2,k,h3];rfl)) λk1=>
  .b (v.kind==2) (λk=>.b (bif decide (v.num < -1099511627776) then true else decide (v.num > 1099511627776)) (λh3=>.r 3 (by rw [Bool.cond_true_left] at h3;unfold rIs cy;rw [h1,h2,k1,k,h3];rfl)) λh3=>.r 0 (by rw [Bool.cond_true_left] at h3;unfold rIs cy;rw [h1,h2,k1,k,h3];rfl)) λk2=>
  .b (v.kind==3) (λk=>.call (iV v.text ht) λb q=>.b (!b) (λh3=>.r 2 (by rw [q _ rfl] at h3;unfold rIs cy;rw [h1,h2,k1,k2,k,h3];rfl)) λh3=>.r 0 (by rw [q _ rfl] at h3;unfold rIs cy;rw [h1,h2,k1,k2,k,h3];rfl)) λk3=>
  .b (v.kind==4) (λk=>.call (GW v.text hv.1) λb q=>.b (!b.2) (λh3=>.r 1 (by rw [q _ rfl] at h3;unfold rIs cy;rw [h1,h2,k1,k2,k3,k,h3];rfl)) λh3=>.r 0 (by rw [q _ rfl] at h3;unfold rIs cy;rw [h1,h2,k1,k2,k3,k,h3];rfl)) λk4=>
  .b (v.kind==5) (λk=>.call (Kz v.list hv.2) λt q=>.r t (by rw [show t=bR v.list from q];unfold rIs cy;rw [h1,h2,k1,k2,k3,k4];rfl)) λk5=>.r 0 (by
   exfalso
   have e1:v.kind≠1:=by simpa using k1
   have e2:v.kind≠2:=by simpa using k2
   have e3:v.kind≠3:=by simpa using k3
   have e4:v.kind≠4:=by simpa using k4
   have e5:v.kind≠5:=by simpa using k5
   simp at h1;omega)) (by kernel_rfl)
def rV (l:List AV) (_:List AO) (x:Int):Prop:=∀v:VAL,l=[.agg v.c]->x=cy v
theorem Hf (v:VAL) (hv:v.Ok):aJ wd xr SH.φE rV [.agg v.c] []:=(Hg v hv).mono λx h v' e=>by
 have e:v=v':=VAL.br (by simpa using e)
 rw [<-e];exact h
noncomputable abbrev Iz:Ent:=bc wd xr SH.φE rV
theorem Nd {l:List (Int×Int×Int)} {i:Nat} (h:i < l.length) (hm:l.length<=4611686018427387904) (c1:¬ (l.getD i (0,0,0)).2.2 < 1):(bif bif (l.getD i (0,0,0)).1 !=(eF l i).2.1 then true else decide ((l.getD i (0,0,0)).2.1<=(eF l i).2.1) then true else bif decide ((i:Int) > 0) then (l.getD i (0,0,0)).2.2==(l.getD (Int.toNat (IntKind.wrap .i64 ((i:Int) - 1))) (0,0,0)).2.2 else false)
  = ((l.getD i (0,0,0)).1 !=(eF l i).2.1||(decide ((l.getD i (0,0,0)).2.1<=(l.getD i (0,0,0)).1)||(l.getD i (0,0,0)).2.2==(eF l i).2.2)):=by
 rw [pv (λj=>(l.getD i (0,0,0)).2.2==(l.getD j (0,0,0)).2.2) h hm]
 have e0:(decide (i > 0)&&(l.getD i (0,0,0)).2.2==(l.getD (i - 1) (0,0,0)).2.2)=((l.getD i (0,0,0)).2.2==(eF l i).2.2):=by
  unfold eF
  by_cases h0:i=0
  ·rw [if_pos h0,decide_eq_false (by omega),Bool.false_and]
   exact (beq_eq_false_iff_ne.2 (by show _≠(0:Int);omega)).symm
  ·rw [if_neg h0,decide_eq_true (by omega),Bool.true_and]
 rw [e0]
 by_cases c3:(l.getD i (0,0,0)).1=(eF l i).2.1
 ·rw [show ((l.getD i (0,0,0)).1 !=(eF l i).2.1)=false from bne_eq_false_iff_eq.2 c3,<-c3]
  cases decide ((l.getD i (0,0,0)).2.1<=(l.getD i (0,0,0)).1) <;> rfl
 ·rw [show ((l.getD i (0,0,0)).1 !=(eF l i).2.1)=true from bne_iff_ne.2 c3];rfl
theorem y7 (l:List (Int×Int×Int)) (n:Int) (hm:l.length<=4611686018427387904):aJ wd ss SH.φE (rIs (eI l n)) [ou l,.int .i64 n] []:=by
 obtain ⟨u,w,hu,hl⟩:=lN (V:=V0) (T:=[]) (d:=1) (W:=[]) (f:=ss) (p:=PB) (Lf:=λL=>L) (λi:Nat=>Sq l n (eF l i).2.1 i) l.length (·+1) (s1 _) (fw l n) (si 4) (λi k=>k (.exit 0) {env:=[(5,.int .i64 (eF l i).2.1)],objs:=[]}) (λi=>decide ((i:Int) < (l.length:Int))) (λi=>Oi i _) (by kernel_rfl)
  (λi a=>.n a.w (.gd (!bif decide ((l.getD i (0,0,0)).2.2 < 1)==false then true else false) a.w (.b (bif decide ((l.getD i (0,0,0)).2.2 < 1) then true else decide ((l.getD i (0,0,0)).2.2 > n)) (λh=>.sp 3 a (by rw [Bool.cond_true_left] at h;unfold fw;rw [h];rfl)) λh=>
   have h:(decide ((l.getD i (0,0,0)).2.2 < 1)||decide ((l.getD i (0,0,0)).2.2 > n))=false:=by rw [<-Bool.cond_true_left];exact h
   have c:=Nd a.lt hm (of_decide_eq_false (Bool.or_eq_false_iff.1 h).1)
   .n a.w (.gd (!bif ((l.getD i (0,0,0)).1 !=(eF l i).2.1)==false then true else false) a.w
   (.gd (!bif decide ((i:Int) > 0)==true then bif (bif (l.getD i (0,0,0)).1 !=(eF l i).2.1 then true else decide ((l.getD i (0,0,0)).2.1<=(eF l i).2.1))==false then true else false else false) a.w
   (.gp (bif (bif (l.getD i (0,0,0)).1 !=(eF l i).2.1 then true else decide ((l.getD i (0,0,0)).2.1<=(eF l i).2.1))==false then true else false) a.lt hm
   (.b (bif bif (l.getD i (0,0,0)).1 !=(eF l i).2.1 then true else decide ((l.getD i (0,0,0)).2.1<=(eF l i).2.1) then true else bif decide ((i:Int) > 0) then (l.getD i (0,0,0)).2.2==(l.getD (Int.toNat (IntKind.wrap .i64 ((i:Int) - 1))) (0,0,0)).2.2 else false)
    (λh2=>.sp 9 a (by unfold fw;rw [h,<-c,h2];rfl))
    λh2=>.n a.w (.on {env:=[(0,ou l),(1,.int .i64 n),(5,.int .i64 (l.getD i (0,0,0)).2.1),(6,.int .i64 (IntKind.wrap .i64 ((i:Int)+1)))],objs:=[]} a (by unfold fw;rw [h,<-c,h2];rfl) (by rw [jY,bg (by have:=a.lt;omega)];rfl))))))))) (λi L k kn=>by kernel_rfl)
 exact gC (V:=V0) [] 1 hl (.b (decide ((l.length:Int) > 16)) (λh=>.r 5 (by
   have h:decide (l.length > 16)=true:=(Jr _ 16).symm.trans h
   unfold rIs eI;rw [h];rfl)) λh=>
  have h:decide (l.length > 16)=false:=(Jr _ 16).symm.trans h
  .lp hu λt q=>have q:t=od l n:=q
  .b t.1 (λh3=>.r t.2 (by rw [q] at h3 ⊢;unfold rIs eI;rw [h,h3];rfl)) λh3=>.b ((eF l l.length).2.1 !=10000) (λh4=>.r 3 (by rw [q] at h3;unfold rIs eI;rw [h,h3,h4];rfl)) λh4=>.r 0 (by rw [q] at h3;unfold rIs eI;rw [h,h3,h4];rfl)) (by kernel_rfl)
theorem gH {l n:Nat} {stop:Nat->Option Int} {A:List AV} {t:Bool×Int} (q:t=bp l (·+1) stop 0) (hl:decide ((l:Int) > (n:Int))=false):Run (rIs (bif decide (l > n) then 5 else bif (bp l (·+1) stop 0).1 then (bp l (·+1) stop 0).2 else 0) A []) SH.φE (cond t.1 (some (.int .i64 t.2,[])) (some (.int .i64 0,[]))):=by
 rw [Jr] at hl
 rw [hl,<-q]
 exact .b t.1 (λh=>.r t.2 (by unfold rIs;rw [h];rfl)) λh=>.r 0 (by unfold rIs;rw [h];rfl)
theorem gI {l n:Nat} {e:Int} {A:List AV} (hl:decide ((l:Int) > (n:Int))=true):Run (rIs (bif decide (l > n) then 5 else e) A []) SH.φE (some (.int .i64 5,[])):=by
 rw [Jr] at hl
 rw [hl]
 exact .r 5 rfl
theorem GQ (l:List (Int×Int)) (hm:l.length<=4611686018427387904):aJ wd xk SH.φE (rIs (nh l)) [AP l] []:=by
 obtain ⟨u,w,hu,hl⟩:=bQ (V:=V0) (T:=[]) (d:=1) (W:=[]) (f:=xk) (p:=P3) (Lf:=λL=>L) (LZ (AP l)) l.length (iw l) (si 2) (λk=>k (.exit 0) {env:=[],objs:=[]}) (by kernel_rfl)
  (λi a=>
   have c:=pv (λj=>decide ((l.getD i (0,0)).1<=(l.getD j (0,0)).2)) a.lt hm
   .n a.w (.gd (!bif decide ((l.getD i (0,0)).1 < 0)==false then true else false) a.w (.gd (!bif decide ((l.getD i (0,0)).1 < 0)==false then true else false) a.w (.gd (!bif (bif decide ((l.getD i (0,0)).1 < 0) then true else decide ((l.getD i (0,0)).1≥(l.getD i (0,0)).2))==false then true else false) a.w
   (.b (bif bif decide ((l.getD i (0,0)).1 < 0) then true else decide ((l.getD i (0,0)).1≥(l.getD i (0,0)).2) then true else decide ((l.getD i (0,0)).2 > 10000)) (λh=>.sp 3 a (by rw [Bool.cond_true_left,Bool.cond_true_left,Bool.or_assoc] at h;unfold iw;rw [h];rfl)) λh=>
   have h:(decide ((l.getD i (0,0)).1 < 0)||(decide ((l.getD i (0,0)).1≥(l.getD i (0,0)).2)||decide ((l.getD i (0,0)).2 > 10000)))=false:=by rw [<-Bool.or_assoc,<-Bool.cond_true_left,<-Bool.cond_true_left];exact h
   .gd (!bif decide ((i:Int) > 0)==true then true else false) a.w (.gp true a.lt hm (.b (bif decide ((i:Int) > 0) then decide ((l.getD i (0,0)).1<=(l.getD (Int.toNat (IntKind.wrap .i64 ((i:Int) - 1))) (0,0)).2) else false)
    (λh2=>.sp 9 a (by unfold iw;rw [h,<-c,h2];rfl)) λh2=>.up a hm (by unfold iw;rw [h,<-c,h2];rfl)))))))) (λi L k kn=>by kernel_rfl)
 exact gC (V:=V0) [] 1 hl (.b (decide ((l.length:Int) > 16)) (λh=>gI (n:=16) h) λh=>.lp hu λt q=>gH (n:=16) q h) (by kernel_rfl)
def Mp (l:List (List UInt8)) (i j:Nat):Bool:=aG (l.getD i []) (l.getD j [])||l.getD i []==l.getD j []
theorem Ky (l:List (List UInt8)) (hl:jj l):aJ wd mJ SH.φE (rIs (Br l)) [cr l] []:=by
 have hm:=hl.1
 obtain ⟨u,w,hu,hlo⟩:=bQ (V:=V0) (T:=[uh]) (d:=1) (W:=[]) (f:=mJ) (p:=P3) (Lf:=λL=>L) (LZ (cr l)) l.length (kT l) (si 2) (λk=>k (.exit 0) {env:=[],objs:=[]}) (by kernel_rfl)
  (λi a=>
   have c:=pv (Mp l i) a.lt hm
   .n a.w (.gd (!bif (l.getD i []==[])==false then true else false) a.w (.call (iV (l.getD i []) (hl.at a.lt)) λb q=>.b (bif l.getD i []==[] then true else !b) (λh=>.sp 2 a (by rw [q _ rfl,Bool.cond_true_left] at h;unfold kT;rw [h];rfl)) λh=>
   have h:(l.getD i []==[]||!df (l.getD i []))=false:=by rw [<-q _ rfl,<-Bool.cond_true_left];exact h
   .gd (!bif decide ((i:Int) > 0)==true then true else false) a.w (.gp true a.lt hm (.b (bif decide ((i:Int) > 0) then Mp l i (Int.toNat (IntKind.wrap .i64 ((i:Int) - 1))) else false)
    (λh2=>.sp 9 a (by rw [c] at h2;unfold Mp at h2;unfold kT;rw [h,h2];rfl)) λh2=>.up a hm (by rw [c] at h2;unfold Mp at h2;unfold kT;rw [h,h2];rfl)))))) (λi L k kn=>by kernel_rfl)
 exact gC (V:=V0) [uh] 1 hlo (.b (decide ((l.length:Int) > 40)) (λh=>gI (n:=40) h) λh=>.lp hu λt q=>gH (n:=40) q h) (by kernel_rfl)
theorem GR (v:SERVE) (n:Int) (hv:v.Ok):aJ wd su SH.φE (rIs (cB v n)) [.agg v.c,.int .i64 n] []:=by
 obtain ⟨h1,h2,h3,h4⟩:=hv
 exact cW (V:=V0) [k6,uh,bc wd ss SH.φE (rIs (eI v.split n))] 1 (.b (v.var !=0) (λa=>.b (bif decide (v.var < 1) then true else decide (v.var > n)) (λb=>.r 3 (by rw [Bool.cond_true_left] at b;unfold rIs cB;rw [a,b];rfl)) λb=>
   .b (bif bif bif !v.kind==[] then true else !v.by'==[] then true else !v.salt==[] then true else decide ((v.split.length:Int) > 0)) (λc=>.r 15 (by rw [Bool.cond_true_left] at b;simp only [Bool.cond_true_left,Bool.or_assoc] at c;unfold rIs cB;rw [a,b,c];rfl))
    λc=>.r 0 (by rw [Bool.cond_true_left] at b;simp only [Bool.cond_true_left,Bool.or_assoc] at c;unfold rIs cB;rw [a,b,c];rfl))
  λa=>.call (dV v.kind h1) λx qx=>.call (dV v.by' h2) λy qy=>.b (bif !x then true else !y) (λb=>.r 6 (by rw [qx _ rfl,qy _ rfl,Bool.cond_true_left] at b;unfold rIs cB;rw [a,b];rfl)) λb=>
   have b:(!ea v.kind||!ea v.by')=false:=by rw [<-qx _ rfl,<-qy _ rfl,<-Bool.cond_true_left];exact b
   .call (iV v.salt h3) λz qz=>.b (!z) (λc=>.r 2 (by rw [qz _ rfl] at c;unfold rIs cB;rw [a,b,c];rfl)) λc=>.call (y7 v.split n h4) λt q=>.r t (by rw [qz _ rfl] at c;rw [show t=eI v.split n from q];unfold rIs cB;rw [a,b,c];rfl)) (by kernel_rfl)
theorem HB (e:EXP):(bif bif bif bif e.op==0 then e.kind==[] else false then e.name==[] else false then (e.vals.length:Int)==0 else false then (e.kids.length:Int)==0 else false)=kS e:=by
 rw [dx,dx]
 unfold kS
 cases e.op==0 <;> cases e.kind==[] <;> cases e.name==[] <;> cases e.vals.length==0 <;> cases e.kids.length==0 <;> rfl
theorem Kw (e:EXP):aJ wd Bc φB (rIs (kS e)) [.agg e.c] []:=by
 rw [e.yu]
 exact cW (V:=V0) [] 1 (.r (bif bif bif bif e.op==0 then e.kind==[] else false then e.name==[] else false then (e.vals.length:Int)==0 else false then (e.kids.length:Int)==0 else false) (HB e)) (by kernel_rfl)
theorem Am {p:PART} {K V:Bool} (hK:K=(bif fh p.op then decide (p.n≥2) else bif p.op==4 then p.n==1 else p.n==0)) (hV:V=(bif p.op==8 then decide (p.vals.length > 0) else bif ee p.op&&p.op !=6 then p.vals.length==1 else p.vals.length==0)) :
  (bif bif bif K then V else false then bif ee p.op then true else p.kind==[] else false then bif bif ee p.op then true else p.op==5 then true else p.name==[] else false)=countB p:=by
 unfold countB
 rw [<-hK,<-hV]
 cases K <;> cases V <;> cases ee p.op <;> cases p.kind==[] <;> cases p.name==[] <;> cases p.op==5 <;> rfl
theorem IP (p:PART):aJ wd ox φB (rIs (countB p)) [.agg p.c] []:=
 cW (V:=V0) [] 3 (.b (bif p.op==2 then true else p.op==3) (λh=>
   have ho:p.op=2∨p.op=3:=by simpa using h
   .r (bif bif bif decide ((p.n:Int)≥2) then (p.vals.length:Int)==0 else false then bif ee p.op then true else p.kind==[] else false then bif bif ee p.op then true else p.op==5 then true else p.name==[] else false)
    (Am (by rw [Lt,show fh p.op=true from h];rfl) (by rw [dx];rcases ho with e | e <;> rw [e] <;> rfl))) λh1=>
  have g1:fh p.op=false:=h1
  .b (p.op==4) (λh=>.r (bif bif bif (p.n:Int)==1 then (p.vals.length:Int)==0 else false then bif ee p.op then true else p.kind==[] else false then bif bif ee p.op then true else p.op==5 then true else p.name==[] else false)
    (Am (by rw [mm,g1,h];rfl) (by rw [dx,show p.op=4 by simpa using h];rfl))) λh2=>
  .b (p.op==8) (λh=>.r (bif bif bif (p.n:Int)==0 then decide ((p.vals.length:Int) > 0) else false then bif ee p.op then true else p.kind==[] else false then bif bif ee p.op then true else p.op==5 then true else p.name==[] else false)
    (Am (by rw [dx,g1,h2];rfl) (by rw [DM,h,H5];rfl))) λh3=>
  .b (bif ee p.op then p.op !=6 else false) (λh=>.r (bif bif bif (p.n:Int)==0 then (p.vals.length:Int)==1 else false then bif ee p.op then true else p.kind==[] else false then bif bif ee p.op then true else p.op==5 then true else p.name==[] else false)
    (Am (by rw [dx,g1,h2];rfl) (by rw [Bool.cond_false_right] at h;rw [mm,h3,h];rfl))) λh=>
  .r (bif bif bif (p.n:Int)==0 then (p.vals.length:Int)==0 else false then bif ee p.op then true else p.kind==[] else false then bif bif ee p.op then true else p.op==5 then true else p.name==[] else false)
    (Am (by rw [dx,g1,h2];rfl) (by rw [Bool.cond_false_right] at h;rw [dx,h3,h];rfl))) (by kernel_rfl)
theorem Ot {p:PART} (hc:countB p=true):(jK p (p.op !=4)).1=(jK p (fh p.op)).1:=by
 by_cases h:(fh p.op||p.op==4)=true
 ·have:(p.op !=4)=fh p.op:=by
   unfold fh at h ⊢
   by_cases e:p.op=4
   ·rw [e];rfl
   ·have e1:(p.op==4)=false:=beq_eq_false_iff_ne.2 e
    rw [e1,Bool.or_false] at h
    rw [h,show (p.op !=4)=!(p.op==4) from rfl,e1];rfl
  rw [this]
 ·have h0:p.n=0:=by
   have h:(fh p.op||p.op==4)=false:=by simpa using h
   obtain ⟨h1,h2⟩:=Bool.or_eq_false_iff.1 h
   unfold countB at hc
   rw [h1,h2] at hc
   simp at hc
   exact hc.1
  rw [qP p _ h0,qP p _ h0]
theorem zx {p:PART} (hc:countB p=true):(bif within 0 p.vals.length then true else !bif (cZ p.op)==true then true else false)=true:=by
 by_cases h:cZ p.op=true
 ·have hl:p.vals.length=1:=by
   unfold countB at hc
   have ho:p.op=9∨p.op=10∨p.op=11:=by unfold cZ at h;simp at h;omega
   rcases ho with e | e | e <;> rw [e] at hc <;> simp [fh,ee] at hc <;> exact hc.2
  rw [hl];rfl
 ·rw [show cZ p.op=false by simpa using h];cases within 0 p.vals.length <;> rfl
def nD (p:PART):Int:=
 bif decide (p.n > 12)||decide (p.vals.length > 20) then 5 else
 bif (jK p (fh p.op)).1 then 15 else
 bif (ee p.op&&!ea p.kind)||((ee p.op||p.op==5)&&!ea p.name) then 6 else
 bif (ji p.vals).1 then (ji p.vals).2 else
 bif cZ p.op&&(p.vals.getD 0 default).kind !=3 then 8 else 0
theorem mL (p:PART):jZ p=bif decide (p.op < 1)||decide (p.op > 15) then 7 else bif !countB p then 15 else nD p:=rfl
theorem DD (a b c d:Bool):(bif bif a then !b else false then true else bif bif a then true else c then !d else false)=((a&&!b)||((a||c)&&!d)):=by cases a <;> cases b <;> cases c <;> cases d <;> rfl
theorem Ku (p:PART) (hp:p.Ok):aJ wd th SH.φE (rIs (jZ p)) [.agg p.c] []:=by
 obtain ⟨u1,w1,h1,l1⟩:=bQ (V:=V0) (T:=[bc wd ox φB (rIs (countB p)),k6,Iz]) (d:=3) (W:=[]) (f:=th) (p:=[1,1,1,1,0,1,0]) (Lf:=λL=>L) (PZ 3 p.c) p.n (λi=>bif (bif p.ko i==p.op then p.op !=4 else false) then some () else none) (λ_ k=>k .ret {env:=[(2,.int .i64 15)],objs:=[]}) (λk=>k (.exit 0) {env:=[(1,.ref 1 0)],objs:=[(1,.cells p.c)]}) (by kernel_rfl)
  (λi a=>.n a.w (.b (bif p.ko i==p.op then p.op !=4 else false) (λh=>.sp () a (pa h)) λh=>.up a hp.2.2.2 (pb h))) (λi L k kn=>by kernel_rfl)
 obtain ⟨u2,w2,h2,l2⟩:=bQ (V:=V0) (T:=[bc wd ox φB (rIs (countB p)),k6,Iz]) (d:=3) (W:=[]) (f:=th) (p:=[1,1,1,1,1,1,0,1,0]) (Lf:=λL=>L) (PZ 4 p.c) p.vals.length (kr p.vals) (si 2) (λk=>k (.exit 2) {env:=[(1,.ref 1 0)],objs:=[(1,.cells p.c)]}) (by kernel_rfl)
  (λi a=>.n a.w (.call (Hf (p.vals.getD i default) (hp.2.2.1.at a.lt)) λt q=>.b (t !=0) (λh=>.sp t a (by rw [q _ rfl] at h ⊢;unfold kr;rw [h];rfl)) λh=>.up a hp.2.2.1.1 (by rw [q _ rfl] at h;unfold kr;rw [h];rfl))) (λi L k kn=>by kernel_rfl)
 exact dy (V:=V0) (T:=[bc wd ox φB (rIs (countB p)),k6,Iz]) (d:=3) 0 (ah (l1 _) (ah (l2 _) aE)) aB (.b (bif decide (p.op < 1) then true else decide (p.op > 15)) (λh=>.r 7 (by rw [Bool.cond_true_left] at h;unfold rIs;rw [mL,h];rfl)) λh=>
  have h:(decide (p.op < 1)||decide (p.op > 15))=false:=by rw [<-Bool.cond_true_left];exact h
  .call (IP p) λb qb=>.b (!b) (λhb=>.r 15 (by rw [show b=countB p from qb] at hb;unfold rIs;rw [mL,h,hb];rfl)) λhb=>
  have hb:(!countB p)=false:=by rw [<-show b=countB p from qb];exact hb
  have hc:countB p=true:=by simpa using hb
  have e:jZ p=nD p:=by rw [mL,h,hb];rfl
  .b (bif decide ((p.n:Int) > 12) then true else decide ((p.vals.length:Int) > 20)) (λh5=>.r 5 (by rw [Bool.cond_true_left,oM,oL] at h5;unfold rIs;rw [e,nD,h5];rfl)) λh5=>
  have h5:(decide (p.n > 12)||decide (p.vals.length > 20))=false:=by rw [<-oM,<-oL,<-Bool.cond_true_left];exact h5
  .lp h1 λt q=>
  have q:t.1=(jK p (fh p.op)).1:=by rw [<-Ot hc,q];rfl
  .b t.1 (λh3=>.r 15 (by rw [q] at h3;unfold rIs;rw [e,nD,h5,h3];rfl)) λh3=>
  have h3:(jK p (fh p.op)).1=false:=q.symm.trans h3
  .call (dV p.kind hp.1) λx qx=>.call (dV p.name hp.2.1) λy qy=>
  .b (bif bif ee p.op then !x else false then true else bif bif ee p.op then true else p.op==5 then !y else false) (λh6=>.r 6 (by rw [DD,qx _ rfl,qy _ rfl] at h6;unfold rIs;rw [e,nD,h5,h3,h6];rfl)) λh6=>
  have h6:((ee p.op&&!ea p.kind)||((ee p.op||p.op==5)&&!ea p.name))=false:=by rw [<-qx _ rfl,<-qy _ rfl,<-DD];exact h6
  .lp h2 λs qs=>have qs:s=ji p.vals:=qs
  .b s.1 (λh7=>.r s.2 (by rw [qs] at h7 ⊢;unfold rIs;rw [e,nD,h5,h3,h6,h7];rfl)) λh7=>
  have h7:(ji p.vals).1=false:=by rw [<-qs];exact h7
  .n (c:=bif within 0 p.vals.length then true else !bif (cZ p.op)==true then true else false) (zx hc) (.b (bif cZ p.op then (p.vals.getD (Int.toNat 0) default).kind !=3 else false)
   (λh8=>.r 8 (by rw [Bool.cond_false_right] at h8;unfold rIs;rw [e,nD,h5,h3,h6,h7,show (cZ p.op&&(p.vals.getD 0 default).kind !=3)=true from h8];rfl))
   λh8=>.r 0 (by rw [Bool.cond_false_right] at h8;unfold rIs;rw [e,nD,h5,h3,h6,h7,show (cZ p.op&&(p.vals.getD 0 default).kind !=3)=false from h8];rfl))) (by kernel_rfl)
def rW (z:Nat) (l:List AV) (os:List AO) (x:Int×Nat):Prop:=∀ (e:EXP) (d n:Nat),l=[.agg e.c,.int .i64 ((d+z:Nat):Int),.ref aa 0]->os=[vd n]->x=gS e d n
theorem rW.mk {z:Nat} {e:EXP} {d n:Nat} {x:Int×Nat} (h:x=gS e d n):rW z [.agg e.c,.int .i64 ((d+z:Nat):Int),.ref aa 0] [vd n] x:=λe' d' n' h1 h2=>by
 have:=VO z (e,d,n) (e',d',n') h1 h2
 rw [h];exact this
def QL (o:Bool×Int×Nat) (k:Ex->St->Res):Res:=cond o.1 (k .ret {env:=[(6,.int .i64 o.2.1)],objs:=[(aa,vd o.2.2)]}) (k (.exit 0) {env:=[],objs:=[(aa,vd o.2.2)]})
instance:Inhabited (Bool×Int×Nat):=⟨(false,0,0)⟩
noncomputable abbrev Iy:Ent:=bc wd xj SH.φW (rW 1)
theorem Kk:∀e:EXP,e.Ok->∀d n:Nat,d<=10->aJ wd xj SH.φW (rW 1) [.agg e.c,.int .i64 ((d+1:Nat):Int),.ref aa 0] [vd n]:=by
 intro e he
 induction he with
 | mk e h1 h2 h3 h4 h5 ih=>
 intro d n hd
 have he:e.Ok:=.mk e h1 h2 h3 h4 h5
 have hw:=Cz e d n
 have pn:e.part.n=e.kids.length:=rfl
 obtain ⟨u,w,hu,hl⟩:=aw (V:=V0) (T:=[bc wd th SH.φE (rIs (jZ e.part)),Iy]) (d:=1) (W:=[]) (f:=xj) (p:=[1,1,1,1,1,0,1,0]) (Lf:=λL=>L) (λx:Nat×Nat=>SH.E2 e.part d x.1 x.2) (λx=>(d < 10/\x.1<=e.kids.length)/\AG e.kids (d+1) x.1 x.2=jN e.kids (d+1) (n+1)) (λx=>e.kids.length - x.1) QL (λo=>o.1=(o.2.1 !=0)/\o.2=jN e.kids (d+1) (n+1)) (by kernel_rfl)
  (λx hx=>.b (decide ((x.1:Int) < (e.part.n:Int))) (λh=>
    have hi:x.1 < e.kids.length:=pN h
    have wd1:IntKind.wrap .i64 (((d+1:Nat):Int)+1)=((d+1+1:Nat):Int):=bg (by omega)
    have hd1:d < 10:=hx.1.1
    .n (dD hi) (.call (f:=xj) (R:=rW 1) (ψ:=SH.φW) (l:=[.agg (vO e.part x.1),.int .i64 (IntKind.wrap .i64 (((d+1:Nat):Int)+1)),.ref aa 0]) (os:=[vd x.2]) (by rw [iZ hi,wd1];exact ih _ (HY hi) (d+1) x.2 (by omega)) λt q=>
     have q:t=gS (e.kid x.1) (d+1) x.2:=q (e.kid x.1) (d+1) x.2 (by rw [iZ hi,wd1]) rfl
     have st:=vk e.kids (d+1) x.2 hi
     .b (t.1 !=0) (λhb=>.fi (true,t) ⟨hb.symm,by rw [<-hx.2,st,show e.kids.getD x.1 default=e.kid x.1 from rfl,<-q,hb];rfl⟩)
      λhb=>.go {env:=[(1,.int .i64 ((d+1:Nat):Int)),(2,.ref aa 0),(3,.ref 3 0),(8,.int .i64 (IntKind.wrap .i64 ((x.1:Int)+1)))],objs:=[(3,.cells e.part.c),(aa,vd t.2)]} (x.1+1,t.2)
       ⟨⟨hx.1.1,hi⟩,by rw [<-hx.2,st,show e.kids.getD x.1 default=e.kid x.1 from rfl,<-q,hb];rfl⟩ (by show e.kids.length - (x.1+1) < e.kids.length - x.1;omega) (by rw [bg (by omega)];rfl)))
   λh=>.fi (false,0,x.2) ⟨rfl,by rw [<-hx.2,yz];have:=of_decide_eq_false h;rw [pn] at this;omega⟩) (λv L k kn=>by kernel_rfl)
 have w1:¬ n≥60->IntKind.wrap .i64 ((n:Int)+1)=((n+1:Nat):Int):=λh=>bg (by omega)
 rw [<-e.ca]
 exact gC (V:=V0) [bc wd th SH.φE (rIs (jZ e.part)),Iy] 1 hl (.b (decide ((n:Int)≥60)) (λh=>.r (5,n) (by rw [e.ca];exact .mk (by rw [SK] at h;rw [hw,h];rfl))) λh=>
  have h:decide (n≥60)=false:=by rw [<-SK];exact h
  have w1:=w1 (of_decide_eq_false h)
  .b (decide (((d+1:Nat):Int) > 10)) (λh2=>.e (18,n+1) (r:=(.int .i64 18,[vd (IntKind.wrap .i64 ((n:Int)+1))])) (by
    rw [e.ca];exact .mk (by rw [hw,h,fH,decide_eq_true (show d≥10 by have:=of_decide_eq_true h2;omega)];rfl)) (by rw [w1];rfl)) λh2=>
  have hd1:d < 10:=by have:=of_decide_eq_false h2;omega
  have lv:fH e d=jZ e.part:=by unfold fH;rw [decide_eq_false (by omega)];rfl
  .call (Ku e.part he.part) λt q=>have q:t=jZ e.part:=q
  .b (t !=0) (λh3=>.e (t,n+1) (r:=(.int .i64 t,[vd (IntKind.wrap .i64 ((n:Int)+1))])) (by rw [e.ca];exact .mk (by rw [hw,h,lv,<-q,h3];rfl)) (by rw [w1];rfl)) λh3=>
  have hz:gS e d n=jN e.kids (d+1) (n+1):=by rw [hw,h,lv,<-q,h3];rfl
  have hs:cn u w {env:=[(1,.int .i64 ((d+1:Nat):Int)),(2,.ref aa 0),(3,.ref 3 0),(8,.int .i64 0)],objs:=[(3,.cells e.part.c),(aa,vd (IntKind.wrap .i64 ((n:Int)+1)))]} (λo=>o.1=(o.2.1 !=0)/\o.2=jN e.kids (d+1) (n+1)):=by rw [w1];exact hu (0,n+1) ⟨⟨hd1,Nat.zero_le _⟩,rfl⟩
  .lp hs λo qo=>.b o.1 (λh4=>.r (o.2.1,o.2.2) (by rw [e.ca];exact .mk (by rw [hz,<-qo.2]))) λh4=>.r (0,o.2.2) (by
   rw [e.ca];exact .mk (by
    rw [hz,<-qo.2]
    have h5:(o.2.1 !=0)=false:=qo.1.symm.trans h4
    have h5:o.2.1=0:=by simpa using h5
    rw [<-h5]))) (by kernel_rfl)
theorem KE (e:EXP) (he:e.Ok):aJ wd xm SH.φE (rIs (gq e)) [.agg e.c] []:=by
 have h:=Kk e he 0 0 (Nat.zero_le _)
 rw [<-e.ca] at h ⊢
 exact cW (V:=V0) [Iy] 1 (.call h λt q=>.r t.1 (by rw [q e 0 0 (by rw [e.ca]) rfl];rfl)) (by kernel_rfl)
def rC {α:Type} (A:α->List AV) (E:α->Int) (l:List AV) (_:List AO) (x:Int):Prop:=∀a,l=A a->x=E a
theorem aJ.rC {α:Type} {f:FuncId} {A:α->List AV} {E:α->Int} {a:α} (hi:∀a b,A a=A b->a=b) (h:aJ wd f SH.φE (rIs (E a)) (A a) []):aJ wd f SH.φE (rC A E) (A a) []:=h.mono λx hx b e=>by rw [<-hi _ _ e];exact hx
abbrev aM (l:List (List UInt8)):List AV:=[cr l]
abbrev aX (e:EXP):List AV:=[.agg e.c]
abbrev aS (n:Nat) (v:SERVE):List AV:=[.agg v.c,.int .i64 n]
theorem MW (a b:List (List UInt8)) (h:aM a=aM b):a=b:=fu (by simpa using h)
theorem MU (a b:EXP) (h:aX a=aX b):a=b:=EXP.br _ _ (by simpa using h)
theorem MV (n:Nat) (a b:SERVE) (h:aS n a=aS n b):a=b:=SERVE.br (by simpa using h)
noncomputable abbrev O6:Ent:=bc wd mJ SH.φE (rC aM Br)
noncomputable abbrev eRX:Ent:=bc wd xm SH.φE (rC aX gq)
noncomputable abbrev SW (n:Nat):Ent:=bc wd su SH.φE (rC (aS n) λv=>cB v n)
theorem G3 (l:List (List UInt8)) (hl:jj l):aJ wd mJ SH.φE (rC aM Br) [cr l] []:=aJ.rC MW (Ky l hl)
theorem S9 (e:EXP) (he:e.Ok):aJ wd xm SH.φE (rC aX gq) [.agg e.x] []:=by rw [EXP.FI];exact aJ.rC MU (KE e he)
theorem Qm (n:Nat) (v:SERVE) (hv:v.Ok):aJ wd su SH.φE (rC (aS n) λv=>cB v n) [.agg v.c,.int .i64 n] []:=aJ.rC (E:=λv=>cB v n) (MV n) (GR v n hv)
theorem Kt (l:List PRQ) (hl:okL (λp:PRQ=>jg p.flag) l):aJ wd ic SH.φE (rIs (Hq l)) [Mo l] []:=by
 have hm:=hl.big
 obtain ⟨u,w,hu,hlo⟩:=bQ (V:=V0) (T:=[k6]) (d:=1) (W:=[]) (f:=ic) (p:=P3) (Lf:=λL=>L) (LZ (Mo l)) l.length (kL l) (si 2) (λk=>k (.exit 0) {env:=[],objs:=[]}) (by kernel_rfl)
  (λi a=>
   have c:=pv (λj=>aG (l.getD i default).flag (l.getD j default).flag||(l.getD i default).flag==(l.getD j default).flag) a.lt hm
   .n a.w (.call (dV (l.getD i default).flag (hl.at a.lt)) λb q=>.b (!b) (λh=>.sp 6 a (by rw [q _ rfl] at h;unfold kL;rw [h];rfl)) λh=>
   have h:(!ea (l.getD i default).flag)=false:=by rw [<-q _ rfl];exact h
   .gd (!bif decide ((i:Int) > 0)==true then true else false) a.w (.gp true a.lt hm (.b (bif decide ((i:Int) > 0) then (aG (l.getD i default).flag (l.getD (Int.toNat (IntKind.wrap .i64 ((i:Int) - 1))) default).flag||(l.getD i default).flag==(l.getD (Int.toNat (IntKind.wrap .i64 ((i:Int) - 1))) default).flag) else false)
    (λh2=>.sp 9 a (by rw [c] at h2;unfold kL;rw [h,h2];rfl)) λh2=>
   .n a.w (.gd (!bif decide ((l.getD i default).var < 1)==false then true else false) a.w (.b (bif decide ((l.getD i default).var < 1) then true else decide ((l.getD i default).var > 8))
    (λh3=>.sp 3 a (by rw [c] at h2;rw [Bool.cond_true_left] at h3;unfold kL;rw [h,h2,h3];rfl)) λh3=>.up a hm (by rw [c] at h2;rw [Bool.cond_true_left] at h3;unfold kL;rw [h,h2,h3];rfl))))))) (λi L k kn=>by kernel_rfl)
 exact gC (V:=V0) [k6] 1 hlo (.b (decide ((l.length:Int) > 4)) (λh=>gI (n:=4) h) λh=>.lp hu λt q=>gH (n:=4) q h) (by kernel_rfl)
def TZ (x:AV) (n:Nat) (i:Int):St:={env:=[(0,x),(1,.int .i64 n),(5,.int .i64 i)],objs:=[]}
theorem Kq (l:List TGT) (n:Nat) (hl:okL TGT.Ok l):aJ wd pF SH.φE (rIs (Jn l n)) [M5 l,.int .i64 n] []:=by
 have hm:=hl.big
 obtain ⟨u,w,hu,hlo⟩:=bQ (V:=V0) (T:=[k6,O6]) (d:=1) (W:=[]) (f:=pF) (p:=P3) (Lf:=λL=>L) (TZ (M5 l) n) l.length (kx l n) (si 4) (λk=>k (.exit 0) {env:=[],objs:=[]}) (by kernel_rfl)
  (λi a=>.n a.w (.call (dV (l.getD i default).kind (hl.at a.lt).1) λb q=>.b (!b) (λh=>.sp 6 a (by rw [q _ rfl] at h;unfold kx;rw [h];rfl)) λh=>
   have h:(!ea (l.getD i default).kind)=false:=by rw [<-q _ rfl];exact h
   .n a.w (.gd (!bif decide ((l.getD i default).var < 1)==false then true else false) a.w (.gd (!bif (bif decide ((l.getD i default).var < 1) then true else decide ((l.getD i default).var > (n:Int)))==false then true else false) a.w
   (.b (bif bif decide ((l.getD i default).var < 1) then true else decide ((l.getD i default).var > (n:Int)) then true else ((l.getD i default).keys.length:Int)==0)
    (λh2=>.sp 3 a (by rw [Bool.cond_true_left,Bool.cond_true_left,Bool.or_assoc,dx] at h2;unfold kx;rw [h,h2];rfl)) λh2=>
   have h2:(decide ((l.getD i default).var < 1)||(decide ((l.getD i default).var > (n:Int))||(l.getD i default).keys.length==0))=false:=by rw [<-dx,<-Bool.or_assoc,<-Bool.cond_true_left,<-Bool.cond_true_left];exact h2
   .n a.w (.call (G3 _ (hl.at a.lt).2) λt qt=>.b (t !=0) (λh3=>.sp t a (by rw [qt _ rfl] at h3 ⊢;unfold kx;rw [h,h2,h3];rfl)) λh3=>.up a hm (by rw [qt _ rfl] at h3;unfold kx;rw [h,h2,h3];rfl))))))) (λi L k kn=>by kernel_rfl)
 exact gC (V:=V0) [k6,O6] 1 hlo (.b (decide ((l.length:Int) > 8)) (λh=>gI (n:=8) h) λh=>.lp hu λt q=>gH (n:=8) q h) (by kernel_rfl)
def RZ (l:List RULE) (n:Nat) (x:Nat×Nat):St:={env:=[(0,nG l),(1,.int .i64 n),(5,.int .i64 x.1),(6,.int .i64 x.2)],objs:=[]}
def QM (l:List RULE) (n:Nat) (o:Int×Bool) (k:Ex->St->Res):Res:=cond o.2 (k .ret {env:=[(4,.int .i64 10)],objs:=[]}) (k (.exit 2) (TZ (nG l) n o.1))
abbrev PRi:List Nat:=[1,1,0,1,0,0,1,0,0,1,0,1,0]
theorem GS (l:List RULE) (n:Nat) (hl:okL RULE.Ok l):aJ wd sr SH.φE (rIs (GN l n)) [nG l,.int .i64 n] []:=by
 have hm:=hl.big
 obtain ⟨u2,w2,h2,l2⟩:=pQ (V:=V0) (T:=[k6,eRX,SW n]) (d:=1) (W:=[]) (f:=sr) (p:=PRi) (Lf:=λL=>L) (RZ l n) (λx=>(x.2<=x.1/\x.1 < l.length)/\uj l x.1 x.2=uj l x.1 0) (λx=>x.1 - x.2) (QM l n) (λs o=>o.1=slI 5 s/\o.2=uj l o.1.toNat 0) (by kernel_rfl)
  (λx hx=>.b (decide ((x.2:Int) < (x.1:Int))) (λh=>
    have hk:x.2 < x.1:=pN h
    have st:=Ai l x.1 hk
    .n (dD (show x.2 < l.length by have:=hx.1.2;omega)) (.n (dD hx.1.2) (.b ((l.getD x.2 default).name==(l.getD x.1 default).name) (λhb=>.fi ((x.1:Int),true) ⟨rfl,by show true=uj l (x.1:Int).toNat 0;rw [Int.toNat_natCast,<-hx.2,st,hb];rfl⟩)
     λhb=>.nx {env:=[(0,nG l),(1,.int .i64 n),(5,.int .i64 x.1),(6,.int .i64 (IntKind.wrap .i64 ((x.2:Int)+1)))],objs:=[]} (x.1,x.2+1) ⟨⟨hk,hx.1.2⟩,by show uj l x.1 (x.2+1)=_;rw [<-hx.2,st,hb];rfl⟩ (by show x.1 - (x.2+1) < x.1 - x.2;omega) (λo ho=>ho) (by rw [bg (by have:=hx.1.2;omega)];rfl))))
   λh=>.fi ((x.1:Int),false) ⟨rfl,by show false=uj l (x.1:Int).toNat 0;rw [Int.toNat_natCast,<-hx.2,Eb];have:=of_decide_eq_false h;omega⟩) (λv L k kn=>by kernel_rfl)
 obtain ⟨u,w,hu,hlo⟩:=bQ (V:=V0) (T:=[k6,eRX,SW n]) (d:=1) (W:=[]) (f:=sr) (p:=P3) (Lf:=λo:Orc=>[(P3,o),(PRi,mkO u2 w2 (QM l n))]) (TZ (nG l) n) l.length (eS l n) (si 4) (λk=>k (.exit 0) {env:=[],objs:=[]}) (by kernel_rfl)
  (λi a=>.n a.w (.call (dV (l.getD i default).name (hl.at a.lt).1) λb q=>.b (!b) (λh=>.sp 6 a (by rw [q _ rfl] at h;unfold eS;rw [h];rfl)) λh=>
   have h:(!ea (l.getD i default).name)=false:=by rw [<-q _ rfl];exact h
   .lp (h2 (i,0) ⟨⟨Nat.zero_le _,a.lt⟩,rfl⟩) λo qo=>
   have e1:o.1=(i:Int):=qo.1
   have e2:o.2=uj l i 0:=by rw [qo.2,e1,Int.toNat_natCast]
   .b o.2 (λh2=>.sp 10 a (by rw [e2] at h2;unfold eS;rw [h,h2];rfl)) λh2=>
   have h2:uj l i 0=false:=e2.symm.trans h2
   have wi:within o.1 l.length=true:=by rw [e1];exact a.w
   have ei:o.1.toNat=i:=by rw [e1,Int.toNat_natCast]
   .n wi (.call (f:=xm) (R:=rC aX gq) (ψ:=SH.φE) (l:=[.agg (l.getD o.1.toNat default).when.x]) (os:=[]) (by rw [ei];exact S9 _ (hl.at a.lt).2.1) λt qt=>
   have qt:t=gq (l.getD i default).when:=by rw [qt (l.getD o.1.toNat default).when (by rw [EXP.FI]),ei]
   .b (t !=0) (λh3=>.sp t a (by rw [qt] at h3 ⊢;unfold eS;rw [h,h2,h3];rfl)) λh3=>
   have h3:(gq (l.getD i default).when !=0)=false:=by rw [<-qt];exact h3
   .n wi (.call (f:=su) (R:=rC (aS n) λv=>cB v n) (ψ:=SH.φE) (l:=[.agg (l.getD o.1.toNat default).serve.c,.int .i64 n]) (os:=[]) (by rw [ei];exact Qm n _ (hl.at a.lt).2.2) λs qs=>
   have qs:s=cB (l.getD i default).serve n:=by rw [qs (l.getD o.1.toNat default).serve rfl,ei]
   .b (s !=0) (λh4=>.sp s a (by rw [qs] at h4 ⊢;unfold eS;rw [h,h2,h3,h4];rfl)) λh4=>
    .on (TZ (nG l) n (IntKind.wrap .i64 (o.1+1))) a (by rw [qs] at h4;unfold eS;rw [h,h2,h3,h4];rfl) (by rw [e1,bg (by have:=a.lt;omega)]))))) (λi L k kn=>by kernel_rfl)
 exact dy (V:=V0) (T:=[k6,eRX,SW n]) (d:=1) 0 (ah (hlo _) (ah (l2 _) aE)) aB (.b (decide ((l.length:Int) > 12)) (λh=>gI (n:=12) h) λh=>.lp hu λt q=>gH (n:=12) q h) (by kernel_rfl)
def VZ (f:FLAG) (i:Int):St:={env:=[(1,.ref 1 0),(3,.int .i64 f.vars.length),(4,.int .i64 i)],objs:=[(1,.cells f.c)]}
theorem Kl (f:FLAG) (hl:okL VAL.Ok f.vars):aJ wd kJ SH.φE (rIs (FP f)) [.agg f.c] []:=by
 have hm:=hl.big
 obtain ⟨u,w,hu,hlo⟩:=bQ (V:=V0) (T:=[Iz]) (d:=1) (W:=[]) (f:=kJ) (p:=[1,1,1,1,0,1,0]) (Lf:=λL=>L) (λi:Int=>VZ f i) f.vars.length (kq f) (si 2) (λk=>k (.exit 0) (VM f)) (by kernel_rfl)
  (λi a=>.n a.w (.call (Hf _ (hl.at a.lt)) λt q=>.b (t !=0) (λh=>.sp t a (by rw [q _ rfl] at h ⊢;unfold kq;rw [h];rfl)) λh=>
   .n a.w (.b ((f.vars.getD i default).kind !=f.kind) (λh2=>.sp 8 a (by rw [q _ rfl] at h;unfold kq;rw [h,h2];rfl)) λh2=>.up (S:=VZ f) a hm (by rw [q _ rfl] at h;unfold kq;rw [h,h2];rfl)))) (λi L k kn=>by kernel_rfl)
 exact gC (V:=V0) [Iz] 1 hlo (.b (decide ((f.vars.length:Int) > 8)) (λh=>.r 5 (by rw [xL] at h;unfold rIs FP;rw [h];rfl)) λh=>
  have h:decide (f.vars.length > 8)=false:=by rw [<-xL];exact h
  .b ((f.vars.length:Int)==0) (λh2=>.r 3 (by rw [dx] at h2;unfold rIs FP;rw [h,h2];rfl)) λh2=>
  have h2:(f.vars.length==0)=false:=by rw [<-dx];exact h2
  .lp hu λt q=>have q:t=iT f:=q
  .b t.1 (λh3=>.r t.2 (by rw [q] at h3 ⊢;unfold rIs FP;rw [h,h2,h3];rfl)) λh3=>
  have h3:(iT f).1=false:=by rw [<-q];exact h3
  .b (bif decide (f.off < 1) then true else decide (f.off > (f.vars.length:Int))) (λh4=>.r 3 (by rw [Bool.cond_true_left] at h4;unfold rIs FP;rw [h,h2,h3,h4];rfl)) λh4=>.r 0 (by rw [Bool.cond_true_left] at h4;unfold rIs FP;rw [h,h2,h3,h4];rfl)) (by kernel_rfl)
theorem pass {A:List AV} {t e r:Int} {x:Res} (q:t=e) (h:(e !=0)=false->Run (rIs r A []) SH.φE x):Run (rIs (bif e !=0 then e else r) A []) SH.φE (cond (t !=0) (some (.int .i64 t,[])) x):=by
 subst q
 cases he:(t !=0) with
 | true=>exact .r t rfl
 | false=>exact h he
theorem KB (f:FLAG) (hf:f.Ok):aJ wd NQ SH.φE (rIs (nU f)) [.agg f.c] []:=by
 obtain ⟨h1,h2,h3,h4,h5,h6⟩:=hf
 exact cW (V:=V0) [k6,bc wd kJ SH.φE (rIs (FP f)),bc wd ic SH.φE (rIs (Hq f.prqs)),bc wd pF SH.φE (rIs (Jn f.tgts f.vars.length)),bc wd sr SH.φE (rIs (GN f.rules f.vars.length)),SW f.vars.length] 1
  (.call (dV f.key h1) λb q=>.b (!b) (λh=>.r 6 (by rw [q _ rfl] at h;unfold rIs nU;rw [h];rfl)) λh=>
  .b (bif decide (f.kind < 1) then true else decide (f.kind > 5)) (λk=>.r 7 (by rw [q _ rfl] at h;rw [Bool.cond_true_left] at k;unfold rIs nU;rw [h,k];rfl)) λk=>by
   have h:(!ea f.key)=false:=by rw [<-q _ rfl];exact h
   have k:(decide (f.kind < 1)||decide (f.kind > 5))=false:=by rw [<-Bool.cond_true_left];exact k
   unfold nU
   rw [h,k]
   exact .call (Kl f h2) λt1 q1=>pass q1 λ_=>.call (Kt f.prqs h3) λt2 q2=>pass q2 λ_=>.call (Kq f.tgts _ h4) λt3 q3=>pass q3 λ_=>.call (GS f.rules _ h5) λt4 q4=>pass q4 λ_=>.call (Qm _ f.dflt h6) λt5 q5=>.r t5 (q5 _ rfl)) (by kernel_rfl)
theorem G4 (f:LAYER) (hf:f.Ok):aJ wd Dm SH.φE (rIs (jt f)) [.agg f.c] []:=by
 obtain ⟨h1,h2,h3,h4⟩:=hf
 have hm:f.cooling.length<=4611686018427387904:=by omega
 obtain ⟨u,w,hu,hlo⟩:=bQ (V:=V0) (T:=[k6,uh]) (d:=1) (W:=[]) (f:=Dm) (p:=[1,1,1,1,1,0,1,0]) (Lf:=λL=>L) (PZ 3 f.c) f.cooling.length (iI f.cooling) (si 2) (λk=>k (.exit 0) {env:=[],objs:=[]}) (by kernel_rfl)
  (λi a=>
   have c:=pv (λj=>decide ((f.cooling.getD i (0,0,0)).1 < (f.cooling.getD j (0,0,0)).2.1)) a.lt hm
   .n a.w (.b (bif bif bif bif decide ((f.cooling.getD i (0,0,0)).1 < 0) then true else decide ((f.cooling.getD i (0,0,0)).1≥(f.cooling.getD i (0,0,0)).2.1) then true else decide ((f.cooling.getD i (0,0,0)).2.1 > 10000) then true else decide ((f.cooling.getD i (0,0,0)).2.2 < 0) then true else decide ((f.cooling.getD i (0,0,0)).2.2 > 1099511627776))
    (λh=>.sp 3 a (by rw [R4] at h;unfold iI;rw [h];rfl)) λh=>
   have h:lG (f.cooling.getD i (0,0,0)).1 (f.cooling.getD i (0,0,0)).2.1 (f.cooling.getD i (0,0,0)).2.2=false:=by rw [<-R4];exact h
   .gp true a.lt hm (.b (bif decide ((i:Int) > 0) then decide ((f.cooling.getD i (0,0,0)).1 < (f.cooling.getD (Int.toNat (IntKind.wrap .i64 ((i:Int) - 1))) (0,0,0)).2.1) else false)
    (λh2=>.sp 9 a (by rw [c] at h2;unfold iI;rw [h,h2];rfl)) λh2=>.up a hm (by rw [c] at h2;unfold iI;rw [h,h2];rfl)))) (λi L k kn=>by kernel_rfl)
 exact gC (V:=V0) [k6,uh] 1 hlo (.call (dV f.key h1) λx qx=>.call (dV f.kind h2) λy qy=>.b (bif !x then true else !y) (λb=>.r 6 (by rw [qx _ rfl,qy _ rfl,Bool.cond_true_left] at b;unfold rIs jt;rw [b];rfl)) λb=>
  have b:(!ea f.key||!ea f.kind)=false:=by rw [<-qx _ rfl,<-qy _ rfl,<-Bool.cond_true_left];exact b
  .call (iV f.salt h3) λz qz=>.b (!z) (λc=>.r 2 (by rw [qz _ rfl] at c;unfold rIs jt;rw [b,c];rfl)) λc=>
  have c:(!df f.salt)=false:=by rw [<-qz _ rfl];exact c
  .b (bif bif bif decide (f.hold < 0) then true else decide (f.hold > 10000) then true else decide (f.cool < 0) then true else decide (f.cool > 1099511627776)) (λd=>.r 3 (by simp only [Bool.cond_true_left,Bool.or_assoc] at d;unfold rIs jt;rw [b,c,d];rfl)) λd=>
  have d:(decide (f.hold < 0)||(decide (f.hold > 10000)||(decide (f.cool < 0)||decide (f.cool > 1099511627776))))=false:=by simp only [Bool.cond_true_left,Bool.or_assoc] at d;exact d
  .b (decide ((f.cooling.length:Int) > 32)) (λh=>.r 5 (by rw [oK] at h;unfold rIs jt;rw [b,c,d,h];rfl)) λh=>
  .lp hu λt q=>have q:t=mV f.cooling:=q
  .b t.1 (λh3=>.r t.2 (by rw [oK] at h;rw [q] at h3 ⊢;unfold rIs jt;rw [b,c,d,h,h3];rfl)) λh3=>.r 0 (by rw [oK] at h;rw [q] at h3;unfold rIs jt;rw [b,c,d,h,h3];rfl)) (by kernel_rfl)
theorem Nz (f:SEG) (hf:f.Ok):aJ wd ET SH.φE (rIs (Fy f)) [.agg f.c] []:=by
 obtain ⟨h1,h2,h3,h4,h5⟩:=hf
 have hn:aJ wd Bc φB (rIs (kS f.when)) [.agg f.when.x] []:=by rw [EXP.FI];exact Kw f.when
 exact cW (V:=V0) [k6,O6,bc wd Bc φB (rIs (kS f.when)),eRX] 1 (.call (dV f.key h1) λx qx=>.call (dV f.kind h2) λy qy=>.b (bif !x then true else !y) (λb=>.r 6 (by rw [qx _ rfl,qy _ rfl,Bool.cond_true_left] at b;unfold rIs Fy;rw [b];rfl)) λb=>by
  have b:(!ea f.key||!ea f.kind)=false:=by rw [<-qx _ rfl,<-qy _ rfl,<-Bool.cond_true_left];exact b
  unfold Fy
  rw [b]
  exact .call (G3 f.incl h3) λt1 q1=>pass (q1 _ rfl) λ_=>.call (G3 f.excl h4) λt2 q2=>pass (q2 _ rfl) λ_=>.call hn λz qz=>.b z (λh=>.r 0 (by rw [show z=kS f.when from qz] at h;unfold rIs;rw [h];rfl))
   λh=>.call (S9 f.when h5) λt q=>.r t (by rw [show z=kS f.when from qz] at h;unfold rIs;rw [h,q f.when (by rw [EXP.FI])];rfl)) (by kernel_rfl)
theorem KC (f:EXPT) (hf:f.Ok):aJ wd xp SH.φE (rIs (pX f)) [.agg f.c] []:=by
 obtain ⟨h1,h2,h3,h4,h5,h6,h7⟩:=hf
 exact cW (V:=V0) [k6,uh,bc wd xk SH.φE (rIs (nh f.claims)),bc wd ss SH.φE (rIs (eI f.arms 8)),eRX] 1 (.call (dV f.key h1) λx qx=>.call (dV f.layer h2) λy qy=>.call (dV f.flag h3) λz qz=>
  .b (bif bif !x then true else !y then true else !z) (λb=>.r 6 (by rw [qx _ rfl,qy _ rfl,qz _ rfl,Bool.cond_true_left,Bool.cond_true_left,Bool.or_assoc] at b;unfold rIs pX;rw [b];rfl)) λb=>
  have b:(!ea f.key||(!ea f.layer||!ea f.flag))=false:=by rw [<-qx _ rfl,<-qy _ rfl,<-qz _ rfl,<-Bool.or_assoc,<-Bool.cond_true_left,<-Bool.cond_true_left];exact b
  .call (iV f.salt h4) λv qv=>.b (!v) (λc=>.r 2 (by rw [qv _ rfl] at c;unfold rIs pX;rw [b,c];rfl)) λc=>
  have c:(!df f.salt)=false:=by rw [<-qv _ rfl];exact c
  .b (bif decide (f.status < 1) then true else decide (f.status > 3)) (λd=>.r 7 (by rw [Bool.cond_true_left] at d;unfold rIs pX;rw [b,c,d];rfl)) λd=>by
   have d:(decide (f.status < 1)||decide (f.status > 3))=false:=by rw [<-Bool.cond_true_left];exact d
   unfold pX
   rw [b,c,d]
   exact .call (GQ f.claims (by omega)) λt1 q1=>pass q1 λ_=>.call (y7 f.arms 8 (by omega)) λt2 q2=>pass q2 λ_=>.call (S9 f.when h7) λt q=>.r t (q f.when (by rw [EXP.FI]))) (by kernel_rfl)
open Go.SM (ATT ATT.Ok pd En vf ya ENV dU uZ uU uM uO uY uT yx El y4 rA iG)
def jf (chk:Nat->Int) (bad:Nat->Bool) (i:Nat):Option Int:=bif chk i !=0 then some (chk i) else bif bad i then some 9 else none
theorem C9 {chk:Nat->Int} {bad:Nat->Bool} {n:Nat}:∀d i,i+d=n->y4 chk bad d i=bif (bp n (·+1) (jf chk bad) i).1 then (bp n (·+1) (jf chk bad) i).2 else 0
 | 0,i,h=>by rw [bI _ _ _ (by omega)];rfl
 | d+1,i,h=>by
  rw [da (λi _=>Nat.lt_succ_self i) (show i < n by omega)]
  have ih:=C9 (chk:=chk) (bad:=bad) (n:=n) d (i+1) (by omega)
  unfold y4 jf
  cases chk i !=0 with
  | true=>rfl
  | false=>
   cases bad i with
   | true=>rfl
   | false=>exact ih
section
variable {most:Int} {n:Nat} {chk:Nat->Int} {bad:Nat->Bool} {A:List AV}
theorem w9 {t:Bool×Int} (q:t=bp n (·+1) (jf chk bad) 0) (h:decide ((n:Int) > most)=false):Run (rIs (SM.bR most n chk bad) A []) SH.φE (cond t.1 (some (.int .i64 t.2,[])) (some (.int .i64 0,[]))):=by
 unfold SM.bR
 rw [h,C9 n 0 (Nat.zero_add n),<-q]
 exact .b t.1 (λh=>.r t.2 (by unfold rIs;rw [h];rfl)) λh=>.r 0 (by unfold rIs;rw [h];rfl)
theorem xa (h:decide ((n:Int) > most)=true):Run (rIs (SM.bR most n chk bad) A []) SH.φE (some (.int .i64 5,[])):=by
 unfold SM.bR
 rw [h]
 exact .r 5 rfl
end
theorem Kr (s h:List UInt8) (n:Int) (hs:jg s) (hh:jg h):aJ wd tf SH.φE (rIs (rA s h n)) [.agg [.str s,.str h,.int .i64 n]] []:=
 cW (V:=V0) [uh,k6] 1 (.call (iV s hs) λx qx=>.b (!x) (λa=>.r 2 (by rw [qx _ rfl] at a;unfold rIs rA;rw [a];rfl)) λa=>.b (bif decide (n < 0) then true else decide (n > 10000)) (λb=>.r 3 (by rw [qx _ rfl] at a;unfold rIs rA;rw [a,b];rfl)) λb=>
  .call (dV h hh) λy qy=>.b (bif !y then bif !h==[] then true else n !=0 else false) (λc=>.r 6 (by rw [qx _ rfl] at a;rw [qy _ rfl] at c;unfold rIs rA;rw [a,b,c];rfl)) λc=>.r 0 (by rw [qx _ rfl] at a;rw [qy _ rfl] at c;unfold rIs rA;rw [a,b,c];rfl)) (by kernel_rfl)
abbrev aE0:ATT:=([],[],0)
def aP (l:List ATT) (i:Nat):Bool:=aG (l.getD i aE0).1 (l.getD (Int.toNat (IntKind.wrap .i64 ((i:Int) - 1))) aE0).1
def aQ (l:List ATT) (i:Nat):Bool:=(l.getD i aE0).1==(l.getD (Int.toNat (IntKind.wrap .i64 ((i:Int) - 1))) aE0).1
def aR (l:List ATT) (i:Nat):Bool:=bif decide ((i:Int) > 0) then bif aP l i then true else bif aQ l i then aG (l.getD i aE0).2.1 (l.getD (Int.toNat (IntKind.wrap .i64 ((i:Int) - 1))) aE0).2.1||(l.getD i aE0).2.1==(l.getD (Int.toNat (IntKind.wrap .i64 ((i:Int) - 1))) aE0).2.1 else false else false
theorem Sc {l:List ATT} {i:Nat} (h:i < l.length) (hm:l.length<=4611686018427387904):aR l i=vf l i:=by
 unfold aR vf aP aQ
 by_cases h0:0 < i
 ·rw [pw h hm h0];rfl
 ·rw [decide_eq_false (show ¬ (i:Int) > 0 by omega)];rfl
theorem KG (l:List ATT) (hl:okL ATT.Ok l):aJ wd nJ SH.φE (rIs (ya l)) [pd l] []:=by
 have hm:=hl.big
 obtain ⟨u,w,hu,hlo⟩:=bQ (V:=V0) (T:=[k6]) (d:=1) (W:=[]) (f:=nJ) (p:=P3) (Lf:=λL=>L) (LZ (pd l)) l.length (jf (En l) (vf l)) (si 2) (λk=>k (.exit 0) {env:=[],objs:=[]}) (by kernel_rfl)
  (λi a=>
   have ok:=SM.R9 hl a.lt
   have e:=Sc a.lt hm
   have fz:∀ {X:Bool},decide ((i:Int) > 0)=false->(bif X==false then bif decide ((i:Int) > 0)==true then true else false else false)=false:=fun {X} h=>by rw [h];cases X <;> rfl
   .n a.w (.call (dV (l.getD i aE0).1 ok.1) λx qx=>.gd (!bif (!x)==false then true else false) a.w (.call (dV (l.getD i aE0).2.1 ok.2) λy qy=>.gd (!bif (bif !x then true else !y)==false then true else false) a.w
   (.b (bif bif !x then true else !y then true else (l.getD i aE0).2.1==[107,101,121]) (λh=>.sp 6 a (by rw [qx _ rfl,qy _ rfl] at h;unfold jf En;rw [h];rfl)) λh=>
   have h:(bif bif !ea (l.getD i aE0).1 then true else !ea (l.getD i aE0).2.1 then true else (l.getD i aE0).2.1==[107,101,121])=false:=by rw [<-qx _ rfl,<-qy _ rfl];exact h
   .n a.w (.gd (!bif decide ((l.getD i aE0).2.2 < 1)==false then true else false) a.w (.b (bif decide ((l.getD i aE0).2.2 < 1) then true else decide ((l.getD i aE0).2.2 > 5)) (λh2=>.sp 7 a (by unfold jf En;rw [h,h2];rfl)) λh2=>
   .gd (!bif decide ((i:Int) > 0)==true then true else false) a.w (.gp true a.lt hm
   (.gd (!bif aP l i==false then bif decide ((i:Int) > 0)==true then true else false else false) a.w
   (.n (c:=bif within (IntKind.wrap .i64 ((i:Int) - 1)) l.length then true else !bif aP l i==false then bif decide ((i:Int) > 0)==true then true else false else false) (SM.Du a.lt hm fz)
   (.gd (!bif aQ l i==true then bif aP l i==false then bif decide ((i:Int) > 0)==true then true else false else false else false) a.w
   (.n (c:=bif within (IntKind.wrap .i64 ((i:Int) - 1)) l.length then true else !bif aQ l i==true then bif aP l i==false then bif decide ((i:Int) > 0)==true then true else false else false else false) (SM.Du a.lt hm λh=>by rw [fz h];cases aQ l i <;> rfl)
   (.b (aR l i) (λh3=>.sp 9 a (by rw [e] at h3;unfold jf En;rw [h,h2,h3];rfl)) λh3=>.up a hm (by rw [e] at h3;unfold jf En;rw [h,h2,h3];rfl))))))))))))) (λi L k kn=>by kernel_rfl)
 exact gC (V:=V0) [k6] 1 hlo (.b (decide ((l.length:Int) > 30)) (λh=>xa h) λh=>.lp hu λt q=>w9 q h) (by kernel_rfl)
def kP (key:Nat->List UInt8) (i:Nat):Bool:=bif decide ((i:Int) > 0) then aG (key i) (key (Int.toNat (IntKind.wrap .i64 ((i:Int) - 1))))||key i==key (Int.toNat (IntKind.wrap .i64 ((i:Int) - 1))) else false
theorem C6 {α:Type} [Inhabited α] {f g:FuncId} {A:α->List AV} {E:α->Int} (key:α->List UInt8) (x:AV) (most:Int) (l:List α) (hl:l.length<=1048576) (hg:∀i,i < l.length->aJ wd g SH.φE (rC A E) (A (l.getD i default)) []) (hb:jv (ef (bD V0.P f) P3)=true)
  (he:∀ (i:Nat) (L:List (List Nat×Orc)) (k:Ex->St->Res) (kn:St->Res),dP (V0.run [bc wd g SH.φE (rC A E)] 1 [] L [] f) f 9 P3 (LZ x i) kn k=cond (decide ((i:Int) < (l.length:Int))) (cond (within (i:Int) l.length) (cond (gR wd g SH.φE (rC A E) (A (l.getD i default)) []) (cond (wR wd g SH.φE (rC A E) (A (l.getD i default)) [] !=0) (k .ret {env:=[(2,.int .i64 (wR wd g SH.φE (rC A E) (A (l.getD i default)) []))],objs:=[]})
   (cond (bif within (i:Int) l.length then true else !bif decide ((i:Int) > 0)==true then true else false) (cond (bif within (IntKind.wrap .i64 ((i:Int) - 1)) l.length then true else !bif decide ((i:Int) > 0)==true then true else false) (cond (kP (λj=>key (l.getD j default)) i) (k .ret {env:=[(2,.int .i64 9)],objs:=[]}) (kn (LZ x (IntKind.wrap .i64 ((i:Int)+1))))) none) none)) none) none) (k (.exit 0) {env:=[],objs:=[]}))
  (hr:∀ (u:St->Bool) (w:St->Bool×Int),xf (V0.run [bc wd g SH.φE (rC A E)] 1 [] [(P3,mkO u w (K3 (si 2) λk=>k (.exit 0) {env:=[],objs:=[]}))] [] f) 9 f [x] []=cond (decide ((l.length:Int) > most)) (some (.int .i64 5,[])) (cond (u (LZ x 0)) (cond (w (LZ x 0)).1 (some (.int .i64 (w (LZ x 0)).2,[])) (some (.int .i64 0,[]))) none)) :
  aJ wd f SH.φE (rIs (SM.bR most l.length (λi=>E (l.getD i default)) (El λi=>key (l.getD i default)))) [x] []:=by
 have hm:l.length<=4611686018427387904:=by omega
 obtain ⟨u,w,hu,hlo⟩:=bQ (V:=V0) (T:=[bc wd g SH.φE (rC A E)]) (d:=1) (W:=[]) (f:=f) (p:=P3) (Lf:=λL=>L) (LZ x) l.length (jf (λi=>E (l.getD i default)) (El λi=>key (l.getD i default))) (si 2) (λk=>k (.exit 0) {env:=[],objs:=[]}) hb
  (λi a=>
   have e:kP (λj=>key (l.getD j default)) i=El (λj=>key (l.getD j default)) i:=SM.bad_eq (key:=λj=>key (l.getD j default)) (by have:=a.lt;omega)
   .n a.w (.call (hg i a.lt) λt q=>.b (t !=0) (λh=>.sp t a (by rw [q _ rfl] at h ⊢;unfold jf;rw [h];rfl)) λh=>.gd (!bif decide ((i:Int) > 0)==true then true else false) a.w (.gp true a.lt hm
   (.b (kP (λj=>key (l.getD j default)) i) (λh2=>.sp 9 a (by rw [q _ rfl] at h;rw [e] at h2;unfold jf;rw [h,h2];rfl)) λh2=>.up a hm (by rw [q _ rfl] at h;rw [e] at h2;unfold jf;rw [h,h2];rfl))))) he
 exact gC (V:=V0) [bc wd g SH.φE (rC A E)] 1 hlo (.b (decide ((l.length:Int) > most)) (λh=>xa h) λh=>.lp hu λt q=>w9 q h) (hr u w)
abbrev Vy (g:SEG):List AV:=[.agg g.c]
abbrev VA (g:FLAG):List AV:=[.agg g.c]
abbrev Vz (g:LAYER):List AV:=[.agg g.c]
abbrev Vx (g:EXPT):List AV:=[.agg g.c]
theorem Ks (l:List SEG) (hl:okL SEG.Ok l):aJ wd tg SH.φE (rIs (uO l)) [dU l] []:=C6 (A:=Vy) (E:=Fy) SEG.key (dU l) 20 l hl.1 (λi hi=>aJ.rC (λa b h=>SM.SEG.br (by simpa using h)) (Nz _ (hl.at hi))) (by kernel_rfl) (λi L k kn=>by kernel_rfl) λu w=>by kernel_rfl
theorem G7 (l:List FLAG) (hl:okL FLAG.Ok l):aJ wd Dl SH.φE (rIs (uY l)) [uZ l] []:=C6 (A:=VA) (E:=nU) FLAG.key (uZ l) 30 l hl.1 (λi hi=>aJ.rC (λa b h=>SM.FLAG.br (by simpa using h)) (KB _ (hl.at hi))) (by kernel_rfl) (λi L k kn=>by kernel_rfl) λu w=>by kernel_rfl
theorem EN (l:List LAYER) (hl:okL LAYER.Ok l):aJ wd zg SH.φE (rIs (uT l)) [uU l] []:=C6 (A:=Vz) (E:=jt) LAYER.key (uU l) 6 l hl.1 (λi hi=>aJ.rC (λa b h=>SM.LAYER.br (by simpa using h)) (G4 _ (hl.at hi))) (by kernel_rfl) (λi L k kn=>by kernel_rfl) λu w=>by kernel_rfl
theorem G8 (l:List EXPT) (hl:okL EXPT.Ok l):aJ wd np SH.φE (rIs (yx l)) [uM l] []:=C6 (A:=Vx) (E:=pX) EXPT.key (uM l) 16 l hl.1 (λi hi=>aJ.rC (λa b h=>SM.EXPT.br (by simpa using h)) (KC _ (hl.at hi))) (by kernel_rfl) (λi L k kn=>by kernel_rfl) λu w=>by kernel_rfl
theorem G9 (e:ENV) (he:e.Ok):aJ wd bO SH.φE (rIs (iG e)) [.agg e.c] []:=
 cW (V:=V0) [bc wd tf SH.φE (rIs (rA e.salt e.hkind e.hold)),bc wd nJ SH.φE (rIs (ya e.attrs)),bc wd tg SH.φE (rIs (uO e.segs)),bc wd Dl SH.φE (rIs (uY e.flags)),bc wd zg SH.φE (rIs (uT e.layers)),bc wd np SH.φE (rIs (yx e.expts))] 1
  (.call (Kr _ _ _ he.salt he.hkind) λt1 q1=>pass q1 λ_=>.call (KG _ he.attrs) λt2 q2=>pass q2 λ_=>.call (Ks _ he.segs) λt3 q3=>pass q3 λ_=>.call (G7 _ he.flags) λt4 q4=>pass q4 λ_=>.call (EN _ he.layers) λt5 q5=>pass q5 λ_=>.call (G8 _ he.expts) λt6 q6=>.r t6 q6) (by kernel_rfl)
end Go.T
namespace Go.SM
open Go Go.Ab Go.Proofs Go.SH
theorem om {τ:Type} [Inhabited τ] {n:Nat} {stop:Nat->Option τ}:∀i,(bp n (·+1) stop i).1=false->∀j,i<=j->j < n->stop j=none:=by
 have step:∀d i,n - i<=d->(bp n (·+1) stop i).1=false->∀j,i<=j->j < n->stop j=none:=by
  intro d
  induction d with
  | zero=>intro i hd _ j h1 h2;omega
  | succ d ih=>
   intro i hd h j h1 h2
   have hi:i < n:=by omega
   rw [da (λi _=>Nat.lt_succ_self i) hi] at h
   cases hs:stop i with
   | some t=>rw [hs] at h;cases h
   | none=>
    rw [hs] at h
    by_cases hj:j=i
    ·rw [hj];exact hs
    ·exact ih (i+1) (by omega) h j (by omega) h2
 exact λi=>step _ i (Nat.le_refl _)
theorem GC {n:Nat} {stop:Nat->Option Int} (hp:∀i t,i < n->stop i=some t->t≠0) (h:(bif (bp n (·+1) stop 0).1 then (bp n (·+1) stop 0).2 else 0)=0):∀j,j < n->stop j=none:=by
 cases hb:(bp n (·+1) stop 0).1 with
 | true=>
  have:=mF (P:=λt=>t≠0) hp 0 hb
  rw [hb] at h
  exact absurd h this
 | false=>exact λj hj=>om 0 hb j (Nat.zero_le _) hj
theorem OK {f:FLAG} (h:nU f=0):Jk f:=by
 unfold nU at h
 refine ⟨ja (cb (by decide) h).1,?_⟩
 have h:=(cb (by decide) h).2
 have h:=(cb (by decide) h).2
 have h:=(bw h).2
 obtain ⟨h1,h⟩:=bw h
 have h:=(bw h).2
 obtain ⟨h2,_⟩:=bw h
 unfold Hq at h1
 unfold GN at h2
 obtain ⟨h2a,h2b⟩:=cb (by decide) h2
 refine ⟨dJ (cb (by decide) h1).1,dJ h2a,λr hr=>?_⟩
 obtain ⟨j,hj,rfl⟩:=List.getElem_of_mem hr
 have hs:=GC (stop:=eS f.rules f.vars.length) (λi t _ ht=>by
  unfold eS at ht
  intro h0
  subst h0
  revert ht
  cases !ea (f.rules.getD i default).name with
  | true=>intro ht;cases ht
  | false=>
   cases uj f.rules i 0 with
   | true=>intro ht;cases ht
   | false=>
    show (bif gq (f.rules.getD i default).when !=0 then some (gq (f.rules.getD i default).when) else _)=_->False
    cases hz:(gq (f.rules.getD i default).when !=0) with
    | true=>
     intro ht
     have ht:gq (f.rules.getD i default).when=0:=Option.some.inj ht
     rw [ht] at hz;cases hz
    | false=>
     show (bif cB (f.rules.getD i default).serve f.vars.length !=0 then some (cB (f.rules.getD i default).serve f.vars.length) else none)=_->False
     cases hz:(cB (f.rules.getD i default).serve f.vars.length !=0) with
     | true=>
      intro ht
      have ht:cB (f.rules.getD i default).serve f.vars.length=0:=Option.some.inj ht
      rw [ht] at hz;cases hz
     | false=>intro ht;cases ht) h2b j hj
 have e1:f.rules.getD j default=f.rules[j]:=by simp [List.getD,hj]
 unfold eS at hs
 rw [e1] at hs
 revert hs
 cases !ea f.rules[j].name with
 | true=>intro ht;cases ht
 | false=>
  cases uj f.rules j 0 with
  | true=>intro ht;cases ht
  | false=>
   show (bif gq f.rules[j].when !=0 then some (gq f.rules[j].when) else _)=none->_
   cases hz:(gq f.rules[j].when !=0) with
   | true=>intro ht;cases ht
   | false=>exact λ_=>xQ (by simpa using hz)
theorem Rx {e:ENV} (ok:e.Ok) (h:iG e=0):GoodE e:=by
 unfold iG at h
 have h:=(bw h).2
 have h:=(bw h).2
 obtain ⟨h1,h⟩:=bw h
 obtain ⟨h2,h⟩:=bw h
 obtain ⟨h3,h4⟩:=bw h
 have l1:=iD (most:=20) h1
 have l2:=iD (most:=30) h2
 have l4:=iD (most:=16) h4
 exact ⟨ok,Nat.le_trans l1.1 (by decide),Nat.le_trans l2.1 (by decide),Nat.le_trans l4.1 (by decide),sB λj hj=>Qh (l1.2 j hj),sB λj hj=>OK (l2.2 j hj),sB λj hj=>OS (l4.2 j hj)⟩
end Go.SM
namespace Go.T
open Go Go.Ab Go.Proofs Go.SH
open Go.SM (ENV GoodE Jk TX txA TXS pd dU KOk XOk rlP whens)
theorem BX (l:List (List UInt8×List UInt8×Int)) (hl:l.length<=1048576) (n:Nat) (g:Nat->List UInt8) (hn:n<=1000000) {e:EXP} (he:KOk e) (ho:e.Ok):aJ wd tb SM.φI' jA [pd l,txA n g,.agg e.x] []:=by rw [EXP.FI];exact LA l hl n g hn he ho
noncomputable abbrev SX (n:Nat):Ent:=bc wd gj SM.φI' (NM n)
noncomputable abbrev Pz:Ent:=bc wd dr SM.φQ' jA
def F1 (e:ENV) (f:FLAG) (n:Nat) (g:Nat->List UInt8) (i:Int):St:={env:=[(2,.ref 2 0),(3,.ref 3 0),(5,txA n g),(6,.int .i64 i)],objs:=[(2,.cells e.c),(3,.cells f.c)]}
def F2 (e:ENV) (f:FLAG) (n:Nat) (g:Nat->List UInt8) (i:Int):St:={env:=[(2,.ref 2 0),(3,.ref 3 0),(5,txA n g),(8,.int .i64 i)],objs:=[(2,.cells e.c),(3,.cells f.c)]}
def QQ (e:ENV) (f:FLAG) (n:Nat) (g:Nat->List UInt8) (b:Bool×Int) (k:Ex->St->Res):Res:=cond b.1 (k .ret {env:=[(4,.int .i64 b.2)],objs:=[]}) (k (.exit 0) {env:=[(2,.ref 2 0),(3,.ref 3 0),(5,txA n g)],objs:=[(2,.cells e.c),(3,.cells f.c)]})
def QP (e:ENV) (f:FLAG) (b:Bool×Int) (k:Ex->St->Res):Res:=cond b.1 (k .ret {env:=[(4,.int .i64 b.2)],objs:=[]}) (k (.exit 2) {env:=[(2,.ref 2 0),(3,.ref 3 0)],objs:=[(2,.cells e.c),(3,.cells f.c)]})
theorem GL {f:FLAG} (hf:Jk f) (fo:f.Ok):rlP f.rules:=by
 refine ⟨λr hr=>(fo.2.2.2.2.1.2 r hr).2.1,?_,by have:=hf.2.2.1;omega⟩
 have h1:=SM.L5 λr hr=>(hf.2.2.2 r hr).2
 have:=hf.2.2.1
 omega
theorem E7 (e:ENV) (he:GoodE e) (f:FLAG) (hf:Jk f) (fo:f.Ok):aJ wd iz SM.φI' jA [.agg e.c,.agg f.c] []:=by
 obtain ⟨⟨n,g⟩,hk,hc⟩:=xF e.segs (by have:=he.segs;omega)
 have hn:n<=1000000:=by have h1:n=e.segs.length:=hk.1;have:=he.segs;omega
 haveI:=iq (T:=[SX e.flags.length,eX9,xX,Pz]) hc
 have ha:e.attrs.length<=1048576:=he.ok.attrs.1
 have hp:f.prqs.length<=1000:=by have:=hf.2.1;omega
 have hr:f.rules.length<=1000:=by have:=hf.2.2.1;omega
 obtain ⟨u1,w1,h1,l1⟩:=aw (V:=V0) (T:=[lD eO [dU e.segs] [] (n,g) SM.φX,SX e.flags.length,eX9,xX,Pz]) (d:=1) (W:=[]) (f:=iz) (p:=P3) (Lf:=λL=>L) (F1 e f n g) (λi=>ix f.prqs.length i) (λi=>(f.prqs.length - i).toNat) (QQ e f n g) (λ_=>True) (by kernel_rfl)
  (λi hi=>.b (decide (i < (f.prqs.length:Int))) (λh=>
    have hx:=ax hi (by omega) (of_decide_eq_true h)
    .n (bu hi h) (.call (z6 e (f.prqs.getD i.toNat default).flag (by have:=he.flags;omega)) λt q=>.b (decide (t < 0)) (λ_=>.fi (true,11) trivial) λht=>
     .n (bu hi h) (.n (c:=within t e.flags.length) (aA (by have:=of_decide_eq_false ht;omega) q.2) (.b (decide ((f.prqs.getD i.toNat default).var > ((e.flags.getD t.toNat default).vars.length:Int))) (λ_=>.fi (true,3) trivial)
      λ_=>.to (IntKind.wrap .i64 (i+1)) hx.1 hx.2))))
   λ_=>.fi (false,0) trivial) (λv L k kn=>by kernel_rfl)
 obtain ⟨u2,w2,h2,l2⟩:=aw (V:=V0) (T:=[lD eO [dU e.segs] [] (n,g) SM.φX,SX e.flags.length,eX9,xX,Pz]) (d:=1) (W:=[]) (f:=iz) (p:=PB) (Lf:=λL=>L) (F2 e f n g) (λi=>ix f.rules.length i) (λi=>(f.rules.length - i).toNat) (QP e f) (λ_=>True) (by kernel_rfl)
  (λi hi=>.b (decide (i < (f.rules.length:Int))) (λh=>
    have hx:=ax hi (by omega) (of_decide_eq_true h)
    have hm:f.rules.getD i.toNat default∈f.rules:=cv (by have:=of_decide_eq_true h;have:=hi.1;omega)
    .n (bu hi h) (.call (BX e.attrs ha n g hn (hf.2.2.2 _ hm).1 (fo.2.2.2.2.1.2 _ hm).2.1) λt _=>.b (t !=0) (λ_=>.fi (true,t) trivial) λ_=>
     .n (bu hi h) (.call (yY e.attrs (f.rules.getD i.toNat default).serve ha) λs _=>.b (s !=0) (λ_=>.fi (true,s) trivial) λ_=>.to (IntKind.wrap .i64 (i+1)) hx.1 hx.2)))
   λ_=>.fi (false,0) trivial) (λv L k kn=>by kernel_rfl)
 exact dy (V:=V0) (T:=[lD eO [dU e.segs] [] (n,g) SM.φX,SX e.flags.length,eX9,xX,Pz]) (d:=1) 0 (ah (l1 _) (ah (l2 _) aE)) aB
  (.n (fp [dU e.segs] []) (.lp (h1 0 (ix0 _)) λt _=>.b t.1 (λ_=>.r t.2 trivial) λ_=>.lp (h2 0 (ix0 _)) λs _=>.b s.1 (λ_=>.r s.2 trivial) λ_=>.call (yY e.attrs f.dflt ha) λv _=>.b (v !=0) (λ_=>.r v trivial) λ_=>
   .call (vm (GL hf fo) λr hr=>(hf.2.2.2 r hr).1) λz _=>.b (!z.ok) (λ_=>.r (19:Int) trivial) λ_=>.b (decide ((z.n:Int) > 0)) (λ_=>.r (13:Int) trivial) λ_=>.r (0:Int) trivial)) (by kernel_rfl)
open Go.SM (ENV GoodE TX txA TXS pd dU KOk SP SO soL Spn jk rU)
def JW (n m:Nat) (F T F' T':Nat->Int):Nat->Int×Int:=Jv n m (λj=>(F j,T j)) λj=>(F' j,T' j)
theorem L6 (n m:Nat) (F T F' T':Nat->Int):af n m (SP F T) (λj=>[.int .i64 (F' j),.int .i64 (T' j)])=SP (λj=>(JW n m F T F' T' j).1) λj=>(JW n m F T F' T' j).2:=yk (λp:Int×Int=>[AV.int .i64 p.1,.int .i64 p.2]) n m (λj=>(F j,T j)) (λj=>(F' j,T' j))
theorem L7 (h:Int):ae (SP Int.ofNat Int.ofNat 0) [(0,.agg [.int .i64 0,.int .i64 h])]=SP (λ_=>0) (λj=>bif Nat.beq 0 j then h else 0):=by
 funext j
 unfold ae
 show _=[AV.int .i64 0,.int .i64 (bif Nat.beq 0 j then h else 0)]
 cases Nat.beq 0 j <;> rfl
def X1 (e:ENV) (x:EXPT) (i:Nat) (a b j:Int):St:={env:=[(1,.int .i64 i),(2,.ref 2 0),(5,.ref 5 0),(6,.int .i64 a),(7,.int .i64 b),(8,.int .i64 j)],objs:=[(2,.cells e.c),(5,.cells x.c)]}
def QK (e:ENV) (x:EXPT) (i:Nat) (a:Int) (b:Bool×Int) (k:Ex->St->Res):Res:=cond b.1 (k .ret {env:=[(4,.int .i64 b.2)],objs:=[]}) (k (.exit 0) {env:=[(1,.int .i64 i),(2,.ref 2 0),(5,.ref 5 0),(6,.int .i64 a)],objs:=[(2,.cells e.c),(5,.cells x.c)]})
def X2 (e:ENV) (x:EXPT) (i:Nat) (v:SO×Int):St:={env:=[(1,.int .i64 i),(2,.ref 2 0),(5,.ref 5 0),(10,.sl (.key 100) 2 v.1.n (SP v.1.F v.1.T)),(11,.int .i64 v.2)],objs:=[(2,.cells e.c),(5,.cells x.c),(100,.own 2 v.1.n)]}
def X3 (e:ENV) (x:EXPT) (i:Nat) (j:Int):St:={env:=[(1,.int .i64 i),(2,.ref 2 0),(5,.ref 5 0),(13,.int .i64 j)],objs:=[(2,.cells e.c),(5,.cells x.c)]}
def QH (b:Bool×Int) (k:Ex->St->Res):Res:=cond b.1 (k .ret {env:=[(4,.int .i64 b.2)],objs:=[]}) (k (.exit 4) {env:=[],objs:=[]})
abbrev cl (e:ENV) (j:Int):List (Int×Int):=(e.expts.getD j.toNat default).claims
theorem E9 (e:ENV) (he:GoodE e) (i:Nat) (hi:i < e.expts.length):aJ wd cM SM.φI' jA [.agg e.c,.int .i64 i] []:=by
 have hex:=he.expts
 have hxm:e.expts.getD i default∈e.expts:=cv hi
 have hxg:=he.expt _ hxm
 have hxo:=he.ok.expts.2 _ hxm
 obtain ⟨⟨n,g⟩,hk,hc⟩:=xF e.segs (by have:=he.segs;omega)
 have hn:n<=1000000:=by have h1:n=e.segs.length:=hk.1;have:=he.segs;omega
 obtain ⟨a,ha,hca⟩:=pR e (e.expts.getD i default).layer (by have:=he.ok.layers.1;omega)
 obtain ⟨b,hb,hcb⟩:=z6 e (e.expts.getD i default).flag (by have:=he.flags;omega)
 have hm:(e.expts.getD i default).arms.length<=1048576:=hxo.2.2.2.2.2.1
 have hat:e.attrs.length<=1048576:=he.ok.attrs.1
 have hl:∀j:Int,0<=j->j < (i:Int)->(cl e j).length<=16:=λj h0 h1=>(he.expt _ (cv (show j.toNat < e.expts.length by omega))).1.2
 haveI t3:=iq (T:=[eX9,O9]) hc
 haveI t2:=iq (T:=[lD eO [dU e.segs] [] (n,g) SM.φX,eX9,O9]) hcb
 haveI t1:=iq (T:=[lD gj [.agg e.c,.str (e.expts.getD i default).flag] [] b SM.φI',lD eO [dU e.segs] [] (n,g) SM.φX,eX9,O9]) hca
 obtain ⟨u1,w1,h1,l1⟩:=aw (V:=V0) (T:=[lD gi [.agg e.c,.str (e.expts.getD i default).layer] [] a SM.φI',lD gj [.agg e.c,.str (e.expts.getD i default).flag] [] b SM.φI',lD eO [dU e.segs] [] (n,g) SM.φX,eX9,O9]) (d:=1) (W:=[]) (f:=cM) (p:=[1,1,1,1,0,1,0]) (Lf:=λL=>L) (X1 e (e.expts.getD i default) i a b) (λj=>0<=b/\ix (e.expts.getD i default).arms.length j) (λj=>((e.expts.getD i default).arms.length - j).toNat) (QK e (e.expts.getD i default) i a) (λ_=>True) (by kernel_rfl)
  (λj hj=>.b (decide (j < ((e.expts.getD i default).arms.length:Int))) (λh=>
    have hx:=ax hj.2 (by omega) (of_decide_eq_true h)
    .n (bu hj.2 h) (.n (c:=within b e.flags.length) (aA hj.1 hb.2) (.b (decide (((e.expts.getD i default).arms.getD j.toNat (0,0,0)).2.2 > ((e.flags.getD b.toNat default).vars.length:Int))) (λ_=>.fi (true,3) trivial)
     λ_=>.to (IntKind.wrap .i64 (j+1)) ⟨hj.1,hx.1⟩ hx.2)))
   λ_=>.fi (false,0) trivial) (λv L k kn=>by kernel_rfl)
 obtain ⟨u2,w2,h2,l2⟩:=aw (V:=V0) (T:=[lD gi [.agg e.c,.str (e.expts.getD i default).layer] [] a SM.φI',lD gj [.agg e.c,.str (e.expts.getD i default).flag] [] b SM.φI',lD eO [dU e.segs] [] (n,g) SM.φX,eX9,O9]) (d:=1) (W:=[]) (f:=cM) (p:=[1,1,1,1,1,1,1,1,0,1,0]) (Lf:=λL=>L) (X2 e (e.expts.getD i default) i) (λv=>ix i v.2/\(v.1.n:Int)<=1+16*v.2) (λv=>(i - v.2).toNat) (SM.QJ e (e.expts.getD i default) i) (λo=>o.n<=1000000) (by kernel_rfl)
  (λv hv=>.b (decide (v.2 < (i:Int))) (λh=>
    have h':=of_decide_eq_true h
    have h0:=hv.1.1
    have hx:=ax hv.1 (by omega) h'
    have hc:=hl v.2 h0 h'
    have hv2:=hv.2
    have hw:IntKind.wrap .i64 (v.2+1)=v.2+1:=wrap_i64 (by omega) (by omega)
    .n (c:=within v.2 e.expts.length) (aA h0 (by omega)) (.b (bif (e.expts.getD v.2.toNat default).layer==(e.expts.getD i default).layer then (e.expts.getD v.2.toNat default).status !=3 else false)
     (λ_=>.n (av (b:=16) (n:=v.1.n+(cl e v.2).length) (m:=v.1.n) (by omega)) (.go {env:=[(1,.int .i64 i),(2,.ref 2 0),(5,.ref 5 0),(10,.sl (.key 100) 2 (v.1.n+(cl e v.2).length) (af v.1.n (cl e v.2).length (SP v.1.F v.1.T) λj=>[.int .i64 ((cl e v.2).getD j (0,0)).1,.int .i64 ((cl e v.2).getD j (0,0)).2])),(11,.int .i64 (IntKind.wrap .i64 (v.2+1)))],objs:=[(2,.cells e.c),(5,.cells (e.expts.getD i default).c),(100,.own 2 (v.1.n+(cl e v.2).length))]}
      (SO.mk (v.1.n+(cl e v.2).length) (λj=>(JW v.1.n (cl e v.2).length v.1.F v.1.T (λj=>((cl e v.2).getD j (0,0)).1) (λj=>((cl e v.2).getD j (0,0)).2) j).1) (λj=>(JW v.1.n (cl e v.2).length v.1.F v.1.T (λj=>((cl e v.2).getD j (0,0)).1) (λj=>((cl e v.2).getD j (0,0)).2) j).2),IntKind.wrap .i64 (v.2+1))
      ⟨hx.1,by show ((v.1.n+(cl e v.2).length:Nat):Int)<=1+16*IntKind.wrap .i64 (v.2+1);rw [hw];omega⟩ hx.2 (by rw [L6 v.1.n (cl e v.2).length v.1.F v.1.T (λj=>((cl e v.2).getD j (0,0)).1) λj=>((cl e v.2).getD j (0,0)).2];rfl)))
     λ_=>.to (v.1,IntKind.wrap .i64 (v.2+1)) ⟨hx.1,by show (v.1.n:Int)<=1+16*IntKind.wrap .i64 (v.2+1);rw [hw];omega⟩ hx.2))
   λh=>.fi v.1 (by have:=hv.2;have:=hv.1.2;omega)) (λv L k kn=>by kernel_rfl)
 obtain ⟨u3,w3,h3,l3⟩:=aw (V:=V0) (T:=[lD gi [.agg e.c,.str (e.expts.getD i default).layer] [] a SM.φI',lD gj [.agg e.c,.str (e.expts.getD i default).flag] [] b SM.φI',lD eO [dU e.segs] [] (n,g) SM.φX,eX9,O9]) (d:=1) (W:=[]) (f:=cM) (p:=[1,1,1,1,1,1,1,1,1,1,0,1,0]) (Lf:=λL=>L) (X3 e (e.expts.getD i default) i) (λj=>ix i j) (λj=>(i - j).toNat) QH (λ_=>True) (by kernel_rfl)
  (λj hj=>.b (bif decide (j < (i:Int)) then (e.expts.getD i default).status==2 else false) (λh=>
    have h':=of_decide_eq_true (Jb h)
    have hx:=ax hj (by omega) h'
    .n (c:=within j e.expts.length) (aA hj.1 (by omega)) (.b (bif bif (e.expts.getD j.toNat default).status==2 then (e.expts.getD j.toNat default).flag==(e.expts.getD i default).flag else false then !(e.expts.getD j.toNat default).layer==(e.expts.getD i default).layer else false) (λ_=>.fi (true,14) trivial)
     λ_=>.to (IntKind.wrap .i64 (j+1)) hx.1 hx.2))
   λ_=>.fi (false,0) trivial) (λv L k kn=>by kernel_rfl)
 exact dy (V:=V0) (T:=[lD gi [.agg e.c,.str (e.expts.getD i default).layer] [] a SM.φI',lD gj [.agg e.c,.str (e.expts.getD i default).flag] [] b SM.φI',lD eO [dU e.segs] [] (n,g) SM.φX,eX9,O9]) (d:=1) 0 (ah (l1 _) (ah (l2 _) (ah (l3 _) aE))) aB
  (.n (dD hi) (.n (fp [.agg e.c,.str (e.expts.getD i default).layer] []) (.n (fp [.agg e.c,.str (e.expts.getD i default).flag] []) (.b (bif decide (a < 0) then true else decide (b < 0)) (λ_=>.r (11:Int) trivial) λhab=>
   have ha0:0<=a:=by
    by_cases h:a < 0
    ·rw [decide_eq_true h] at hab;cases hab
    ·omega
   have hb0:0<=b:=by
    by_cases h:b < 0
    ·rw [decide_eq_true h] at hab;cases hq:decide (a < 0) <;> rw [hq] at hab <;> cases hab
    ·omega
   have hs:cn u2 w2 {env:=[(1,.int .i64 i),(2,.ref 2 0),(5,.ref 5 0),(10,.sl (.key 100) 2 1 (ae (SP Int.ofNat Int.ofNat 0) [(0,.agg [.int .i64 0,.int .i64 (e.layers.getD a.toNat default).hold])])),(11,.int .i64 0)],objs:=[(2,.cells e.c),(5,.cells (e.expts.getD i default).c),(100,.own 2 1)]} (λo=>o.n<=1000000):=by
    rw [L7];exact h2 (SO.mk 1 (λ_=>0) (λj=>bif Nat.beq 0 j then (e.layers.getD a.toNat default).hold else 0),0) ⟨ix0 _,by show ((1:Nat):Int)<=1+16*0;decide⟩
   .lp (h1 0 ⟨hb0,ix0 _⟩) λt _=>.b t.1 (λ_=>.r t.2 trivial) λ_=>.n (fp [dU e.segs] []) (.call (BX e.attrs hat n g hn hxg.1.1.1 hxo.2.2.2.2.2.2) λs _=>.b (s !=0) (λ_=>.r s trivial) λ_=>
   .b ((e.expts.getD i default).status==3) (λ_=>.r (0:Int) trivial) λ_=>.n (c:=within a e.layers.length) (aA ha0 ha.2) (.lp hs λo qo=>.call (Fk (rU (e.expts.getD i default).claims) (jk o) (by show (e.expts.getD i default).claims.length<=_;have:=hxg.1.2;omega) qo) λz _=>
   .b (decide ((z.n:Int) > 0)) (λ_=>.r (14:Int) trivial) λ_=>.lp (h3 0 (ix0 _)) λv _=>.b v.1 (λ_=>.r v.2 trivial) λ_=>.r (0:Int) trivial)))))) (by kernel_rfl)
open Go.SM (ENV GoodE TX txA TXS In EDG ED edA pd dU KOk STE iG φL')
noncomputable abbrev eFE:Ent:=bc wd iz SM.φI' jA
noncomputable abbrev eXE:Ent:=bc wd cM SM.φI' jA
def UH (l:List AV) (_:List AO) (r:List UInt8×Bool):Prop:=∀ (x:TXS) (ne:Nat) (f:EDG),l=[txA x.1 x.2,edA ne f]->r.1=[]∨In x r.1
theorem zL (n:Nat) (g:Nat->List UInt8) (ne:Nat) (f:EDG) (hn:n<=999999) (hne:ne<=1000000):aJ wd tk φL' UH [txA n g,edA ne f] []:=(Lj n g ne f hn hne).mono λx h y _ _ e=>by
 have e:txA n g=txA y.1 y.2:=(List.cons.inj e).1
 rw [<-show (n,g)=y from sN e];exact h
noncomputable abbrev Vk:Ent:=bc wd tk φL' UH
abbrev sgW:List UInt8:=[115,101,103,109,101,110,116,32]
abbrev flW:List UInt8:=[102,108,97,103,32]
abbrev xpW:List UInt8:=[101,120,112,101,114,105,109,101,110,116,32]
def Y1 (e:ENV) (n:Nat) (g:Nat->List UInt8) (i:Int):St:={env:=[(1,.ref 1 0),(5,txA n g),(6,.int .i64 i)],objs:=[(1,.cells e.c)]}
def Y2 (k:Nat) (e:ENV) (i:Int):St:={env:=[(1,.ref 1 0),(k,.int .i64 i)],objs:=[(1,.cells e.c)]}
def N0 (x:Nat) (en:List (Nat×AV)) (ob:List (Nat×AO)) (b:Bool×STE) (k:Ex->St->Res):Res:=cond b.1 (k .ret {env:=[(2,.str b.2.1),(3,.int .i64 b.2.2)],objs:=[]}) (k (.exit x) {env:=en,objs:=ob})
instance:Inhabited (Bool×STE):=⟨(false,default)⟩
def bP (b:Bool×STE):Prop:=b.1=true->b.2.2≠0
theorem bP.no:bP (false,default):=λh=>by cases h
theorem Lb {t:Int} (h:(t !=0)=true):t≠0:=by simpa using h
theorem I6 {a b:Nat} (h:a+b<=1000):Nat.ble (a+b) 4611686018427387904=true:=Nat.ble_eq_true_of_le (by omega)
def UJ (e:ENV) (_:List AV) (_:List AO) (r:STE):Prop:=r.2=0->iG e=0
noncomputable abbrev Sp (e:ENV) (n:Nat) (g:Nat->List UInt8):List Ent:=[eX9,eFE,eXE,bc wd bO SH.φE (rIs (iG e)),lD eO [dU e.segs] [] (n,g) SM.φX,Vp,Vk,bc wd jr SM.φX (rKs e.flags.length (FE e)),Vo]
theorem LI (e:ENV) (ok:e.Ok) (hs:e.segs.length<=1000):aJ wd eg SM.φV' (UJ e) [.agg e.c] []:=by
 obtain ⟨⟨n,g⟩,hk,hc⟩:=xF e.segs (by omega)
 have hn:n<=1000:=by have h1:n=e.segs.length:=hk.1;omega
 have hg:GoodE e->∀ {s:List UInt8},s=[]∨In (n,g) s->s.length<=32:=λhe s h=>by
  rcases h with h | ⟨j,hj,h⟩
  ·rw [h];decide
  ·have hj:j < n:=hj
   have h1:n=e.segs.length:=hk.1
   rw [<-h,show (n,g).2 j=C5 e.segs j from hk.2 j hj]
   exact (he.seg _ (cv (by omega))).2
 have hat:e.attrs.length<=1048576:=ok.attrs.1
 haveI t1:=iq (T:=[Vp,Vk,bc wd jr SM.φX (rKs e.flags.length (FE e)),Vo]) hc
 obtain ⟨u1,w1,h1,l1⟩:=aw (V:=V0) (T:=Sp e n g) (d:=1) (W:=[]) (f:=eg) (p:=PB) (Lf:=λL=>L) (Y1 e n g) (λi=>GoodE e/\ix e.segs.length i) (λi=>(e.segs.length - i).toNat) (N0 0 [(1,.ref 1 0),(5,txA n g)] [(1,.cells e.c)]) bP (by kernel_rfl)
  (λi hi=>.b (decide (i < (e.segs.length:Int))) (λh=>
    have he:=hi.1
    have hx:=ax hi.2 (by omega) (of_decide_eq_true h)
    have hm:e.segs.getD i.toNat default∈e.segs:=cv (by have:=of_decide_eq_true h;have:=hi.2.1;omega)
    have nx:(ix e.segs.length (IntKind.wrap .i64 (i+1))):=hx.1
    .n (bu hi.2 h) (.b ((e.segs.getD i.toNat default).when.op==0) (λ_=>.to (IntKind.wrap .i64 (i+1)) ⟨he,hx.1⟩ hx.2) λ_=>
     .n (bu hi.2 h) (.call (BX e.attrs hat n g (by omega) (he.seg _ hm).1.1 (ok.segs.2 _ hm).2.2.2.2) λt _=>.b (t !=0) (λht=>.n (bu hi.2 h) (.n (c:=Nat.ble (sgW.length+(e.segs.getD i.toNat default).key.length) 4611686018427387904) (I6 (by have:=(he.seg _ hm).2;show 8+_<=1000;omega))
      (.fi (true,sgW++(e.segs.getD i.toNat default).key,t) λ_=>Lb ht))) λ_=>.to (IntKind.wrap .i64 (i+1)) ⟨he,hx.1⟩ hx.2)))
   λ_=>.fi (false,default) bP.no) (λv L k kn=>by kernel_rfl)
 obtain ⟨u2,w2,h2,l2⟩:=aw (V:=V0) (T:=Sp e n g) (d:=1) (W:=[]) (f:=eg) (p:=[1,1,1,1,1,0,1,0]) (Lf:=λL=>L) (Y2 10 e) (λi=>GoodE e/\ix e.flags.length i) (λi=>(e.flags.length - i).toNat) (N0 2 [(1,.ref 1 0)] [(1,.cells e.c)]) bP (by kernel_rfl)
  (λi hi=>.b (decide (i < (e.flags.length:Int))) (λh=>
    have he:=hi.1
    have hx:=ax hi.2 (by have:=he.flags;omega) (of_decide_eq_true h)
    have hm:e.flags.getD i.toNat default∈e.flags:=cv (by have:=of_decide_eq_true h;have:=hi.2.1;omega)
    .n (bu hi.2 h) (.call (E7 e he _ (he.flag _ hm) (ok.flags.2 _ hm)) λt _=>.b (t !=0) (λht=>.n (bu hi.2 h) (.n (c:=Nat.ble (flW.length+(e.flags.getD i.toNat default).key.length) 4611686018427387904) (I6 (by have:=(he.flag _ hm).1;show 5+_<=1000;omega))
      (.fi (true,flW++(e.flags.getD i.toNat default).key,t) λ_=>Lb ht))) λ_=>.to (IntKind.wrap .i64 (i+1)) ⟨he,hx.1⟩ hx.2))
   λ_=>.fi (false,default) bP.no) (λv L k kn=>by kernel_rfl)
 obtain ⟨u3,w3,h3,l3⟩:=aw (V:=V0) (T:=Sp e n g) (d:=1) (W:=[]) (f:=eg) (p:=[1,1,1,1,1,1,1,0,1,0]) (Lf:=λL=>L) (λi:Nat=>Y2 14 e i) (λi=>GoodE e/\i<=e.expts.length) (λi=>e.expts.length - i) (N0 4 [] []) bP (by kernel_rfl)
  (λi hi=>.b (decide ((i:Int) < (e.expts.length:Int))) (λh=>
    have he:=hi.1
    have hlt:i < e.expts.length:=pN h
    have hm:e.expts.getD i default∈e.expts:=cv hlt
    .call (E9 e he i hlt) λt _=>.b (t !=0) (λht=>.n (dD hlt) (.n (c:=Nat.ble (xpW.length+(e.expts.getD i default).key.length) 4611686018427387904) (I6 (by have:=(he.expt _ hm).2;show 11+_<=1000;omega))
      (.fi (true,xpW++(e.expts.getD i default).key,t) λ_=>Lb ht))) λ_=>.go (Y2 14 e (IntKind.wrap .i64 ((i:Int)+1))) (i+1) ⟨he,hlt⟩ (by show e.expts.length - (i+1) < e.expts.length - i;omega) (by rw [bg (by have:=he.expts;omega)]))
   λ_=>.fi (false,default) bP.no) (λv L k kn=>by kernel_rfl)
 exact dy (V:=V0) (T:=Sp e n g) (d:=1) 0 (ah (l1 _) (ah (l2 _) (ah (l3 _) aE))) aB
  (.call (G9 e ok) λt q=>.b (t !=0) (λht=>.r ([],t) λh=>absurd h (Lb ht)) λht=>
   have hz:iG e=0:=by rw [<-show t=iG e from q];simpa using ht
   have he:=SM.Rx ok hz
   .n (fp [dU e.segs] []) (.lp (h1 0 ⟨he,ix0 _⟩) λt1 q1=>.b t1.1 (λh=>.r (t1.2.1,t1.2.2) λh'=>absurd h' (q1 h)) λ_=>
   .call (LJ e.segs hs λg hg=>SM.XOk.of (he.seg g hg).1) λed qd=>.call (zL n g ed.1 ed.2 (by omega) qd) λls ql=>.b ls.2 (λ_=>.n (c:=Nat.ble (sgW.length+ls.1.length) 4611686018427387904) (I6 (by have:=hg he (ql (n,g) ed.1 ed.2 rfl);show 8+_<=1000;omega)) (.r (sgW++ls.1,12) λh=>by cases h)) λ_=>
   .lp (h2 0 ⟨he,ix0 _⟩) λt2 q2=>.b t2.1 (λh=>.r (t2.2.1,t2.2.2) λh'=>absurd h' (q2 h)) λ_=>
   .call (Ly e (by have:=he.flags;omega)) λfk qk=>.call (La e he.flags λf hf=>by have:=(he.flag f hf).2.1;omega) λfn qn=>.call (zL fk.1 fk.2 fn.1 fn.2 (by have:=qk.1;have:=he.flags;omega) qn) λlf qf=>.b lf.2 (λ_=>.n (c:=Nat.ble (flW.length+lf.1.length) 4611686018427387904) (I6 (by
     have:lf.1.length<=32:=by
      rcases qf fk fn.1 fn.2 rfl with h | ⟨j,hj,h⟩
      ·rw [h];decide
      ·have h1:=qk.1
       rw [<-h,show fk.2 j=FE e j from qk.2 j hj]
       exact (he.flag _ (cv (by omega))).1
     show 5+_<=1000;omega)) (.r (flW++lf.1,12) λh=>by cases h)) λ_=>
   .lp (h3 0 ⟨he,Nat.zero_le _⟩) λt3 q3=>.b t3.1 (λh=>.r (t3.2.1,t3.2.2) λh'=>absurd h' (q3 h)) λ_=>.r ([],0) λ_=>hz)) (by kernel_rfl)
def rVa (e:ENV) (_:List AV) (_:List AO) (b:Bool):Prop:=b=true->iG e=0
theorem JD (e:ENV) (ok:e.Ok) (hs:e.segs.length<=1000):aJ wd oz φB (rVa e) [.agg e.c] []:=
 cW (V:=V0) [bc wd eg SM.φV' (UJ e)] 1 (.call (LI e ok hs) λt q=>.r (t.2==0) λh=>q (by simpa using h)) (by kernel_rfl)
open Go.SM (txA TX KOk)
open Go.SO (EH SmG SmT vcS)
noncomputable abbrev eEx:Ent:=bc wd fR φE (rEx 25)
noncomputable abbrev IA:Ent:=bc wd wk φKs NK
def RGr (cs:List AV):Prop:=∃x:SEG,(SmG 50 x/\x.key.length<=40)/\TellL cs x.c
theorem nR {l:List (List UInt8)} (h:l.length<=3/\∀s∈l,s.length<=8):SmT l 50:=⟨by omega,λs hs=>Nat.le_trans (h.2 s hs) (by decide)⟩
theorem DE.fit {b n:Nat} {e:EXP} (h:DE b e) (hn:20<=n:=by decide):Fit n e:=h.1.1.mono hn
theorem DS {b:Nat} (op:Int):Fit b (.mk op [] [] [] []):=.mk _ (Nat.zero_le _) (Nat.zero_le _) (Nat.zero_le _) (λv hv=>(List.not_mem_nil hv).elim) (Nat.zero_le _) (λk hk=>(List.not_mem_nil hk).elim)
theorem M7:TellL [.int .i64 0,.str [],.str [],nA,nA] [.int .i64 0,.str [],.str [],jP [],.sl .no 5 0 (EXP.row [])]:=.cons (.same rfl) (.cons (.same rfl) (.cons (.same rfl) (.cons aW (.cons aW .nil))))
theorem Mw {k kd:List UInt8} {a b:List (List UInt8)} {e:EXP} {n:Nat} (hk:k.length<=40) (hd:kd.length<=40) (ha:a.length<=3/\∀s∈a,s.length<=8) (hb:b.length<=3/\∀s∈b,s.length<=8) (he:DE n e) :
  RGr [.str k,.str kd,cr a,cr b,.int .i64 e.op,.str e.kind,.str e.name,jP e.vals,.sl .no 5 e.kids.length (EXP.row e.kids)]:=
 ⟨SEG.mk k kd a b e,⟨⟨by show k.length<=1000;omega,by show kd.length<=1000;omega,nR ha,nR hb,he.fit⟩,hk⟩,TellL.refl rfl⟩
theorem Mx {k kd:List UInt8} {a b:List (List UInt8)} (hk:k.length<=40) (hd:kd.length<=40) (ha:a.length<=3/\∀s∈a,s.length<=8) (hb:b.length<=3/\∀s∈b,s.length<=8) :
  RGr [.str k,.str kd,cr a,cr b,.int .i64 0,.str [],.str [],nA,nA]:=
 ⟨SEG.mk k kd a b (.mk 0 [] [] [] []),⟨⟨by show k.length<=1000;omega,by show kd.length<=1000;omega,nR ha,nR hb,DS 0⟩,hk⟩,.cons (.same rfl) (.cons (.same rfl) (.cons (.same rfl) (.cons (.same rfl) M7)))⟩
structure SGV where
 m:Nat
 n:Nat
 g:Nat->List AV
 C:CODES
 i:Int
structure SGA where
 h:EH
 n:Nat
 g:Nat->List AV
 C:CODES
instance:Inhabited SGA:=⟨⟨⟨[],[],0,0,λ_=>[]⟩,0,λ_=>[],default⟩⟩
def sgO (x:SGA):List AO:=[aZ x.C,.cells (vcS x.h (.sl (.key 1000002) 9 x.n x.g)),.own 9 x.n]
def φSg (x:SGA):AV×List AO:=(.tup [],sgO x)
def rSg (h:EH) (_:List AV) (_:List AO) (x:SGA):Prop:=(x.h=h/\x.n<=3/\∀j,j < x.n->RGr (x.g j))/\x.C.Ok
abbrev sgN (j:Nat):List UInt8:=SO.Sw (0+j)
theorem Gu (j:Nat):(sgN j).length<=40:=by
 unfold sgN SO.Sw
 cases Nat.beq 0 (0+j) <;> cases Nat.beq 1 (0+j) <;> cases Nat.beq 2 (0+j) <;> decide
def sgS (h:EH) (v:SGV):St:={env:=[(0,cR),(1,.ref 1000001 0),(4,txA v.m sgN),(5,.int .i64 v.i)],objs:=[(aa,aZ v.C),(1000001,.cells (vcS h (.sl (.key 1000002) 9 v.n v.g))),(1000002,.own 9 v.n)]}
def sgE (x:SGA) (k:Ex->St->Res):Res:=k (.exit 0) {env:=[],objs:=[(aa,aZ x.C),(1000001,.cells (vcS x.h (.sl (.key 1000002) 9 x.n x.g))),(1000002,.own 9 x.n)]}
def sgI (v:SGV):Prop:=((ix v.m v.i/\v.m<=3)/\(v.n:Int)=v.i)/\(∀j,j < v.n->RGr (v.g j))/\v.C.Ok
abbrev zS:List AV:=[.str [],.str [],nA,nA,.int .i64 0,.str [],.str [],nA,nA]
theorem J3 {h:EH} {v:SGV} {P:SGA->Prop} (hv:sgI v) (hi:v.i < (v.m:Int)) (x:List AV) {D:CODES} (hx:RGr x) (hD:D.Ok) :
  RT (sgS h) sgI (λv=>(v.m - v.i).toNat) sgE (λ_ o=>P o) v (λ(_:List (List Nat×Orc)) _ kn=>cond (roomy 168 (v.n+1)&&Nat.beq v.n v.n) (kn {env:=[(0,cR),(1,.ref 1000001 0),(4,txA v.m sgN),(5,.int .i64 (IntKind.wrap .i64 (v.i+1)))],objs:=[(aa,aZ D),(1000001,.cells (vcS h (.sl (.key 1000002) 9 (v.n+1) (af v.n 1 v.g (ae zS [(0,.agg x)]))))),(1000002,.own 9 (v.n+1))]}) none):=
 have hn:=hv.1.2
 have hm:=hv.1.1.2
 have h0:=hv.1.1.1.1
 .n (av (b:=168) (n:=v.n+1) (m:=v.n) (by omega)) (.go _ (SGV.mk v.m (v.n+1) (af v.n 1 v.g (ae zS [(0,.agg x)])) D (IntKind.wrap .i64 (v.i+1)))
  ⟨⟨⟨(ax hv.1.1.1 (by omega) hi).1,hm⟩,by show ((v.n+1:Nat):Int)=IntKind.wrap .i64 (v.i+1);rw [wrap_i64 (by omega) (by omega)];omega⟩,cC (P:=RGr) hv.2.1 hx,hD⟩ (ax hv.1.1.1 (by omega) hi).2 rfl)
abbrev MH:List UInt8:=[100,101,118,105,99,101]
theorem Nr (h:EH) (g0:Nat->List AV) {C:CODES} (hC:C.Ok):aJ wd mR φSg (rSg h) [cR,.ref 1000001 0] [aZ C,.cells (vcS h (.sl (.key 1000002) 9 0 g0)),.own 9 0]:=by
 obtain ⟨u,w,hu,hl⟩:=aw (V:=V0) (T:=[IA,me,eEx]) (d:=2) (W:=[]) (f:=mR) (p:=[1,1,0]) (Lf:=λL=>L) (sgS h) sgI (λv=>(v.m - v.i).toNat) sgE (λx=>(x.h=h/\x.n<=3/\∀j,j < x.n->RGr (x.g j))/\x.C.Ok) (by kernel_rfl)
  (λv hv=>.b (decide (v.i < (v.m:Int))) (λhd=>
    have hi:=of_decide_eq_true hd
    have hk:=Gu v.i.toNat
    have h0:=hv.1.1.1.1
    have sl:(decide ((0:Int)<=((0:Nat):Int))&&(decide (((0:Nat):Int)<=v.i)&&decide (v.i<=(v.m:Int))))=true:=slT (Int.le_refl _) h0 (by omega)
    have ex:∀ {D:CODES},D.Ok->aJ wd fR φE (rEx 25) [cR,txV (v.i.toNat - Int.toNat ((0:Nat):Int)) (λj=>sgN (Int.toNat ((0:Nat):Int)+j)),.int .i64 3] [aZ D]:=λhD=>pY 3 (.inr rfl) _ _ ⟨by have:=hv.1.1.2;show v.i.toNat - 0<=7;omega,λj _=>Gu _⟩ hD
    .n (bu hv.1.1.1 hd) (.call (tJ hv.2.2) λa qa=>.call (tJ qa.2) λb qb=>.call (aq qb.2 4 (by decide)) λt qt=>
     .b (t.1==1)
      (λ_=>.call (aq qt.2 3 (by decide)) λs qs=>.b (decide (s.1 > 0))
       (λ_=>.n sl (.call (ex qs.2) λe qe=>J3 hv hi [.str (sgN v.i.toNat),.str MH,cr a.1,cr b.1,.int .i64 e.1.op,.str e.1.kind,.str e.1.name,jP e.1.vals,.sl .no 5 e.1.kids.length (EXP.row e.1.kids)] (Mw hk (by decide) qa.1 qb.1 qe.1) qe.2))
       λ_=>J3 hv hi [.str (sgN v.i.toNat),.str MH,cr a.1,cr b.1,.int .i64 0,.str [],.str [],nA,nA] (Mx hk (by decide) qa.1 qb.1) qs.2)
      λ_=>.call (aq qt.2 3 (by decide)) λs qs=>.b (decide (s.1 > 0))
       (λ_=>.n sl (.call (ex qs.2) λe qe=>J3 hv hi [.str (sgN v.i.toNat),.str rq,cr a.1,cr b.1,.int .i64 e.1.op,.str e.1.kind,.str e.1.name,jP e.1.vals,.sl .no 5 e.1.kids.length (EXP.row e.1.kids)] (Mw hk (by decide) qa.1 qb.1 qe.1) qe.2))
       λ_=>J3 hv hi [.str (sgN v.i.toNat),.str rq,cr a.1,cr b.1,.int .i64 0,.str [],.str [],nA,nA] (Mx hk (by decide) qa.1 qb.1) qs.2))
   λ_=>.fi (SGA.mk h v.n v.g v.C) ⟨⟨rfl,by have:=hv.1.2;have:=hv.1.1.1.2;have:=hv.1.1.2;show v.n<=3;omega,hv.2.1⟩,hv.2.2⟩) (λv L k kn=>by kernel_rfl)
 have e:(λj=>ae [.str []] [(0,.str [97,108,112,104,97]),(1,.str [98,101,116,97]),(2,.str [103,97,109,109,97])] (Int.toNat ((0:Nat):Int)+j))=TX sgN:=funext λj=>SO.Gz _
 exact gC (V:=V0) [IA,me,eEx] 2 hl (.call (aq hC 4 (by decide)) λt q=>
  have hq:0<=t.1/\t.1 < 4:=q.1
  have hs:cn u w {env:=[(0,cR),(1,.ref 1000001 0),(4,.sl .no 1 (Int.toNat t.1 - Int.toNat ((0:Nat):Int)) λj=>ae [.str []] [(0,.str [97,108,112,104,97]),(1,.str [98,101,116,97]),(2,.str [103,97,109,109,97])] (Int.toNat ((0:Nat):Int)+j)),(5,.int .i64 0)],objs:=[(aa,aZ t.2),(1000001,.cells (vcS h (.sl (.key 1000002) 9 0 g0))),(1000002,.own 9 0)]} (λx=>(x.h=h/\x.n<=3/\∀j,j < x.n->RGr (x.g j))/\x.C.Ok):=by
   rw [e];exact hu (SGV.mk (t.1.toNat - 0) 0 g0 t.2 0) ⟨⟨⟨ix0 _,by show t.1.toNat - 0<=3;omega⟩,rfl⟩,λj hj=>absurd hj (Nat.not_lt_zero _),q.2⟩
  .n (c:=decide ((0:Int)<=((0:Nat):Int))&&(decide (((0:Nat):Int)<=t.1)&&decide (t.1<=((3:Nat):Int)))) (slT (Int.le_refl _) hq.1 (by omega)) (.lp hs λx qx=>.r x qx)) (by kernel_rfl)
open Go.SO (LH lyC zl SmL)
theorem oa:∀s∈vo,s.length<=40:=by decide
structure LYV where
 h:LH
 n:Nat
 g:Nat->List AV
 C:CODES
 a:Int
 i:Int
instance:Inhabited LYV:=⟨⟨⟨[],[],[],0,0⟩,0,λ_=>[],default,0,0⟩⟩
def lyS (v:LYV):St:={env:=[(0,cR),(4,.ref 4 0),(5,.ref 5 0),(6,.int .i64 v.a),(7,.int .i64 v.i)],objs:=[(4,.cells zl),(5,.cells (lyC v.h (.sl (.key 52) 3 v.n v.g))),(52,.own 3 v.n),(aa,aZ v.C)]}
def lyO (v:LYV) (k:Ex->St->Res):Res:=k (.exit 0) {env:=[(4,.ref 4 0),(5,.ref 5 0)],objs:=[(4,.cells zl),(5,.cells (lyC v.h (.sl (.key 52) 3 v.n v.g))),(52,.own 3 v.n),(aa,aZ v.C)]}
def lyH (h:LH):Prop:=h.key.length<=40/\h.kind.length<=40/\h.salt.length<=40
def lyP (v:LYV):Prop:=(lyH v.h/\v.n<=3/\∀j,j < v.n->rRg (v.g j))/\v.C.Ok
def φLy (x:LAYER×CODES):AV×List AO:=(.agg x.1.c,[aZ x.2])
instance:Inhabited (LAYER×CODES):=⟨(default,default)⟩
def rLy (_:List AV) (_:List AO) (x:LAYER×CODES):Prop:=SmL 10 x.1/\x.2.Ok
theorem Ll (s:List UInt8) (hs:s.length<=40) {C:CODES} (hC:C.Ok):aJ wd Cb φLy rLy [cR,.str s] [aZ C]:=by
 obtain ⟨u,w,hu,hl⟩:=aw (V:=V0) (T:=[me,B0,B1]) (d:=1) (W:=[]) (f:=Cb) (p:=[1,1,1,1,1,0,1,0]) (Lf:=λL=>L) lyS (λv=>lyP v/\(v.n:Int)=v.i) (λv=>4 - v.n) lyO lyP (by kernel_rfl)
  (λv hv=>.call (aq hv.1.2 3 (by decide)) λt q=>.b (decide (v.i < t.1)) (λh=>
    have hn:=hv.2
    have hi:v.i < 3:=by have h:=of_decide_eq_true h;have q1:0<=t.1/\t.1 < 3:=q.1;omega
    .call (iR q.2 3000 (by decide)) λa qa=>.call (iR qa.2 2000 (by decide)) λb qb=>
    .b (decide (IntKind.wrap .i64 (IntKind.wrap .i64 (IntKind.wrap .i64 (v.a+a.1)+1)+b.1) > 10000)) (λ_=>.fi (LYV.mk v.h v.n v.g b.2 0 0) ⟨hv.1.1,qb.2⟩)
     λ_=>.call (aq qb.2 200 (by decide)) λc qc=>.n (av (b:=24) (n:=v.n+1) (m:=v.n) (by omega))
      (.to (LYV.mk v.h (v.n+1) (af v.n 1 v.g (ae z3 [(0,.agg [.int .i64 (IntKind.wrap .i64 (v.a+a.1)),.int .i64 (IntKind.wrap .i64 (IntKind.wrap .i64 (IntKind.wrap .i64 (v.a+a.1)+1)+b.1)),.int .i64 c.1])])) c.2 (IntKind.wrap .i64 (IntKind.wrap .i64 (IntKind.wrap .i64 (v.a+a.1)+1)+b.1)) (IntKind.wrap .i64 (v.i+1)))
       ⟨⟨⟨hv.1.1.1,by show v.n+1<=3;omega,cC (P:=rRg) hv.1.1.2.2 ⟨(_,_,_),trivial,TellL.refl rfl⟩⟩,qc.2⟩,by show ((v.n+1:Nat):Int)=IntKind.wrap .i64 (v.i+1);rw [wrap_i64 (by omega) (by omega)];omega⟩ (by show 4 - (v.n+1) < 4 - v.n;omega)))
   λ_=>.fi (LYV.mk v.h v.n v.g t.2 0 0) ⟨hv.1.1,q.2⟩) (λv L k kn=>by kernel_rfl)
 have fin:∀ (kd sa:List UInt8) (ho co:Int) {D:CODES},kd.length<=40->sa∈vo->D.Ok->Run (rLy [cR,.str s] [aZ C]) φLy (cond (u (lyS (LYV.mk (LH.mk s kd sa ho co) 0 (λ_=>z3) D 0 0))) (some (.agg [.str (w (lyS (LYV.mk (LH.mk s kd sa ho co) 0 (λ_=>z3) D 0 0))).h.key,.str (w (lyS (LYV.mk (LH.mk s kd sa ho co) 0 (λ_=>z3) D 0 0))).h.kind,.str (w (lyS (LYV.mk (LH.mk s kd sa ho co) 0 (λ_=>z3) D 0 0))).h.salt,.int .i64 (w (lyS (LYV.mk (LH.mk s kd sa ho co) 0 (λ_=>z3) D 0 0))).h.hold,.int .i64 (w (lyS (LYV.mk (LH.mk s kd sa ho co) 0 (λ_=>z3) D 0 0))).h.cool,.sl .no 3 (w (lyS (LYV.mk (LH.mk s kd sa ho co) 0 (λ_=>z3) D 0 0))).n (w (lyS (LYV.mk (LH.mk s kd sa ho co) 0 (λ_=>z3) D 0 0))).g],[aZ (w (lyS (LYV.mk (LH.mk s kd sa ho co) 0 (λ_=>z3) D 0 0))).C])) none):=
  λkd sa ho co D hk ha hD=>.lp (T:=λx=>some (.agg [.str x.h.key,.str x.h.kind,.str x.h.salt,.int .i64 x.h.hold,.int .i64 x.h.cool,.sl .no 3 x.n x.g],[aZ x.C])) (hu (LYV.mk (LH.mk s kd sa ho co) 0 (λ_=>z3) D 0 0) ⟨⟨⟨⟨hs,hk,oa _ ha⟩,by show 0<=3;omega,λj hj=>absurd hj (Nat.not_lt_zero _)⟩,hD⟩,rfl⟩) λx q=>by
   obtain ⟨l,h1,h2⟩:=G5 q.1.2.2
   have hh:=q.1.1
   exact .t (LAYER.mk x.h.key x.h.kind x.h.salt x.h.hold x.h.cool l,x.C) ⟨⟨⟨Nat.le_trans hh.1 (by decide),Nat.le_trans hh.2.1 (by decide),Nat.le_trans hh.2.2 (by decide)⟩,by have:=q.1.2.1;show l.length<=10;omega⟩,q.2⟩ (.agg (.cons (.same rfl) (.cons (.same rfl) (.cons (.same rfl) (.cons (.same rfl) (.cons (.same rfl) (.cons (h2 .no) .nil)))))))
 exact gC (V:=V0) [me,B0,B1] 1 hl (.call (nC hC) λa qa=>.call (aq qa.2 3 (by decide)) λb qb=>.call (aq qb.2 4 (by decide)) λc qc=>.b (c.1==1)
  (λ_=>.call (aq qc.2 2 (by decide)) λd qd=>.b (d.1==1) (λ_=>.call (iR qd.2 3000 (by decide)) λe qe=>fin MH a.1 e.1 (IntKind.wrap .i64 (b.1*50)) (by decide) qa.1 qe.2) λ_=>fin MH a.1 0 (IntKind.wrap .i64 (b.1*50)) (by decide) qa.1 qd.2)
  λ_=>.call (aq qc.2 2 (by decide)) λd qd=>.b (d.1==1) (λ_=>.call (iR qd.2 3000 (by decide)) λe qe=>fin rq a.1 e.1 (IntKind.wrap .i64 (b.1*50)) (by decide) qa.1 qe.2) λ_=>fin rq a.1 0 (IntKind.wrap .i64 (b.1*50)) (by decide) qa.1 qd.2) (by kernel_rfl)
noncomputable abbrev eLy:Ent:=bc wd Cb φLy rLy
open Go.SM (ENV TX txA)
open Go.SO (FH flC zf vN)
structure FL where
 h:FH
 off:Int
 a:RW
 b:RW
 c:RW
 d:RW
 C:CODES
 n:Int
 i:Int
 cut:Bool
 m:Nat
instance:Inhabited FL:=⟨⟨⟨[],0,false⟩,0,default,default,default,default,default,0,0,false,0⟩⟩
def kA (k sz:Nat) (r:RW):AV:=.sl (.key k) sz r.n r.g
def flB (e:ENV) (v:FL) (off:Int) (a b c d:AV) (own:List (Nat×AO)):List (Nat×AO):=(4,.cells e.c)::(6,.cells zf)::(7,.cells (flC v.h off a b c d))::(own++[(aa,aZ v.C)])
def flN (v:FL):List (Nat×AV):=[(0,cR),(4,.ref 4 0),(6,.ref 6 0),(7,.ref 7 0),(8,.int .i64 v.n)]
def fl1 (e:ENV) (v:FL):List (Nat×AO):=flB e v 0 (kA 42 4 v.a) nA nA nA [(42,.own 4 v.a.n)]
def fl2 (e:ENV) (v:FL):List (Nat×AO):=flB e v v.off (kA 42 4 v.a) (kA 79 2 v.b) nA nA [(42,.own 4 v.a.n),(79,.own 2 v.b.n)]
def fl3 (e:ENV) (v:FL):List (Nat×AO):=flB e v v.off (kA 42 4 v.a) (kA 79 2 v.b) (kA 106 3 v.c) nA [(42,.own 4 v.a.n),(79,.own 2 v.b.n),(106,.own 3 v.c.n)]
def fl4 (e:ENV) (v:FL):List (Nat×AO):=flB e v v.off (kA 42 4 v.a) (kA 79 2 v.b) (kA 106 3 v.c) (kA 131 11 v.d) [(42,.own 4 v.a.n),(79,.own 2 v.b.n),(106,.own 3 v.c.n),(131,.own 11 v.d.n)]
def FS1 (e:ENV) (v:FL):St:={env:=flN v++[(9,.int .i64 v.i)],objs:=fl1 e v}
def FS2 (e:ENV) (v:FL):St:={env:=flN v++[(10,.int .i64 v.i)],objs:=fl2 e v}
def FS3 (e:ENV) (v:FL):St:={env:=flN v++[(11,.int .i64 v.i)],objs:=fl3 e v}
def FS4 (e:ENV) (v:FL):St:={env:=flN v++[(13,.sl .fit 1 4 (TX vN)),(14,.int .i64 v.i)],objs:=fl4 e v}
def FO1 (e:ENV) (v:FL) (k:Ex->St->Res):Res:=k (.exit 0) {env:=flN v,objs:=fl1 e v}
def FO2 (e:ENV) (v:FL) (k:Ex->St->Res):Res:=k (.exit 2) {env:=flN v,objs:=fl2 e v}
def FO3 (e:ENV) (v:FL) (k:Ex->St->Res):Res:=k (.exit 4) {env:=flN v,objs:=fl3 e v}
def flR (v:FL) (d:AV):St:={env:=[(0,cR),(6,.ref 6 0),(7,.ref 7 0),(8,.int .i64 v.n)],objs:=[(6,.cells zf),(7,.cells (flC v.h v.off (kA 42 4 v.a) (kA 79 2 v.b) (kA 106 3 v.c) d)),(42,.own 4 v.a.n),(79,.own 2 v.b.n),(106,.own 3 v.c.n),(131,.own 11 v.d.n),(aa,aZ v.C)]}
def FO4 (v:FL) (k:Ex->St->Res):Res:=cond v.cut (k (.exit 6) (flR v (.sl .no 11 v.m v.d.g))) (k (.exit 6) (flR v (kA 131 11 v.d)))
noncomputable abbrev Uh:Ent:=bc wd II φSv rSv
open Go.SM (ENV TX txA KOk rlP whens)
open Go.SO (FH flC zf vN SmF SmT)
def PRw (cs:List AV):Prop:=∃p:PRQ,p.flag.length<=1000/\TellL cs p.c
def TRw (cs:List AV):Prop:=∃t:TGT,(t.kind.length<=1000/\SmT t.keys 50)/\TellL cs t.c
def RRw (cs:List AV):Prop:=∃r:RULE,(r.name.length<=1000/\DE 25 r.when/\SmV r.serve)/\TellL cs r.c
structure FA (v:FL):Prop where
 key:v.h.key.length<=40
 kind:1<=v.h.kind/\v.h.kind<=5
 n:1<=v.n/\v.n<=4
 C:v.C.Ok
def F1P (v:FL):Prop:=FA v/\(1<=v.a.n/\v.a.n<=4)/\∀j,j < v.a.n->rVl (v.a.g j)
def F2P (v:FL):Prop:=F1P v/\v.b.n<=40/\∀j,j < v.b.n->PRw (v.b.g j)
def F3P (v:FL):Prop:=F2P v/\v.c.n<=3/\∀j,j < v.c.n->TRw (v.c.g j)
def F4Q (v:FL):Prop:=F3P v/\(v.m<=5/\∀j,j < v.m->RRw (v.d.g j))/\(v.cut=false->v.m=v.d.n)
structure PreF (e:ENV):Prop where
 segs:e.segs.length<=7/\∀g∈e.segs,g.key.length<=40
 flags:e.flags.length<=40/\∀f∈e.flags,(1<=f.vars.length/\f.vars.length<=1000)/\f.key.length<=1000
theorem wK {τ:Type} {f:FuncId} {φ:τ->AV×List AO} {P:τ->Prop} {x y:AV} (h:∀c v,Rep c x v->Rep c y v) (hk:ak [y]=[]) (hd:aJ wd f φ (λ_ _=>P) [y] []):aJ wd f φ (λ_ _=>P) [x] []:=by
 obtain ⟨r,hr,hc⟩:=hd
 refine ⟨r,hr,Ct.args hc rfl hk λi u u' hu hu' c v hv=>?_⟩
 match i,hu,hu' with
 | 0,hu,hu'=>
  simp only [List.getElem?_cons_zero,Option.some.injEq] at hu hu'
  subst hu hu'
  exact h c v hv
 | i+1,hu,_=>simp at hu
theorem FX {n:Nat} {g:Nat->List AV} (hn:n<=10) (h:∀j,j < n->RRw (g j)):aJ wd dr SM.φQ' jA [.sl .no 11 n g] []:=by
 obtain ⟨l,h1,h2,h3⟩:=cw (R:=RULE.c) h
 refine wK (P:=λ_=>True) (h3 .no 11 λ_=>⟨rfl,rfl⟩).2 rfl (vm (l:=l) ⟨λr hr=>(h2 r hr).2.1.fit (n:=20).ok (by decide),?_,by omega⟩ λr hr=>(h2 r hr).2.1.1.2)
 have:=SM.L5 λr hr=>Nat.le_trans (h2 r hr).2.1.2 (by decide)
 omega
abbrev zV:List AV:=z4
noncomputable abbrev tF (e:ENV):List Ent:=[me,MD,IA,bc wd cJ SM.φX (rKs e.segs.length (C5 e.segs)),eEx,Uh,Pz]
theorem Uc (e:ENV):∃ (u:St->Bool) (w:St->FL),(∀v,(FA v/\(v.a.n:Int)=v.i/\v.i<=v.n)/\(∀j,j < v.a.n->rVl (v.a.g j))->cn u w (FS1 e v) F1P)/\∀L:List (List Nat×Orc),bH (V0.run (tF e) 1 [] L [] ep) ep [1,1,1,0,1,0] (mkO u w (FO1 e)):=
 aw (Lf:=λL=>L) (FS1 e) (λv=>(FA v/\(v.a.n:Int)=v.i/\v.i<=v.n)/\∀j,j < v.a.n->rVl (v.a.g j)) (λv=>(v.n - v.i).toNat) (FO1 e) F1P (by kernel_rfl)
  (λv hv=>.b (decide (v.i < v.n)) (λh=>
    have h:=of_decide_eq_true h
    have hn:=hv.1.2.1
    have h4:=hv.1.1.n
    have hw:IntKind.wrap .i64 (v.i+1)=v.i+1:=wrap_i64 (by omega) (by omega)
    .call (rO hv.1.1.C v.h.kind hv.1.1.kind) λt q=>.n (av (b:=56) (n:=v.a.n+1) (m:=v.a.n) (by omega))
     (.to {v with a:=⟨v.a.n+1,af v.a.n 1 v.a.g (ae zV [(0,.agg t.1.c)])⟩,C:=t.2,i:=IntKind.wrap .i64 (v.i+1)} ⟨⟨⟨hv.1.1.key,hv.1.1.kind,hv.1.1.n,q.2⟩,by show ((v.a.n+1:Nat):Int)=IntKind.wrap .i64 (v.i+1);rw [hw];omega,by show IntKind.wrap .i64 (v.i+1)<=v.n;rw [hw];omega⟩,cC (P:=rVl) hv.2 (FN q.1.1)⟩ (by show (v.n - IntKind.wrap .i64 (v.i+1)).toNat < (v.n - v.i).toNat;rw [hw];omega)))
   λh=>.fi v ⟨hv.1.1,by have:=of_decide_eq_false h;have:=hv.1.2;have:=hv.1.1.n;omega,hv.2⟩) (λv L k kn=>by kernel_rfl)
theorem Ub (e:ENV) (he:PreF e):∃ (u:St->Bool) (w:St->FL),(∀v,(F1P v/\ix e.flags.length v.i)/\(v.b.n:Int)<=v.i/\(∀j,j < v.b.n->PRw (v.b.g j))->cn u w (FS2 e v) F2P)/\∀L:List (List Nat×Orc),bH (V0.run (tF e) 1 [] L [] ep) ep [1,1,1,1,1,0,1,0] (mkO u w (FO2 e)):=
 aw (Lf:=λL=>L) (FS2 e) (λv=>(F1P v/\ix e.flags.length v.i)/\(v.b.n:Int)<=v.i/\∀j,j < v.b.n->PRw (v.b.g j)) (λv=>(e.flags.length - v.i).toNat) (FO2 e) F2P (by kernel_rfl)
  (λv hv=>.b (decide (v.i < (e.flags.length:Int))) (λh=>
    have hx:=ax hv.1.2 (by have:=he.flags.1;omega) (of_decide_eq_true h)
    have h0:=hv.1.2.1
    have h4:=he.flags.1
    have h5:=of_decide_eq_true h
    have hb:=hv.2.1
    have hw:IntKind.wrap .i64 (v.i+1)=v.i+1:=wrap_i64 (by omega) (by omega)
    have hf:=he.flags.2 (e.flags.getD v.i.toNat default) (cv (by omega))
    .call (aq hv.1.1.1.C 4 (by decide)) λt q=>.b (t.1==1) (λ_=>.n (bu hv.1.2 h) (.n (bu hv.1.2 h) (.call (aq q.2 ((e.flags.getD v.i.toNat default).vars.length:Int) (by have:=hf.1;omega)) λs p=>
      .n (av (b:=24) (n:=v.b.n+1) (m:=v.b.n) (by omega)) (.to {v with b:=⟨v.b.n+1,af v.b.n 1 v.b.g (ae [.str [],.int .i64 0] [(0,.agg [.str (FE e v.i.toNat),.int .i64 (IntKind.wrap .i64 (1+s.1))])])⟩,C:=s.2,i:=IntKind.wrap .i64 (v.i+1)}
       ⟨⟨⟨⟨hv.1.1.1.key,hv.1.1.1.kind,hv.1.1.1.n,p.2⟩,hv.1.1.2⟩,hx.1⟩,by show ((v.b.n+1:Nat):Int)<=IntKind.wrap .i64 (v.i+1);rw [hw];omega,cC (P:=PRw) hv.2.2 ⟨PRQ.mk (FE e v.i.toNat) _,hf.2,TellL.refl rfl⟩⟩ hx.2))))
     λ_=>.to {v with C:=t.2,i:=IntKind.wrap .i64 (v.i+1)} ⟨⟨⟨⟨hv.1.1.1.key,hv.1.1.1.kind,hv.1.1.1.n,q.2⟩,hv.1.1.2⟩,hx.1⟩,by show (v.b.n:Int)<=IntKind.wrap .i64 (v.i+1);rw [hw];omega,hv.2.2⟩ hx.2)
   λh=>.fi v ⟨hv.1.1,by have:=hv.2.1;have:=hv.1.2.2;have:=he.flags.1;omega,hv.2.2⟩) (λv L k kn=>by kernel_rfl)
theorem Ua (e:ENV):∃ (u:St->Bool) (w:St->FL),(∀v,(F2P v/\0<=v.i)/\(v.c.n:Int)<=v.i/\v.i<=3/\(∀j,j < v.c.n->TRw (v.c.g j))->cn u w (FS3 e v) F3P)/\∀L:List (List Nat×Orc),bH (V0.run (tF e) 1 [] L [] ep) ep [1,1,1,1,1,1,0,1,0] (mkO u w (FO3 e)):=
 aw (Lf:=λL=>L) (FS3 e) (λv=>(F2P v/\0<=v.i)/\(v.c.n:Int)<=v.i/\v.i<=3/\∀j,j < v.c.n->TRw (v.c.g j)) (λv=>(4 - v.i).toNat) (FO3 e) F3P (by kernel_rfl)
  (λv hv=>
   have hA:=hv.1.1.1.1
   .call (aq hA.C 3 (by decide)) λt q=>.b (decide (v.i < t.1)) (λh=>
    have h3:v.i < 3:=by have h:=of_decide_eq_true h;have q1:0<=t.1/\t.1 < 3:=q.1;omega
    have h0:=hv.1.2
    have hc:=hv.2.1
    have hw:IntKind.wrap .i64 (v.i+1)=v.i+1:=wrap_i64 (by omega) (by omega)
    have ok:∀ {c:RW} {D:CODES} {i:Int},D.Ok->F2P {v with c:=c,C:=D,i:=i}:=λhD=>⟨⟨⟨hA.key,hA.kind,hA.n,hD⟩,hv.1.1.1.2⟩,hv.1.1.2⟩
    have more:∀ {D:CODES} (x:List AV),D.Ok->TRw x->((F2P {v with c:=⟨v.c.n+1,af v.c.n 1 v.c.g (ae [.str [],.int .i64 0,nA] [(0,.agg x)])⟩,C:=D,i:=IntKind.wrap .i64 (v.i+1)}/\0<=IntKind.wrap .i64 (v.i+1))/\((v.c.n+1:Nat):Int)<=IntKind.wrap .i64 (v.i+1)/\IntKind.wrap .i64 (v.i+1)<=3/\∀j,j < v.c.n+1->TRw (af v.c.n 1 v.c.g (ae [.str [],.int .i64 0,nA] [(0,.agg x)]) j)):=λx hD hx=>⟨⟨ok hD,by rw [hw];omega⟩,by rw [hw];omega,by rw [hw];omega,cC (P:=TRw) hv.2.2.2 hx⟩
    have same:∀ {D:CODES},D.Ok->((F2P {v with C:=D,i:=IntKind.wrap .i64 (v.i+1)}/\0<=IntKind.wrap .i64 (v.i+1))/\(v.c.n:Int)<=IntKind.wrap .i64 (v.i+1)/\IntKind.wrap .i64 (v.i+1)<=3/\∀j,j < v.c.n->TRw (v.c.g j)):=λhD=>⟨⟨ok hD,by rw [hw];omega⟩,by rw [hw];omega,by rw [hw];omega,hv.2.2.2⟩
    have mu:(4 - IntKind.wrap .i64 (v.i+1)).toNat < (4 - v.i).toNat:=by rw [hw];omega
    .call (aq q.2 v.n (by have:=hA.n;omega)) λa qa=>.call (tJ qa.2) λb qb=>.call (aq qb.2 4 (by decide)) λc qc=>
    have tr:∀ (kd:List UInt8),kd.length<=40->TRw [.str kd,.int .i64 (IntKind.wrap .i64 (1+a.1)),cr b.1]:=λkd hk=>⟨TGT.mk kd _ b.1,⟨Nat.le_trans hk (by decide),nR qb.1⟩,TellL.refl rfl⟩
    .b (c.1==1)
     (λ_=>.b (decide ((b.1.length:Int) > 0)) (λ_=>.n (av (b:=48) (n:=v.c.n+1) (m:=v.c.n) (by omega)) (.to {v with c:=⟨v.c.n+1,af v.c.n 1 v.c.g (ae [.str [],.int .i64 0,nA] [(0,.agg [.str MH,.int .i64 (IntKind.wrap .i64 (1+a.1)),cr b.1])])⟩,C:=c.2,i:=IntKind.wrap .i64 (v.i+1)} (more _ qc.2 (tr MH (by decide))) mu))
      λ_=>.to {v with C:=c.2,i:=IntKind.wrap .i64 (v.i+1)} (same qc.2) mu)
     λ_=>.b (decide ((b.1.length:Int) > 0)) (λ_=>.n (av (b:=48) (n:=v.c.n+1) (m:=v.c.n) (by omega)) (.to {v with c:=⟨v.c.n+1,af v.c.n 1 v.c.g (ae [.str [],.int .i64 0,nA] [(0,.agg [.str rq,.int .i64 (IntKind.wrap .i64 (1+a.1)),cr b.1])])⟩,C:=c.2,i:=IntKind.wrap .i64 (v.i+1)} (more _ qc.2 (tr rq (by decide))) mu))
      λ_=>.to {v with C:=c.2,i:=IntKind.wrap .i64 (v.i+1)} (same qc.2) mu)
   λ_=>.fi {v with C:=t.2} ⟨⟨⟨⟨hA.key,hA.kind,hA.n,q.2⟩,hv.1.1.1.2⟩,hv.1.1.2⟩,by have:=hv.2;show v.c.n<=3;omega,hv.2.2.2⟩) (λv L k kn=>by kernel_rfl)
open Go.SM (ENV TX txA KOk)
abbrev zR:List AV:=[.str [],.int .i64 0,.str [],.str [],nA,nA,.int .i64 0,.str [],.str [],.str [],nA]
abbrev ruC (s:List UInt8) (e:EXP) (v:SERVE):List AV:=[.str s,.int .i64 e.op,.str e.kind,.str e.name,jP e.vals,.sl .no 5 e.kids.length (EXP.row e.kids),.int .i64 v.var,.str v.kind,.str v.by',.str v.salt,ou v.split]
theorem T0 (e:ENV) (he:PreF e):∃ (u:St->Bool) (w:St->FL),(∀v,(F3P v/\0<=v.i)/\(v.d.n:Int)<=v.i/\v.i<=4/\v.cut=false/\(∀j,j < v.d.n->RRw (v.d.g j))->cn u w (FS4 e v) F4Q)/\∀L:List (List Nat×Orc),bH (V0.run (tF e) 1 [] L [] ep) ep [1,1,1,1,1,1,1,1,0,1,0] (mkO u w FO4):=
 aw (Lf:=λL=>L) (FS4 e) (λv=>(F3P v/\0<=v.i)/\(v.d.n:Int)<=v.i/\v.i<=4/\v.cut=false/\∀j,j < v.d.n->RRw (v.d.g j)) (λv=>(5 - v.i).toNat) FO4 F4Q (by kernel_rfl)
  (λv hv=>
   have hA:=hv.1.1.1.1.1
   have ok:∀ {d:RW} {D:CODES} {i:Int} {c:Bool} {m:Nat},D.Ok->F3P {v with d:=d,C:=D,i:=i,cut:=c,m:=m}:=λhD=>⟨⟨⟨⟨hA.key,hA.kind,hA.n,hD⟩,hv.1.1.1.1.2⟩,hv.1.1.1.2⟩,hv.1.1.2⟩
   have hd:=hv.2.1
   have h0:=hv.1.2
   have h5:=hv.2.2.1
   .call (aq hA.C 5 (by decide)) λt q=>.b (decide (v.i < t.1)) (λh=>
    have h4:v.i < 4:=by have h:=of_decide_eq_true h;have q1:0<=t.1/\t.1 < 5:=q.1;omega
    have hw:IntKind.wrap .i64 (v.i+1)=v.i+1:=wrap_i64 (by omega) (by omega)
    .n (c:=within v.i 4) (aA h0 h4) (.call (C0 e (by have:=he.segs.1;omega)) λks qk=>
    have hk:ks.1<=7/\∀j,j < ks.1->(ks.2 j).length<=40:=⟨by have:=qk.1;have:=he.segs.1;omega,λj hj=>by rw [qk.2 j hj];exact he.segs.2 _ (cv (by have:=qk.1;omega))⟩
    .call (pY 3 (.inr rfl) ks.1 ks.2 hk q.2) λx qx=>.call (oj qx.2 v.n (by have:=hA.n;omega)) λs qs=>
    have hr:=cC (P:=RRw) (h:=ae zR [(0,.agg (ruC (vN v.i.toNat) x.1 s.1))]) hv.2.2.2.2 ⟨RULE.mk (vN v.i.toNat) x.1 s.1,⟨SO.vM _,qx.1,qs.1⟩,TellL.refl rfl⟩
    .n (av (b:=184) (n:=v.d.n+1) (m:=v.d.n) (by omega)) (.call (FX (n:=v.d.n+1) (g:=af v.d.n 1 v.d.g (ae zR [(0,.agg (ruC (vN v.i.toNat) x.1 s.1))])) (by omega) hr) λz _=>
    have w1:IntKind.wrap .i64 (((v.d.n+1:Nat):Int) - 1)=((v.d.n:Nat):Int):=by rw [wrap_i64 (by omega) (by omega)];omega
    .b (bif !z.ok then true else decide ((z.n:Int) > 0))
     (λ_=>.n (c:=decide ((0:Int)<=((0:Nat):Int))&&(decide (((0:Nat):Int)<=IntKind.wrap .i64 (((v.d.n+1:Nat):Int) - 1))&&decide (IntKind.wrap .i64 (((v.d.n+1:Nat):Int) - 1)<=((v.d.n+1:Nat):Int)))) (slT (Int.le_refl _) (by rw [w1];omega) (by rw [w1];omega))
      (.fi {v with d:=⟨v.d.n+1,λj=>af v.d.n 1 v.d.g (ae zR [(0,.agg (ruC (vN v.i.toNat) x.1 s.1))]) (Int.toNat ((0:Nat):Int)+j)⟩,C:=s.2,cut:=true,m:=Int.toNat (IntKind.wrap .i64 (((v.d.n+1:Nat):Int) - 1)) - Int.toNat ((0:Nat):Int)}
       ⟨ok qs.2,⟨by show Int.toNat (IntKind.wrap .i64 (((v.d.n+1:Nat):Int) - 1)) - 0<=5;rw [w1];omega,λj hj=>by
        have hj:j < Int.toNat (IntKind.wrap .i64 (((v.d.n+1:Nat):Int) - 1)) - 0:=hj
        rw [w1] at hj
        show RRw (af v.d.n 1 v.d.g _ (0+j))
        rw [Nat.zero_add];exact hr j (by omega)⟩,λh=>by cases h⟩))
     λ_=>.to {v with d:=⟨v.d.n+1,af v.d.n 1 v.d.g (ae zR [(0,.agg (ruC (vN v.i.toNat) x.1 s.1))])⟩,C:=s.2,i:=IntKind.wrap .i64 (v.i+1)}
      ⟨⟨ok qs.2,by show 0<=IntKind.wrap .i64 (v.i+1);rw [hw];omega⟩,by show ((v.d.n+1:Nat):Int)<=IntKind.wrap .i64 (v.i+1);rw [hw];omega,by show IntKind.wrap .i64 (v.i+1)<=4;rw [hw];omega,hv.2.2.2.1,hr⟩ (by show (5 - IntKind.wrap .i64 (v.i+1)).toNat < (5 - v.i).toNat;rw [hw];omega))))
   λ_=>.fi {v with C:=t.2,cut:=false,m:=v.d.n} ⟨ok q.2,⟨by show v.d.n<=5;omega,hv.2.2.2.2⟩,λ_=>rfl⟩) (λv L k kn=>by kernel_rfl)
def φFl (x:FLAG×CODES):AV×List AO:=(.agg x.1.c,[aZ x.2])
instance:Inhabited (FLAG×CODES):=⟨(default,default)⟩
def DF (f:FLAG):Prop:=SmF 50 f/\(1<=f.vars.length/\f.vars.length<=4)
def rFl (_:List AV) (_:List AO) (x:FLAG×CODES):Prop:=DF x.1/\x.2.Ok
theorem smv {s:SERVE} (h:SmV s):SO.SmV 50 s:=⟨by have:=h.2;omega,HS h.1.1,HS h.1.2.1,HS h.1.2.2,by have:=h.2;omega⟩
theorem zZ {v:FL} (hv:F4Q v) {s:SERVE} (hs:SmV s) {D:CODES} (hD:D.Ok) {l:List AV} {os:List AO}:Run (rFl l os) φFl (some (.agg [.str v.h.key,.int .i64 v.h.kind,.sl .no 4 v.a.n v.a.g,.bool v.h.on,.int .i64 v.off,.sl .no 2 v.b.n v.b.g,.sl .no 3 v.c.n v.c.g,.sl .no 11 v.m v.d.g,.int .i64 s.var,.str s.kind,.str s.by',.str s.salt,ou s.split],[aZ D])):=by
 obtain ⟨⟨⟨⟨hA,ha⟩,hb⟩,hc⟩,hd,_⟩:=hv
 obtain ⟨la,a1,a2,a3⟩:=AH ha.2
 obtain ⟨lb,b1,b2,b3⟩:=cw (R:=PRQ.c) hb.2
 obtain ⟨lc,c1,c2,c3⟩:=cw (R:=TGT.c) hc.2
 obtain ⟨ld,d1,d2,d3⟩:=cw (R:=RULE.c) hd.2
 exact .t (FLAG.mk v.h.key v.h.kind la v.h.on v.off lb lc ld s,D) ⟨⟨⟨Nat.le_trans hA.key (by decide),⟨by have:=ha.1;show la.length<=50;omega,a2⟩,⟨by have:=hb.1;show lb.length<=50;omega,b2⟩,⟨by have:=hc.1;show lc.length<=50;omega,c2⟩,⟨by have:=hd.1;show ld.length<=50;omega,λr hr=>⟨(d2 r hr).1,(d2 r hr).2.1.fit,smv (d2 r hr).2.2⟩⟩,smv hs⟩,by have:=ha.1;show 1<=la.length/\la.length<=4;omega⟩,hD⟩
  (.agg (.cons (.same rfl) (.cons (.same rfl) (.cons (a3 .no) (.cons (.same rfl) (.cons (.same rfl) (.cons (b3 .no 2 λ_=>⟨rfl,rfl⟩) (.cons (c3 .no 3 λ_=>⟨rfl,rfl⟩) (.cons (d3 .no 11 λ_=>⟨rfl,rfl⟩) (TellL.refl rfl))))))))))
theorem OM (e:ENV) (he:PreF e) (s:List UInt8) (hs:s.length<=40) {C:CODES} (hC:C.Ok):aJ wd ep φFl rFl [cR,.agg e.c,.str s] [aZ C]:=by
 obtain ⟨u1,w1,h1,l1⟩:=Uc e
 obtain ⟨u2,w2,h2,l2⟩:=Ub e he
 obtain ⟨u3,w3,h3,l3⟩:=Ua e
 obtain ⟨u4,w4,h4,l4⟩:=T0 e he
 exact dy (V:=V0) (T:=tF e) (d:=1) 0 (ah (l1 _) (ah (l2 _) (ah (l3 _) (ah (l4 _) aE)))) aB
  (.call (aq hC 5 (by decide)) λa qa=>.call (aq qa.2 6 (by decide)) λb qb=>.call (aq qb.2 4 (by decide)) λc qc=>
   have hk:IntKind.wrap .i64 (1+a.1)=1+a.1:=by have q:0<=a.1/\a.1 < 5:=qa.1;exact wrap_i64 (by omega) (by omega)
   have hn:IntKind.wrap .i64 (1+c.1)=1+c.1:=by have q:0<=c.1/\c.1 < 4:=qc.1;exact wrap_i64 (by omega) (by omega)
   .lp (h1 (FL.mk (FH.mk s (IntKind.wrap .i64 (1+a.1)) (decide (b.1 < 5))) 0 ⟨0,λ_=>zV⟩ default default default c.2 (IntKind.wrap .i64 (1+c.1)) 0 false 0) ⟨⟨⟨hs,by have q:0<=a.1/\a.1 < 5:=qa.1;show 1<=IntKind.wrap .i64 (1+a.1)/\IntKind.wrap .i64 (1+a.1)<=5;rw [hk];omega,by have q:0<=c.1/\c.1 < 4:=qc.1;show 1<=IntKind.wrap .i64 (1+c.1)/\IntKind.wrap .i64 (1+c.1)<=4;rw [hn];omega,qc.2⟩,rfl,by have q:0<=c.1/\c.1 < 4:=qc.1;show 0<=IntKind.wrap .i64 (1+c.1);rw [hn];omega⟩,λj hj=>absurd hj (Nat.not_lt_zero _)⟩) λv hv=>
   .call (aq hv.1.C v.n (by have:=hv.1.n;omega)) λo qo=>.lp (h2 {v with off:=IntKind.wrap .i64 (1+o.1),b:=⟨0,λ_=>[.str [],.int .i64 0]⟩,C:=o.2,i:=0} ⟨⟨⟨⟨hv.1.key,hv.1.kind,hv.1.n,qo.2⟩,hv.2⟩,ix0 _⟩,Int.le_refl _,λj hj=>absurd hj (Nat.not_lt_zero _)⟩) λv2 q2=>
   .lp (h3 {v2 with c:=⟨0,λ_=>[.str [],.int .i64 0,nA]⟩,i:=0} ⟨⟨⟨⟨⟨q2.1.1.key,q2.1.1.kind,q2.1.1.n,q2.1.1.C⟩,q2.1.2⟩,q2.2⟩,Int.le_refl _⟩,Int.le_refl _,by show (0:Int)<=3;decide,λj hj=>absurd hj (Nat.not_lt_zero _)⟩) λv3 q3=>
   have hh:=h4 {v3 with d:=⟨0,λ_=>zR⟩,i:=0,cut:=false} ⟨⟨⟨⟨⟨⟨q3.1.1.1.key,q3.1.1.1.kind,q3.1.1.1.n,q3.1.1.1.C⟩,q3.1.1.2⟩,q3.1.2⟩,q3.2⟩,Int.le_refl _⟩,Int.le_refl _,by show (0:Int)<=4;decide,rfl,λj hj=>absurd hj (Nat.not_lt_zero _)⟩
   have hs:cn u4 w4 {env:=flN v3++[(13,.sl .fit 1 4 (ae [.str []] [(0,.str [102,105,114,115,116]),(1,.str [115,101,99,111,110,100]),(2,.str [116,104,105,114,100]),(3,.str [102,111,117,114,116,104])])),(14,.int .i64 0)],objs:=fl4 e {v3 with d:=⟨0,λ_=>zR⟩}} F4Q:=by rw [SO.zz];exact hh
   .lp hs λv4 q4=>
   have sv:=oj q4.1.1.1.1.C v4.n (by have:=q4.1.1.1.1.n;omega)
   .b v4.cut (λ_=>.call sv λr qr=>zZ q4 qr.1 qr.2) λhcut=>.call sv λr qr=>by
    have h:=zZ (l:=[cR,.agg e.c,.str s]) (os:=[aZ C]) q4 qr.1 qr.2
    rw [q4.2.2 hcut] at h
    exact h) (by kernel_rfl)
open Go.SM (ENV TX txA SP SO spA jk sT)
open Go.SO (SmX toL)
structure PreX (e:ENV):Prop where
 f:PreF e
 len:LenE e
 vars:∀f∈e.flags,f.vars.length<=4
 lys:∀l∈e.layers,l.key.length<=1000
 f1:1<=e.flags.length
 l1:1<=e.layers.length
def φXp (x:EXPT×CODES):AV×List AO:=(.agg x.1.c,[aZ x.2])
instance:Inhabited (EXPT×CODES):=⟨(default,default)⟩
def rXp (_:List AV) (_:List AO) (x:EXPT×CODES):Prop:=SmX 50 x.1/\x.2.Ok
noncomputable abbrev VXp:Env:=Vb [51,52,53] [] []
theorem Ev (o:SO):eD (spA o) (AP (toL o)):=⟨rfl,λc v h=>SO.M9 h⟩
theorem AJ (op:Int):TellL [.int .i64 op,.str [],.str [],nA,nA] (eC (.mk op [] [] [] [])):=AK op [] []
theorem OT (e:ENV) (he:PreX e) (s:List UInt8) (hs:s.length<=40) (now:Int) {C:CODES} (hC:C.Ok):aJ wd mg φXp rXp [cR,.agg e.c,.str s,.int .i64 now] [aZ C]:=by
 have hf:=he.f.flags.1
 have hl:=he.len.l
 have f1:=he.f1
 have l1:=he.l1
 have sk:=C0 e (by have:=he.f.segs.1;omega)
 have kk:∀ {ks:SM.TXS},rKs e.segs.length (C5 e.segs) [.agg e.c] [] ks->ks.1<=7/\∀j,j < ks.1->(ks.2 j).length<=40:=fun {ks} qk=>⟨by have:=qk.1;have:=he.f.segs.1;omega,λj hj=>by rw [qk.2 j hj];exact he.f.segs.2 _ (cv (by have:=qk.1;omega))⟩
 have fin:=λ(fk lk sa:List UInt8) (ar:List RG) (st op:Int) (kd nm:List UInt8) (a b:AV) (x:EXP) (D:CODES) (hD:D.Ok) (h1:fk.length<=1000) (h2:lk.length<=1000) (h3:sa.length<=40) (h4:ar.length<=4) (hw:TellL [.int .i64 op,.str kd,.str nm,a,b] (eC x)) (hx:Fit 50 x)=>
  Run.call (Post:=rXp [cR,.agg e.c,.str s,.int .i64 now] [aZ C]) (φ:=φXp) (OI e he.len lk now) λfr qf=>.call (iR hD 8000 (by decide)) λw1 q1=>.call (iR q1.2 8000 (by decide)) λw2 q2=>
  .call (zB (jk fr.1) (sT [.int .i64 0,.int .i64 0] w1.1 w2.1) (Nat.le_trans qf (by decide)) (by show 1<=1000000;omega)) λmi qm=>.call (iR q2.2 7000 (by decide)) λw3 q3=>.call (DT mi w3.1 (Nat.le_trans qm (by decide))) λo qo=>
  .t (EXPT.mk s lk fk sa st (toL o) ar x,w3.2) (r:=(.agg [.str s,.str lk,.str fk,.str sa,.int .i64 st,.sl .no 2 o.n (SP o.F o.T),ou ar,.int .i64 op,.str kd,.str nm,a,b],[aZ w3.2]))
   ⟨⟨Nat.le_trans hs (by decide),h2,h1,Nat.le_trans h3 (by decide),by show (toL o).length<=10000+50;rw [SO.F3];exact Nat.le_trans qo (by decide),Nat.le_trans h4 (by decide),hx⟩,q3.2⟩ (.agg (.cons (.same rfl) (.cons (.same rfl) (.cons (.same rfl) (.cons (.same rfl) (.cons (.same rfl) (.cons (Ev o) (.cons (.same rfl) hw))))))))
 have tw:∀x:EXP,TellL [.int .i64 x.op,.str x.kind,.str x.name,jP x.vals,.sl .no 5 x.kids.length (EXP.row x.kids)] (eC x):=λx=>TellL.refl rfl
 exact cW (V:=VXp) [me,B0,B1,ME,bc wd cJ SM.φX (rKs e.segs.length (C5 e.segs)),eEx,V9,Vj,Vn] 1 (.call (aq hC (e.flags.length:Int) (by omega)) λa qa=>
  have ha:0<=a.1/\a.1 < (e.flags.length:Int):=qa.1
  have fm:=cv (l:=e.flags) (i:=a.1.toNat) (by omega)
  .n (c:=within a.1 e.flags.length) (aA ha.1 ha.2) (.call (aq qa.2 (e.layers.length:Int) (by omega)) λb qb=>
  have hb:0<=b.1/\b.1 < (e.layers.length:Int):=qb.1
  have lm:=cv (l:=e.layers) (i:=b.1.toNat) (by omega)
  have h1:=(he.f.flags.2 _ fm).2
  have h2:=he.lys _ lm
  .n (c:=within b.1 e.layers.length) (aA hb.1 hb.2) (.call (nC qb.2) λt qt=>
  have h3:=oa _ qt.1
  .call (aq qt.2 3 (by decide)) λst qs=>.call (wU qs.2 ((e.flags.getD a.1.toNat default).vars.length:Int) (by have:=(he.f.flags.2 _ fm).1;have:=he.vars _ fm;omega)) λar qr=>
  .b (IntKind.wrap .i64 (1+st.1)==1)
   (λ_=>.call (aq qr.2 2 (by decide)) λd qd=>.b (bif true then d.1==0 else false)
    (λ_=>.call (aq qd.2 2 (by decide)) λw qw=>.b (w.1==1)
     (λ_=>.call sk λks qk=>.call (pY 2 (.inl rfl) ks.1 ks.2 (kk qk) qw.2) λx qx=>fin (e.flags.getD a.1.toNat default).key (e.layers.getD b.1.toNat default).key t.1 ar.1 2 _ _ _ _ _ x.1 x.2 qx.2 h1 h2 h3 qr.1 (tw x.1) qx.1.fit)
     λ_=>fin (e.flags.getD a.1.toNat default).key (e.layers.getD b.1.toNat default).key t.1 ar.1 2 1 [] [] nA nA (.mk 1 [] [] [] []) w.2 qw.2 h1 h2 h3 qr.1 (AJ 1) (DS 1))
    λ_=>.call (aq qd.2 2 (by decide)) λw qw=>.b (w.1==1)
     (λ_=>.call sk λks qk=>.call (pY 2 (.inl rfl) ks.1 ks.2 (kk qk) qw.2) λx qx=>fin (e.flags.getD a.1.toNat default).key (e.layers.getD b.1.toNat default).key t.1 ar.1 (IntKind.wrap .i64 (1+st.1)) _ _ _ _ _ x.1 x.2 qx.2 h1 h2 h3 qr.1 (tw x.1) qx.1.fit)
     λ_=>fin (e.flags.getD a.1.toNat default).key (e.layers.getD b.1.toNat default).key t.1 ar.1 (IntKind.wrap .i64 (1+st.1)) 1 [] [] nA nA (.mk 1 [] [] [] []) w.2 qw.2 h1 h2 h3 qr.1 (AJ 1) (DS 1))
   λ_=>.call (aq qr.2 2 (by decide)) λw qw=>.b (w.1==1)
     (λ_=>.call sk λks qk=>.call (pY 2 (.inl rfl) ks.1 ks.2 (kk qk) qw.2) λx qx=>fin (e.flags.getD a.1.toNat default).key (e.layers.getD b.1.toNat default).key t.1 ar.1 (IntKind.wrap .i64 (1+st.1)) _ _ _ _ _ x.1 x.2 qx.2 h1 h2 h3 qr.1 (tw x.1) qx.1.fit)
     λ_=>fin (e.flags.getD a.1.toNat default).key (e.layers.getD b.1.toNat default).key t.1 ar.1 (IntKind.wrap .i64 (1+st.1)) 1 [] [] nA nA (.mk 1 [] [] [] []) w.2 qw.2 h1 h2 h3 qr.1 (AJ 1) (DS 1)))) (by kernel_rfl)
noncomputable abbrev eXp:Ent:=bc wd mg φXp rXp
open Go.SM (ENV TX txA pd)
open Go.SO (EH vcE)
def JQ:List (Nat×List UInt8)->Nat->List UInt8
 | [],_=>[]
 | (k,s)::r,j=>bif Nat.beq k j then s else JQ r j
theorem sF:∀ (l:List (Nat×List UInt8)) (j:Nat),ae [.str []] (l.map λp=>(p.1,AV.str p.2)) j=[AV.str (JQ l j)]
 | [],_=>rfl
 | (k,s)::r,j=>by
  have ih:=sF r j
  show ae [.str []] ((k,AV.str s)::r.map λp=>(p.1,AV.str p.2)) j=_
  unfold ae JQ
  cases Nat.beq k j
  ·exact ih
  ·rfl
theorem wN {l:List (Nat×List UInt8)} {b:Nat} (h:∀p∈l,p.2.length<=b) (j:Nat):(JQ l j).length<=b:=by
 induction l with
 | nil=>exact Nat.zero_le _
 | cons p r ih=>
  unfold JQ
  cases Nat.beq p.1 j
  ·exact ih λq hq=>h q (List.mem_cons_of_mem _ hq)
  ·exact h p (List.mem_cons_self ..)
abbrev nF:List (Nat×List UInt8):=[(0,[102,97]),(1,[102,98]),(2,[102,99]),(3,[102,100])]
abbrev nL:List (Nat×List UInt8):=[(0,[108,97]),(1,[108,98])]
abbrev nX:List (Nat×List UInt8):=[(0,[120,97]),(1,[120,98]),(2,[120,99])]
abbrev kF (l:List (Nat×List UInt8)) (j:Nat):List UInt8:=JQ l (0+j)
structure NEV where
 h:EH
 s:RW
 f:RW
 l:RW
 x:RW
 C:CODES
 m:Nat
 i:Int
 q:Nat
 a:Bool
instance:Inhabited NEV:=⟨⟨⟨[],[],0,0,λ_=>[]⟩,default,default,default,default,default,0,0,0,false⟩⟩
def zE:List AV:=[.str [],.str [],.int .i64 0,nA,nA,nA,nA,nA]
def enN (now:Int) (v:NEV) (ks:Nat->List UInt8) (t:Nat):List (Nat×AV):=[(0,cR),(1,.int .i64 now),(4,.ref 4 0),(5,.ref 5 0),(6,txA v.m ks),(t,.int .i64 v.i)]
def enB (now:Int):List (Nat×AV):=[(0,cR),(1,.int .i64 now),(4,.ref 4 0),(5,.ref 5 0)]
def en1 (v:NEV):List (Nat×AO):=[(4,.cells zE),(5,.cells (vcE v.h (kA 30 9 v.s) (kA 43 13 v.f) nA nA)),(30,.own 9 v.s.n),(43,.own 13 v.f.n),(aa,aZ v.C)]
def en2 (v:NEV):List (Nat×AO):=[(4,.cells zE),(5,.cells (vcE v.h (kA 30 9 v.s) (kA 43 13 v.f) (kA 64 6 v.l) nA)),(30,.own 9 v.s.n),(43,.own 13 v.f.n),(64,.own 6 v.l.n),(aa,aZ v.C)]
def en3 (k q:Nat) (v:NEV):List (Nat×AO):=[(4,.cells zE),(5,.cells (vcE v.h (kA 30 9 v.s) (kA 43 13 v.f) (kA 64 6 v.l) (.gsl k 12 v.x.n))),(30,.own 9 v.s.n),(43,.own 13 v.f.n),(64,.own 6 v.l.n),(k,.grw (q+1) 12 v.x.n v.x.g),(aa,aZ v.C)]
def ES1 (now:Int) (v:NEV):St:={env:=enN now v (kF nF) 7,objs:=en1 v}
def ES2 (now:Int) (v:NEV):St:={env:=enN now v (kF nL) 8,objs:=en2 v}
def ES3 (now:Int) (v:NEV):St:={env:=enN now v (kF nX) 9,objs:=en2 v}
def ES4 (k:Nat) (now:Int) (v:NEV):St:={env:=enN now v (kF nX) 9,objs:=en3 k v.q v}
def EO1 (now:Int) (v:NEV) (k:Ex->St->Res):Res:=k (.exit 0) {env:=enB now,objs:=en1 v}
def EO2 (now:Int) (v:NEV) (k:Ex->St->Res):Res:=k (.exit 2) {env:=enB now,objs:=en2 v}
noncomputable abbrev VEn:Env:=Vb [] [99] [102,113]
open Go.SM (ENV TX txA pd iG)
open Go.SO (EH vcE SmE SmG SmF SmL SmX HOk vc x5 NJ)
theorem Ct.Ux {P:Program} {G:Nat->Option (List AV)} {f:FuncId} {l l':List AV} {os:List AO} {r:AV×List AO} (h:Ct P G f l os r) (hl:l'.length=l.length) (hk:∀k∈ak l,k∈ak l')
  (hw:∀ (i:Nat) (u u':AV),l[i]?=some u->l'[i]?=some u'->∀c v,Rep c u' v->Rep c u v):Ct P G f l' os r:=by
 refine ⟨λc0 vs hg ho hs hr hlv=>h.1 c0 vs hg ho (by rw [hs,hl]) (λi u hu=>?_) (λk hk'=>hlv k (hk k hk')),h.2⟩
 have hlt:=(List.getElem?_eq_some_iff.1 hu).1
 have hu':l'[i]?=some (l'[i]'(by omega)):=List.getElem?_eq_getElem _
 exact hw i u _ hu hu' c0 _ (hr i _ hu')
theorem yH {τ:Type} {f:FuncId} {φ:τ->AV×List AO} {P:τ->Prop} {a x y:AV} {r:List AV} {os:List AO} (h:∀c v,Rep c x v->Rep c y v) (hk:y.keys=[]) (hd:aJ wd f φ (λ_ _=>P) (a::y::r) os):aJ wd f φ (λ_ _=>P) (a::x::r) os:=by
 obtain ⟨t,ht,hc⟩:=hd
 refine ⟨t,ht,Ct.Ux hc rfl (λk hk'=>?_) λi u u' hu hu' c v hv=>?_⟩
 ·simp only [ak,hk,List.nil_append,List.mem_append] at hk' ⊢
  rcases hk' with hk' | hk'
  ·exact .inl hk'
  ·exact .inr (.inr hk')
 ·match i,hu,hu' with
  | 0,hu,hu'=>simp only [List.getElem?_cons_zero,Option.some.injEq] at hu hu';subst hu hu';exact hv
  | 1,hu,hu'=>
   simp only [List.getElem?_cons_succ,List.getElem?_cons_zero,Option.some.injEq] at hu hu'
   subst hu hu'
   exact h c v hv
  | i+2,hu,hu'=>
   simp only [List.getElem?_cons_succ] at hu hu'
   rw [hu] at hu';cases hu';exact hv
structure BE (e:ENV):Prop where
 salt:e.salt.length<=1000
 hkind:e.hkind.length<=1000
 attrs:e.attrs=vc
 segs:e.segs.length<=3/\∀g∈e.segs,SmG 50 g/\g.key.length<=40
 flags:e.flags.length<=4/\∀f∈e.flags,DF f
 layers:e.layers.length<=2/\∀l∈e.layers,SmL 10 l
 expts:e.expts.length<=3/\∀x∈e.expts,SmX 50 x
theorem BE.sm {e:ENV} (h:BE e):SmE 50 e:=
 ⟨h.salt,h.hkind,⟨by rw [h.attrs];decide,by rw [h.attrs];exact SO.IE⟩,⟨Nat.le_trans h.segs.1 (by decide),λg hg=>(h.segs.2 g hg).1⟩,⟨Nat.le_trans h.flags.1 (by decide),λf hf=>(h.flags.2 f hf).1⟩,
  ⟨Nat.le_trans h.layers.1 (by decide),λl hl=>⟨(h.layers.2 l hl).1,Nat.le_trans (h.layers.2 l hl).2 (by decide)⟩⟩,⟨Nat.le_trans h.expts.1 (by decide),h.expts.2⟩⟩
theorem BE.ok {e:ENV} (h:BE e):e.Ok:=h.sm.ok (by decide)
theorem BE.SF {e:ENV} (h:BE e):PreF e:=
 ⟨⟨Nat.le_trans h.segs.1 (by decide),λg hg=>(h.segs.2 g hg).2⟩,⟨Nat.le_trans h.flags.1 (by decide),λf hf=>⟨⟨(h.flags.2 f hf).2.1,Nat.le_trans (h.flags.2 f hf).2.2 (by decide)⟩,(h.flags.2 f hf).1.key⟩⟩⟩
theorem BE.UM {e:ENV} (h:BE e) (hf:1<=e.flags.length) (hl:1<=e.layers.length):PreX e:=
 ⟨h.SF,⟨Nat.le_trans h.segs.1 (by decide),Nat.le_trans h.flags.1 (by decide),Nat.le_trans h.layers.1 (by decide),Nat.le_trans h.expts.1 (by decide),λx hx=>Nat.le_trans (h.layers.2 x hx).2 (by decide),λx hx=>Nat.le_trans (h.expts.2 x hx).claims (by decide)⟩,
  λf hf=>(h.flags.2 f hf).2.2,λl hl=>(h.layers.2 l hl).1.1,hf,hl⟩
def RFl (cs:List AV):Prop:=∃f:FLAG,DF f/\TellL cs f.c
def RLy (cs:List AV):Prop:=∃l:LAYER,SmL 10 l/\TellL cs l.c
def RXp (cs:List AV):Prop:=∃x:EXPT,SmX 50 x/\TellL cs x.c
def Lst {T:Type} [Inhabited T] (sz:Nat) (R:T->List AV) (Q:T->Prop) (n:Nat) (a:AV):Prop:=∃l:List T,l.length=n/\(∀x∈l,Q x)/\eD a (.sl .no sz l.length λj=>R (l.getD j default))
theorem xC {T:Type} [Inhabited T] {sz:Nat} {R:T->List AV} {Q:T->Prop}:Lst sz R Q 0 nA:=⟨[],rfl,λx hx=>(List.not_mem_nil hx).elim,aW⟩
theorem sy {T:Type} [Inhabited T] {sz:Nat} {R:T->List AV} {Q:T->Prop} (hR:∀x,(R x).length=sz/\ak (R x)=[]) {n:Nat} {g:Nat->List AV} (h:∀j,j < n->∃x,Q x/\TellL (g j) (R x)):Lst sz R Q n (.sl .no sz n g):=by
 obtain ⟨l,h1,h2,h3⟩:=cw (R:=R) h
 exact ⟨l,h1,h2,h3 .no sz hR⟩
structure NP0 (v:NEV):Prop where
 h:HOk v.h
 s:v.s.n<=3/\∀j,j < v.s.n->RGr (v.s.g j)
 C:v.C.Ok
def NP1 (v:NEV):Prop:=NP0 v/\v.f.n<=4/\∀j,j < v.f.n->RFl (v.f.g j)
def NP2 (v:NEV):Prop:=NP1 v/\v.l.n<=2/\∀j,j < v.l.n->RLy (v.l.g j)
def NP3 (v:NEV):Prop:=NP2 v/\v.x.n<=3/\∀j,j < v.x.n->RXp (v.x.g j)
theorem NP0.told {v:NEV} (h:NP0 v) {b c d:AV} {n2 n3 n4:Nat} (hb:Lst 13 FLAG.c DF n2 b) (hc:Lst 6 LAYER.c (SmL 10) n3 c) (hd:Lst 12 EXPT.c (SmX 50) n4 d) (k2:n2<=4) (k3:n3<=2) (k4:n4<=3) :
  ∃e:ENV,TellL (NJ v.h (.sl .no 9 v.s.n v.s.g) b c d) e.c/\BE e/\e.flags.length=n2/\e.layers.length=n3:=by
 obtain ⟨l1,a1,b1,c1⟩:=sy (R:=SEG.c) (sz:=9) (λ_=>⟨rfl,rfl⟩) h.s.2
 obtain ⟨l2,a2,b2,c2⟩:=hb
 obtain ⟨l3,a3,b3,c3⟩:=hc
 obtain ⟨l4,a4,b4,c4⟩:=hd
 exact ⟨ENV.mk v.h.salt v.h.hkind v.h.hold vc l1 l2 l3 l4,.cons (.same rfl) (.cons (.same rfl) (.cons (.same rfl) (.cons h.h.attrs (.cons c1 (.cons c2 (.cons c3 (.cons c4 .nil))))))),
  ⟨h.h.salt,h.h.hkind,rfl,⟨by show l1.length<=3;rw [a1];exact h.s.1,b1⟩,⟨by show l2.length<=4;omega,b2⟩,⟨by show l3.length<=2;omega,b3⟩,⟨by show l4.length<=3;omega,b4⟩⟩,a2,a3⟩
theorem Oj {v:NEV} (h:NP1 v):Lst 13 FLAG.c DF v.f.n (.sl .no 13 v.f.n v.f.g):=sy (R:=FLAG.c) (λ_=>⟨rfl,rfl⟩) h.2.2
theorem Rb {v:NEV} (h:NP2 v):Lst 6 LAYER.c (SmL 10) v.l.n (.sl .no 6 v.l.n v.l.g):=sy (R:=LAYER.c) (λ_=>⟨rfl,rfl⟩) h.2.2
theorem Bx {n:Nat} {g:Nat->List AV} (h:∀j,j < n->RXp (g j)):Lst 12 EXPT.c (SmX 50) n (.sl .no 12 n g):=sy (R:=EXPT.c) (λ_=>⟨rfl,rfl⟩) h
noncomputable abbrev Wa:Ent:=bc wd ep φFl rFl
def VaE (cells:List AV) (b:Bool):Prop:=b=true->∃e:ENV,TellL cells e.c/\BE e/\iG e=0
def rVe (l:List AV) (_:List AO) (b:Bool):Prop:=∀cells,l=[.agg cells]->VaE cells b
theorem FT {cells:List AV} (h:∃e:ENV,TellL cells e.c/\BE e):aJ wd oz φB rVe [.agg cells] []:=by
 obtain ⟨e,h1,h2⟩:=h
 obtain ⟨b,hb,hc⟩:=wK (P:=λb=>b=true->iG e=0) (λ_ _=>ph h1) rfl (JD e h2.ok (by have:=h2.segs;omega))
 exact ⟨b,λcs hcs hb'=>by cases hcs;exact ⟨e,h1,h2,hb hb'⟩,hc⟩
noncomputable abbrev V4:Ent:=bc wd oz φB rVe
def UG (_:List AV) (os:List AO) (x:SGA):Prop:=(∀h a,os[1]?=some (.cells (SO.vcS h a))->x.h=h)/\(x.n<=3/\∀j,j < x.n->RGr (x.g j))/\x.C.Ok
theorem J8 (h:EH) (g0:Nat->List AV) {C:CODES} (hC:C.Ok):aJ wd mR φSg UG [cR,.ref 1000001 0] [aZ C,.cells (SO.vcS h (.sl (.key 1000002) 9 0 g0)),.own 9 0]:=by
 obtain ⟨x,hx,hc⟩:=Nr h g0 hC
 exact ⟨x,⟨λh' a e=>hx.1.1.trans (SO.Ph (by simpa using e)),hx.1.2,hx.2⟩,hc⟩
noncomputable abbrev eSg:Ent:=bc wd mR φSg UG
noncomputable abbrev tEn:List Ent:=[me,Wa,eLy,eXp,V4,B1,B0,eSg]
noncomputable abbrev wEn:List (List Nat×Vw):=[([1,1,1,1,1,1,1,1,1,0,1,0,0,1,0,0,1],Qj 99),([1,1,1,1,1,1,1,1,1,0,1,0,0,1,1],Tb 5 7 99 199)]
def zF:List AV:=[.str [],.int .i64 0,nA,.bool false,.int .i64 0,nA,nA,nA,.int .i64 0,.str [],.str [],.str [],nA]
def zLy:List AV:=[.str [],.str [],.str [],.int .i64 0,.int .i64 0,nA]
theorem Q7 (j:Nat):(kF nF j).length<=40:=wN (by decide) _
theorem Q6 (j:Nat):(kF nL j).length<=40:=wN (by decide) _
theorem Q5 (j:Nat):(kF nX j).length<=40:=wN (by decide) _
def E1I (v:NEV):Prop:=NP1 v/\(v.f.n:Int)=v.i/\v.i<=(v.m:Int)/\v.m<=4
def E2I (v:NEV):Prop:=NP2 v/\(v.l.n:Int)=v.i/\v.i<=(v.m:Int)/\v.m<=2
theorem V3 (now:Int):∃ (u:St->Bool) (w:St->NEV),(∀v,E1I v->cn u w (ES1 now v) NP1)/\∀L:List (List Nat×Orc),bH (VEn.run tEn 1 [] L wEn c7) c7 [1,1,1,1,1,0,1,0] (mkO u w (EO1 now)):=
 aw (Lf:=λL=>L) (ES1 now) E1I (λv=>v.m - v.f.n) (EO1 now) NP1 (by kernel_rfl)
  (λv hv=>.b (decide (v.i < (v.m:Int))) (λhd=>
    have hi:=of_decide_eq_true hd
    have h1:=hv.2.1
    have h4:=hv.2.2.2
    have hw:IntKind.wrap .i64 (v.i+1)=v.i+1:=wrap_i64 (by omega) (by omega)
    have fl:aJ wd ep φFl rFl [cR,.agg (NJ v.h (.sl .no 9 v.s.n v.s.g) (.sl .no 13 v.f.n v.f.g) nA nA),.str (kF nF v.i.toNat)] [aZ v.C]:=by
     obtain ⟨e,e1,e2,_⟩:=hv.1.1.told (Oj hv.1) xC xC hv.1.2.1 (by decide) (by decide)
     exact yH (P:=λx:FLAG×CODES=>DF x.1/\x.2.Ok) (λ_ _=>ph e1) rfl (OM e e2.SF _ (Q7 _) hv.1.1.C)
    .n (c:=within v.i v.m) (aA (by omega) hi) (.call fl λt q=>.n (av (b:=216) (n:=v.f.n+1) (m:=v.f.n) (by omega))
     (.to {v with f:=⟨v.f.n+1,af v.f.n 1 v.f.g (ae zF [(0,.agg t.1.c)])⟩,C:=t.2,i:=IntKind.wrap .i64 (v.i+1)}
      ⟨⟨⟨hv.1.1.h,hv.1.1.s,q.2⟩,by show v.f.n+1<=4;omega,cC (P:=RFl) hv.1.2.2 ⟨t.1,q.1,TellL.refl rfl⟩⟩,by show ((v.f.n+1:Nat):Int)=IntKind.wrap .i64 (v.i+1);rw [hw];omega,by show IntKind.wrap .i64 (v.i+1)<=(v.m:Int);rw [hw];omega,h4⟩ (by show v.m - (v.f.n+1) < v.m - v.f.n;omega))))
   λ_=>.fi v hv.1) (λv L k kn=>by kernel_rfl)
theorem V2 (now:Int):∃ (u:St->Bool) (w:St->NEV),(∀v,E2I v->cn u w (ES2 now v) NP2)/\∀L:List (List Nat×Orc),bH (VEn.run tEn 1 [] L wEn c7) c7 [1,1,1,1,1,1,1,0,1,0] (mkO u w (EO2 now)):=
 aw (Lf:=λL=>L) (ES2 now) E2I (λv=>v.m - v.l.n) (EO2 now) NP2 (by kernel_rfl)
  (λv hv=>.b (decide (v.i < (v.m:Int))) (λhd=>
    have hi:=of_decide_eq_true hd
    have h1:=hv.2.1
    have h4:=hv.2.2.2
    have hw:IntKind.wrap .i64 (v.i+1)=v.i+1:=wrap_i64 (by omega) (by omega)
    .n (c:=within v.i v.m) (aA (by omega) hi) (.call (Ll (kF nL v.i.toNat) (Q6 _) hv.1.1.1.C) λt q=>.n (av (b:=88) (n:=v.l.n+1) (m:=v.l.n) (by omega))
     (.to {v with l:=⟨v.l.n+1,af v.l.n 1 v.l.g (ae zLy [(0,.agg t.1.c)])⟩,C:=t.2,i:=IntKind.wrap .i64 (v.i+1)}
      ⟨⟨⟨⟨hv.1.1.1.h,hv.1.1.1.s,q.2⟩,hv.1.1.2⟩,by show v.l.n+1<=2;omega,cC (P:=RLy) hv.1.2.2 ⟨t.1,q.1,TellL.refl rfl⟩⟩,by show ((v.l.n+1:Nat):Int)=IntKind.wrap .i64 (v.i+1);rw [hw];omega,by show IntKind.wrap .i64 (v.i+1)<=(v.m:Int);rw [hw];omega,h4⟩ (by show v.m - (v.l.n+1) < v.m - v.l.n;omega))))
   λ_=>.fi v hv.1) (λv L k kn=>by kernel_rfl)
def ES5 (now:Int) (p:Option Bool×NEV):St:=
 match p.1 with
 | none=>ES3 now p.2
 | some true=>ES4 99 now p.2
 | some false=>ES4 199 now p.2
structure NO where
 v:NEV
 b:Bool
 d:Bool
instance:Inhabited NO:=⟨⟨default,false,false⟩⟩
def enX (o:List (Nat×AO)):St:={env:=[(4,.ref 4 0),(5,.ref 5 0)],objs:=o}
def EO3 (x:NO) (k:Ex->St->Res):Res:=cond x.b (cond x.d (k (.exit 4) (enX (en3 99 x.v.q x.v))) (k (.exit 4) (enX (en3 199 x.v.q x.v)))) (k (.exit 4) (enX (en2 x.v)))
def E3I (p:Option Bool×NEV):Prop:=NP3 p.2/\(p.2.x.n:Int)<=p.2.i/\p.2.i<=(p.2.m:Int)/\p.2.m<=3
def AE:List AV:=[.str [],.str [],.str [],.str [],.int .i64 0,nA,nA,.int .i64 0,.str [],.str [],nA,nA]
def mx (p:Option Bool×NEV):Nat:=(p.2.m - p.2.i).toNat
theorem Vv {a b c:Bool} (h:(bif bif a then b else false then c else false)=true):a=true/\b=true/\c=true:=by
 cases a <;> cases b <;> cases c <;> simp at h ⊢
section
variable {v:NEV} (hv:NP3 v) (hc:(bif bif decide (v.i < (v.m:Int)) then decide ((v.f.n:Int) > 0) else false then decide ((v.l.n:Int) > 0) else false)=true)
include hv
theorem Up (now:Int) {X:AV} {n:Nat} (hX:Lst 12 EXPT.c (SmX 50) n X) (hn:n<=3) (hc:(bif bif decide (v.i < (v.m:Int)) then decide ((v.f.n:Int) > 0) else false then decide ((v.l.n:Int) > 0) else false)=true) :
  aJ wd mg φXp rXp [cR,.agg (NJ v.h (.sl .no 9 v.s.n v.s.g) (.sl .no 13 v.f.n v.f.g) (.sl .no 6 v.l.n v.l.g) X),.str (kF nX v.i.toNat),.int .i64 now] [aZ v.C]:=by
 obtain ⟨e,e1,e2,e3,e4⟩:=hv.1.1.1.told (Oj hv.1.1) (Rb hv.1) hX hv.1.1.2.1 hv.1.2.1 hn
 obtain ⟨_,h1,h2⟩:=Vv hc
 have h1:=of_decide_eq_true h1
 have h2:=of_decide_eq_true h2
 exact yH (P:=λx:EXPT×CODES=>SmX 50 x.1/\x.2.Ok) (λ_ _=>ph e1) rfl (OT e (e2.UM (by omega) (by omega)) _ (Q5 _) now hv.1.1.1.C)
theorem PG {X:AV} {n:Nat} (hX:Lst 12 EXPT.c (SmX 50) n X) (hn:n<=3):aJ wd oz φB rVe [.agg (NJ v.h (.sl .no 9 v.s.n v.s.g) (.sl .no 13 v.f.n v.f.g) (.sl .no 6 v.l.n v.l.g) X)] []:=by
 obtain ⟨e,e1,e2,_⟩:=hv.1.1.1.told (Oj hv.1.1) (Rb hv.1) hX hv.1.1.2.1 hv.1.2.1 hn
 exact FT ⟨e,e1,e2⟩
end
theorem NP3.up {v:NEV} (hv:NP3 v) {C:CODES} (hC:C.Ok) {x:RW} (h1:x.n<=3) (h2:∀j,j < x.n->RXp (x.g j)) (i:Int) (q:Nat):NP3 {v with x:=x,C:=C,i:=i,q:=q}:=
 ⟨⟨⟨⟨hv.1.1.1.h,hv.1.1.1.s,hC⟩,hv.1.1.2⟩,hv.1.2⟩,h1,h2⟩
theorem V1 (now:Int):∃ (u:St->Bool) (w:St->NO),(∀p,E3I p->cn u w (ES5 now p) λx=>NP3 x.v)/\∀L:List (List Nat×Orc),bH (VEn.run tEn 1 [] L wEn c7) c7 [1,1,1,1,1,1,1,1,1,0,1,0] (mkO u w EO3):=
 Bz (Lf:=λL=>L) (ES5 now) E3I mx EO3 (λx=>NP3 x.v) (by kernel_rfl) λp hp=>by
  obtain ⟨o,v⟩:=p
  have hv:NP3 v:=hp.1
  have hn:(v.x.n:Int)<=v.i:=hp.2.1
  have h4:v.i<=(v.m:Int):=hp.2.2.1
  have h5:v.m<=3:=hp.2.2.2
  have hi:=λ(hc:(bif bif decide (v.i < (v.m:Int)) then decide ((v.f.n:Int) > 0) else false then decide ((v.l.n:Int) > 0) else false)=true)=>of_decide_eq_true (Vv hc).1
  have hw:IntKind.wrap .i64 (v.i+1)=v.i+1:=wrap_i64 (by omega) (by omega)
  have h0:0<=v.i:=by omega
  match o with
  | none=>
   exact ⟨_,.b (bif bif decide (v.i < (v.m:Int)) then decide ((v.f.n:Int) > 0) else false then decide ((v.l.n:Int) > 0) else false) (λhc=>
     .n (c:=within v.i v.m) (aA h0 (hi hc)) (.call (Up hv now xC (by decide) hc) λt q=>
      have hr:=cC (P:=RXp) (n:=0) (g:=λ_=>[]) (h:=ae AE [(0,.agg t.1.c)]) (λj hj=>absurd hj (Nat.not_lt_zero _)) ⟨t.1,q.1,TellL.refl rfl⟩
      .call (PG hv (Bx hr) (by decide)) λb _=>.b (!b)
       (λ_=>.go _ (some false,{v with x:=⟨0,af 0 1 (λ_=>[]) (ae AE [(0,.agg t.1.c)])⟩,C:=t.2,i:=IntKind.wrap .i64 (v.i+1),q:=0})
        ⟨hv.up q.2 (by show 0<=3;decide) (λj hj=>absurd hj (Nat.not_lt_zero _)) _ _,by show (0:Int)<=IntKind.wrap .i64 (v.i+1);rw [hw];omega,by show IntKind.wrap .i64 (v.i+1)<=(v.m:Int);rw [hw];have:=hi hc;omega,h5⟩ (by show (v.m - IntKind.wrap .i64 (v.i+1)).toNat < (v.m - v.i).toNat;rw [hw];have:=hi hc;omega) rfl)
       λ_=>.go _ (some true,{v with x:=⟨1,af 0 1 (λ_=>[]) (ae AE [(0,.agg t.1.c)])⟩,C:=t.2,i:=IntKind.wrap .i64 (v.i+1),q:=0})
        ⟨hv.up q.2 (by show 1<=3;decide) hr _ _,by show (1:Int)<=IntKind.wrap .i64 (v.i+1);rw [hw];omega,by show IntKind.wrap .i64 (v.i+1)<=(v.m:Int);rw [hw];have:=hi hc;omega,h5⟩ (by show (v.m - IntKind.wrap .i64 (v.i+1)).toNat < (v.m - v.i).toNat;rw [hw];have:=hi hc;omega) rfl))
    λ_=>.fi (NO.mk v false false) hv,λL k kn=>by kernel_rfl⟩
  | some true=>exact ⟨_,.b (bif bif decide (v.i < (v.m:Int)) then decide ((v.f.n:Int) > 0) else false then decide ((v.l.n:Int) > 0) else false) (λhc=>
     have hx:v.x.n < 3:=by have:=hi hc;omega
     .n (c:=within v.i v.m) (aA h0 (hi hc)) (.n (c:=Nat.beq 12 12&&Nat.beq v.x.n v.x.n) (by simp) (.call (Up hv now (Bx hv.2.2) hv.2.1 hc) λt q=>
      have hr:=cC (P:=RXp) (n:=v.x.n) (g:=v.x.g) (h:=ae AE [(0,.agg t.1.c)]) hv.2.2 ⟨t.1,q.1,TellL.refl rfl⟩
      .n (av (b:=208) (n:=v.x.n+1) (m:=v.x.n) (by omega)) (.n (c:=Nat.beq 12 12&&Nat.beq (v.x.n+1) (v.x.n+1)) (by simp) (.call (PG hv (Bx hr) hx) λb _=>.b (!b)
       (λ_=>
        have w1:IntKind.wrap .i64 (((v.x.n+1:Nat):Int) - 1)=(v.x.n:Int):=by rw [wrap_i64 (by omega) (by omega)];omega
        have w2:Int.toNat (IntKind.wrap .i64 (((v.x.n+1:Nat):Int) - 1)) - Int.toNat ((0:Nat):Int)=v.x.n:=by rw [w1];show v.x.n - 0=v.x.n;omega
        .n (c:=decide ((0:Int)<=((0:Nat):Int))&&(decide (((0:Nat):Int)<=IntKind.wrap .i64 (((v.x.n+1:Nat):Int) - 1))&&decide (IntKind.wrap .i64 (((v.x.n+1:Nat):Int) - 1)<=((v.x.n+1:Nat):Int)))) (slT (Int.le_refl _) (by rw [w1];omega) (by rw [w1];omega))
        (.n (c:=Nat.beq 12 12&&(Nat.beq (v.x.n+1) (v.x.n+1)&&(ly (v.x.n+1) (Int.toNat (IntKind.wrap .i64 (((v.x.n+1:Nat):Int) - 1)) - Int.toNat ((0:Nat):Int))&&(Nat.ble (Int.toNat (IntKind.wrap .i64 (((v.x.n+1:Nat):Int) - 1)) - Int.toNat ((0:Nat):Int)) (v.x.n+1)&&!(Nat.beq 99 5)&&!(Nat.beq 199 5))))) (by rw [w2];simp [ly];decide)
        (.go (ES4 199 now {v with x:=⟨Int.toNat (IntKind.wrap .i64 (((v.x.n+1:Nat):Int) - 1)) - Int.toNat ((0:Nat):Int),af v.x.n 1 v.x.g (ae AE [(0,.agg t.1.c)])⟩,C:=t.2,i:=IntKind.wrap .i64 (v.i+1),q:=v.x.n}) (some (Nat.beq 199 99),{v with x:=⟨v.x.n,af v.x.n 1 v.x.g (ae AE [(0,.agg t.1.c)])⟩,C:=t.2,i:=IntKind.wrap .i64 (v.i+1),q:=v.x.n})
         ⟨hv.up (x:=⟨v.x.n,af v.x.n 1 v.x.g (ae AE [(0,.agg t.1.c)])⟩) q.2 hv.2.1 (λj hj=>hr j (Nat.lt_succ_of_lt hj)) _ _,by show (v.x.n:Int)<=IntKind.wrap .i64 (v.i+1);rw [hw];omega,by show IntKind.wrap .i64 (v.i+1)<=(v.m:Int);rw [hw];have:=hi hc;omega,h5⟩ (by show (v.m - IntKind.wrap .i64 (v.i+1)).toNat < (v.m - v.i).toNat;rw [hw];have:=hi hc;omega) (by rw [w2];rfl))))
       λ_=>.go _ (some (Nat.beq 99 99),{v with x:=⟨v.x.n+1,af v.x.n 1 v.x.g (ae AE [(0,.agg t.1.c)])⟩,C:=t.2,i:=IntKind.wrap .i64 (v.i+1),q:=v.x.n})
        ⟨hv.up (x:=⟨v.x.n+1,af v.x.n 1 v.x.g (ae AE [(0,.agg t.1.c)])⟩) q.2 hx hr _ _,by show ((v.x.n+1:Nat):Int)<=IntKind.wrap .i64 (v.i+1);rw [hw];omega,by show IntKind.wrap .i64 (v.i+1)<=(v.m:Int);rw [hw];have:=hi hc;omega,h5⟩ (by show (v.m - IntKind.wrap .i64 (v.i+1)).toNat < (v.m - v.i).toNat;rw [hw];have:=hi hc;omega) rfl)))))
    λ_=>.fi (NO.mk v true (Nat.beq 99 99)) hv,λL k kn=>by kernel_rfl⟩
  | some false=>exact ⟨_,.b (bif bif decide (v.i < (v.m:Int)) then decide ((v.f.n:Int) > 0) else false then decide ((v.l.n:Int) > 0) else false) (λhc=>
     have hx:v.x.n < 3:=by have:=hi hc;omega
     .n (c:=within v.i v.m) (aA h0 (hi hc)) (.n (c:=Nat.beq 12 12&&Nat.beq v.x.n v.x.n) (by simp) (.call (Up hv now (Bx hv.2.2) hv.2.1 hc) λt q=>
      have hr:=cC (P:=RXp) (n:=v.x.n) (g:=v.x.g) (h:=ae AE [(0,.agg t.1.c)]) hv.2.2 ⟨t.1,q.1,TellL.refl rfl⟩
      .n (av (b:=208) (n:=v.x.n+1) (m:=v.x.n) (by omega)) (.n (c:=Nat.beq 12 12&&Nat.beq (v.x.n+1) (v.x.n+1)) (by simp) (.call (PG hv (Bx hr) hx) λb _=>.b (!b)
       (λ_=>
        have w1:IntKind.wrap .i64 (((v.x.n+1:Nat):Int) - 1)=(v.x.n:Int):=by rw [wrap_i64 (by omega) (by omega)];omega
        have w2:Int.toNat (IntKind.wrap .i64 (((v.x.n+1:Nat):Int) - 1)) - Int.toNat ((0:Nat):Int)=v.x.n:=by rw [w1];show v.x.n - 0=v.x.n;omega
        .n (c:=decide ((0:Int)<=((0:Nat):Int))&&(decide (((0:Nat):Int)<=IntKind.wrap .i64 (((v.x.n+1:Nat):Int) - 1))&&decide (IntKind.wrap .i64 (((v.x.n+1:Nat):Int) - 1)<=((v.x.n+1:Nat):Int)))) (slT (Int.le_refl _) (by rw [w1];omega) (by rw [w1];omega))
        (.n (c:=Nat.beq 12 12&&(Nat.beq (v.x.n+1) (v.x.n+1)&&(ly (v.x.n+1) (Int.toNat (IntKind.wrap .i64 (((v.x.n+1:Nat):Int) - 1)) - Int.toNat ((0:Nat):Int))&&(Nat.ble (Int.toNat (IntKind.wrap .i64 (((v.x.n+1:Nat):Int) - 1)) - Int.toNat ((0:Nat):Int)) (v.x.n+1)&&!(Nat.beq 199 5)&&!(Nat.beq 99 5))))) (by rw [w2];simp [ly];decide)
        (.go (ES4 99 now {v with x:=⟨Int.toNat (IntKind.wrap .i64 (((v.x.n+1:Nat):Int) - 1)) - Int.toNat ((0:Nat):Int),af v.x.n 1 v.x.g (ae AE [(0,.agg t.1.c)])⟩,C:=t.2,i:=IntKind.wrap .i64 (v.i+1),q:=v.x.n}) (some (Nat.beq 99 99),{v with x:=⟨v.x.n,af v.x.n 1 v.x.g (ae AE [(0,.agg t.1.c)])⟩,C:=t.2,i:=IntKind.wrap .i64 (v.i+1),q:=v.x.n})
         ⟨hv.up (x:=⟨v.x.n,af v.x.n 1 v.x.g (ae AE [(0,.agg t.1.c)])⟩) q.2 hv.2.1 (λj hj=>hr j (Nat.lt_succ_of_lt hj)) _ _,by show (v.x.n:Int)<=IntKind.wrap .i64 (v.i+1);rw [hw];omega,by show IntKind.wrap .i64 (v.i+1)<=(v.m:Int);rw [hw];have:=hi hc;omega,h5⟩ (by show (v.m - IntKind.wrap .i64 (v.i+1)).toNat < (v.m - v.i).toNat;rw [hw];have:=hi hc;omega) (by rw [w2];rfl))))
       λ_=>.go _ (some (Nat.beq 199 99),{v with x:=⟨v.x.n+1,af v.x.n 1 v.x.g (ae AE [(0,.agg t.1.c)])⟩,C:=t.2,i:=IntKind.wrap .i64 (v.i+1),q:=v.x.n})
        ⟨hv.up (x:=⟨v.x.n+1,af v.x.n 1 v.x.g (ae AE [(0,.agg t.1.c)])⟩) q.2 hx hr _ _,by show ((v.x.n+1:Nat):Int)<=IntKind.wrap .i64 (v.i+1);rw [hw];omega,by show IntKind.wrap .i64 (v.i+1)<=(v.m:Int);rw [hw];have:=hi hc;omega,h5⟩ (by show (v.m - IntKind.wrap .i64 (v.i+1)).toNat < (v.m - v.i).toNat;rw [hw];have:=hi hc;omega) rfl)))))
    λ_=>.fi (NO.mk v true (Nat.beq 199 99)) hv,λL k kn=>by kernel_rfl⟩
def φEn (x:ENV×CODES):AV×List AO:=(.agg x.1.c,[aZ x.2])
instance:Inhabited (ENV×CODES):=⟨(SO.e0,default)⟩
def rEn (_:List AV) (_:List AO) (x:ENV×CODES):Prop:=(BE x.1/\iG x.1=0)/\x.2.Ok
theorem Ur:BE SO.e0:=⟨Nat.zero_le _,Nat.zero_le _,rfl,⟨Nat.zero_le _,λg hg=>(List.not_mem_nil hg).elim⟩,⟨Nat.zero_le _,λg hg=>(List.not_mem_nil hg).elim⟩,⟨Nat.zero_le _,λg hg=>(List.not_mem_nil hg).elim⟩,⟨Nat.zero_le _,λg hg=>(List.not_mem_nil hg).elim⟩⟩
theorem Iv {l:List AV} {os:List AO} {cells:List AV} {b:Bool} (q:rVe [.agg cells] [] b) (hb:(!b)=false) {C:CODES} (hC:C.Ok):Run (rEn l os) φEn (some (.agg cells,[aZ C])):=by
 obtain ⟨e,h1,h2,h3⟩:=q cells rfl (by simpa using hb)
 exact .t (e,C) ⟨⟨h2,h3⟩,hC⟩ (.agg h1)
theorem IC:TellL SO.c0 SO.e0.c:=.cons (.same rfl) (.cons (.same rfl) (.cons (.same rfl) (.cons SO.uo (.cons aW (.cons aW (.cons aW (.cons aW .nil)))))))
theorem Ud {l:List AV} {os:List AO} {C:CODES} (hC:C.Ok):Run (rEn l os) φEn (some (.agg SO.c0,[aZ C])):=.t (SO.e0,C) ⟨⟨Ur,SO.Uq⟩,hC⟩ (.agg IC)
theorem OZ {n:Nat} {t:Int} (h0:0<=t) (h1:t < (n:Int)+1):(decide ((0:Int)<=((0:Nat):Int))&&(decide (((0:Nat):Int)<=t)&&decide (t<=(n:Int))))=true:=slT (Int.le_refl _) h0 (by omega)
theorem MM {s k:List UInt8} {ho:Int} (h1:s.length<=1000) (h2:k.length<=1000):HOk ⟨s,k,ho,8,x5⟩:=⟨h1,h2,SO.uo⟩
theorem MC (now:Int) {C:CODES} (hC:C.Ok):aJ wd c7 φEn rEn [cR,.int .i64 now] [aZ C]:=by
 obtain ⟨u1,w1,h1,l1⟩:=V3 now
 obtain ⟨u2,w2,h2,l2⟩:=V2 now
 obtain ⟨u3,w3,h3,l3⟩:=V1 now
 have fin:=λ(h:EH) (hh:HOk h) (D:CODES) (hD:D.Ok)=>Run.call (Post:=rEn [cR,.int .i64 now] [aZ C]) (φ:=φEn) (J8 h (λ_=>[.str [],.str [],nA,nA,.int .i64 0,.str [],.str [],nA,nA]) hD) λsg qg=>
  .call (aq qg.2.2 5 (by decide)) λa qa=>
  have i1:0<=a.1/\a.1 < 5:=qa.1
  have hg:HOk sg.h:=by rw [qg.1 h _ rfl];exact hh
  have s1:cn u1 w1 {env:=enN now ⟨sg.h,⟨sg.n,sg.g⟩,⟨0,λ_=>zF⟩,default,default,a.2,Int.toNat a.1 - Int.toNat ((0:Nat):Int),0,0,false⟩ (λj=>JQ nF (Int.toNat ((0:Nat):Int)+j)) 7,objs:=en1 ⟨sg.h,⟨sg.n,sg.g⟩,⟨0,λ_=>zF⟩,default,default,a.2,Int.toNat a.1 - Int.toNat ((0:Nat):Int),0,0,false⟩} NP1:=
   h1 ⟨sg.h,⟨sg.n,sg.g⟩,⟨0,λ_=>zF⟩,default,default,a.2,Int.toNat a.1 - 0,0,0,false⟩ ⟨⟨⟨hg,qg.2.1,qa.2⟩,by show 0<=4;decide,λj hj=>absurd hj (Nat.not_lt_zero _)⟩,rfl,Int.natCast_nonneg _,by show a.1.toNat - 0<=4;omega⟩
  .n (OZ (n:=4) i1.1 (by omega)) (.lp (Q:=NP1) (g:=u1) (w:=w1) (s:={env:=[(0,cR),(1,.int .i64 now),(4,.ref 4 0),(5,.ref 5 0),(6,.sl .no 1 (Int.toNat a.1 - Int.toNat ((0:Nat):Int)) λj=>ae [.str []] (nF.map λp=>(p.1,AV.str p.2)) (Int.toNat ((0:Nat):Int)+j)),(7,.int .i64 0)],objs:=en1 ⟨sg.h,⟨sg.n,sg.g⟩,⟨0,λ_=>zF⟩,default,default,a.2,Int.toNat a.1 - Int.toNat ((0:Nat):Int),0,0,false⟩}) (by simp only [sF];exact s1) λv1 q1=>
  .call (aq q1.1.C 3 (by decide)) λb qb=>
  have i2:0<=b.1/\b.1 < 3:=qb.1
  have s2:cn u2 w2 {env:=enN now {v1 with l:=⟨0,λ_=>zLy⟩,C:=b.2,m:=Int.toNat b.1 - Int.toNat ((0:Nat):Int),i:=0} (λj=>JQ nL (Int.toNat ((0:Nat):Int)+j)) 8,objs:=en2 {v1 with l:=⟨0,λ_=>zLy⟩,C:=b.2,m:=Int.toNat b.1 - Int.toNat ((0:Nat):Int),i:=0}} NP2:=
   h2 {v1 with l:=⟨0,λ_=>zLy⟩,C:=b.2,m:=Int.toNat b.1 - 0,i:=0} ⟨⟨⟨⟨q1.1.h,q1.1.s,qb.2⟩,q1.2⟩,by show 0<=2;decide,λj hj=>absurd hj (Nat.not_lt_zero _)⟩,rfl,Int.natCast_nonneg _,by show b.1.toNat - 0<=2;omega⟩
  .n (OZ (n:=2) i2.1 (by omega)) (.lp (Q:=NP2) (g:=u2) (w:=w2) (s:={env:=[(0,cR),(1,.int .i64 now),(4,.ref 4 0),(5,.ref 5 0),(6,.sl .no 1 (Int.toNat b.1 - Int.toNat ((0:Nat):Int)) λj=>ae [.str []] (nL.map λp=>(p.1,AV.str p.2)) (Int.toNat ((0:Nat):Int)+j)),(8,.int .i64 0)],objs:=en2 {v1 with l:=⟨0,λ_=>zLy⟩,C:=b.2,m:=Int.toNat b.1 - Int.toNat ((0:Nat):Int),i:=0}}) (by simp only [sF];exact s2) λv2 q2=>
  .call (aq q2.1.1.C 4 (by decide)) λc qc=>
  have i3:0<=c.1/\c.1 < 4:=qc.1
  have s3:cn u3 w3 {env:=enN now {v2 with x:=⟨0,λ_=>[]⟩,C:=c.2,m:=Int.toNat c.1 - Int.toNat ((0:Nat):Int),i:=0} (λj=>JQ nX (Int.toNat ((0:Nat):Int)+j)) 9,objs:=en2 {v2 with x:=⟨0,λ_=>[]⟩,C:=c.2,m:=Int.toNat c.1 - Int.toNat ((0:Nat):Int),i:=0}} (λx=>NP3 x.v):=
   h3 (none,{v2 with x:=⟨0,λ_=>[]⟩,C:=c.2,m:=Int.toNat c.1 - 0,i:=0}) ⟨⟨⟨⟨⟨q2.1.1.h,q2.1.1.s,qc.2⟩,q2.1.2⟩,q2.2⟩,by show 0<=3;decide,λj hj=>absurd hj (Nat.not_lt_zero _)⟩,by show (0:Int)<=0;decide,Int.natCast_nonneg _,by show c.1.toNat - 0<=3;omega⟩
  .n (OZ (n:=3) i3.1 (by omega)) (.lp (Q:=λx=>NP3 x.v) (g:=u3) (w:=w3) (s:={env:=[(0,cR),(1,.int .i64 now),(4,.ref 4 0),(5,.ref 5 0),(6,.sl .no 1 (Int.toNat c.1 - Int.toNat ((0:Nat):Int)) λj=>ae [.str []] (nX.map λp=>(p.1,AV.str p.2)) (Int.toNat ((0:Nat):Int)+j)),(9,.int .i64 0)],objs:=en2 {v2 with x:=⟨0,λ_=>[]⟩,C:=c.2,m:=Int.toNat c.1 - Int.toNat ((0:Nat):Int),i:=0}}) (by simp only [sF];exact s3) λx q=>
  .b x.b (λ_=>.b x.d
    (λ_=>.n (c:=Nat.beq 12 12&&Nat.beq x.v.x.n x.v.x.n) (by simp) (.call (PG q (Bx q.2.2) q.2.1) λr qr=>.b (!r) (λ_=>Ud q.1.1.1.C) λhr=>.n (c:=Nat.beq 12 12&&Nat.beq x.v.x.n x.v.x.n) (by simp) (Iv qr hr q.1.1.1.C)))
    λ_=>.n (c:=Nat.beq 12 12&&Nat.beq x.v.x.n x.v.x.n) (by simp) (.call (PG q (Bx q.2.2) q.2.1) λr qr=>.b (!r) (λ_=>Ud q.1.1.1.C) λhr=>.n (c:=Nat.beq 12 12&&Nat.beq x.v.x.n x.v.x.n) (by simp) (Iv qr hr q.1.1.1.C)))
   λ_=>.call (PG q xC (by decide)) λr qr=>.b (!r) (λ_=>Ud q.1.1.1.C) λhr=>Iv qr hr q.1.1.1.C)))
 exact dy (V:=VEn) (T:=tEn) (d:=1) (W:=wEn) 0 (ah (l1 _) (ah (l2 _) (ah (l3 _) aE))) (cY (Kb 99) (cY (NG 5 7 99 199) aB))
  (.call (aq hC 2 (by decide)) λt qt=>.b (t.1==1)
   (λ_=>.call (nC qt.2) λs qs=>.call (iR qs.2 2500 (by decide)) λw qw=>fin ⟨s.1,rq,w.1,8,x5⟩ (MM (Nat.le_trans (oa _ qs.1) (by decide)) (by decide)) w.2 qw.2)
   λ_=>fin ⟨[],[],0,8,x5⟩ (MM (Nat.zero_le _) (Nat.zero_le _)) t.2 qt.2) (by kernel_rfl)
noncomputable abbrev Wb:Ent:=bc wd c7 φEn rEn
set_option maxRecDepth 100000 in
theorem E8:xH (E V0 400 sS [.str FJ] [])=true:=by kernel_rfl
theorem Ih:aJ wd sS φS (rIs uL) [.str FJ] []:=by
 obtain ⟨o,get,h1,h2⟩:=tL E8
 refine ⟨uL,rfl,?_⟩
 refine (IM (V:=V0) tC tR (λ_=>rfl) h1).res rfl λc v hr=>?_
 unfold cr
 rw [sj]
 exact Rep.Mc (y8 h2) hr
noncomputable abbrev Un:Ent:=bc wd sS φS (rIs uL)
def SbZ (s:List UInt8) (i:Int):St:={env:=[(0,.str s),(50,cr uL),(51,.int .i64 uL.length),(52,.int .i64 i)],objs:=[]}
theorem Ck (i n:Nat):Nat.blt i n=decide (i < n):=by
 by_cases h:i < n
 ·rw [decide_eq_true h];exact k9 h
 ·rw [decide_eq_false h]
  cases e:Nat.blt i n with
  | false=>rfl
  | true=>exact absurd (ltB e) h
theorem lt1 (s:List UInt8):decide ((s.length:Int) < 1)=!decide (0 < s.length):=by
 by_cases h:0 < s.length
 ·rw [decide_eq_true h,decide_eq_false (by omega)];rfl
 ·rw [decide_eq_false h,decide_eq_true (by omega)];rfl
theorem dT (s:List UInt8):aJ wd CL φB (rS ea) [.str s] []:=by
 obtain ⟨u1,o1,h1,l1⟩:=lN (V:=V0) (T:=[Un]) (d:=1) (W:=[]) (f:=CL) (p:=[1,1,0,1,0]) (Lf:=λL=>L) (Sa s) s.length (fV s) (λi h=>pL h) (λi=>bif qQ s i then some false else none) (Pw 2) (λ_ k=>k (.exit 0) {env:=[(0,.str s)],objs:=[]}) (λi=>Nat.blt i s.length) (λi=>Ck i _) (by kernel_rfl)
  (λi a=>.b (bif !bif decide (((Utf8.decode ⟨s.toArray⟩ i).1:Int)≥97) then decide (((Utf8.decode ⟨s.toArray⟩ i).1:Int)<=122) else false then bif (i:Int)==0 then true else bif bif bif decide (((Utf8.decode ⟨s.toArray⟩ i).1:Int) < 48) then true else decide (((Utf8.decode ⟨s.toArray⟩ i).1:Int) > 57) then ((Utf8.decode ⟨s.toArray⟩ i).1:Int) !=45 else false then ((Utf8.decode ⟨s.toArray⟩ i).1:Int) !=95 else false else false)
   (λh=>.sp false a (pa (by unfold qQ;rw [<-qC];exact h))) λh=>.on _ a (pb (by unfold qQ;rw [<-qC];exact h)) rfl) (λi L k kn=>by kernel_rfl)
 obtain ⟨u2,o2,h2,l2⟩:=bQ (V:=V0) (T:=[Un]) (d:=1) (W:=[]) (f:=CL) (p:=[1,1,1,0,1,0]) (Lf:=λL=>L) (SbZ s) uL.length (λi=>bif uL.getD i []==s then some false else none) (Pw 2) (λk=>k (.exit 2) {env:=[],objs:=[]}) (by kernel_rfl)
  (λi a=>.n a.w (.b (uL.getD i []==s) (λh=>.sp false a (pa h)) λh=>.up a (by rw [sj];decide) (pb h))) (λi L k kn=>by kernel_rfl)
 exact dy (V:=V0) (T:=[Un]) (d:=1) 0 (ah (l1 _) (ah (l2 _) aE)) aB
  (.b (bif decide ((s.length:Int) < 1) then true else decide ((s.length:Int) > 32)) (λh=>.r false (.mk (by
    rw [lt1,SJ] at h
    unfold ea uN
    cases hd:decide (s.length<=32) <;> cases hw:decide (0 < s.length) <;> simp_all))) λh=>.lp h1 λt q=>.b t.1 (λht=>.r t.2 (.mk (by
     have q:t=seek s.length (fV s) (qQ s) false:=q
     rw [vP] at q
     rw [q] at ht ⊢
     have hv:(my s).2=false:=mE ht
     unfold ea uN;rw [hv,ht];simp))) λht=>.call Ih λr qr=>
   have qr:r=uL:=qr
   have hu:cn u2 o2 {env:=[(0,.str s),(50,cr r),(51,.int .i64 r.length),(52,.int .i64 0)],objs:=[]} (λt=>t=s9 s):=by rw [qr];exact h2
   .lp hu λt2 q2=>.b t2.1 (λh2=>.r t2.2 (.mk (by
    rw [q2] at h2 ⊢
    have hv:(s9 s).2=false:=mE h2
    unfold ea;rw [hv,h2];simp))) λh2=>.r true (.mk (by
    have q:t=seek s.length (fV s) (qQ s) false:=q
    rw [vP] at q
    rw [q] at ht
    rw [lt1,SJ] at h
    rw [q2] at h2
    unfold ea uN
    cases hd:decide (s.length<=32) <;> cases hw:decide (0 < s.length) <;> simp_all))) (by kernel_rfl)
noncomputable abbrev k0:Ent:=bc wd CL φB (rS ea)
theorem ku (s:List UInt8) (hs:s.length<=HN):aJ wd wI φB (rS df) [.str s] []:=by
 obtain ⟨u,o,hu,hl⟩:=lN (V:=V0) (T:=[SS]) (d:=1) (W:=[]) (f:=wI) (p:=[1,1,0,1,0]) (Lf:=λL=>L) (Sv s) s.length (fV s) (λi h=>pL h) (λi=>bif Cc s i then some false else none) (Pw 2) (λ_ k=>k (.exit 0) {env:=[],objs:=[]}) (λi=>Nat.blt i s.length) (λi=>Ck i _) (by kernel_rfl)
  (λi a=>.b (Cc s i) (λh=>.sp false a (pa h)) λh=>.on _ a (pb h) rfl) (λi L k kn=>by kernel_rfl)
 exact gC (V:=V0) [SS] 1 hl (.call (L3 s hs) λb q=>.b (bif decide ((s.length:Int) > 200) then true else !b) (λh=>.r false (.mk (by
   rw [Dy,q s rfl] at h
   unfold df
   cases hd:decide (s.length<=200) <;> cases hw:Jm s <;> simp_all))) λh=>.lp hu λt qt=>.b t.1 (λht=>.r t.2 (.mk (by
    have q:t=seek s.length (fV s) (Cc s) false:=qt
    rw [uu] at q
    rw [q] at ht ⊢
    have hv:(mT s).2=false:=mE ht
    unfold df;rw [hv,ht];simp))) λht=>.r true (.mk (by
    have qt:t=seek s.length (fV s) (Cc s) false:=qt
    rw [uu] at qt
    rw [qt] at ht
    rw [Dy,q s rfl] at h
    unfold df
    cases hd:decide (s.length<=200) <;> cases hw:Jm s <;> simp_all))) (by kernel_rfl)
noncomputable abbrev Jt:Ent:=bc wd wI φB (rS df)
theorem zm:∀ (l:List UInt8) (a:Nat),digs l->Lib.parseUint10 a l=if val a l < 18446744073709551616∨l=[] then .ok (val a l) else .range
 | [],a,h=>by simp [Lib.parseUint10,wG]
 | c::r,a,h=>by
  have hc:=h c (List.mem_cons_self ..)
  have ih:=zm r (put a c) (λc hc=>h c (List.mem_cons_of_mem _ hc))
  have hv:=PS r (put a c)
  have hq:=put_eq a c
  rw [Lib.parseUint10,if_pos hc,<-hq]
  simp only [rP,reduceCtorEq,or_false]
  by_cases h1:1844674407370955162<=a
  ·rw [if_pos h1,if_neg (by omega)]
  ·rw [if_neg h1]
   by_cases h2:18446744073709551616<=put a c
   ·rw [if_pos h2,if_neg (by omega)]
   ·rw [if_neg h2,ih]
    by_cases h3:r=[]
    ·subst h3
     have h4:val (put a c) [] < 18446744073709551616:=by rw [wG];omega
     rw [if_pos (.inl h4),if_pos h4]
    ·simp [h3]
theorem LW {s:List UInt8} (h:yv s=false) :
  (∃v:Int,Lib.atoiAll s=.ok v/\v=(bif (gB s).2 then -(val 0 (gB s).1:Int) else (val 0 (gB s).1:Int)))∨(Lib.atoiAll s=.range/\yp < val 0 (gB s).1):=by
 unfold yv at h
 simp only [Bool.or_eq_false_iff] at h
 obtain ⟨⟨h1,_⟩,h3⟩:=h
 have hd:=Ca h3
 have hne:(gB s).1≠[]:=by simpa using h1
 have hp:Lib.parseMag (gB s).1=if val 0 (gB s).1 < 18446744073709551616 then .ok (val 0 (gB s).1) else .range:=by
  unfold Lib.parseMag
  rw [if_neg hne,zm _ _ hd]
  simp [hne]
 rcases gA s with ⟨r,rfl,hc⟩ | ⟨hh,hc⟩
 ·rw [hc] at hp hd hne ⊢
  simp only [cond_true] at hp ⊢
  have ha:Lib.atoiAll (45::r)=(match Lib.parseMag r with | .ok u=>if 9223372036854775808 < u then .range else .ok (-(u:Int)) | e=>(match e with | .range=>.range | _=>Lib.atoiAll (45::r))):=by
   rw [hp]
   simp only [Lib.atoiAll]
   by_cases hlt:val 0 r < 18446744073709551616
   ·simp [hp,hlt]
   ·simp [hp,hlt]
  rw [ha,hp]
  by_cases hlt:val 0 r < 18446744073709551616
  ·rw [if_pos hlt]
   by_cases h2:9223372036854775808 < val 0 r
   ·simp only [h2,if_true]
    exact .inr ⟨trivial,by unfold yp;omega⟩
   ·simp only [h2,if_false]
    exact .inl ⟨_,rfl,rfl⟩
  ·rw [if_neg hlt]
   exact .inr ⟨rfl,by unfold yp;omega⟩
 ·rw [hc] at hp hd hne ⊢
  simp only [cond_false] at hp ⊢
  obtain ⟨c,r,rfl⟩:∃c r,s=c::r:=by cases s with
   | nil=>exact absurd rfl hne
   | cons c r=>exact ⟨c,r,rfl⟩
  have hcd:=hd c (List.mem_cons_self ..)
  have ha:Lib.atoiAll (c::r)=(match Lib.parseMag (c::r) with | .ok u=>if 9223372036854775808<=u then .range else .ok (u:Int) | e=>(match e with | .range=>.range | _=>Lib.atoiAll (c::r))):=by
   have n43:¬ (c.toNat=43∨c.toNat=45):=by omega
   have n45:¬ c.toNat=45:=by omega
   rw [hp]
   simp only [Lib.atoiAll,if_neg n43,hp]
   by_cases hlt:val 0 (c::r) < 18446744073709551616
   ·simp [hlt,n45]
   ·simp [hlt]
  rw [ha,hp]
  by_cases hlt:val 0 (c::r) < 18446744073709551616
  ·rw [if_pos hlt]
   by_cases h2:9223372036854775808<=val 0 (c::r)
   ·simp only [h2,if_true]
    exact .inr ⟨trivial,by unfold yp;omega⟩
   ·simp only [h2,if_false]
    exact .inl ⟨_,rfl,rfl⟩
  ·rw [if_neg hlt]
   exact .inr ⟨rfl,by unfold yp;omega⟩
theorem Pb (s:List UInt8):aJ wd dB SH.φD (rIs (gB s)) [.str s,.str [45]] []:=
 have h1:∀n:Nat,decide ((1:Int)<=(n:Int)+1)=true:=λn=>decide_eq_true (by omega)
 cW (V:=V0) [] 6 (.n (c:=bif decide ((0:Int)<=((0:Nat):Int))&&(decide (((0:Nat):Int)<=((([45]:List UInt8).length:Nat):Int))&&decide (((([45]:List UInt8).length:Nat):Int)<=(s.length:Int))) then true else !bif decide ((s.length:Int)≥((([45]:List UInt8).length:Nat):Int))==true then true else false) (by
   by_cases h:1<=s.length
   ·simp [h]
   ·simp)
  (.b (!bif decide ((s.length:Int)≥((([45]:List UInt8).length:Nat):Int)) then List.take (Int.toNat ((([45]:List UInt8).length:Nat):Int) - Int.toNat ((0:Nat):Int)) (List.drop (Int.toNat ((0:Nat):Int)) s)==[45] else false)
   (λh=>.r (s,false) (by
    show (s,false)=gB s
    rcases gA s with ⟨r,rfl,hc⟩ | ⟨hh,hc⟩
    ·simp [h1] at h
    ·exact hc.symm))
   λh=>.n (c:=decide ((0:Int)<=((([45]:List UInt8).length:Nat):Int))&&(decide (((([45]:List UInt8).length:Nat):Int)<=(s.length:Int))&&decide ((s.length:Int)<=(s.length:Int)))) (by
    rcases gA s with ⟨r,rfl,hc⟩ | ⟨hh,hc⟩
    ·simp [h1]
    ·cases s with
     | nil=>simp at h
     | cons c r=>
            have hne:(c==45)=false:=by simpa using hh
            simp [List.take,hne,h1] at h)
    (.r (List.take (Int.toNat (s.length:Int) - Int.toNat ((([45]:List UInt8).length:Nat):Int)) (List.drop (Int.toNat ((([45]:List UInt8).length:Nat):Int)) s),true) (by
     show (_,true)=gB s
     rcases gA s with ⟨r,rfl,hc⟩ | ⟨hh,hc⟩
     ·rw [hc];simp
     ·cases s with
      | nil=>simp at h
      | cons c r=>
             have hne:(c==45)=false:=by simpa using hh
             simp [List.take,hne,h1] at h)))) (by kernel_rfl)
noncomputable abbrev PF (s:List UInt8):Ent:=bc wd dB SH.φD (rIs (gB s))
def Ln (d:List UInt8×Bool):Bool:=bif d.1==[] then true else bif ((d.1.getD 0 0).toNat:Int)==48 then bif decide ((d.1.length:Int) > 1) then true else d.2 else false
theorem xK (s:List UInt8):yv s=(Ln (gB s)||(MR (gB s).1).1):=by
 unfold yv Ln
 rw [Va,Wf,Ek]
 cases (gB s).1==[] <;> cases ((gB s).1.getD 0 0).toNat==48 <;> cases decide ((gB s).1.length > 1) <;> cases (gB s).2 <;> simp
theorem xw (s d:List UInt8) (T:List Ent):∃ (u:St->Bool) (w:St->Bool×Unit),cn u w (Yp s d 0) (λo=>o=MR d)/\∀L,bH (V0.run T 1 [] L [] eH) eH [1,1,1,0,1,0] (mkO u w (K3 Sy λk=>k (.exit 0) {env:=[(0,.str s)],objs:=[]})):=by
 rw [<-Pm]
 exact lN (V:=V0) (T:=T) (d:=1) (W:=[]) (f:=eH) (p:=[1,1,1,0,1,0]) (Lf:=λL=>L) (Yp s d) d.length (fV d) (λi h=>pL h) (λi=>bif Em (Utf8.decode ⟨d.toArray⟩ i).1 then some () else none) Sy (λ_ k=>k (.exit 0) {env:=[(0,.str s)],objs:=[]}) (λi=>Nat.blt i d.length) (λi=>Ck i _) (by kernel_rfl)
  (λi a=>.b (Em (Utf8.decode ⟨d.toArray⟩ i).1) (λh=>.sp () a (pa h)) λh=>.on _ a (pb h) rfl) (λi L k kn=>by kernel_rfl)
theorem HM (b:Bool) (n:Nat):(bif (bif !true then true else decide ((bif b then -(n:Int) else (n:Int)) < -1099511627776)) then true else decide ((bif b then -(n:Int) else (n:Int)) > 1099511627776))=decide (n > yp):=by
 unfold yp
 by_cases hm:n > 1099511627776
 ·rw [decide_eq_true hm]
  cases b with
  | true=>rw [decide_eq_true (show (bif true then -(n:Int) else (n:Int)) < -1099511627776 by show -(n:Int) < _;omega)];rfl
  | false=>rw [decide_eq_true (show (bif false then -(n:Int) else (n:Int)) > 1099511627776 by show (n:Int) > _;omega)];cases decide ((bif false then -(n:Int) else (n:Int)) < -1099511627776) <;> rfl
 ·rw [decide_eq_false hm]
  cases b with
  | true=>rw [decide_eq_false (show ¬ (bif true then -(n:Int) else (n:Int)) < -1099511627776 by show ¬ -(n:Int) < _;omega),decide_eq_false (show ¬ (bif true then -(n:Int) else (n:Int)) > 1099511627776 by show ¬ -(n:Int) > _;omega)];rfl
  | false=>rw [decide_eq_false (show ¬ (bif false then -(n:Int) else (n:Int)) < -1099511627776 by show ¬ (n:Int) < _;omega),decide_eq_false (show ¬ (bif false then -(n:Int) else (n:Int)) > 1099511627776 by show ¬ (n:Int) > _;omega)];rfl
section
variable (s:List UInt8) {u1:St->Bool} {w1:St->Bool×Unit} (h1:cn u1 w1 (Yp s (gB s).1 0) (λo=>o=MR (gB s).1))
include h1
theorem Bm {e:Res} (he:yv s=false->Run (rS uQ [.str s] []) SH.φN e) (hn:yv s=true->e=none):Run (rS uQ [.str s] []) SH.φN (cond (gR wd dB SH.φD (rIs (gB s)) [.str s,.str [45]] []) (cond (bif within 0 (wR wd dB SH.φD (rIs (gB s)) [.str s,.str [45]] []).1.length then true else !bif ((wR wd dB SH.φD (rIs (gB s)) [.str s,.str [45]] []).1==[])==false then true else false) (cond (Ln (wR wd dB SH.φD (rIs (gB s)) [.str s,.str [45]] [])) (some (.tup [.int .i64 0,.int .i64 1],[])) (cond (u1 (Yp s (wR wd dB SH.φD (rIs (gB s)) [.str s,.str [45]] []).1 0)) (cond (w1 (Yp s (wR wd dB SH.φD (rIs (gB s)) [.str s,.str [45]] []).1 0)).1 (some (.tup [.int .i64 0,.int .i64 1],[])) e) none)) none) none):=
 have bad:yv s=true->uQ s=(0,1):=λh=>by unfold uQ;rw [h];rfl
 .call (T:=λd=>cond (bif within 0 d.1.length then true else !bif (d.1==[])==false then true else false) (cond (Ln d) (some (.tup [.int .i64 0,.int .i64 1],[])) (cond (u1 (Yp s d.1 0)) (cond (w1 (Yp s d.1 0)).1 (some (.tup [.int .i64 0,.int .i64 1],[])) e) none)) none) (Pb s) λd qd=>by
  have qd:d=gB s:=qd
  subst qd
  refine .n (Rk _) (.b _ (λh=>.r (0,1) (.mk (bad (by rw [xK,h];rfl)).symm)) λh=>.lp (T:=λt=>cond t.1 _ e) h1 λt q=>.b _ (λht=>.r (0,1) (.mk (bad (by rw [q] at ht;rw [xK,ht,Bool.or_true])).symm)) λht=>he ?_)
  rw [q] at ht
  rw [xK,h,ht];rfl
end
theorem Hz (s:List UInt8) (hs:s.length<=1048576):aJ wd eH SH.φN (rS uQ) [.str s] []:=by
 cases hb:yv s with
 | true=>
  obtain ⟨u1,w1,h1,l1⟩:=xw s (gB s).1 [PF s]
  exact gC (V:=V0) [PF s] 1 l1 (Bm s h1 (e:=none) (λh=>by rw [hb] at h;cases h) λ_=>rfl) (by kernel_rfl)
 | false=>
  rcases LW hb with ⟨v,hv,hval⟩ | ⟨hv,hval⟩
  ·have ha:Ct wd.P wd.G nE [.str s] [] (SH.φI v):=by
    have h:=I8 s hs (.inl ⟨v,hv⟩)
    unfold Fs at h;rw [hv] at h;exact h
   haveI:=iq (T:=[]) ha
   obtain ⟨u1,w1,h1,l1⟩:=xw s (gB s).1 [PF s,lD nE [.str s] [] v SH.φI]
   exact gC (V:=V0) [PF s,lD nE [.str s] [] v SH.φI] 1 l1 (Bm s h1 (λ_=>.n (fp [.str s] []) (.b (bif bif !true then true else decide (v < -1099511627776) then true else decide (v > 1099511627776))
    (λh=>.r (0,3) (.mk (by rw [hval,HM] at h;unfold uQ;rw [hb,h];rfl))) λh=>.r (v,0) (.mk (by rw [hval,HM] at h;unfold uQ;rw [hb,h,hval];rfl)))) λh=>by rw [hb] at h;cases h) (by kernel_rfl)
  ·have ha:Ct wd.P wd.G nE [.str s] [] (SH.φJ (Lib.atoiSat s)):=by
    have h:=I8 s hs (.inr hv)
    unfold Fs at h;rw [hv] at h;exact h
   haveI:=iq (T:=[]) ha
   obtain ⟨u1,w1,h1,l1⟩:=xw s (gB s).1 [PF s,lD nE [.str s] [] (Lib.atoiSat s) SH.φJ]
   exact gC (V:=V0) [PF s,lD nE [.str s] [] (Lib.atoiSat s) SH.φJ] 1 l1 (Bm s h1 (λ_=>.n (fp [.str s] []) (.r (0,3) (.mk (by unfold uQ;rw [hb,decide_eq_true (show val 0 (gB s).1 > yp from hval)];rfl)))) λh=>by rw [hb] at h;cases h) (by kernel_rfl)
noncomputable abbrev V8:Ent:=bc wd eH SH.φN (rS uQ)
theorem KZ (s:List UInt8) (hs:s.length<=1048576):aJ wd CJ φ3P r3P [.str s] []:=by
 have hsp:=Pa s hs
 have hlen:∀p∈Lib.split s [46],p.length<=1048576:=λp hp=>Nat.le_trans (vu _ _ _ p hp) hs
 have no:gY s=false->Run (r3P [.str s] []) φ3P (some (.tup [.arr 1 3 λ_=>[.int .i64 0],.bool false],[])):=λe=>.r (λ_=>0,false) (.mk e.symm)
 by_cases h3:(Lib.split s [46]).length=3
 ·obtain ⟨a,b,c,he⟩:∃a b c,Lib.split s [46]=[a,b,c]:=by
   match hL:Lib.split s [46],h3 with
   | [a,b,c],_=>exact ⟨a,b,c,rfl⟩
  rw [he] at hsp hlen
  have hb:gY s=(!mX a&&(!mX b&&!mX c)):=by unfold gY;rw [he]
  haveI:=iq (T:=[]) (show Ct wd.P wd.G oc [.str s,.str [46]] [] (SH.φ3 (a,b,c)) from hsp)
  exact cW (V:=V0) [V8,lD oc [.str s,.str [46]] [] (a,b,c) SH.φ3] 1 (.n (fp [.str s,.str [46]] []) (.call (Hz a (hlen a (by simp))) λx1 y1=>
   have e1:(bif bif x1.2 !=0 then true else decide (x1.1 < 0) then true else decide (x1.1 > 999999))=mX a:=by rw [y1 _ rfl];rfl
   .b (bif bif x1.2 !=0 then true else decide (x1.1 < 0) then true else decide (x1.1 > 999999)) (λh=>no (by rw [e1] at h;rw [hb,h];rfl)) λh1=>.call (Hz b (hlen b (by simp))) λx2 y2=>
   have e2:(bif bif x2.2 !=0 then true else decide (x2.1 < 0) then true else decide (x2.1 > 999999))=mX b:=by rw [y2 _ rfl];rfl
   .b (bif bif x2.2 !=0 then true else decide (x2.1 < 0) then true else decide (x2.1 > 999999)) (λh=>no (by rw [e2] at h;rw [hb,h];cases mX a <;> rfl)) λh2=>.call (Hz c (hlen c (by simp))) λx3 y3=>
   have e3:(bif bif x3.2 !=0 then true else decide (x3.1 < 0) then true else decide (x3.1 > 999999))=mX c:=by rw [y3 _ rfl];rfl
   .b (bif bif x3.2 !=0 then true else decide (x3.1 < 0) then true else decide (x3.1 > 999999)) (λh=>no (by rw [e3] at h;rw [hb,h];cases mX a <;> cases mX b <;> rfl)) λh3=>
   .e ((λj=>bif Nat.beq j 2 then x3.1 else bif Nat.beq j 1 then x2.1 else bif Nat.beq j 0 then x1.1 else 0),true) (r:=(.tup [.arr 1 3 λj=>bif Nat.beq j (Int.toNat (IntKind.wrap .i64 (IntKind.wrap .i64 (0+1)+1))) then [.int .i64 x3.1] else bif Nat.beq j (Int.toNat (IntKind.wrap .i64 (0+1))) then [.int .i64 x2.1] else bif Nat.beq j (Int.toNat 0) then [.int .i64 x1.1] else [.int .i64 0],.bool true],[]))
    (.mk (by rw [e1] at h1;rw [e2] at h2;rw [e3] at h3;rw [hb,h1,h2,h3];rfl)) (by
    have e:(λj=>bif Nat.beq j (Int.toNat (IntKind.wrap .i64 (IntKind.wrap .i64 (0+1)+1))) then [AV.int .i64 x3.1] else bif Nat.beq j (Int.toNat (IntKind.wrap .i64 (0+1))) then [.int .i64 x2.1] else bif Nat.beq j (Int.toNat 0) then [.int .i64 x1.1] else [.int .i64 0])=λj=>[AV.int .i64 (bif Nat.beq j 2 then x3.1 else bif Nat.beq j 1 then x2.1 else bif Nat.beq j 0 then x1.1 else 0)]:=by
     funext j
     show (bif Nat.beq j 2 then [AV.int .i64 x3.1] else bif Nat.beq j 1 then [.int .i64 x2.1] else bif Nat.beq j 0 then [.int .i64 x1.1] else [.int .i64 0])=_
     cases Nat.beq j 2 <;> cases Nat.beq j 1 <;> cases Nat.beq j 0 <;> rfl
    unfold φ3P;rw [e]))) (by kernel_rfl)
 ·haveI:=iq (T:=[]) (show Ct wd.P wd.G oc [.str s,.str [46]] [] (SH.φR (Lib.split s [46])) from hsp)
  exact dy (V:=V0) (T:=[lD oc [.str s,.str [46]] [] (Lib.split s [46]) SH.φR]) (d:=1) 0 (L:=[([1,1,1,1,0,1,0],mkO (λ_=>false) (λ_=>()) Sy)]) (ah (λst k r h=>by unfold mkO at h;cases h) aE) aB (.n (fp [.str s,.str [46]] []) (.n (c:=((Lib.split s [46]).length:Int) !=3) (bne_iff_ne.2 (by omega)) (no (by
   unfold gY
   split
   ·rename_i h;rw [h] at h3;exact absurd rfl h3
   ·rfl)))) (by kernel_rfl)
noncomputable abbrev Ul:Ent:=bc wd CJ φ3P r3P
def rSh (v:VAL) (_:List AV) (_:List AO) (b:Bool):Prop:=1<=v.kind/\v.kind<=5->b=jl v
theorem J2 (v:VAL):aJ wd CI φB (rSh v) [.agg v.c] []:=by
 have e1:(bif v.text==[] then (v.list.length:Int)==0 else false)=(v.text==[]&&v.list.length==0):=by rw [dx,Bool.cond_false_right]
 have e2:(bif v.num==0 then (v.list.length:Int)==0 else false)=(v.num==0&&v.list.length==0):=by rw [dx,Bool.cond_false_right]
 have e3:(bif v.num==0 then v.text==[] else false)=(v.num==0&&v.text==[]):=Bool.cond_false_right _ _
 have a1:v.kind=1∨v.kind=2->jl v=(v.text==[]&&v.list.length==0):=λh=>by unfold jl;rw [decide_eq_true (show v.kind<=2 by omega)];rfl
 have a2:v.kind=3∨v.kind=4->jl v=(v.num==0&&v.list.length==0):=λh=>by unfold jl;rw [decide_eq_false (show ¬ v.kind<=2 by omega),decide_eq_true (show v.kind<=4 by omega)];rfl
 have a3:v.kind=5->jl v=(v.num==0&&v.text==[]):=λh=>by unfold jl;rw [decide_eq_false (show ¬ v.kind<=2 by omega),decide_eq_false (show ¬ v.kind<=4 by omega)];rfl
 have t:=λ(h1:(v.kind==1)=false) (h2:(v.kind==2)=false)=>Run.b (Post:=rSh v [.agg v.c] []) (φ:=SH.φB) (v.kind==3)
  (λh=>.b (v.kind==3) (λ_=>.r (bif v.num==0 then (v.list.length:Int)==0 else false) λ_=>by rw [e2,a2 (.inl (by simpa using h))]) λ_=>.r (bif v.num==0 then v.text==[] else false) λ_=>by exfalso;simp_all)
  λh3=>.b (v.kind==4) (λh=>.r (bif v.num==0 then (v.list.length:Int)==0 else false) λ_=>by rw [e2,a2 (.inr (by simpa using h))]) λh4=>.r (bif v.num==0 then v.text==[] else false) λhk=>by
   rw [e3,a3]
   simp only [beq_eq_false_iff_ne,ne_eq] at h1 h2 h3 h4
   omega
 exact cW (V:=V0) [] 9 (.b (v.kind==1) (λh=>.b (v.kind==1) (λ_=>.r (bif v.text==[] then (v.list.length:Int)==0 else false) λ_=>by rw [e1,a1 (.inl (by simpa using h))]) λh'=>t h' (by rw [show v.kind=1 by simpa using h];rfl)) λh1=>
  .b (v.kind==2) (λh=>.r (bif v.text==[] then (v.list.length:Int)==0 else false) λ_=>by rw [e1,a1 (.inr (by simpa using h))]) λh2=>t h1 h2) (by kernel_rfl)
noncomputable abbrev Ui (v:VAL):Ent:=bc wd CI φB (rSh v)
def V1Z (v:VAL) (i:Int):St:={env:=[(1,.ref 1 0),(64,cr v.list),(65,.int .i64 v.list.length),(66,.int .i64 i)],objs:=[(1,.cells v.c)]}
def V2Z (v:VAL) (i:Int):St:={env:=[(1,.ref 1 0),(76,.int .i64 v.list.length),(77,.int .i64 i)],objs:=[(1,.cells v.c)]}
theorem Ef (v:VAL) (hv:v.Ok):aJ wd rQ SH.φE rV [.agg v.c] []:=by
 have hm:=hv.2.1
 have ht:jg v.text:=by have:=hv.1;unfold jg HN;omega
 have mk:∀ {x:Int},x=cy v->rV [.agg v.c] [] x:=λh v' e=>by
  have e:v=v':=VAL.br (by simpa using e)
  rw [<-e];exact h
 obtain ⟨u1,w1,h1,l1⟩:=bQ (V:=V0) (T:=[Ul,Ui v,Jt]) (d:=9) (W:=[]) (f:=rQ) (p:=[1,1,1,0,1,0,1,1,1,1,1,1,1,1,1,0,1,0,1,0]) (Lf:=λL=>L) (V1Z v) v.list.length (λi=>bif !df (v.list.getD i []) then some () else none) (λ_ k=>k .ret {env:=[(2,.int .i64 2)],objs:=[]}) (λk=>k (.exit 1) {env:=[(1,.ref 1 0)],objs:=[(1,.cells v.c)]}) (by kernel_rfl)
  (λi a=>.n a.w (.call (ku _ (hv.2.at a.lt)) λb q=>.b (!b) (λh=>.sp () a (pa (by rw [<-q _ rfl];exact h))) λh=>.up a hm (pb (by rw [<-q _ rfl];exact h)))) (λi L k kn=>by kernel_rfl)
 obtain ⟨u2,w2,hz,l2⟩:=bQ (V:=V0) (T:=[Ul,Ui v,Jt]) (d:=9) (W:=[]) (f:=rQ) (p:=[1,1,1,0,1,0,1,1,1,1,1,1,1,1,1,0,1,1,1,0]) (Lf:=λL=>L) (V2Z v) v.list.length (λi=>bif decide (i > 0)&&!aG (v.list.getD (i - 1) []) (v.list.getD i []) then some () else none) (λ_ k=>k .ret {env:=[(2,.int .i64 9)],objs:=[]}) (λk=>k (.exit 3) {env:=[],objs:=[]}) (by kernel_rfl)
  (λi a=>.gp true a.lt hm (.gd (!bif decide ((i:Int) > 0)==true then true else false) a.w (.b (bif decide ((i:Int) > 0) then !aG (v.list.getD (Int.toNat (IntKind.wrap .i64 ((i:Int) - 1))) []) (v.list.getD (Int.toNat (i:Int)) []) else false)
   (λh=>.sp () a (pa (by rw [<-pv (λj=>!aG (v.list.getD j []) (v.list.getD i [])) a.lt hm];exact h))) λh=>.up a hm (pb (by rw [<-pv (λj=>!aG (v.list.getD j []) (v.list.getD i [])) a.lt hm];exact h))))) (λi L k kn=>by kernel_rfl)
 exact dy (V:=V0) (T:=[Ul,Ui v,Jt]) (d:=9) 0 (ah (l1 _) (ah (l2 _) aE)) aB (.b (bif decide (v.kind < 1) then true else decide (v.kind > 5)) (λh=>.r 7 (mk (by unfold cy;rw [<-Bool.cond_true_left,h];rfl))) λh=>
  have h1':(decide (v.kind < 1)||decide (v.kind > 5))=false:=by rw [<-Bool.cond_true_left];exact h
  have hk:1<=v.kind/\v.kind<=5:=by simp at h1';omega
  .call (J2 v) λb qb=>.b (!b) (λh2=>.r 15 (mk (by rw [qb hk] at h2;unfold cy;rw [h1',h2];rfl))) λh2=>
  have h2:(!jl v)=false:=by rw [qb hk] at h2;exact h2
  .b (v.kind==1) (λk=>.b (bif v.num !=0 then v.num !=1 else false) (λh3=>.r 3 (mk (by rw [Bool.cond_false_right] at h3;unfold cy;rw [h1',h2,k,h3];rfl))) λh3=>.r 0 (mk (by rw [Bool.cond_false_right] at h3;unfold cy;rw [h1',h2,k,h3];rfl))) λk1=>
  .b (v.kind==2) (λk=>.b (bif decide (v.num < -1099511627776) then true else decide (v.num > 1099511627776)) (λh3=>.r 3 (mk (by rw [Bool.cond_true_left] at h3;unfold cy;rw [h1',h2,k1,k,h3];rfl))) λh3=>.r 0 (mk (by rw [Bool.cond_true_left] at h3;unfold cy;rw [h1',h2,k1,k,h3];rfl))) λk2=>
  .b (v.kind==3) (λk=>.call (ku v.text ht) λb q=>.b (!b) (λh3=>.r 2 (mk (by rw [q _ rfl] at h3;unfold cy;rw [h1',h2,k1,k2,k,h3];rfl))) λh3=>.r 0 (mk (by rw [q _ rfl] at h3;unfold cy;rw [h1',h2,k1,k2,k,h3];rfl))) λk3=>
  .b (v.kind==4) (λk=>.call (KZ v.text hv.1) λb q=>.b (!b.2) (λh3=>.r 1 (mk (by rw [q _ rfl] at h3;unfold cy;rw [h1',h2,k1,k2,k3,k,h3];rfl))) λh3=>.r 0 (mk (by rw [q _ rfl] at h3;unfold cy;rw [h1',h2,k1,k2,k3,k,h3];rfl))) λk4=>
  have e5:cy v=bR v.list:=by unfold cy;rw [h1',h2,k1,k2,k3,k4];rfl
  .b (v.kind==5) (λk=>.b (decide ((v.list.length:Int) > 20)) (λh=>.r 5 (mk (by
   have h:decide (v.list.length > 20)=true:=(Jr _ 20).symm.trans h
   rw [e5];unfold bR;rw [h];rfl))) λh=>
   have h:decide (v.list.length > 20)=false:=(Jr _ 20).symm.trans h
   .lp h1 λt q=>have q:t=FW v.list:=q
   .b t.1 (λh3=>.r 2 (mk (by rw [q] at h3;rw [e5];unfold bR;rw [h,h3];rfl))) λh3=>.lp hz λt2 q2=>
   have q2:t2=zn v.list:=q2
   .b t2.1 (λh4=>.r 9 (mk (by rw [q] at h3;rw [q2] at h4;rw [e5];unfold bR;rw [h,h3,h4];rfl))) λh4=>.r 0 (mk (by rw [q] at h3;rw [q2] at h4;rw [e5];unfold bR;rw [h,h3,h4];rfl))) λk5=>.r 0 (mk (by
   exfalso
   have e1:v.kind≠1:=by simpa using k1
   have e2:v.kind≠2:=by simpa using k2
   have e3:v.kind≠3:=by simpa using k3
   have e4:v.kind≠4:=by simpa using k4
   have e5:v.kind≠5:=by simpa using k5
   omega))) (by kernel_rfl)
noncomputable abbrev SZ:Ent:=bc wd rQ SH.φE rV
def zy (p:PART):Bool:=bif !(bif decide (p.op≥6) then decide (p.op<=15) else false) then bif !p.kind==[] then true else bif !p.name==[] then p.op !=5 else false else false
def Es (p:PART):Bool:=bif p.op==8 then decide (p.vals.length > 0) else bif ee p.op&&p.op !=6 then p.vals.length==1 else p.vals.length==0
theorem Lc (p:PART):(ee p.op||(p.kind==[]&&(p.name==[]||p.op==5)))=!zy p:=by
 unfold zy ee
 rw [show (p.op !=5)=!(p.op==5) from rfl]
 cases (bif decide (p.op≥6) then decide (p.op<=15) else false) <;> cases p.kind==[] <;> cases p.name==[] <;> cases p.op==5 <;> rfl
theorem mU {p:PART} {K:Bool} (hK:K=(bif fh p.op then decide (p.n≥2) else bif p.op==4 then p.n==1 else p.n==0)):countB p=(K&&(!zy p&&Es p)):=by
 unfold countB Es
 rw [Lc,<-hK]
theorem lt2 (n:Nat):decide ((n:Int) < 2)=!decide (n≥2):=by
 by_cases h:n≥2
 ·rw [decide_eq_true h,decide_eq_false (by omega)];rfl
 ·rw [decide_eq_false h,decide_eq_true (by omega)];rfl
theorem Qe (p:PART):aJ wd C1 φB (rIs (countB p)) [.agg p.c] []:=
 have t:=λ(h:countB p=(!zy p&&Es p))=>Run.b (Post:=rIs (countB p) [.agg p.c] []) (φ:=SH.φB) (zy p) (λhn=>.r false (by unfold rIs;rw [h,hn];rfl)) λhn=>.b (p.op==8)
  (λh8=>.r (decide ((p.vals.length:Int) > 0)) (by unfold rIs;rw [h,hn,Es,h8,DM,H5];rfl)) λh8=>.b (bif ee p.op then p.op !=6 else false)
  (λh9=>.r ((p.vals.length:Int)==1) (by rw [Bool.cond_false_right] at h9;unfold rIs;rw [h,hn,Es,h8,h9,mm];rfl))
  λh9=>.r ((p.vals.length:Int)==0) (by rw [Bool.cond_false_right] at h9;unfold rIs;rw [h,hn,Es,h8,h9,dx];rfl)
 cW (V:=V0) [] 9 (.b (fh p.op) (λh=>.b (decide ((p.n:Int) < 2)) (λh2=>.r false (by
   rw [lt2] at h2
   unfold rIs;rw [mU (K:=false) (by rw [h];show false=decide (p.n≥2);simpa using h2.symm)];rfl)) λh2=>t (by
   rw [lt2] at h2
   rw [mU (K:=true) (by rw [h];show true=decide (p.n≥2);simpa using h2.symm)];rfl)) λh=>
  .b (p.op==4) (λh4=>.b ((p.n:Int) !=1) (λh2=>.r false (by
   have e:(p.n==1)=false:=by rw [<-mm];simpa using h2
   unfold rIs;rw [mU (K:=false) (by rw [h,h4,e];rfl)];rfl)) λh2=>t (by
   have e:(p.n==1)=true:=by rw [<-mm];simpa using h2
   rw [mU (K:=true) (by rw [h,h4,e];rfl)];rfl)) λh4=>
  .b (decide ((p.n:Int) > 0)) (λh2=>.r false (by
   have e:(p.n==0)=false:=by rw [<-dx];have:=of_decide_eq_true h2;exact beq_eq_false_iff_ne.2 (by omega)
   unfold rIs;rw [mU (K:=false) (by rw [h,h4,e];rfl)];rfl)) λh2=>t (by
   have e:(p.n==0)=true:=by rw [<-dx];have:=of_decide_eq_false h2;exact beq_iff_eq.2 (by omega)
   rw [mU (K:=true) (by rw [h,h4,e];rfl)];rfl)) (by kernel_rfl)
def P1Z (p:PART) (i:Int):St:={env:=[(2,.ref 2 0),(35,rI p),(36,.int .i64 p.n),(37,.int .i64 i)],objs:=[(2,.cells p.c)]}
def P2Z (p:PART) (i:Int):St:={env:=[(2,.ref 2 0),(83,jP p.vals),(84,.int .i64 p.vals.length),(85,.int .i64 i)],objs:=[(2,.cells p.c)]}
noncomputable abbrev Uj (p:PART):Ent:=bc wd C1 φB (rIs (countB p))
theorem NZ (p:PART) (hp:p.Ok) (d:Nat):aJ wd sW SH.φE (rIs (bif decide (d≥10) then 18 else jZ p)) [.agg p.c,.int .i64 (d:Int)] []:=by
 obtain ⟨u1,w1,h1,l1⟩:=bQ (V:=V0) (T:=[Uj p,k0,SZ]) (d:=9) (W:=[]) (f:=sW) (p:=[1,1,1,1,1,0,1,0]) (Lf:=λL=>L) (P1Z p) p.n (λi=>bif (bif p.ko i==p.op then fh p.op else false) then some () else none) (λ_ k=>k .ret {env:=[(4,.int .i64 15)],objs:=[]}) (λk=>k (.exit 0) {env:=[(2,.ref 2 0)],objs:=[(2,.cells p.c)]}) (by kernel_rfl)
  (λi a=>.n a.w (.b (bif p.ko i==p.op then fh p.op else false) (λh=>.sp () a (pa h)) λh=>.up a hp.2.2.2 (pb h))) (λi L k kn=>by kernel_rfl)
 obtain ⟨u2,w2,h2,l2⟩:=bQ (V:=V0) (T:=[Uj p,k0,SZ]) (d:=9) (W:=[]) (f:=sW) (p:=[1,1,1,1,1,1,1,0,1,0]) (Lf:=λL=>L) (P2Z p) p.vals.length (kr p.vals) (si 4) (λk=>k (.exit 2) {env:=[(2,.ref 2 0)],objs:=[(2,.cells p.c)]}) (by kernel_rfl)
  (λi a=>.n a.w (.call (Ef (p.vals.getD i default) (hp.2.2.1.at a.lt)) λt q=>.b (t !=0) (λh=>.sp t a (by rw [q _ rfl] at h ⊢;unfold kr;rw [h];rfl)) λh=>.up a hp.2.2.1.1 (by rw [q _ rfl] at h;unfold kr;rw [h];rfl))) (λi L k kn=>by kernel_rfl)
 have dd:decide ((d:Int)≥10)=decide (d≥10):=by
  by_cases h:d≥10
  ·rw [decide_eq_true h,decide_eq_true (by omega)]
  ·rw [decide_eq_false h,decide_eq_false (by omega)]
 exact dy (V:=V0) (T:=[Uj p,k0,SZ]) (d:=9) 0 (ah (l1 _) (ah (l2 _) aE)) aB (.b (decide ((d:Int)≥10)) (λh=>.r 18 (by rw [dd] at h;unfold rIs;rw [h];rfl)) λhd=>
  have mk:∀ {x:Int},x=jZ p->rIs (bif decide (d≥10) then 18 else jZ p) [.agg p.c,.int .i64 (d:Int)] [] x:=λhx=>by rw [dd] at hd;unfold rIs;rw [hd];exact hx
  .b (bif decide (p.op < 1) then true else decide (p.op > 15)) (λh=>.r 7 (mk (by rw [Bool.cond_true_left] at h;rw [mL,h];rfl))) λh=>
  have h:(decide (p.op < 1)||decide (p.op > 15))=false:=by rw [<-Bool.cond_true_left];exact h
  .call (Qe p) λb qb=>.b (!b) (λhb=>.r 15 (mk (by rw [show b=countB p from qb] at hb;rw [mL,h,hb];rfl))) λhb=>
  have hb:(!countB p)=false:=by rw [<-show b=countB p from qb];exact hb
  have hc:countB p=true:=by simpa using hb
  have e:jZ p=nD p:=by rw [mL,h,hb];rfl
  .b (bif decide ((p.n:Int) > 12) then true else decide ((p.vals.length:Int) > 20)) (λh5=>.r 5 (mk (by rw [Bool.cond_true_left,oM,oL] at h5;rw [e,nD,h5];rfl))) λh5=>
  have h5:(decide (p.n > 12)||decide (p.vals.length > 20))=false:=by rw [<-oM,<-oL,<-Bool.cond_true_left];exact h5
  .lp h1 λt q=>
  have q:t=jK p (fh p.op):=q
  .b t.1 (λh3=>.r 15 (mk (by rw [q] at h3;rw [e,nD,h5,h3];rfl))) λh3=>
  have h3:(jK p (fh p.op)).1=false:=by rw [<-q];exact h3
  .call (dT p.kind) λx qx=>.call (dT p.name) λy qy=>
  .b (bif bif ee p.op then !x else false then true else bif bif ee p.op then true else p.op==5 then !y else false) (λh6=>.r 6 (mk (by rw [DD,qx _ rfl,qy _ rfl] at h6;rw [e,nD,h5,h3,h6];rfl))) λh6=>
  have h6:((ee p.op&&!ea p.kind)||((ee p.op||p.op==5)&&!ea p.name))=false:=by rw [<-qx _ rfl,<-qy _ rfl,<-DD];exact h6
  .lp h2 λs qs=>have qs:s=ji p.vals:=qs
  .b s.1 (λh7=>.r s.2 (mk (by rw [qs] at h7 ⊢;rw [e,nD,h5,h3,h6,h7];rfl))) λh7=>
  have h7:(ji p.vals).1=false:=by rw [<-qs];exact h7
  .n (c:=bif within 0 p.vals.length then true else !bif (cZ p.op)==true then true else false) (zx hc) (.b (bif cZ p.op then (p.vals.getD (Int.toNat 0) default).kind !=3 else false)
   (λh8=>.r 8 (mk (by rw [Bool.cond_false_right] at h8;rw [e,nD,h5,h3,h6,h7,show (cZ p.op&&(p.vals.getD 0 default).kind !=3)=true from h8];rfl)))
   λh8=>.r 0 (mk (by rw [Bool.cond_false_right] at h8;rw [e,nD,h5,h3,h6,h7,show (cZ p.op&&(p.vals.getD 0 default).kind !=3)=false from h8];rfl)))) (by kernel_rfl)
def E1Z (p:PART) (d:Nat) (x:Bool×Nat×Nat):St:={env:=[(1,.int .i64 d),(2,.ref aa 0),(27,rI p),(28,.int .i64 p.n),(29,.int .i64 x.2.1)],objs:=bif x.1 then [(3,.cells p.c),(aa,vd x.2.2)] else [(aa,vd x.2.2)]}
noncomputable abbrev Ue:Ent:=bc wd w0 SH.φW (rW 0)
noncomputable abbrev ePt (e:EXP) (d:Nat):Ent:=bc wd sW SH.φE (rIs (fH e d))
theorem M1:∀e:EXP,e.Ok->∀d n:Nat,d<=10->aJ wd w0 SH.φW (rW 0) [.agg e.c,.int .i64 ((d+0:Nat):Int),.ref aa 0] [vd n]:=by
 intro e he
 induction he with
 | mk e h1 h2 h3 h4 h5 ih=>
 intro d n hd
 have he:e.Ok:=.mk e h1 h2 h3 h4 h5
 have hw:=Cz e d n
 have pn:e.part.n=e.kids.length:=rfl
 obtain ⟨u,w,hu,hl⟩:=aw (V:=V0) (T:=[ePt e d,Ue]) (d:=1) (W:=[]) (f:=w0) (p:=[1,1,1,1,0,1,0]) (Lf:=λL=>L) (E1Z e.part d) (λx=>(d < 10/\x.2.1<=e.kids.length)/\AG e.kids (d+1) x.2.1 x.2.2=jN e.kids (d+1) (n+1)) (λx=>e.kids.length - x.2.1) QL (λo=>o.1=(o.2.1 !=0)/\o.2=jN e.kids (d+1) (n+1)) (by kernel_rfl)
  (λx hx=>.b (decide ((x.2.1:Int) < (e.part.n:Int))) (λh=>
    have hi:x.2.1 < e.kids.length:=pN h
    have wd1:IntKind.wrap .i64 ((d:Int)+1)=((d+1:Nat):Int):=bg (by omega)
    have hd1:d < 10:=hx.1.1
    .n (dD hi) (.call (f:=w0) (R:=rW 0) (ψ:=SH.φW) (l:=[.agg (vO e.part x.2.1),.int .i64 (IntKind.wrap .i64 ((d:Int)+1)),.ref aa 0]) (os:=[vd x.2.2]) (by rw [iZ hi,wd1];exact ih _ (HY hi) (d+1) x.2.2 (by omega)) λt q=>
     have q:t=gS (e.kid x.2.1) (d+1) x.2.2:=q (e.kid x.2.1) (d+1) x.2.2 (by rw [iZ hi,wd1]) rfl
     have st:=vk e.kids (d+1) x.2.2 hi
     .b (t.1 !=0) (λhb=>.fi (true,t) ⟨hb.symm,by rw [<-hx.2,st,show e.kids.getD x.2.1 default=e.kid x.2.1 from rfl,<-q,hb];rfl⟩)
      λhb=>.go {env:=[(1,.int .i64 d),(2,.ref aa 0),(27,rI e.part),(28,.int .i64 e.part.n),(29,.int .i64 (IntKind.wrap .i64 ((x.2.1:Int)+1)))],objs:=[(aa,vd t.2)]} (false,x.2.1+1,t.2)
       ⟨⟨hx.1.1,hi⟩,by rw [<-hx.2,st,show e.kids.getD x.2.1 default=e.kid x.2.1 from rfl,<-q,hb];rfl⟩ (by show e.kids.length - (x.2.1+1) < e.kids.length - x.2.1;omega) (by rw [bg (by omega)];rfl)))
   λh=>.fi (false,0,x.2.2) ⟨rfl,by rw [<-hx.2,yz];have:=of_decide_eq_false h;rw [pn] at this;omega⟩) (λv L k kn=>by obtain ⟨b,i,n⟩:=v;cases b <;> kernel_rfl)
 have w1:¬ n≥60->IntKind.wrap .i64 ((n:Int)+1)=((n+1:Nat):Int):=λh=>bg (by omega)
 have pe:aJ wd sW SH.φE (rIs (fH e d)) [.agg e.part.c,.int .i64 (d:Int)] []:=NZ e.part he.part d
 rw [<-e.ca]
 exact gC (V:=V0) [ePt e d,Ue] 1 hl (.b (decide ((n:Int)≥60)) (λh=>.r (5,n) (by rw [e.ca];exact .mk (by rw [SK] at h;rw [hw,h];rfl))) λh=>
  have h:decide (n≥60)=false:=by rw [<-SK];exact h
  have w1:=w1 (of_decide_eq_false h)
  .call pe λt q=>have q:t=fH e d:=q
  .b (t !=0) (λh3=>.e (t,n+1) (r:=(.int .i64 t,[vd (IntKind.wrap .i64 ((n:Int)+1))])) (by rw [e.ca];exact .mk (by rw [hw,h,<-q,h3];rfl)) (by rw [w1];rfl)) λh3=>
  have hd1:d < 10:=by
   rcases Nat.lt_or_ge d 10 with hh | hh
   ·exact hh
   ·rw [q,fH,decide_eq_true hh] at h3;cases h3
  have hz:gS e d n=jN e.kids (d+1) (n+1):=by rw [hw,h,<-q,h3];rfl
  have hs:cn u w {env:=[(1,.int .i64 d),(2,.ref aa 0),(27,rI e.part),(28,.int .i64 e.part.n),(29,.int .i64 0)],objs:=[(3,.cells e.part.c),(aa,vd (IntKind.wrap .i64 ((n:Int)+1)))]} (λo=>o.1=(o.2.1 !=0)/\o.2=jN e.kids (d+1) (n+1)):=by rw [w1];exact hu (true,0,n+1) ⟨⟨hd1,Nat.zero_le _⟩,rfl⟩
  .lp hs λo qo=>.b o.1 (λh4=>.r (o.2.1,o.2.2) (by rw [e.ca];exact .mk (by rw [hz,<-qo.2]))) λh4=>.r (0,o.2.2) (by
   rw [e.ca];exact .mk (by
    rw [hz,<-qo.2]
    have h5:(o.2.1 !=0)=false:=qo.1.symm.trans h4
    have h5:o.2.1=0:=by simpa using h5
    rw [<-h5]))) (by kernel_rfl)
theorem J6 (e:EXP) (he:e.Ok):aJ wd w7 SH.φE (rIs (gq e)) [.agg e.c] []:=by
 have h:=M1 e he 0 0 (Nat.zero_le _)
 rw [<-e.ca] at h ⊢
 exact cW (V:=V0) [Ue] 1 (.call h λt q=>.r t.1 (by have q:=q e 0 0 (by rw [e.ca]) rfl;rw [q];rfl)) (by kernel_rfl)
def rWh (l:List AV) (_:List AO) (x:Int):Prop:=∀b e,l=[.bool b,.int .i64 e]->x=bif b then e else 0
theorem bW (b:Bool) (e:Int):aJ wd Gt SH.φE rWh [.bool b,.int .i64 e] []:=
 have mk:∀ {x:Int},x=(bif b then e else 0)->rWh [.bool b,.int .i64 e] [] x:=λh b' e' q=>by
  simp only [List.cons.injEq,AV.bool.injEq,AV.int.injEq,true_and,and_true] at q
  rw [h,q.1,q.2]
 cW (V:=V0) [] 3 (.b b (λh=>.r e (mk (by rw [h];rfl))) λh=>.r 0 (mk (by rw [h];rfl))) (by kernel_rfl)
noncomputable abbrev nd:Ent:=bc wd Gt SH.φE rWh
theorem Oe (e:EXP):aJ wd AU φB (rIs (kS e)) [.agg e.c] []:=by
 rw [e.yu]
 exact cW (V:=V0) [] 2 (.r (bif bif bif bif e.op==0 then e.kind==[] else false then e.name==[] else false then (e.vals.length:Int)==0 else false then (e.kids.length:Int)==0 else false) (HB e)) (by kernel_rfl)
theorem yR (l:List (Int×Int×Int)) (n:Int) (hm:l.length<=4611686018427387904):aJ wd r6 SH.φE (rIs (eI l n)) [ou l,.int .i64 n] []:=by
 obtain ⟨u,w,hu,hl⟩:=lN (V:=V0) (T:=[nd]) (d:=3) (W:=[]) (f:=r6) (p:=[1,1,1,0,1,0]) (Lf:=λL=>L) (λi:Nat=>Ss l n (eF l i) i) l.length (·+1) (s1 _) (fw l n) (si 4) (λi k=>k (.exit 0) {env:=[(5,.ref 5 0)],objs:=[(5,.cells (kl (eF l i)))]}) (λi=>decide ((i:Int) < (l.length:Int))) (λi=>Oi i _) (by kernel_rfl)
  (λi a=>.n a.w (.b (bif decide ((l.getD i (0,0,0)).2.2 < 1) then true else decide ((l.getD i (0,0,0)).2.2 > n)) (λh=>.sp 3 a (by rw [Bool.cond_true_left] at h;unfold fw;rw [h];rfl)) λh=>
   have h:(decide ((l.getD i (0,0,0)).2.2 < 1)||decide ((l.getD i (0,0,0)).2.2 > n))=false:=by rw [<-Bool.cond_true_left];exact h
   .b (bif bif (l.getD i (0,0,0)).1 !=(eF l i).2.1 then true else decide ((l.getD i (0,0,0)).2.1<=(l.getD i (0,0,0)).1) then true else (l.getD i (0,0,0)).2.2==(eF l i).2.2)
    (λh2=>.sp 9 a (by rw [Bool.cond_true_left,Bool.cond_true_left,Bool.or_assoc] at h2;unfold fw;rw [h,h2];rfl))
    λh2=>.on {env:=[(1,.int .i64 n),(5,.ref 5 0),(12,ou l),(13,.int .i64 l.length),(14,.int .i64 (IntKind.wrap .i64 ((i:Int)+1)))],objs:=[(5,.cells (kl (l.getD i (0,0,0))))]} a (by rw [Bool.cond_true_left,Bool.cond_true_left,Bool.or_assoc] at h2;unfold fw;rw [h,h2];rfl) (by rw [jY,bg (by have:=a.lt;omega)];rfl))) (λi L k kn=>by kernel_rfl)
 exact gC (V:=V0) [nd] 3 hl (.b (decide ((l.length:Int) > 16)) (λh=>.r 5 (by
   have h:decide (l.length > 16)=true:=(Jr _ 16).symm.trans h
   unfold rIs eI;rw [h];rfl)) λh=>
  have h:decide (l.length > 16)=false:=(Jr _ 16).symm.trans h
  .lp hu λt q=>have q:t=od l n:=q
  .b t.1 (λh3=>.r t.2 (by rw [q] at h3 ⊢;unfold rIs eI;rw [h,h3];rfl)) λh3=>.call (bW ((eF l l.length).2.1 !=10000) 3) λx qx=>.r x (by rw [qx _ _ rfl];rw [q] at h3;unfold rIs eI;rw [h,h3];rfl)) (by kernel_rfl)
def SpZ (l:List (Int×Int)) (i:Int):St:={env:=[(0,AP l),(8,AP l),(9,.int .i64 l.length),(10,.int .i64 i)],objs:=[]}
theorem Oz (a b:Int):(!bif bif decide (0<=a) then decide (a < b) else false then decide (b<=10000) else false)=(decide (a < 0)||(decide (a≥b)||decide (b > 10000))):=by
 by_cases h1:0<=a <;> by_cases h2:a < b <;> by_cases h3:b<=10000 <;> simp [h1,h2,h3] <;> omega
theorem Gk (l:List (Int×Int)) (hm:l.length<=4611686018427387904):aJ wd w5 SH.φE (rIs (nh l)) [AP l] []:=by
 obtain ⟨u,w,hu,hl⟩:=bQ (V:=V0) (T:=[]) (d:=3) (W:=[]) (f:=w5) (p:=[1,1,0,1,0]) (Lf:=λL=>L) (SpZ l) l.length (iw l) (si 2) (λk=>k (.exit 0) {env:=[],objs:=[]}) (by kernel_rfl)
  (λi a=>
   have c:=pv (λj=>decide ((l.getD i (0,0)).1<=(l.getD j (0,0)).2)) a.lt hm
   .n a.w (.b (!bif bif decide (0<=(l.getD i (0,0)).1) then decide ((l.getD i (0,0)).1 < (l.getD i (0,0)).2) else false then decide ((l.getD i (0,0)).2<=10000) else false) (λh=>.sp 3 a (by rw [Oz] at h;unfold iw;rw [h];rfl)) λh=>
   .gp true a.lt hm (.b (bif decide ((i:Int) > 0) then decide ((l.getD i (0,0)).1<=(l.getD (Int.toNat (IntKind.wrap .i64 ((i:Int) - 1))) (0,0)).2) else false)
    (λh2=>.sp 9 a (by rw [Oz] at h;unfold iw;rw [h,<-c,h2];rfl)) λh2=>.up a hm (by rw [Oz] at h;unfold iw;rw [h,<-c,h2];rfl)))) (λi L k kn=>by kernel_rfl)
 exact gC (V:=V0) [] 3 hl (.b (decide ((l.length:Int) > 16)) (λh=>gI (n:=16) h) λh=>.lp hu λt q=>gH (n:=16) q h) (by kernel_rfl)
def SkZ (l:List (List UInt8)) (i:Int):St:={env:=[(0,cr l),(8,cr l),(9,.int .i64 l.length),(10,.int .i64 i)],objs:=[]}
theorem JX (l:List (List UInt8)) (hl:jj l):aJ wd wZ SH.φE (rIs (Br l)) [cr l] []:=by
 have hm:=hl.1
 obtain ⟨u,w,hu,hlo⟩:=bQ (V:=V0) (T:=[Jt]) (d:=3) (W:=[]) (f:=wZ) (p:=[1,1,0,1,0]) (Lf:=λL=>L) (SkZ l) l.length (kT l) (si 2) (λk=>k (.exit 0) {env:=[],objs:=[]}) (by kernel_rfl)
  (λi a=>
   have c:=pv (Mp l i) a.lt hm
   .n a.w (.call (ku (l.getD i []) (hl.at a.lt)) λb q=>.b (bif l.getD i []==[] then true else !b) (λh=>.sp 2 a (by rw [q _ rfl,Bool.cond_true_left] at h;unfold kT;rw [h];rfl)) λh=>
   have h:(l.getD i []==[]||!df (l.getD i []))=false:=by rw [<-q _ rfl,<-Bool.cond_true_left];exact h
   .gp true a.lt hm (.b (bif decide ((i:Int) > 0) then Mp l i (Int.toNat (IntKind.wrap .i64 ((i:Int) - 1))) else false)
    (λh2=>.sp 9 a (by rw [c] at h2;unfold Mp at h2;unfold kT;rw [h,h2];rfl)) λh2=>.up a hm (by rw [c] at h2;unfold Mp at h2;unfold kT;rw [h,h2];rfl)))) (λi L k kn=>by kernel_rfl)
 exact gC (V:=V0) [Jt] 3 hlo (.b (decide ((l.length:Int) > 40)) (λh=>gI (n:=40) h) λh=>.lp hu λt q=>gH (n:=40) q h) (by kernel_rfl)
theorem Gl (v:SERVE) (n:Int) (hv:v.Ok):aJ wd r7 SH.φE (rIs (cB v n)) [.agg v.c,.int .i64 n] []:=by
 obtain ⟨h1,h2,h3,h4⟩:=hv
 exact cW (V:=V0) [k0,Jt,nd,bc wd r6 SH.φE (rIs (eI v.split n))] 9 (.b (v.var !=0) (λa=>.call (bW (bif decide (v.var < 1) then true else decide (v.var > n)) 3) λx qx=>.call (bW (bif bif bif !v.kind==[] then true else !v.by'==[] then true else !v.salt==[] then true else decide ((v.split.length:Int) > 0)) 15) λy qy=>
   have qx:x=_:=qx _ _ rfl
   have qy:y=_:=qy _ _ rfl
   .b (x !=0) (λb=>.r x (by rw [qx,Bool.cond_true_left] at b ⊢;unfold rIs cB;rw [a];cases hb:(decide (v.var < 1)||decide (v.var > n)) <;> rw [hb] at b <;> first | rfl | cases b)) λb=>
   have hb:(decide (v.var < 1)||decide (v.var > n))=false:=by rw [qx,Bool.cond_true_left] at b;cases hb:(decide (v.var < 1)||decide (v.var > n)) <;> rw [hb] at b <;> first | rfl | cases b
   have e:cB v n=y:=by rw [qy];simp only [Bool.cond_true_left,Bool.or_assoc];unfold cB;rw [a,hb];rfl
   .b (y !=0) (λc=>.r y e.symm) λc=>.r 0 (by unfold rIs;rw [e];exact (by simpa using c:y=0).symm))
  λa=>.call (dT v.kind) λx qx=>.call (dT v.by') λy qy=>.call (bW (bif !x then true else !y) 6) λt1 q1=>.call (ku v.salt h3) λz qz=>.call (bW (!z) 2) λt2 q2=>.call (yR v.split n h4) λt q=>
   have q1:t1=bif !ea v.kind||!ea v.by' then 6 else 0:=by rw [q1 _ _ rfl,qx _ rfl,qy _ rfl,Bool.cond_true_left]
   have q2:t2=bif !df v.salt then 2 else 0:=by rw [q2 _ _ rfl,qz _ rfl]
   have q:t=eI v.split n:=q
   have e:cB v n=bif t1 !=0 then t1 else bif t2 !=0 then t2 else t:=by
    unfold cB;rw [a,q1,q2,q]
    cases (!ea v.kind||!ea v.by') <;> cases !df v.salt <;> rfl
   .b (t1 !=0) (λc=>.r t1 (by unfold rIs;rw [e,c];rfl)) λc=>.b (t2 !=0) (λc2=>.r t2 (by unfold rIs;rw [e,c,c2];rfl)) λc2=>.b (t !=0) (λc3=>.r t (by unfold rIs;rw [e,c,c2];rfl)) λc3=>.r 0 (by unfold rIs;rw [e,c,c2];exact (by simpa using c3:t=0).symm)) (by kernel_rfl)
def UC:List AV->Int
 | [.int _ v]=>v
 | _=>0
def orN:Nat->Nat->(Nat->List AV)->Int
 | 0,_,_=>0
 | k+1,j,g=>bif UC (g j) !=0 then UC (g j) else orN k (j+1) g
def KI (l:List AV) (_:List AO) (x:Int):Prop:=∀n g,l=[.sl .fit 1 n g]->x=orN n 0 g
abbrev fI (l:List (Nat×AV)):Nat->List AV:=ae [.int .i64 0] l
theorem KI.mk {n:Nat} {g:Nat->List AV} {x:Int} (h:x=orN n 0 g):KI [.sl .fit 1 n g] [] x:=λn' g' e=>by
 simp only [List.cons.injEq,AV.sl.injEq,true_and,and_true] at e
 rw [h,e.1,e.2]
theorem UW {x:Int} (h:(x !=0)=false):(0:Int)=x:=(by simpa using h:x=0).symm
theorem zo {b:Bool} {x y:Int} (h:b=true):x=bif b then x else y:=by rw [h];rfl
theorem jI {b:Bool} {x y z:Int} (h:b=false) (e:z=y):z=bif b then x else y:=by rw [h];exact e
theorem MA (a b:Int):aJ wd og SH.φE KI [.sl .fit 1 2 (fI [(0,.int .i64 a),(1,.int .i64 b)])] []:=
 cW (V:=V0) [] 9 (.b (a !=0) (λh=>.r a (.mk (zo h))) λh=>.b (b !=0) (λh2=>.r b (.mk (jI h (zo h2)))) λh2=>.r 0 (.mk (jI h (jI h2 rfl)))) (by kernel_rfl)
theorem Mz (a b c:Int):aJ wd og SH.φE KI [.sl .fit 1 3 (fI [(0,.int .i64 a),(1,.int .i64 b),(2,.int .i64 c)])] []:=
 cW (V:=V0) [] 9 (.b (a !=0) (λh=>.r a (.mk (zo h))) λh=>.b (b !=0) (λh2=>.r b (.mk (jI h (zo h2)))) λh2=>.b (c !=0) (λh3=>.r c (.mk (jI h (jI h2 (zo h3))))) λh3=>.r 0 (.mk (jI h (jI h2 (jI h3 rfl))))) (by kernel_rfl)
theorem z7 (a b c d:Int):aJ wd og SH.φE KI [.sl .fit 1 4 (fI [(0,.int .i64 a),(1,.int .i64 b),(2,.int .i64 c),(3,.int .i64 d)])] []:=
 cW (V:=V0) [] 9 (.b (a !=0) (λh=>.r a (.mk (zo h))) λh=>.b (b !=0) (λh2=>.r b (.mk (jI h (zo h2)))) λh2=>.b (c !=0) (λh3=>.r c (.mk (jI h (jI h2 (zo h3))))) λh3=>.b (d !=0) (λh4=>.r d (.mk (jI h (jI h2 (jI h3 (zo h4)))))) λh4=>.r 0 (.mk (jI h (jI h2 (jI h3 (jI h4 rfl)))))) (by kernel_rfl)
theorem Rr (a b c d e f:Int):aJ wd og SH.φE KI [.sl .fit 1 6 (fI [(0,.int .i64 a),(1,.int .i64 b),(2,.int .i64 c),(3,.int .i64 d),(4,.int .i64 e),(5,.int .i64 f)])] []:=
 cW (V:=V0) [] 9 (.b (a !=0) (λh=>.r a (.mk (zo h))) λh=>.b (b !=0) (λh2=>.r b (.mk (jI h (zo h2)))) λh2=>.b (c !=0) (λh3=>.r c (.mk (jI h (jI h2 (zo h3))))) λh3=>.b (d !=0) (λh4=>.r d (.mk (jI h (jI h2 (jI h3 (zo h4)))))) λh4=>
  .b (e !=0) (λh5=>.r e (.mk (jI h (jI h2 (jI h3 (jI h4 (zo h5))))))) λh5=>.b (f !=0) (λh6=>.r f (.mk (jI h (jI h2 (jI h3 (jI h4 (jI h5 (zo h6)))))))) λh6=>.r 0 (.mk (jI h (jI h2 (jI h3 (jI h4 (jI h5 (jI h6 rfl)))))))) (by kernel_rfl)
noncomputable abbrev j7:Ent:=bc wd og SH.φE KI
def mxI (i:Nat):Int:=bif decide (0 > IntKind.wrap .i64 ((i:Int) - 1)) then 0 else IntKind.wrap .i64 ((i:Int) - 1)
theorem Mr {i n:Nat} (h:i < n) (hn:n<=4611686018427387904):mxI i=((i - 1:Nat):Int):=by
 unfold mxI
 rw [wrap_i64 (by omega) (by omega)]
 by_cases h0:i=0
 ·subst h0;rfl
 ·rw [decide_eq_false (by omega),cond_false];omega
theorem TD {i n:Nat} (c:Bool) (h:i < n) (hn:n<=4611686018427387904):(bif within (mxI i) n then true else c)=true:=gw (by rw [Mr h hn];exact dD (by omega))
theorem TA (G:Nat->Bool) {i n:Nat} (h:i < n) (hn:n<=4611686018427387904):(bif decide ((i:Int) > 0) then G (Int.toNat (mxI i)) else false)=(decide (i > 0)&&G (i - 1)):=by
 rw [Mr h hn,Int.toNat_natCast]
 by_cases h0:i > 0
 ·rw [decide_eq_true h0,decide_eq_true (show (i:Int) > 0 by omega)];rfl
 ·rw [decide_eq_false h0,decide_eq_false (show ¬ (i:Int) > 0 by omega)];rfl
def PqZ (l:List PRQ) (i:Int):St:={env:=[(0,Mo l),(9,Mo l),(10,.int .i64 l.length),(11,.int .i64 i)],objs:=[]}
theorem JT (l:List PRQ) (hl:okL (λp:PRQ=>jg p.flag) l):aJ wd ib SH.φE (rIs (Hq l)) [Mo l] []:=by
 have hm:=hl.big
 obtain ⟨u,w,hu,hlo⟩:=bQ (V:=V0) (T:=[k0,nd,j7]) (d:=3) (W:=[]) (f:=ib) (p:=[1,1,0,1,0]) (Lf:=λL=>L) (PqZ l) l.length (kL l) (si 2) (λk=>k (.exit 0) {env:=[],objs:=[]}) (by kernel_rfl)
  (λi a=>
   have c:=TA (λj=>aG (l.getD i default).flag (l.getD j default).flag||(l.getD i default).flag==(l.getD j default).flag) a.lt hm
   .n a.w (.call (dT (l.getD i default).flag) λb q=>.call (bW (!b) 6) λt1 q1=>.n (TD (!bif decide ((i:Int) > 0)==true then true else false) a.lt hm)
   (.call (bW (bif decide ((i:Int) > 0) then (aG (l.getD i default).flag (l.getD (Int.toNat (mxI i)) default).flag||(l.getD i default).flag==(l.getD (Int.toNat (mxI i)) default).flag) else false) 9) λt2 q2=>
   .call (bW (bif decide ((l.getD i default).var < 1) then true else decide ((l.getD i default).var > 8)) 3) λt3 q3=>.call (Mz t1 t2 t3) λt qt=>
   have e:kL l i=bif t !=0 then some t else none:=by
    have y:t=bif t1 !=0 then t1 else bif t2 !=0 then t2 else bif t3 !=0 then t3 else 0:=qt _ _ rfl
    rw [y,q1 _ _ rfl,q2 _ _ rfl,q3 _ _ rfl,q _ rfl,c,Bool.cond_true_left]
    unfold kL
    cases !ea (l.getD i default).flag <;> cases (decide (i > 0)&&(aG (l.getD i default).flag (l.getD (i - 1) default).flag||(l.getD i default).flag==(l.getD (i - 1) default).flag)) <;> cases (decide ((l.getD i default).var < 1)||decide ((l.getD i default).var > 8)) <;> rfl
   .b (t !=0) (λh=>.sp t a (by rw [e,h];rfl)) λh=>.up a hm (by rw [e,h];rfl)))) (λi L k kn=>by kernel_rfl)
 exact gC (V:=V0) [k0,nd,j7] 3 hlo (.b (decide ((l.length:Int) > 4)) (λh=>gI (n:=4) h) λh=>.lp hu λt q=>gH (n:=4) q h) (by kernel_rfl)
noncomputable abbrev O5:Ent:=bc wd wZ SH.φE (rC aM Br)
noncomputable abbrev eSX:Ent:=bc wd w7 SH.φE (rC aX gq)
noncomputable abbrev SU (n:Nat):Ent:=bc wd r7 SH.φE (rC (aS n) λv=>cB v n)
theorem Gp (l:List (List UInt8)) (hl:jj l):aJ wd wZ SH.φE (rC aM Br) [cr l] []:=aJ.rC MW (JX l hl)
theorem S7 (e:EXP) (he:e.Ok):aJ wd w7 SH.φE (rC aX gq) [.agg e.x] []:=by rw [EXP.FI];exact aJ.rC MU (J6 e he)
theorem P0 (n:Nat) (v:SERVE) (hv:v.Ok):aJ wd r7 SH.φE (rC (aS n) λv=>cB v n) [.agg v.c,.int .i64 n] []:=aJ.rC (E:=λv=>cB v n) (MV n) (Gl v n hv)
def TgZ (l:List TGT) (n:Nat) (i:Int):St:={env:=[(1,.int .i64 n),(11,M5 l),(12,.int .i64 l.length),(13,.int .i64 i)],objs:=[]}
theorem JR (l:List TGT) (n:Nat) (hl:okL TGT.Ok l):aJ wd pA SH.φE (rIs (Jn l n)) [M5 l,.int .i64 n] []:=by
 have hm:=hl.big
 obtain ⟨u,w,hu,hlo⟩:=bQ (V:=V0) (T:=[k0,nd,j7,O5]) (d:=3) (W:=[]) (f:=pA) (p:=[1,1,0,1,0]) (Lf:=λL=>L) (TgZ l n) l.length (kx l n) (si 4) (λk=>k (.exit 0) {env:=[],objs:=[]}) (by kernel_rfl)
  (λi a=>.n a.w (.call (dT (l.getD i default).kind) λb q=>.call (bW (!b) 6) λt1 q1=>.call (bW (bif decide ((l.getD i default).var < 1) then true else decide ((l.getD i default).var > (n:Int))) 3) λt2 q2=>
   .call (bW (((l.getD i default).keys.length:Int)==0) 3) λt3 q3=>.call (Gp _ (hl.at a.lt).2) λt4 q4=>.call (z7 t1 t2 t3 t4) λt qt=>
   have e:kx l n i=bif t !=0 then some t else none:=by
    have y:t=bif t1 !=0 then t1 else bif t2 !=0 then t2 else bif t3 !=0 then t3 else bif t4 !=0 then t4 else 0:=qt _ _ rfl
    rw [y,q1 _ _ rfl,q2 _ _ rfl,q3 _ _ rfl,q4 _ rfl,q _ rfl,dx,Bool.cond_true_left]
    unfold kx
    generalize Br (l.getD i default).keys=m
    cases hm:(m !=0) <;> cases !ea (l.getD i default).kind <;> cases decide ((l.getD i default).var < 1) <;> cases decide ((l.getD i default).var > (n:Int)) <;> cases (l.getD i default).keys.length==0 <;> first | rfl | (show some m=(bif m !=0 then some m else none);rw [hm];rfl)
   .b (t !=0) (λh=>.sp t a (by rw [e,h];rfl)) λh=>.up a hm (by rw [e,h];rfl))) (λi L k kn=>by kernel_rfl)
 exact gC (V:=V0) [k0,nd,j7,O5] 3 hlo (.b (decide ((l.length:Int) > 8)) (λh=>gI (n:=8) h) λh=>.lp hu λt q=>gH (n:=8) q h) (by kernel_rfl)
def Wo (l:List RULE) (n:Nat) (i:Int):St:={env:=[(0,nG l),(1,.int .i64 n),(13,nG l),(14,.int .i64 l.length),(15,.int .i64 i)],objs:=[]}
abbrev PSi:List Nat:=[1,0,1,1,0,1,0,0,1,1,0,0,1,1,0,1,0]
def R2Z (l:List RULE) (n:Nat) (x:Nat×Nat):St:=Wm l n x.1 x.2
theorem Gm (l:List RULE) (n:Nat) (hl:okL RULE.Ok l):aJ wd rY SH.φE (rIs (GN l n)) [nG l,.int .i64 n] []:=by
 have hm:=hl.big
 obtain ⟨u2,w2,h2,l2⟩:=pQ (V:=V0) (T:=[k0,nd,j7,eSX,SU n]) (d:=9) (W:=[]) (f:=rY) (p:=PSi) (Lf:=λL=>L) (R2Z l n) (λx=>(x.2<=x.1/\x.1 < l.length)/\uj l x.1 x.2=uj l x.1 0) (λx=>x.1 - x.2) (QT l n) (λs o=>(o.1:Int)=slI 15 s/\o.2=uj l o.1 0) (by kernel_rfl)
  (λx hx=>.b (decide ((x.2:Int) < (x.1:Int))) (λh=>
    have hk:x.2 < x.1:=pN h
    have st:=Ai l x.1 hk
    .n (dD hk) (.b ((l.getD (0+Int.toNat (x.2:Int)) default).name==(l.getD x.1 default).name) (λhb=>.fi (x.1,true) ⟨rfl,by
      have hb:((l.getD x.2 default).name==(l.getD x.1 default).name)=true:=by rw [Int.toNat_natCast,Nat.zero_add] at hb;exact hb
      show true=uj l x.1 0;rw [<-hx.2,st,hb];rfl⟩)
     λhb=>.nx {env:=[(0,nG l),(1,.int .i64 n),(6,.ref 6 0),(13,nG l),(14,.int .i64 l.length),(15,.int .i64 x.1),(26,UF l x.1),(27,.int .i64 x.1),(28,.int .i64 (IntKind.wrap .i64 ((x.2:Int)+1)))],objs:=[(6,.cells (l.getD x.1 default).c)]} (x.1,x.2+1) ⟨⟨hk,hx.1.2⟩,by
      have hb:((l.getD x.2 default).name==(l.getD x.1 default).name)=false:=by rw [Int.toNat_natCast,Nat.zero_add] at hb;exact hb
      show uj l x.1 (x.2+1)=_;rw [<-hx.2,st,hb];rfl⟩ (by show x.1 - (x.2+1) < x.1 - x.2;omega) (λ_ h=>h) (by rw [bg (by omega)];rfl)))
   λh=>.fi (x.1,false) ⟨rfl,by show false=uj l x.1 0;rw [<-hx.2,Eb];have:=of_decide_eq_false h;omega⟩) (λv L k kn=>by kernel_rfl)
 obtain ⟨u,w,hu,hlo⟩:=lN (V:=V0) (T:=[k0,nd,j7,eSX,SU n]) (d:=9) (W:=[]) (f:=rY) (p:=[1,0,1,1,0,1,0]) (Lf:=λo:Orc=>[([1,0,1,1,0,1,0],o),(PSi,mkO u2 w2 (QT l n))]) (B72 l n) l.length (·+1) (s1 _) (eS l n) (si 4) (λ_ k=>k (.exit 0) {env:=[],objs:=[]}) (λi=>decide ((i:Int) < (l.length:Int))) (λi=>Oi i _) (by kernel_rfl)
  (λi a=>.n a.w (.call (dT (l.getD i default).name) λb q=>.b (!b) (λh=>.sp 6 a (by rw [q _ rfl] at h;unfold eS;rw [h];rfl)) λh=>
   have h:(!ea (l.getD i default).name)=false:=by rw [<-q _ rfl];exact h
   .n (c:=decide ((0:Int)<=((0:Nat):Int))&&(decide (((0:Nat):Int)<=(i:Int))&&decide ((i:Int)<=(l.length:Int)))) (slT (Int.le_refl _) (by omega) (by have:=a.lt;omega))
   (.lp (h2 (i,0) ⟨⟨Nat.zero_le _,a.lt⟩,rfl⟩) λo qo=>
   have e1:o.1=i:=Int.ofNat.inj qo.1
   .b o.2 (λhd=>.sp 10 a (by rw [qo.2,e1] at hd;unfold eS;rw [h,hd];rfl)) λhd=>
   have hd:uj l i 0=false:=by rw [qo.2,e1] at hd;exact hd
   .call (f:=w7) (R:=rC aX gq) (ψ:=SH.φE) (l:=[.agg (l.getD o.1 default).when.x]) (os:=[]) (by rw [e1];exact S7 _ (hl.at a.lt).2.1) λt qt=>
   .call (f:=r7) (R:=rC (aS n) λv=>cB v n) (ψ:=SH.φE) (l:=[.agg (l.getD o.1 default).serve.c,.int .i64 n]) (os:=[]) (by rw [e1];exact P0 n _ (hl.at a.lt).2.2) λs qs=>
   .call (MA t s) λr qr=>
   have e:eS l n i=bif r !=0 then some r else none:=by
    have y:r=bif t !=0 then t else bif s !=0 then s else 0:=qr _ _ rfl
    have yt:t=gq (l.getD i default).when:=by rw [qt (l.getD o.1 default).when (by rw [EXP.FI]),e1]
    have ys:s=cB (l.getD i default).serve n:=by rw [qs (l.getD o.1 default).serve rfl,e1]
    rw [y]
    unfold eS
    rw [h,hd,<-yt,<-ys]
    cases h1:(t !=0) <;> cases h2:(s !=0) <;> first | rfl | (show some t=(bif t !=0 then some t else none);rw [h1];rfl) | (show some s=(bif s !=0 then some s else none);rw [h2];rfl)
   .b (r==0) (λh0=>.on (Wo l n (IntKind.wrap .i64 ((o.1:Int)+1))) a (by rw [e,show r=0 by simpa using h0];rfl) (by rw [e1,bg (by have:=a.lt;omega)];rfl)) λh0=>.sp r a (by rw [e,show (r !=0)=true by simpa using h0];rfl)))) (λi L k kn=>by kernel_rfl)
 exact dy (V:=V0) (T:=[k0,nd,j7,eSX,SU n]) (d:=9) 0 (ah (hlo _) (ah (l2 _) aE)) aB (.b (decide ((l.length:Int) > 12)) (λh=>gI (n:=12) h) λh=>.lp hu λt q=>gH (n:=12) q h) (by kernel_rfl)
theorem ch {t o r:Int}:(bif (bif t !=0 then t else o) !=0 then (bif t !=0 then t else o) else r)=bif t !=0 then t else (bif o !=0 then o else r):=by
 cases h:(t !=0) with
 | true=>rw [cond_true,h];rfl
 | false=>rfl
theorem wh {b:Bool} {c r:Int} (hc:(c !=0)=true):(bif (bif b then c else 0) !=0 then (bif b then c else 0) else r)=bif b then c else r:=by
 cases b with
 | true=>rw [cond_true,hc]
 | false=>rfl
theorem zr {r:Int}:(bif (0:Int) !=0 then 0 else r)=r:=rfl
theorem Q0 (e:EXP):aJ wd AU φB (rIs (kS e)) [.agg e.x] []:=by rw [EXP.FI];exact Oe e
theorem id0 {t:Int}:(bif t !=0 then t else 0)=t:=by
 cases h:(t !=0) with
 | true=>rfl
 | false=>exact UW h
theorem Nb (f:SEG) (hf:f.Ok):aJ wd vw SH.φE (rIs (Fy f)) [.agg f.c] []:=by
 obtain ⟨h1,h2,h3,h4,h5⟩:=hf
 exact cW (V:=V0) [k0,nd,j7,O5,bc wd AU φB (rIs (kS f.when)),eSX] 9 (.call (dT f.key) λx qx=>.call (dT f.kind) λy qy=>.call (bW (bif !x then true else !y) 6) λt1 q1=>.call (Gp f.incl h3) λt2 q2=>.call (Gp f.excl h4) λt3 q3=>.call (Mz t1 t2 t3) λt qt=>.call (Q0 f.when) λz qz=>
  have e:Fy f=bif t !=0 then t else bif z then 0 else gq f.when:=by
   rw [show t=bif t1 !=0 then t1 else bif t2 !=0 then t2 else bif t3 !=0 then t3 else 0 from qt _ _ rfl,ch,ch,ch,zr,q1 _ _ rfl,wh rfl,q2 _ rfl,q3 _ rfl,qx _ rfl,qy _ rfl,Bool.cond_true_left,show z=kS f.when from qz];rfl
  .b (bif t !=0 then true else z) (λh=>.r t (by
    unfold rIs;rw [e]
    cases h0:(t !=0) with
    | true=>rfl
    | false=>rw [h0] at h;rw [show z=true from h];exact (UW h0).symm)) λh=>.call (S7 f.when h5) λs q=>.r s (by
    unfold rIs;rw [e,q f.when (by rw [EXP.FI])]
    rw [Bool.cond_true_left] at h
    rw [(Bool.or_eq_false_iff.1 h).1,(Bool.or_eq_false_iff.1 h).2];rfl)) (by kernel_rfl)
theorem J5 (f:EXPT) (hf:f.Ok):aJ wd oh SH.φE (rIs (pX f)) [.agg f.c] []:=by
 obtain ⟨h1,h2,h3,h4,h5,h6,h7⟩:=hf
 exact cW (V:=V0) [k0,Jt,nd,j7,bc wd w5 SH.φE (rIs (nh f.claims)),bc wd r6 SH.φE (rIs (eI f.arms 8)),eSX] 9 (.call (dT f.key) λx qx=>.call (dT f.layer) λy qy=>.call (dT f.flag) λz qz=>.call (bW (bif bif !x then true else !y then true else !z) 6) λt1 q1=>
  .call (ku f.salt h4) λv qv=>.call (bW (!v) 2) λt2 q2=>.call (bW (bif decide (f.status < 1) then true else decide (f.status > 3)) 7) λt3 q3=>.call (Gk f.claims (by omega)) λt4 q4=>.call (yR f.arms 8 (by omega)) λt5 q5=>.call (S7 f.when h7) λt6 q6=>.call (Rr t1 t2 t3 t4 t5 t6) λt qt=>.r t (by
  have q6:t6=gq f.when:=q6 f.when (by rw [EXP.FI])
  unfold rIs
  rw [show t=bif t1 !=0 then t1 else bif t2 !=0 then t2 else bif t3 !=0 then t3 else bif t4 !=0 then t4 else bif t5 !=0 then t5 else bif t6 !=0 then t6 else 0 from qt _ _ rfl,id0,q1 _ _ rfl,wh rfl,q2 _ _ rfl,wh rfl,q3 _ _ rfl,wh rfl,qx _ rfl,qy _ rfl,qz _ rfl,qv _ rfl,q6,show t4=nh f.claims from q4,show t5=eI f.arms 8 from q5,Bool.cond_true_left,Bool.cond_true_left,Bool.cond_true_left,Bool.or_assoc];rfl)) (by kernel_rfl)
def LyZ (f:LAYER) (i:Int):St:={env:=[(1,.ref 1 0),(52,ou f.cooling),(53,.int .i64 f.cooling.length),(54,.int .i64 i)],objs:=[(1,.cells f.c)]}
theorem Gs (f:LAYER) (hf:f.Ok):aJ wd w6 SH.φE (rIs (jt f)) [.agg f.c] []:=by
 obtain ⟨h1,h2,h3,h4⟩:=hf
 have hm:f.cooling.length<=4611686018427387904:=by omega
 obtain ⟨u,w,hu,hlo⟩:=bQ (V:=V0) (T:=[k0,Jt,nd,j7]) (d:=9) (W:=[]) (f:=w6) (p:=[1,1,0,1,0]) (Lf:=λL=>L) (LyZ f) f.cooling.length (iI f.cooling) (si 2) (λk=>k (.exit 0) {env:=[],objs:=[]}) (by kernel_rfl)
  (λi a=>
   have c:=pv (λj=>decide ((f.cooling.getD i (0,0,0)).1 < (f.cooling.getD j (0,0,0)).2.1)) a.lt hm
   .n a.w (.b (bif bif !bif bif decide (0<=(f.cooling.getD i (0,0,0)).1) then decide ((f.cooling.getD i (0,0,0)).1 < (f.cooling.getD i (0,0,0)).2.1) else false then decide ((f.cooling.getD i (0,0,0)).2.1<=10000) else false then true else decide ((f.cooling.getD i (0,0,0)).2.2 < 0) then true else decide ((f.cooling.getD i (0,0,0)).2.2 > 1099511627776))
    (λh=>.sp 3 a (by rw [R5] at h;unfold iI;rw [h];rfl)) λh=>
   have h:lG (f.cooling.getD i (0,0,0)).1 (f.cooling.getD i (0,0,0)).2.1 (f.cooling.getD i (0,0,0)).2.2=false:=by rw [<-R5];exact h
   .gp true a.lt hm (.b (bif decide ((i:Int) > 0) then decide ((f.cooling.getD i (0,0,0)).1 < (f.cooling.getD (Int.toNat (IntKind.wrap .i64 ((i:Int) - 1))) (0,0,0)).2.1) else false)
    (λh2=>.sp 9 a (by rw [c] at h2;unfold iI;rw [h,h2];rfl)) λh2=>.up a hm (by rw [c] at h2;unfold iI;rw [h,h2];rfl)))) (λi L k kn=>by kernel_rfl)
 exact gC (V:=V0) [k0,Jt,nd,j7] 9 hlo (.call (dT f.key) λx qx=>.call (dT f.kind) λy qy=>.call (bW (bif !x then true else !y) 6) λt1 q1=>.call (ku f.salt h3) λz qz=>.call (bW (!z) 2) λt2 q2=>
  .call (bW (bif bif bif decide (f.hold < 0) then true else decide (f.hold > 10000) then true else decide (f.cool < 0) then true else decide (f.cool > 1099511627776)) 3) λt3 q3=>.call (bW (decide ((f.cooling.length:Int) > 32)) 5) λt4 q4=>.call (z7 t1 t2 t3 t4) λt qt=>
  have e:jt f=bif t !=0 then t else bif (mV f.cooling).1 then (mV f.cooling).2 else 0:=by
   rw [show t=bif t1 !=0 then t1 else bif t2 !=0 then t2 else bif t3 !=0 then t3 else bif t4 !=0 then t4 else 0 from qt _ _ rfl,ch,ch,ch,ch,zr,q1 _ _ rfl,wh rfl,q2 _ _ rfl,wh rfl,q3 _ _ rfl,wh rfl,q4 _ _ rfl,wh rfl,qx _ rfl,qy _ rfl,qz _ rfl,oK]
   simp only [Bool.cond_true_left,Bool.or_assoc]
   rfl
  .b (t !=0) (λh=>.r t (by unfold rIs;rw [e,h];rfl)) λh=>.lp hu λs qs=>have qs:s=mV f.cooling:=qs
  .b s.1 (λh3=>.r s.2 (by rw [qs] at h3 ⊢;unfold rIs;rw [e,h,h3];rfl)) λh3=>.r 0 (by rw [qs] at h3;unfold rIs;rw [e,h,h3];rfl)) (by kernel_rfl)
def FlZ (f:FLAG) (i:Int):St:={env:=[(1,.ref 1 0),(3,.int .i64 f.vars.length),(38,jP f.vars),(39,.int .i64 f.vars.length),(40,.int .i64 i)],objs:=[(1,.cells f.c)]}
noncomputable abbrev UE (f:FLAG):List Ent:=[k0,nd,j7,SZ,bc wd ib SH.φE (rIs (Hq f.prqs)),bc wd pA SH.φE (rIs (Jn f.tgts f.vars.length)),bc wd rY SH.φE (rIs (GN f.rules f.vars.length)),SU f.vars.length]
theorem J4 (f:FLAG) (hf:f.Ok):aJ wd AW SH.φE (rIs (nU f)) [.agg f.c] []:=by
 obtain ⟨h1,h2,h3,h4,h5,h6⟩:=hf
 have hm:=h2.big
 obtain ⟨u,w,hu,hlo⟩:=bQ (V:=V0) (T:=UE f) (d:=9) (W:=[]) (f:=AW) (p:=[1,1,1,0,1,0]) (Lf:=λL=>L) (FlZ f) f.vars.length (kq f) (si 2) (λk=>k (.exit 0) (VM f)) (by kernel_rfl)
  (λi a=>.n a.w (.call (Ef _ (h2.at a.lt)) λt1 q1=>.call (bW ((f.vars.getD i default).kind !=f.kind) 8) λt2 q2=>.call (MA t1 t2) λt qt=>
   have e:kq f i=bif t !=0 then some t else none:=by
    rw [show t=bif t1 !=0 then t1 else bif t2 !=0 then t2 else 0 from qt _ _ rfl]
    unfold kq
    rw [<-q1 _ rfl,q2 _ _ rfl]
    cases h:(t1 !=0) with
    | true=>rw [cond_true,cond_true,h];rfl
    | false=>cases (f.vars.getD i default).kind !=f.kind <;> rfl
   .b (t !=0) (λh=>.sp t a (by rw [e,h];rfl)) λh=>.up a hm (by rw [e,h];rfl))) (λi L k kn=>by kernel_rfl)
 exact gC (V:=V0) (UE f) 9 hlo (.call (dT f.key) λx qx=>.call (bW (!x) 6) λt1 q1=>.call (bW (bif decide (f.kind < 1) then true else decide (f.kind > 5)) 7) λt2 q2=>.call (bW (decide ((f.vars.length:Int) > 8)) 5) λt3 q3=>.call (bW ((f.vars.length:Int)==0) 3) λt4 q4=>.call (z7 t1 t2 t3 t4) λt qt=>
  have e:nU f=bif t !=0 then t else bif (iT f).1 then (iT f).2 else bif decide (f.off < 1)||decide (f.off > f.vars.length) then 3 else bif Hq f.prqs !=0 then Hq f.prqs else bif Jn f.tgts f.vars.length !=0 then Jn f.tgts f.vars.length else bif GN f.rules f.vars.length !=0 then GN f.rules f.vars.length else cB f.dflt f.vars.length:=by
   rw [show t=bif t1 !=0 then t1 else bif t2 !=0 then t2 else bif t3 !=0 then t3 else bif t4 !=0 then t4 else 0 from qt _ _ rfl,ch,ch,ch,ch,zr,q1 _ _ rfl,wh rfl,q2 _ _ rfl,wh rfl,q3 _ _ rfl,wh rfl,q4 _ _ rfl,wh rfl,qx _ rfl,xL,dx,Bool.cond_true_left]
   have hs:=Er f
   unfold nU FP
   cases decide (f.vars.length > 8) <;> cases f.vars.length==0 <;> cases hv:(iT f).1 <;> cases (decide (f.off < 1)||decide (f.off > f.vars.length)) <;> first | rfl | (simp only [cond_true,cond_false];rw [hs hv];rfl)
  .b (t !=0) (λh=>.r t (by unfold rIs;rw [e,h];rfl)) λh=>.lp hu λs qs=>have qs:s=iT f:=qs
  .b s.1 (λh3=>.r s.2 (by rw [qs] at h3 ⊢;unfold rIs;rw [e,h,h3];rfl)) λh3'=>.call (bW (bif decide (f.off < 1) then true else decide (f.off > (f.vars.length:Int))) 3) λt1 q1=>.call (JT f.prqs h3) λt2 q2=>.call (JR f.tgts _ h4) λt3 q3=>.call (Gm f.rules _ h5) λt4 q4=>.call (z7 t1 t2 t3 t4) λr qr=>
  have e2:nU f=bif r !=0 then r else cB f.dflt f.vars.length:=by
   rw [show r=bif t1 !=0 then t1 else bif t2 !=0 then t2 else bif t3 !=0 then t3 else bif t4 !=0 then t4 else 0 from qr _ _ rfl,ch,ch,ch,ch,zr,q1 _ _ rfl,wh rfl,show t2=Hq f.prqs from q2,show t3=Jn f.tgts f.vars.length from q3,show t4=GN f.rules f.vars.length from q4,Bool.cond_true_left,e,h,show (iT f).1=false by rw [<-qs];exact h3'];rfl
  .b (r !=0) (λh=>.r r (by unfold rIs;rw [e2,h];rfl)) λh=>.call (P0 _ f.dflt h6) λt5 q5=>.r t5 (by unfold rIs;rw [e2,h,q5 _ rfl];rfl)) (by kernel_rfl)
end Go.T
