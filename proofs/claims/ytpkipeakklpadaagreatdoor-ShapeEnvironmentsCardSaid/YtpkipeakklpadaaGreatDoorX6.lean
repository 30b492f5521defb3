/- DERIVED: THE SHELF's CONTRACTS AT THIS DUMP,IN PLAIN WORDS (tools/lay-plain.mjs out of 'TUx.lean',which tools/lay-shelf.mjs wrote): THE SAME DECLARATIONS UNDER THE SAME NAMES: 'import','namespace','open','def','theorem' AND NOTHING ELSE: no command of the shelf's: FOR A HAND-IN. Each laying: the table of numbers ('.._ren') and one theorem,a field a fact of the dump's own or the kernel's comparison;each contract: ONE APPLICATION. Of the library: utf8.ValidString, strconv.Atoi, strings.Split at the dot, strings.Compare. flagstoneref3: parts, list, Check; flagstoneref1.Valid. flagstoneref3: list, Check. flagstoneref6: Split, Spans, members, Serve, None. flagstoneref6: counts, part, walk, Expr. flagstoneref6: prerequisites, targets, rules, variations, Flag. flagstoneref6: Segment, Layer, Experiment. flagstoneref6: settings, declared, the lists, Environment. What a well-formed environment is made of; flagError. flagstoneref17: experimentError. flagstoneref17: Environment, Valid. The draws: segments. The draws: a layer. The draws: a flag: states. The draws: a flag. The draws: a flag, its rules; the whole. The draws: an experiment. The draws: an environment: states. The draws: an environm -/
import Derived.Test.YtpkipeakklpadaaGreatDoorX5
import Derived.Shelf.LaysC
import Derived.Shelf.Small.Strs
import Derived.Shelf.Strconv.AtoiAll
import Derived.Shelf.Strings.Split
import Derived.Shelf.Unicode.ValidAny
import Derived.Test.YtpkipeakklpadaaGreatDoorProg
import Derived.Lib.SplitLaws
import Derived.Lib.ValidU
set_option linter.unusedVariables false
set_option linter.unusedSimpArgs false
namespace Go.Proofs
open Go.Shelf
def Tryz.xN:Go.Shelf.Ren:=⟨fun | 172=>236 | 244=>281 | 245=>282 | 247=>296 | 279=>297 | 280=>298 | 281=>299 | 282=>300 | 287=>307 | 316=>308 | 171=>310 | 205=>309 | 321=>313 | 322=>314 | 243=>315 | 246=>316 | 283=>317 | 284=>318 | 285=>319 | 286=>320 | 129=>266 | 317=>321 | 318=>322 | 319=>323 | 320=>324 | 337=>325 | 338=>326 | n=>n,fun | 9=>9 | 3=>3 | 75=>281 | 76=>282 | 4=>4 | 5=>5 | 167=>344 | 37=>22 | 0=>0 | 85=>345 | 2=>2 | 168=>347 | 53=>271 | 175=>352 | 46=>226 | 210=>356 | 127=>361 | 145=>364 | 143=>362 | 21=>21 | 171=>366 | 173=>368 | 212=>371 | 51=>275 | 20=>20 | 213=>372 | 232=>373 | 233=>374 | 80=>78 | n=>n,fun | 15=>9 | 16=>10 | 17=>11 | 18=>12 | 19=>13 | n=>n⟩
theorem Tryz.BH:Go.Proofs.LaysC.n172 Tryz.prog Tryz.xN:={
 mixed:=by kernel_rfl
 f129:=Tryz.func266.trans (congrArg some (by kernel_rfl))
 f171:=Tryz.func310.trans (congrArg some (by kernel_rfl))
 f172:=Tryz.func236.trans (congrArg some (by kernel_rfl))
 f205:=Tryz.func309.trans (congrArg some (by kernel_rfl))
 f243:=Tryz.func315.trans (congrArg some (by kernel_rfl))
 f244:=Tryz.func281.trans (congrArg some (by kernel_rfl))
 f245:=Tryz.func282.trans (congrArg some (by kernel_rfl))
 f246:=Tryz.func316.trans (congrArg some (by kernel_rfl))
 f247:=Tryz.func296.trans (congrArg some (by kernel_rfl))
 f279:=Tryz.func297.trans (congrArg some (by kernel_rfl))
 f280:=Tryz.func298.trans (congrArg some (by kernel_rfl))
 f281:=Tryz.func299.trans (congrArg some (by kernel_rfl))
 f282:=Tryz.func300.trans (congrArg some (by kernel_rfl))
 f283:=Tryz.func317.trans (congrArg some (by kernel_rfl))
 f284:=Tryz.func318.trans (congrArg some (by kernel_rfl))
 f285:=Tryz.func319.trans (congrArg some (by kernel_rfl))
 f286:=Tryz.func320.trans (congrArg some (by kernel_rfl))
 f287:=Tryz.func307.trans (congrArg some (by kernel_rfl))
 f316:=Tryz.func308.trans (congrArg some (by kernel_rfl))
 f317:=Tryz.func321.trans (congrArg some (by kernel_rfl))
 f318:=Tryz.func322.trans (congrArg some (by kernel_rfl))
 f319:=Tryz.func323.trans (congrArg some (by kernel_rfl))
 f320:=Tryz.func324.trans (congrArg some (by kernel_rfl))
 f321:=Tryz.func313.trans (congrArg some (by kernel_rfl))
 f322:=Tryz.func314.trans (congrArg some (by kernel_rfl))
 f337:=Tryz.func325.trans (congrArg some (by kernel_rfl))
 f338:=Tryz.func326.trans (congrArg some (by kernel_rfl))
 t0:=Tryz.underlying0
 a0:=Tryz.isAgg0
 z0:=Tryz.sizeOf0
 v0:=Tryz.zeroValue0
 t2:=Tryz.underlying2
 a2:=Tryz.isAgg2
 z2:=Tryz.sizeOf2
 v2:=Tryz.zeroValue2
 t3:=Tryz.underlying3
 a3:=Tryz.isAgg3
 z3:=Tryz.sizeOf3
 v3:=Tryz.zeroValue3
 t4:=Tryz.underlying4
 a4:=Tryz.isAgg4
 z4:=Tryz.sizeOf4
 v4:=Tryz.zeroValue4
 t5:=Tryz.underlying5
 a5:=Tryz.isAgg5
 z5:=Tryz.sizeOf5
 v5:=Tryz.zeroValue5
 t9:=Tryz.underlying9
 a9:=Tryz.isAgg9
 z9:=Tryz.sizeOf9
 v9:=Tryz.zeroValue9
 t20:=Tryz.underlying20
 a20:=Tryz.isAgg20
 z20:=Tryz.sizeOf20
 v20:=Tryz.zeroValue20
 t21:=Tryz.underlying21
 a21:=Tryz.isAgg21
 z21:=Tryz.sizeOf21
 v21:=Tryz.zeroValue21
 t37:=Tryz.underlying22
 a37:=Tryz.isAgg22
 z37:=Tryz.sizeOf22
 v37:=Tryz.zeroValue22
 t46:=Tryz.underlying226
 a46:=Tryz.isAgg226
 z46:=Tryz.sizeOf226
 v46:=Tryz.zeroValue226
 t51:=Tryz.underlying275
 a51:=Tryz.isAgg275
 z51:=Tryz.sizeOf275
 v51:=Tryz.zeroValue275
 t53:=Tryz.underlying271
 a53:=Tryz.isAgg271
 z53:=Tryz.sizeOf271
 v53:=Tryz.zeroValue271
 t75:=Tryz.underlying281
 a75:=Tryz.isAgg281
 z75:=Tryz.sizeOf281
 v75:=Tryz.zeroValue281
 t76:=Tryz.underlying282
 a76:=Tryz.isAgg282
 z76:=Tryz.sizeOf282
 v76:=Tryz.zeroValue282
 t85:=Tryz.underlying345
 a85:=Tryz.isAgg345
 z85:=Tryz.sizeOf345
 v85:=Tryz.zeroValue345
 t127:=Tryz.underlying361
 a127:=Tryz.isAgg361
 z127:=Tryz.sizeOf361
 v127:=Tryz.zeroValue361
 t143:=Tryz.underlying362
 a143:=Tryz.isAgg362
 z143:=Tryz.sizeOf362
 v143:=Tryz.zeroValue362
 t145:=Tryz.underlying364
 a145:=Tryz.isAgg364
 z145:=Tryz.sizeOf364
 v145:=Tryz.zeroValue364
 t167:=Tryz.underlying344
 a167:=Tryz.isAgg344
 z167:=Tryz.sizeOf344
 v167:=Tryz.zeroValue344
 t168:=Tryz.underlying347
 a168:=Tryz.isAgg347
 z168:=Tryz.sizeOf347
 v168:=Tryz.zeroValue347
 t171:=Tryz.underlying366
 a171:=Tryz.isAgg366
 z171:=Tryz.sizeOf366
 v171:=Tryz.zeroValue366
 t173:=Tryz.underlying368
 a173:=Tryz.isAgg368
 z173:=Tryz.sizeOf368
 v173:=Tryz.zeroValue368
 t175:=Tryz.underlying352
 a175:=Tryz.isAgg352
 z175:=Tryz.sizeOf352
 v175:=Tryz.zeroValue352
 t210:=Tryz.underlying356
 a210:=Tryz.isAgg356
 z210:=Tryz.sizeOf356
 v210:=Tryz.zeroValue356
 t212:=Tryz.underlying371
 a212:=Tryz.isAgg371
 z212:=Tryz.sizeOf371
 v212:=Tryz.zeroValue371
 t213:=Tryz.underlying372
 a213:=Tryz.isAgg372
 z213:=Tryz.sizeOf372
 t232:=Tryz.underlying373
 a232:=Tryz.isAgg373
 z232:=Tryz.sizeOf373
 v232:=Tryz.zeroValue373
 t233:=Tryz.underlying374
 a233:=Tryz.isAgg374
 z233:=Tryz.sizeOf374
 v233:=Tryz.zeroValue374
 g15:=by kernel_rfl
 g16:=by kernel_rfl
 g17:=by kernel_rfl
 g18:=by kernel_rfl
 g19:=by kernel_rfl
 t80:=Tryz.underlying78
 a80:=Tryz.isAgg78
 z80:=Tryz.sizeOf78
 v80:=Tryz.zeroValue78
 i0:=by kernel_rfl
 i2:=by kernel_rfl
 i3:=by kernel_rfl
 i4:=by kernel_rfl
 i5:=by kernel_rfl
 i9:=by kernel_rfl
 i20:=by kernel_rfl
 i21:=by kernel_rfl
 i37:=by kernel_rfl
 i46:=by kernel_rfl
 i51:=by kernel_rfl
 i53:=by kernel_rfl
 i75:=by kernel_rfl
 i76:=by kernel_rfl
 i80:=by kernel_rfl
 i85:=by kernel_rfl
 i127:=by kernel_rfl
 i143:=by kernel_rfl
 i145:=by kernel_rfl
 i167:=by kernel_rfl
 i168:=by kernel_rfl
 i171:=by kernel_rfl
 i173:=by kernel_rfl
 i175:=by kernel_rfl
 i210:=by kernel_rfl
 i212:=by kernel_rfl
 i232:=by kernel_rfl
 i233:=by kernel_rfl
 m15:=by kernel_rfl
 m16:=by kernel_rfl
 m17:=by kernel_rfl
 m18:=by kernel_rfl
 m19:=by kernel_rfl
 c0:=by kernel_rfl
 c2:=by kernel_rfl
 c3:=by kernel_rfl
 c4:=by kernel_rfl
 c5:=by kernel_rfl
 c9:=by kernel_rfl
 c20:=by kernel_rfl
 c21:=by kernel_rfl
 c37:=by kernel_rfl
 c46:=by kernel_rfl
 c51:=by kernel_rfl
 c53:=by kernel_rfl
 c75:=by kernel_rfl
 c76:=by kernel_rfl
 c80:=by kernel_rfl
 c85:=by kernel_rfl
 c127:=by kernel_rfl
 c143:=by kernel_rfl
 c145:=by kernel_rfl
 c167:=by kernel_rfl
 c168:=by kernel_rfl
 c171:=by kernel_rfl
 c173:=by kernel_rfl
 c175:=by kernel_rfl
 c210:=by kernel_rfl
 c212:=by kernel_rfl
 c213:=by kernel_rfl
 c232:=by kernel_rfl
 c233:=by kernel_rfl}
open Go.RowKit in
theorem Tryz.strconv_Atoi_ok (s:ByteArray) (hmax:s.size<=9223372036854775806) (v:Int) (h:Lib.atoiAll s.data.toList=.ok v) (w:World) :
  Calls Tryz.prog 236 #[.string s] w λe w'=>e=.returned (.tuple #[.int .i64 v,.nilIface])/\(w'=w∨∃t,w'=Lib.bytesWorld w 5 t):=Any.strconv_Atoi_ok Tryz.BH s hmax v h w
open Go.RowKit in
theorem Tryz.strconv_Atoi_range (s:ByteArray) (hlim:s.size<=281474976710656) (h:Lib.atoiAll s.data.toList=.range) (ev:Value) (w:World) (hv:w.cell? ⟨10,0,none⟩=some ev) (hev:ev=.nilIface∨∃te pe,ev=.iface te pe) :
  Calls Tryz.prog 236 #[.string s] w λe w'=>∃N,e=.returned (.tuple #[.int .i64 (Lib.atoiSat s.data.toList),.iface 347 (.pointer (some ⟨N,0,none⟩))])/\w.heap.size<=N/\w'.heap[N]?=some (.cells #[.string ⟨#[65,116,111,105]⟩,.string s,ev] 356 (0,0))/\Below w.heap.size w w':=Any.strconv_Atoi_range Tryz.BH s hlim h ev w hv hev
def Tryz.zJ:Go.Shelf.Ren:=⟨fun | 146=>170 | 221=>234 | 268=>277 | 138=>278 | 143=>279 | 195=>291 | 197=>292 | 218=>293 | 219=>294 | 260=>302 | 217=>303 | 225=>304 | 224=>305 | 267=>306 | 266=>311 | 314=>312 | n=>n,fun | 9=>9 | 31=>50 | 3=>3 | 4=>4 | 0=>0 | 105=>340 | 21=>21 | 5=>5 | 46=>226 | 119=>222 | 139=>225 | 138=>224 | 146=>358 | 51=>275 | n=>n,fun | 1=>8 | 3=>4 | 4=>5 | n=>n⟩
theorem Tryz.KJ:Go.Proofs.Lays.n146 Tryz.prog Tryz.zJ:={
 mixed:=by kernel_rfl
 f138:=Tryz.func278.trans (congrArg some (by kernel_rfl))
 f143:=Tryz.func279.trans (congrArg some (by kernel_rfl))
 f146:=Tryz.func170.trans (congrArg some (by kernel_rfl))
 f195:=Tryz.func291.trans (congrArg some (by kernel_rfl))
 f197:=Tryz.func292.trans (congrArg some (by kernel_rfl))
 f217:=Tryz.func303.trans (congrArg some (by kernel_rfl))
 f218:=Tryz.func293.trans (congrArg some (by kernel_rfl))
 f219:=Tryz.func294.trans (congrArg some (by kernel_rfl))
 f221:=Tryz.func234.trans (congrArg some (by kernel_rfl))
 f224:=Tryz.func305.trans (congrArg some (by kernel_rfl))
 f225:=Tryz.func304.trans (congrArg some (by kernel_rfl))
 f260:=Tryz.func302.trans (congrArg some (by kernel_rfl))
 f266:=Tryz.func311.trans (congrArg some (by kernel_rfl))
 f267:=Tryz.func306.trans (congrArg some (by kernel_rfl))
 f268:=Tryz.func277.trans (congrArg some (by kernel_rfl))
 f314:=Tryz.func312.trans (congrArg some (by kernel_rfl))
 t0:=Tryz.underlying0
 a0:=Tryz.isAgg0
 z0:=Tryz.sizeOf0
 v0:=Tryz.zeroValue0
 t3:=Tryz.underlying3
 a3:=Tryz.isAgg3
 z3:=Tryz.sizeOf3
 v3:=Tryz.zeroValue3
 t4:=Tryz.underlying4
 a4:=Tryz.isAgg4
 z4:=Tryz.sizeOf4
 v4:=Tryz.zeroValue4
 t5:=Tryz.underlying5
 a5:=Tryz.isAgg5
 z5:=Tryz.sizeOf5
 v5:=Tryz.zeroValue5
 t9:=Tryz.underlying9
 a9:=Tryz.isAgg9
 z9:=Tryz.sizeOf9
 v9:=Tryz.zeroValue9
 t21:=Tryz.underlying21
 a21:=Tryz.isAgg21
 z21:=Tryz.sizeOf21
 v21:=Tryz.zeroValue21
 t31:=Tryz.underlying50
 a31:=Tryz.isAgg50
 z31:=Tryz.sizeOf50
 v31:=Tryz.zeroValue50
 t46:=Tryz.underlying226
 a46:=Tryz.isAgg226
 z46:=Tryz.sizeOf226
 v46:=Tryz.zeroValue226
 t51:=Tryz.underlying275
 a51:=Tryz.isAgg275
 z51:=Tryz.sizeOf275
 v51:=Tryz.zeroValue275
 t105:=Tryz.underlying340
 a105:=Tryz.isAgg340
 z105:=Tryz.sizeOf340
 v105:=Tryz.zeroValue340
 t119:=Tryz.underlying222
 a119:=Tryz.isAgg222
 z119:=Tryz.sizeOf222
 t138:=Tryz.underlying224
 a138:=Tryz.isAgg224
 z138:=Tryz.sizeOf224
 v138:=Tryz.zeroValue224
 t139:=Tryz.underlying225
 a139:=Tryz.isAgg225
 z139:=Tryz.sizeOf225
 v139:=Tryz.zeroValue225
 t146:=Tryz.underlying358
 a146:=Tryz.isAgg358
 z146:=Tryz.sizeOf358
 v146:=Tryz.zeroValue358
 g1:=by kernel_rfl
 g3:=by kernel_rfl
 g4:=by kernel_rfl}
open Go.RowKit Go.Lib in
theorem Tryz.strings_Split (s sep:ByteArray) (m:Int) (w:World) (hs:s.size < 4294967281) (hm:w.cell? ⟨8,0,none⟩=some (.int .i64 m)) (h1:1<=sep.size) :
  Calls Tryz.prog 170 #[.string s,.string sep] w λe w'=>
   e=.returned (.slice (some ⟨w.heap.size,0,none⟩) (Lib.countB s sep+1) (Lib.countB s sep+1))/\w'=w.alloc (.cells ((Lib.splitB sep 0 (Lib.countB s sep) s).map Value.string).toArray 9):=Any.strings_Split Tryz.KJ (by kernel_rfl) s sep m w hs hm h1
def Tryz.zL:Go.Shelf.Ren:=⟨fun | 106=>125 | 213=>169 | 265=>233 | n=>n,fun | 9=>9 | 3=>3 | n=>n,fun | n=>n⟩
theorem Tryz.KK:Go.Proofs.Lays.n106 Tryz.prog Tryz.zL:={
 mixed:=by kernel_rfl
 f106:=Tryz.func125.trans (congrArg some (by kernel_rfl))
 f213:=Tryz.func169.trans (congrArg some (by kernel_rfl))
 f265:=Tryz.func233.trans (congrArg some (by kernel_rfl))
 t3:=Tryz.underlying3
 a3:=Tryz.isAgg3
 z3:=Tryz.sizeOf3
 v3:=Tryz.zeroValue3
 t9:=Tryz.underlying9
 a9:=Tryz.isAgg9
 z9:=Tryz.sizeOf9
 v9:=Tryz.zeroValue9}
open Go.RowKit in
theorem Tryz.strings_Compare (a b:ByteArray) (w:World) :
  Calls Tryz.prog 125 #[.string a,.string b] w λe w'=>e=.returned (.int .i64 (Lib.compareBytes a.data.toList b.data.toList))/\w'=w:=Any.strings_Compare Tryz.KK a b w
def Tryz.zI:Go.Shelf.Ren:=⟨fun | 196=>122 | 259=>166 | n=>n,fun | 9=>9 | 4=>4 | 3=>3 | 5=>5 | 12=>12 | 119=>222 | 0=>0 | 46=>226 | 139=>225 | 138=>224 | 53=>271 | n=>n,fun | 3=>4 | 4=>5 | n=>n⟩
theorem Tryz.KI:Go.Proofs.Lays.n196 Tryz.prog Tryz.zI:={
 mixed:=by kernel_rfl
 f196:=Tryz.func122.trans (congrArg some (by kernel_rfl))
 f259:=Tryz.func166.trans (congrArg some (by kernel_rfl))
 t0:=Tryz.underlying0
 a0:=Tryz.isAgg0
 z0:=Tryz.sizeOf0
 v0:=Tryz.zeroValue0
 t3:=Tryz.underlying3
 a3:=Tryz.isAgg3
 z3:=Tryz.sizeOf3
 v3:=Tryz.zeroValue3
 t4:=Tryz.underlying4
 a4:=Tryz.isAgg4
 z4:=Tryz.sizeOf4
 v4:=Tryz.zeroValue4
 t5:=Tryz.underlying5
 a5:=Tryz.isAgg5
 z5:=Tryz.sizeOf5
 v5:=Tryz.zeroValue5
 t9:=Tryz.underlying9
 a9:=Tryz.isAgg9
 z9:=Tryz.sizeOf9
 v9:=Tryz.zeroValue9
 t12:=Tryz.underlying12
 a12:=Tryz.isAgg12
 z12:=Tryz.sizeOf12
 v12:=Tryz.zeroValue12
 t46:=Tryz.underlying226
 a46:=Tryz.isAgg226
 z46:=Tryz.sizeOf226
 v46:=Tryz.zeroValue226
 t53:=Tryz.underlying271
 a53:=Tryz.isAgg271
 z53:=Tryz.sizeOf271
 v53:=Tryz.zeroValue271
 t119:=Tryz.underlying222
 a119:=Tryz.isAgg222
 z119:=Tryz.sizeOf222
 t138:=Tryz.underlying224
 a138:=Tryz.isAgg224
 z138:=Tryz.sizeOf224
 v138:=Tryz.zeroValue224
 t139:=Tryz.underlying225
 a139:=Tryz.isAgg225
 z139:=Tryz.sizeOf225
 v139:=Tryz.zeroValue225
 g3:=by kernel_rfl
 g4:=by kernel_rfl}
open Go.RowKit in
theorem Tryz.utf8_ValidString (s:ByteArray) (w:World) (hs:s.size<=9223372036854775807) (hT:Lib.Utf8Tabs 4 5 w) :
  Calls Tryz.prog 122 #[.string s] w λe w'=>e=.returned (.bool (Lib.validD s.data.toList))/\Below w.heap.size w w':=Any.utf8_ValidString Tryz.KI s w hs hT
end Go.Proofs

namespace Go.T
open Go Go.Ab Go.Proofs Go.SH Go.RowKit
section
variable {c:Cx}
theorem r7 (hg:Ab.Good glb c) {g:Nat} {cs:List AV} (h:glb g=some cs) {i:Nat} {k:IntKind} {z:Int} (hi:cs[i]?=some (.int k z)):c.w.cell? ⟨g,i,none⟩=some (.int k z):=by
 have h1:=hg.globs g cs h
 generalize hp:Value.pointer (some ⟨g,0,none⟩)=p at h1
 cases h1 with
 | elt cs off b o vals hl hc hr=>
  simp only [Value.pointer.injEq,Option.some.injEq,Addr.mk.injEq,and_true] at hp
  obtain ⟨rfl,h0⟩:=hp
  have h2:=(hc i _ hi).2.1
  have h3:vals i=.int k z:=by
   have h4:=hr i _ hi
   generalize vals i=w at h4 ⊢
   cases h4;rfl
  have h0':o=0:=by omega
  rw [h3,h0',Nat.zero_add] at h2
  exact h2
theorem BU (hg:Ab.Good glb c) {g:Nat} {u:AV} (h:glb g=some [u]):∃v,Rep c u v/\c.w.cell? ⟨g,0,none⟩=some v:=by
 have h1:=hg.globs g _ h
 generalize hp:Value.pointer (some ⟨g,0,none⟩)=p at h1
 cases h1 with
 | elt cs off b o vals hl hc hr=>
  simp only [Value.pointer.injEq,Option.some.injEq,Addr.mk.injEq,and_true] at hp
  obtain ⟨rfl,h0⟩:=hp
  have h2:=(hc 0 _ rfl).2.1
  have h0':o=0:=by omega
  rw [h0'] at h2
  exact ⟨_,hr 0 _ rfl,h2⟩
theorem firstCells:glb 4=some ((List.range 256).map λc=>AV.int .u8 (Lib.firstT c)):=by kernel_rfl
theorem sS:glb 5=some ((List.range 32).map λj=>AV.int .u8 (if j % 2=0 then (Lib.accLo (j / 2):Int) else Lib.accHi (j / 2))):=by kernel_rfl
theorem GU (hg:Ab.Good glb c):Lib.Utf8Tabs 4 5 c.w:=by
 refine ⟨λi hi=>?_,λi hi=>⟨?_,?_⟩⟩
 ·exact r7 hg firstCells (by rw [List.getElem?_map,List.getElem?_range hi];rfl)
 ·refine r7 hg sS ?_
  rw [List.getElem?_map,List.getElem?_range (by omega)]
  simp only [Option.map_some,Nat.mul_mod_right,if_true,Nat.mul_div_cancel_left i (show 0 < 2 by omega)]
 ·refine r7 hg sS ?_
  rw [List.getElem?_map,List.getElem?_range (by omega)]
  simp only [Option.map_some]
  rw [if_neg (by omega),show (2*i+1) / 2=i by omega]
end
theorem IY (s:List UInt8) (hs:s.length<=Fe):aB wd lZ φB (rS GB) [.str s] []:=⟨GB s,.mk rfl,by
 refine Ap (x:=.bool (GB s)) (λc=>.bool _) rfl ?_ λc vs hg hsz hr=>?_
 ·exact ⟨_,Tryz.func122,by kernel_rfl,by kernel_rfl⟩
 ·have h1:=Qg hsz (od (hr 0 _ rfl))
  subst h1
  exact (Tryz.utf8_ValidString ⟨s.toArray⟩ c.w (by have h2:=hs;unfold Fe at h2;show s.toArray.size<=_;rw [List.size_toArray];omega) (GU hg)).mono λe w' h=>by
   simpa [GB] using h⟩
noncomputable abbrev N3:Ent:=aY wd lZ φB (rS GB)
def Dd (s:List UInt8):List AV:=match Lib.atoiAll s with
 | .ok v=>[.int .i64 v,.nili]
 | _=>[.int .i64 (Lib.atoiSat s),.nni]
def isNum (s:List UInt8):Prop:=(∃v,Lib.atoiAll s=.ok v)∨Lib.atoiAll s=.range
theorem Ax (w:World) (t:ByteArray):Below w.heap.size w (Lib.bytesWorld w 5 t):=by
 refine ⟨rfl,rfl,rfl,?_,λk hk=>Lib.bytesWorld_at_old w 5 t k hk⟩
 simp [Lib.bytesWorld,World.freeze,World.alloc,World.drew,-World.alloc_eq,-World.drew_eq]
theorem Gj (s:List UInt8) (hs:s.length<=1048576) (h:isNum s):Ct wd.P wd.G mh [.str s] [] (.tup (Dd s),[]):=by
 refine sH (by unfold Dd;split <;> rfl) ⟨_,Tryz.func236,by kernel_rfl,by kernel_rfl⟩ λc vs hg hsz hr=>?_
 have h1:=Qg hsz (od (hr 0 _ rfl))
 subst h1
 have hsz:(ByteArray.mk s.toArray).size<=1048576:=by show s.toArray.size<=_;simpa using hs
 rcases h with ⟨v,hv⟩ | hv
 ·refine (Tryz.strconv_Atoi_ok ⟨s.toArray⟩ (by omega) v (by simpa using hv) c.w).mono ?_
  rintro e w' ⟨rfl,hw⟩
  refine ⟨_,rfl,?_,λ_ _=>False,λ_ _ h=>h.elim,?_⟩
  ·rcases hw with rfl | ⟨t,rfl⟩
   ·exact Below.refl _ _
   ·exact Ax _ _
  ·unfold Dd;rw [hv]
   refine .tup _ _ rfl λi u hu=>?_
   match i,hu with
   | 0,hu=>simp at hu;subst hu;exact .int _ _
   | 1,hu=>simp at hu;subst hu;exact .nili
 ·obtain ⟨ev,h4,hc⟩:=BU hg (g:=10) (u:=.nni) (by kernel_rfl)
  have hev:∃te pe,ev=.iface te pe:=by cases h4;exact ⟨_,_,rfl⟩
  refine (Tryz.strconv_Atoi_range ⟨s.toArray⟩ (by omega) (by simpa using hv) _ c.w hc (.inr hev)).mono ?_
  rintro e w' ⟨N,rfl,_,_,hb⟩
  refine ⟨_,rfl,hb,λ_ _=>False,λ_ _ h=>h.elim,?_⟩
  unfold Dd;rw [hv]
  refine .tup _ _ rfl λi u hu=>?_
  match i,hu with
  | 0,hu=>simp at hu;subst hu;exact .int _ _
  | 1,hu=>simp at hu;subst hu;exact .nni _ _
theorem Lm (s:List UInt8) (hs:s.length<=1048576):Ct wd.P wd.G mO [.str s,.str [46]] [] (L2 (Lib.split s [46]),[]):=by
 have e:Lib.split s [46]=(Lib.splitB ⟨#[46]⟩ 0 (Lib.countB ⟨s.toArray⟩ ⟨#[46]⟩) ⟨s.toArray⟩).map λs=>s.data.toList:=by
  rw [Lib.splitB_data];simp [Lib.split,Lib.countB]
 rw [e]
 have hl:=Lib.splitB_all ⟨#[46]⟩ (by decide) 0 _ ⟨s.toArray⟩ rfl
 refine Ao _ 9 ⟨_,Tryz.func170,by kernel_rfl,by kernel_rfl⟩ λc vs hg hsz hr=>?_
 have h1:=Qf hsz (od (hr 0 _ rfl)) (od (hr 1 _ rfl))
 subst h1
 obtain ⟨m,h4,hm⟩:=BU hg (g:=8) (u:=.num .i64) (by kernel_rfl)
 obtain ⟨m,rfl⟩:∃n,m=.int .i64 n:=by cases h4;exact ⟨_,rfl⟩
 refine (Tryz.strings_Split ⟨s.toArray⟩ ⟨#[46]⟩ m c.w (by show s.toArray.size < _;simp;omega) hm (by decide)).mono λe w' h=>?_
 rw [hl]
 exact h
def PD (l:List AV) (_:List AO) (x:Int):Prop:=∀a b,l=[.str a,.str b]->x=Lib.compareBytes a b
theorem uj (a b:List UInt8):aB wd tx SM.φI' PD [.str a,.str b] []:=⟨Lib.compareBytes a b,λa' b' e=>by
  simp only [List.cons.injEq,AV.str.injEq,and_true] at e
  rw [e.1,e.2],by
 refine sH rfl ⟨_,Tryz.func125,by kernel_rfl,by kernel_rfl⟩ λc vs hg hsz hr=>?_
 have h1:=Qf hsz (od (hr 0 _ rfl)) (od (hr 1 _ rfl))
 subst h1
 refine (Tryz.strings_Compare ⟨a.toArray⟩ ⟨b.toArray⟩ c.w).mono ?_
 rintro e w' ⟨rfl,rfl⟩
 refine ⟨_,rfl,Below.refl _ _,λ_ _=>False,λ_ _ h=>h.elim,?_⟩
 simp only
 exact .int _ _⟩
noncomputable abbrev Qb:Ent:=aY wd tx SM.φI' PD
end Go.T

namespace Go.T
open Go Go.Ab Go.Proofs Go.SH
def mkP (g:St->Bool) (v:St->Nat) (slot ex:Nat):Orc:=λs k=>cond (g s) (k (.exit ex) {env:=aput s.env slot (.int .i64 (v s)),objs:=s.objs}) none
instance:Inhabited St:=⟨{env:=[],objs:=[]}⟩
open Classical in
theorem CK {α:Type} {X:Cfg} {f:FuncId} {p:List Nat} (S:α->St) (Inv:α->Prop) (μ:α->Nat) (w:α->Nat) (slot ex:Nat) (hi:∀a b,Inv a->Inv b->S a=S b->w a=w b) (hb:kT (dS (bB X.P f) p)=true) (m:Nat)
  (round:∀v,Inv v->∀ (k:Ex->St->Res) (kn:St->Res),(∀v',Inv v'->μ v' < μ v->kn (S v')=k (.exit ex) {env:=aput (S v').env slot (.int .i64 (w v')),objs:=(S v').objs})->dW X f m p (S v) kn k=k (.exit ex) {env:=aput (S v).env slot (.int .i64 (w v)),objs:=(S v).objs}) :
  bu X f p (mkP (dm S Inv) (fV S Inv w) slot ex):=by
 obtain ⟨b,hb⟩:∃b,dS (bB X.P f) p=.loop b:=by
  cases hc:dS (bB X.P f) p with
  | loop b=>exact ⟨b,rfl⟩
  | _=>rw [hc] at hb;cases hb
 intro s k r h
 have hl:=xI (τ:=St) S Inv μ (λa=>{env:=aput (S a).env slot (.int .i64 (w a)),objs:=(S a).objs}) (λst k=>k (.exit ex) st) hb m round
 refine hl s k r ?_
 unfold mkP at h
 unfold mkO
 obtain ⟨hg,h⟩:=bn h
 rw [hg]
 have hx:∃a,Inv a/\S a=s:=by unfold dm at hg;exact of_decide_eq_true hg
 obtain ⟨a,ha,rfl⟩:=hx
 rw [yx hi ha] at h
 rw [cond_true,yx (w:=λa=>({env:=aput (S a).env slot (.int .i64 (w a)),objs:=(S a).objs}:St)) (λa b ha hb e=>by show St.mk _ _=St.mk _ _;rw [e,hi a b ha hb e]) ha]
 exact h
def QZ (s:List UInt8) (a:(Nat->List AV)×(Nat->List AV)×Int×Int×Int):St:={env:=[(0,.str s),(2,.ref 2 0),(4,.ref 4 0),(5,.int .i64 a.2.2.1),(6,.int .i64 a.2.2.2.1),(7,.int .i64 a.2.2.2.2)],objs:=[(2,.arr 1 3 a.1),(4,.arr 1 3 a.2.1)]}
def qW (s:List UInt8) (a:(Nat->List AV)×(Nat->List AV)×Int×Int×Int):Nat:=a.2.2.1.toNat+nx (s.drop a.2.2.1.toNat)
theorem Jc {s:List UInt8} {a b:(Nat->List AV)×(Nat->List AV)×Int×Int×Int} (h:QZ s a=QZ s b):qW s a=qW s b:=by
 unfold QZ at h
 simp only [St.mk.injEq,List.cons.injEq,Prod.mk.injEq,AV.int.injEq,and_true,true_and] at h
 unfold qW;rw [h.1.1]
abbrev PQ:List Nat:=[1,1,1,0,1,0,0,1,0,0,1,0,0]
theorem Cz (s:List UInt8) (hs:s.length<=1048576) (T:List Ent):∃ (u:St->Bool) (w:St->Nat),(∀a,(0<=a.2.2.1/\a.2.2.1<=(s.length:Int))->bU u w (QZ s a) (λt=>t=qW s a))/\∀L,bu (V0.run T 1 [] L [] qC) qC PQ (mkP u w 5 2):=by
 refine ⟨dm (QZ s) (λa=>0<=a.2.2.1/\a.2.2.1<=(s.length:Int)),fV (QZ s) (λa=>0<=a.2.2.1/\a.2.2.1<=(s.length:Int)) (qW s),λa ha=>⟨gP ha,yx (λa b _ _ h=>Jc h) ha⟩,λL=>?_⟩
 refine CK (QZ s) _ (λa=>(s.length - a.2.2.1).toNat) (qW s) 5 2 (λa b _ _ h=>Jc h) (by kernel_rfl) 9 λa ha k kn hk=>?_
 obtain ⟨g2,g4,i,x,y⟩:=a
 have h0:0<=i:=ha.1
 have h1:i<=(s.length:Int):=ha.2
 refine Eq.trans (b:=cond (bif within i s.length then true else !bif decide (i < (s.length:Int))==true then true else false) (cond (bif decide (i < (s.length:Int)) then ((s.getD i.toNat 0).toNat:Int) !=46 else false) (kn (QZ s (g2,g4,IntKind.wrap .i64 (i+1),x,y))) (k (.exit 2) (QZ s (g2,g4,i,x,y)))) none) (by kernel_rfl) ?_
 by_cases h:i < s.length
 ·rw [ay h0 h,decide_eq_true h]
  have hi:i.toNat < s.length:=by omega
  by_cases hd:s.getD i.toNat 0=46
  ·have e:(((s.getD i.toNat 0).toNat:Int) !=46)=false:=by rw [hd];rfl
   rw [e]
   show k (.exit 2) (QZ s (g2,g4,i,x,y))=k (.exit 2) {env:=aput (QZ s (g2,g4,i,x,y)).env 5 (.int .i64 ((i.toNat+nx (s.drop i.toNat):Nat):Int)),objs:=_}
   rw [Kt hi hd,Nat.add_zero,Int.toNat_of_nonneg h0];rfl
  ·have e:(((s.getD i.toNat 0).toNat:Int) !=46)=true:=bne_iff_ne.2 (λe=>hd (UInt8.toNat_inj.1 (by show _=46;omega)))
   rw [e,wrap_i64 (by omega) (by omega)]
   refine (hk (g2,g4,i+1,x,y) ⟨by show 0<=i+1;omega,by show i+1<=(s.length:Int);omega⟩ (by show (s.length - (i+1)).toNat < (s.length - i).toNat;omega)).trans ?_
   show k (.exit 2) {env:=aput (QZ s (g2,g4,i+1,x,y)).env 5 (.int .i64 (((i+1).toNat+nx (s.drop (i+1).toNat):Nat):Int)),objs:=_}=k (.exit 2) {env:=aput (QZ s (g2,g4,i,x,y)).env 5 (.int .i64 ((i.toNat+nx (s.drop i.toNat):Nat):Int)),objs:=_}
   rw [Ku hi hd,show (i+1).toNat=i.toNat+1 by omega,show i.toNat+1+nx (s.drop (i.toNat+1))=i.toNat+(nx (s.drop (i.toNat+1))+1) by omega];rfl
 ·have hw:within i s.length=false:=by unfold within;rw [decide_eq_false (show ¬ i < (s.length:Int) from h)];cases decide (0<=i) <;> rfl
  rw [decide_eq_false h,hw]
  show k (.exit 2) (QZ s (g2,g4,i,x,y))=k (.exit 2) {env:=aput (QZ s (g2,g4,i,x,y)).env 5 (.int .i64 ((i.toNat+nx (s.drop i.toNat):Nat):Int)),objs:=_}
  rw [List.drop_eq_nil_of_le (by omega),Mw,Nat.add_zero,Int.toNat_of_nonneg h0];rfl
def φ3P (x:(Nat->Int)×Bool):AV×List AO:=(.tup [.arr 1 3 λj=>[.int .i64 (x.1 j)],.bool x.2],[])
instance:Inhabited ((Nat->Int)×Bool):=⟨(λ_=>0,false)⟩
def r3P (l:List AV) (_:List AO) (x:(Nat->Int)×Bool):Prop:=∀s,l=[.str s]->x.2=fZ s
theorem r3P.mk {s:List UInt8} {os:List AO} {x:(Nat->Int)×Bool} (h:x.2=fZ s):r3P [.str s] os x:=λs' e=>by
 simp only [List.cons.injEq,AV.str.injEq,and_true] at e
 rw [<-e];exact h
theorem CA {s r q:List UInt8} (hr:s.drop (nx s+1)=r) (hq:r.drop (nx r+1)=q):fZ s=(decide (nx s < s.length)&&(!lT (s.take (nx s))&&(decide (nx r < r.length)&&(!lT (r.take (nx r))&&(!decide (nx q < q.length)&&!lT (q.take (nx q))))))):=by
 by_cases d1:nx s < s.length
 ·by_cases d2:nx r < r.length
  ·by_cases d3:nx q < q.length
   ·rw [Mg d1 hr d2 hq d3,decide_eq_true d3]
    cases decide (nx s < s.length) <;> cases decide (nx r < r.length) <;> cases lT (s.take (nx s)) <;> cases lT (r.take (nx r)) <;> rfl
   ·rw [Mf d1 hr d2 hq d3,decide_eq_true d1,decide_eq_true d2,decide_eq_false d3,List.take_of_length_le (by have:=H8 q;omega:q.length<=nx q)]
    cases lT (s.take (nx s)) <;> cases lT (r.take (nx r)) <;> cases lT q <;> rfl
  ·rw [Mh d1 hr d2,decide_eq_false d2]
   cases decide (nx s < s.length) <;> cases lT (s.take (nx s)) <;> rfl
 ·rw [Mi d1,decide_eq_false d1];rfl
theorem p1 {b d:Bool} (x:Bool) (h:(bif b then true else !true==d)=true):(d&&(!b&&x))=false:=by cases b <;> cases d <;> first | rfl | cases h
theorem p2 {b d:Bool} (h:(bif b then true else !true==d)=false):d=true/\b=false:=by cases b <;> cases d <;> first | exact ⟨rfl,rfl⟩ | cases h
theorem p3 {b d:Bool} (h:(bif b then true else !false==d)=true):(!d&&!b)=false:=by cases b <;> cases d <;> first | rfl | cases h
theorem p4 {b d:Bool} (h:(bif b then true else !false==d)=false):(!d&&!b)=true:=by cases b <;> cases d <;> first | rfl | cases h
theorem Es (s:List UInt8) (hs:s.length<=1048576):aB wd qC φ3P r3P [.str s] []:=by
 obtain ⟨u,w,h,hl⟩:=Cz s hs [M8]
 obtain ⟨r,hr⟩:∃r,s.drop (nx s+1)=r:=⟨_,rfl⟩
 obtain ⟨q,hq⟩:∃q,r.drop (nx r+1)=q:=⟨_,rfl⟩
 have pc:=CA hr hq
 have no:fZ s=false->Run (r3P [.str s] []) φ3P (some (.tup [.arr 1 3 λ_=>[.int .i64 0],.bool false],[])):=λe=>.r (λ_=>0,false) (.mk e.symm)
 have ls:=H8 s
 have lr:=H8 r
 have lq:=H8 q
 have len:∀ (a b:Nat),(List.take a (s.drop b)).length<=1048576:=λa b=>by rw [List.length_take,List.length_drop];omega
 exact cM (V:=V0) (T:=[M8]) (d:=1) 0 (ag (hl _) aE) aD (.lp (h ((λ_=>[.int .i64 0]),(λ_=>[.int .i64 0]),0,0,0) ⟨Int.le_refl _,by show (0:Int)<=(s.length:Int);omega⟩) λt1 q1=>
  have q1:t1=nx s:=by rw [q1];show 0+nx (s.drop 0)=nx s;rw [List.drop_zero,Nat.zero_add]
  .n (c:=decide ((0:Int)<=0)&&(decide ((0:Int)<=(t1:Int))&&decide ((t1:Int)<=(s.length:Int)))) (slT (Int.le_refl _) (by omega) (by omega)) (.call (yO (List.take (Int.toNat (t1:Int) - Int.toNat 0) (List.drop (Int.toNat 0) s)) (len _ _)) λx1 y1=>
  have e1:(bif bif x1.2 !=0 then true else decide (x1.1 < 0) then true else decide (x1.1 > 999999))=lT (s.take (nx s)):=by rw [y1 _ rfl,q1];rfl
  .b (bif bif bif x1.2 !=0 then true else decide (x1.1 < 0) then true else decide (x1.1 > 999999) then true else !decide ((0:Int) < 2)==decide ((t1:Int) < (s.length:Int))) (λhc=>no (by
   rw [e1,q1,KB] at hc
   rw [pc];exact p1 _ hc)) λhc=>
  have hc:decide (nx s < s.length)=true/\lT (s.take (nx s))=false:=by
   rw [e1,q1,KB] at hc
   exact p2 hc
  have hlt:=of_decide_eq_true hc.1
  have a1:IntKind.wrap .i64 ((t1:Int)+1)=((nx s+1:Nat):Int):=by rw [q1,bb (by omega)]
  have lr':r.length=s.length - (nx s+1):=by rw [<-hr,List.length_drop]
  .lp (h ((λ_=>[.int .i64 0]),(λj=>bif Nat.beq j (Int.toNat 0) then [.int .i64 x1.1] else [.int .i64 0]),IntKind.wrap .i64 ((t1:Int)+1),IntKind.wrap .i64 (0+1),IntKind.wrap .i64 ((t1:Int)+1)) ⟨by show (0:Int)<=IntKind.wrap .i64 ((t1:Int)+1);omega,by show IntKind.wrap .i64 ((t1:Int)+1)<=(s.length:Int);omega⟩) λt2 q2=>
  have q2:t2=nx s+1+nx r:=by rw [q2];show (IntKind.wrap .i64 ((t1:Int)+1)).toNat+nx (s.drop (IntKind.wrap .i64 ((t1:Int)+1)).toNat)=_;rw [a1,Int.toNat_natCast,hr]
  .n (c:=decide (0<=IntKind.wrap .i64 ((t1:Int)+1))&&(decide (IntKind.wrap .i64 ((t1:Int)+1)<=(t2:Int))&&decide ((t2:Int)<=(s.length:Int)))) (slT (by omega) (by omega) (by omega)) (.call (yO (List.take (Int.toNat (t2:Int) - Int.toNat (IntKind.wrap .i64 ((t1:Int)+1))) (List.drop (Int.toNat (IntKind.wrap .i64 ((t1:Int)+1))) s)) (len _ _)) λx2 y2=>
  have e2:(bif bif x2.2 !=0 then true else decide (x2.1 < 0) then true else decide (x2.1 > 999999))=lT (r.take (nx r)):=by rw [y2 _ rfl,q2,a1,Int.toNat_natCast,Int.toNat_natCast,Nat.add_sub_cancel_left,hr];rfl
  have f2:decide ((t2:Int) < (s.length:Int))=decide (nx r < r.length):=by
   rw [q2]
   by_cases hx:nx r < r.length
   ·rw [decide_eq_true hx,decide_eq_true (by omega)]
   ·rw [decide_eq_false hx,decide_eq_false (by omega)]
  .b (bif bif bif x2.2 !=0 then true else decide (x2.1 < 0) then true else decide (x2.1 > 999999) then true else !decide (IntKind.wrap .i64 (0+1) < 2)==decide ((t2:Int) < (s.length:Int))) (λhc2=>no (by
   rw [e2,f2] at hc2
   rw [pc,hc.1,hc.2];exact (p1 (b:=lT (r.take (nx r))) (d:=decide (nx r < r.length)) _ hc2:(decide (nx r < r.length)&&(!lT (r.take (nx r))&&(!decide (nx q < q.length)&&!lT (q.take (nx q)))))=false))) λhc2=>
  have hc2:decide (nx r < r.length)=true/\lT (r.take (nx r))=false:=by
   rw [e2,f2] at hc2
   exact p2 hc2
  have hlt2:=of_decide_eq_true hc2.1
  have a2:IntKind.wrap .i64 ((t2:Int)+1)=((nx s+1+nx r+1:Nat):Int):=by rw [q2,bb (by omega)]
  have hq':s.drop (nx s+1+nx r+1)=q:=by rw [<-hq,<-hr,List.drop_drop];congr 1
  have lq':q.length=r.length - (nx r+1):=by rw [<-hq,List.length_drop]
  .lp (h ((λ_=>[.int .i64 0]),(λj=>bif Nat.beq j (Int.toNat (IntKind.wrap .i64 (0+1))) then [.int .i64 x2.1] else bif Nat.beq j (Int.toNat 0) then [.int .i64 x1.1] else [.int .i64 0]),IntKind.wrap .i64 ((t2:Int)+1),IntKind.wrap .i64 (IntKind.wrap .i64 (0+1)+1),IntKind.wrap .i64 ((t2:Int)+1)) ⟨by show (0:Int)<=IntKind.wrap .i64 ((t2:Int)+1);omega,by show IntKind.wrap .i64 ((t2:Int)+1)<=(s.length:Int);omega⟩) λt3 q3=>
  have q3:t3=nx s+1+nx r+1+nx q:=by rw [q3];show (IntKind.wrap .i64 ((t2:Int)+1)).toNat+nx (s.drop (IntKind.wrap .i64 ((t2:Int)+1)).toNat)=_;rw [a2,Int.toNat_natCast,hq']
  .n (c:=decide (0<=IntKind.wrap .i64 ((t2:Int)+1))&&(decide (IntKind.wrap .i64 ((t2:Int)+1)<=(t3:Int))&&decide ((t3:Int)<=(s.length:Int)))) (slT (by omega) (by omega) (by omega)) (.call (yO (List.take (Int.toNat (t3:Int) - Int.toNat (IntKind.wrap .i64 ((t2:Int)+1))) (List.drop (Int.toNat (IntKind.wrap .i64 ((t2:Int)+1))) s)) (len _ _)) λx3 y3=>
  have e3:(bif bif x3.2 !=0 then true else decide (x3.1 < 0) then true else decide (x3.1 > 999999))=lT (q.take (nx q)):=by rw [y3 _ rfl,q3,a2,Int.toNat_natCast,Int.toNat_natCast,Nat.add_sub_cancel_left,hq'];rfl
  have f3:decide ((t3:Int) < (s.length:Int))=decide (nx q < q.length):=by
   rw [q3]
   by_cases hx:nx q < q.length
   ·rw [decide_eq_true hx,decide_eq_true (by omega)]
   ·rw [decide_eq_false hx,decide_eq_false (by omega)]
  .b (bif bif bif x3.2 !=0 then true else decide (x3.1 < 0) then true else decide (x3.1 > 999999) then true else !decide (IntKind.wrap .i64 (IntKind.wrap .i64 (0+1)+1) < 2)==decide ((t3:Int) < (s.length:Int))) (λhc3=>no (by
   rw [e3,f3] at hc3
   rw [pc,hc.1,hc.2,hc2.1,hc2.2];exact p3 (b:=lT (q.take (nx q))) (d:=decide (nx q < q.length)) hc3)) λhc3=>
  .e ((λj=>bif Nat.beq j 2 then x3.1 else bif Nat.beq j 1 then x2.1 else bif Nat.beq j 0 then x1.1 else 0),true) (r:=(.tup [.arr 1 3 λj=>bif Nat.beq j (Int.toNat (IntKind.wrap .i64 (IntKind.wrap .i64 (0+1)+1))) then [.int .i64 x3.1] else bif Nat.beq j (Int.toNat (IntKind.wrap .i64 (0+1))) then [.int .i64 x2.1] else bif Nat.beq j (Int.toNat 0) then [.int .i64 x1.1] else [.int .i64 0],.bool true],[])) (.mk (by
   rw [e3,f3] at hc3
   rw [pc,hc.1,hc.2,hc2.1,hc2.2];exact (p4 (b:=lT (q.take (nx q))) (d:=decide (nx q < q.length)) hc3).symm)) (by
   have e:(λj=>bif Nat.beq j (Int.toNat (IntKind.wrap .i64 (IntKind.wrap .i64 (0+1)+1))) then [AV.int .i64 x3.1] else bif Nat.beq j (Int.toNat (IntKind.wrap .i64 (0+1))) then [.int .i64 x2.1] else bif Nat.beq j (Int.toNat 0) then [.int .i64 x1.1] else [.int .i64 0])=λj=>[AV.int .i64 (bif Nat.beq j 2 then x3.1 else bif Nat.beq j 1 then x2.1 else bif Nat.beq j 0 then x1.1 else 0)]:=by
    funext j
    show (bif Nat.beq j 2 then [AV.int .i64 x3.1] else bif Nat.beq j 1 then [.int .i64 x2.1] else bif Nat.beq j 0 then [.int .i64 x1.1] else [.int .i64 0])=_
    cases Nat.beq j 2 <;> cases Nat.beq j 1 <;> cases Nat.beq j 0 <;> rfl
   rw [e];rfl))))) (by kernel_rfl)
noncomputable abbrev QJ:Ent:=aY wd qC φ3P r3P
theorem hZ (s:List UInt8) (hs:s.length<=Fe):aB wd vd φB (rS dc) [.str s] []:=by
 obtain ⟨u,o,hu,hl⟩:=bG (V:=V0) (T:=[N3]) (d:=1) (W:=[]) (f:=vd) (p:=P3) (Lf:=λL=>L) (SwZ s) s.length (λi=>bif ctrl (s.getD i 0).toNat then some false else none) (LA 2) (λk=>k (.exit 0) {env:=[],objs:=[]}) (by kernel_rfl)
  (λi a=>.n a.w (.n (c:=bif within (i:Int) s.length then true else !bif decide (((s.getD i 0).toNat:Int) < 32)==false then true else false) (gw a.w) (.b (ctrl (s.getD i 0).toNat) (λh=>.sp false a (nM h)) λh=>.up a hs (nN h)))) (λi L k kn=>by kernel_rfl)
 exact ff (V:=V0) [N3] 1 hl (.call (IY s hs) λb q=>.b (bif decide ((s.length:Int) > 200) then true else !b) (λh=>.r false (.mk (by
   rw [BF,q s rfl] at h
   unfold dc
   cases hx:decide (s.length<=200) <;> cases hy:GB s <;> simp_all))) λh=>.lp hu λt qt=>.b t.1 (λh1=>.r t.2 (.mk (by
   have qt:t=lP s:=qt
   rw [qt] at h1 ⊢
   have hv:(lP s).2=false:=lD h1
   unfold dc;rw [hv,h1];simp))) λh1=>.r true (.mk (by
   have qt:t=lP s:=qt
   rw [BF,q s rfl] at h
   rw [qt] at h1
   unfold dc
   cases hx:decide (s.length<=200) <;> cases hy:GB s <;> simp_all))) (by kernel_rfl)
noncomputable abbrev sx:Ent:=aY wd vd φB (rS dc)
end Go.T

namespace Go.T
open Go Go.Ab Go.Proofs Go.SH
theorem GI (n k:Nat):decide ((n:Int) > (k:Int))=decide (n > k):=rY n k
theorem bef {i n:Nat} (h:i < n) (hn:n<=4611686018427387904):IntKind.wrap .i64 (((1+i:Nat):Int) - 1)=(i:Int):=by rw [wrap_i64 (by omega) (by omega)];omega
theorem HR (l:List (List UInt8)) (hl:iz l):aB wd u9 SH.φE (rIs (bN l)) [bR l] []:=by
 have hm:=hl.1
 obtain ⟨u1,w1,h1,l1⟩:=bG (V:=V0) (T:=[sx]) (d:=1) (W:=[]) (f:=u9) (p:=P3) (Lf:=λL=>L) (LZ (bR l)) l.length (λi=>bif !dc (l.getD i []) then some () else none) (λ_ k=>k .ret {env:=[(2,.int .i64 2)],objs:=[]}) (λk=>k (.exit 0) {env:=[(0,bR l)],objs:=[]}) (by kernel_rfl)
  (λi a=>.n a.w (.call (hZ _ (hl.at a.lt)) λb q=>.b (!b) (λh=>.sp () a (nM (by rw [<-q _ rfl];exact h))) λh=>.up a hm (nN (by rw [<-q _ rfl];exact h)))) (λi L k kn=>by kernel_rfl)
 obtain ⟨u2,w2,h2,l2⟩:=kB (V:=V0) (T:=[sx]) (d:=1) (W:=[]) (f:=u9) (p:=PB) (Lf:=λL=>L) (Z2 l) (l.length - 1) (·+1) (s1 _) (λi=>bif !aH (l.getD i []) (l.getD (1+i) []) then some () else none) (λ_ k=>k .ret {env:=[(2,.int .i64 9)],objs:=[]}) (λ_ k=>k (.exit 2) {env:=[],objs:=[]}) (λi=>decide (((1+i:Nat):Int) < (l.length:Int))) (λi=>by
   by_cases h:i < l.length - 1
   ·rw [decide_eq_true h,decide_eq_true (by omega)]
   ·rw [decide_eq_false h,decide_eq_false (by omega)]) (by kernel_rfl)
  (λi a=>
   have ai:=a.lt
   have w:=bef (i:=i) (n:=l.length) (by omega) hm
   .n (cw (show 1+i < l.length by omega)) (.n (c:=within (IntKind.wrap .i64 (((1+i:Nat):Int) - 1)) l.length) (by rw [w];exact cw (by omega))
   (.b (aH (l.getD (1+i) []) (l.getD (Int.toNat (IntKind.wrap .i64 (((1+i:Nat):Int) - 1))) [])||l.getD (1+i) []==l.getD (Int.toNat (IntKind.wrap .i64 (((1+i:Nat):Int) - 1))) [])
    (λh=>.sp () a (nM (by rw [w,Int.toNat_natCast,zB] at h;exact h)))
    λh=>.on {env:=[(0,bR l),(4,.int .i64 (IntKind.wrap .i64 (((1+i:Nat):Int)+1)))],objs:=[]} a (nN (by rw [w,Int.toNat_natCast,zB] at h;exact h)) (by rw [bb (by omega)];rfl)))) (λi L k kn=>by kernel_rfl)
 exact cM (V:=V0) (T:=[sx]) (d:=1) 0 (ag (l1 _) (ag (l2 _) aE)) aD (.b (decide ((l.length:Int) > 20)) (λh=>.r 5 (by
   have h:decide (l.length > 20)=true:=(GI _ 20).symm.trans h
   unfold rIs bN;rw [h];rfl)) λh=>
  have h:decide (l.length > 20)=false:=(GI _ 20).symm.trans h
  .lp h1 λt q=>have q:t=Dt l:=q
  .b t.1 (λh3=>.r 2 (by rw [q] at h3;unfold rIs bN;rw [h,h3];rfl)) λh3=>.lp h2 λt2 q2=>
   have q2:t2.1=(xv l).1:=by rw [EY,show t2=y9 l from q2]
   .b t2.1 (λh4=>.r 9 (by rw [q] at h3;rw [q2] at h4;unfold rIs bN;rw [h,h3,h4];rfl)) λh4=>.r 0 (by rw [q] at h3;rw [q2] at h4;unfold rIs bN;rw [h,h3,h4];rfl)) (by kernel_rfl)
theorem EF (v:VAL) (hv:v.Ok):aB wd vc SH.φE (rIs (cr v)) [.agg v.c] []:=by
 have ht:fe v.text:=by have:=hv.1;unfold fe Fe;omega
 exact ea (V:=V0) [sx,QJ,aY wd u9 SH.φE (rIs (bN v.list))] 9 (.b (bif decide (v.kind < 1) then true else decide (v.kind > 5)) (λh=>.r 7 (by unfold rIs cr;rw [<-Bool.cond_true_left,h];rfl)) λh=>
  have h1:(decide (v.kind < 1)||decide (v.kind > 5))=false:=by rw [<-Bool.cond_true_left];exact h
  have sh:(!bif bif bif bif v.kind==1 then true else v.kind==2 then true else v.num==0 then bif bif v.kind==3 then true else v.kind==4 then true else v.text==[] else false then bif v.kind==5 then true else (v.list.length:Int)==0 else false)=!j5 v:=by
   have hk:v.kind=1∨v.kind=2∨v.kind=3∨v.kind=4∨v.kind=5:=by simp at h1;omega
   unfold j5
   rw [cY]
   rcases hk with hk | hk | hk | hk | hk <;> rw [hk] <;> cases v.num==0 <;> cases v.text==[] <;> cases v.list.length==0 <;> rfl
  .b (!bif bif bif bif v.kind==1 then true else v.kind==2 then true else v.num==0 then bif bif v.kind==3 then true else v.kind==4 then true else v.text==[] else false then bif v.kind==5 then true else (v.list.length:Int)==0 else false) (λh2=>.r 15 (by rw [sh] at h2;unfold rIs cr;rw [h1,h2];rfl)) λh2=>
  have h2:(!j5 v)=false:=sh.symm.trans h2
  .b (v.kind==1) (λk=>.b (bif v.num !=0 then v.num !=1 else false) (λh3=>.r 3 (by rw [Bool.cond_false_right] at h3;unfold rIs cr;rw [h1,h2,k,h3];rfl)) λh3=>.r 0 (by rw [Bool.cond_false_right] at h3;unfold rIs cr;rw [h1,h2,k,h3];rfl)) λk1=>
  .b (v.kind==2) (λk=>.b (bif decide (v.num < -1099511627776) then true else decide (v.num > 1099511627776)) (λh3=>.r 3 (by rw [Bool.cond_true_left] at h3;unfold rIs cr;rw [h1,h2,k1,k,h3];rfl)) λh3=>.r 0 (by rw [Bool.cond_true_left] at h3;unfold rIs cr;rw [h1,h2,k1,k,h3];rfl)) λk2=>
  .b (v.kind==3) (λk=>.call (hZ v.text ht) λb q=>.b (!b) (λh3=>.r 2 (by rw [q _ rfl] at h3;unfold rIs cr;rw [h1,h2,k1,k2,k,h3];rfl)) λh3=>.r 0 (by rw [q _ rfl] at h3;unfold rIs cr;rw [h1,h2,k1,k2,k,h3];rfl)) λk3=>
  .b (v.kind==4) (λk=>.call (Es v.text hv.1) λb q=>.b (!b.2) (λh3=>.r 1 (by rw [q _ rfl] at h3;unfold rIs cr;rw [h1,h2,k1,k2,k3,k,h3];rfl)) λh3=>.r 0 (by rw [q _ rfl] at h3;unfold rIs cr;rw [h1,h2,k1,k2,k3,k,h3];rfl)) λk4=>
  .b (v.kind==5) (λk=>.call (HR v.list hv.2) λt q=>.r t (by rw [show t=bN v.list from q];unfold rIs cr;rw [h1,h2,k1,k2,k3,k4];rfl)) λk5=>.r 0 (by
   exfalso
   have e1:v.kind≠1:=by simpa using k1
   have e2:v.kind≠2:=by simpa using k2
   have e3:v.kind≠3:=by simpa using k3
   have e4:v.kind≠4:=by simpa using k4
   have e5:v.kind≠5:=by simpa using k5
   simp at h1;omega)) (by kernel_rfl)
def rV (l:List AV) (_:List AO) (x:Int):Prop:=∀v:VAL,l=[.agg v.c]->x=cr v
theorem EE (v:VAL) (hv:v.Ok):aB wd vc SH.φE rV [.agg v.c] []:=(EF v hv).mono λx h v' e=>by
 have e:v=v':=VAL.cK (by simpa using e)
 rw [<-e];exact h
noncomputable abbrev FU:Ent:=aY wd vc SH.φE rV
end Go.T

namespace Go.T
open Go Go.Ab Go.Proofs Go.SH
theorem JX {l:List (Int×Int×Int)} {i:Nat} (h:i < l.length) (hm:l.length<=4611686018427387904) (c1:¬ (l.getD i (0,0,0)).2.2 < 1):(bif bif (l.getD i (0,0,0)).1 !=(eS l i).2.1 then true else decide ((l.getD i (0,0,0)).2.1<=(eS l i).2.1) then true else bif decide ((i:Int) > 0) then (l.getD i (0,0,0)).2.2==(l.getD (Int.toNat (IntKind.wrap .i64 ((i:Int) - 1))) (0,0,0)).2.2 else false)
  = ((l.getD i (0,0,0)).1 !=(eS l i).2.1||(decide ((l.getD i (0,0,0)).2.1<=(l.getD i (0,0,0)).1)||(l.getD i (0,0,0)).2.2==(eS l i).2.2)):=by
 rw [pv (λj=>(l.getD i (0,0,0)).2.2==(l.getD j (0,0,0)).2.2) h hm]
 have e0:(decide (i > 0)&&(l.getD i (0,0,0)).2.2==(l.getD (i - 1) (0,0,0)).2.2)=((l.getD i (0,0,0)).2.2==(eS l i).2.2):=by
  unfold eS
  by_cases h0:i=0
  ·rw [if_pos h0,decide_eq_false (by omega),Bool.false_and]
   exact (beq_eq_false_iff_ne.2 (by show _≠(0:Int);omega)).symm
  ·rw [if_neg h0,decide_eq_true (by omega),Bool.true_and]
 rw [e0]
 by_cases c3:(l.getD i (0,0,0)).1=(eS l i).2.1
 ·rw [show ((l.getD i (0,0,0)).1 !=(eS l i).2.1)=false from bne_eq_false_iff_eq.2 c3,<-c3]
  cases decide ((l.getD i (0,0,0)).2.1<=(l.getD i (0,0,0)).1) <;> rfl
 ·rw [show ((l.getD i (0,0,0)).1 !=(eS l i).2.1)=true from bne_iff_ne.2 c3];rfl
theorem xh (l:List (Int×Int×Int)) (n:Int) (hm:l.length<=4611686018427387904):aB wd qu SH.φE (rIs (dJ l n)) [lF l,.int .i64 n] []:=by
 obtain ⟨u,w,hu,hl⟩:=kB (V:=V0) (T:=[]) (d:=1) (W:=[]) (f:=qu) (p:=PB) (Lf:=λL=>L) (λi:Nat=>Sq l n (eS l i).2.1 i) l.length (·+1) (s1 _) (eN l n) (qh 4) (λi k=>k (.exit 0) {env:=[(5,.int .i64 (eS l i).2.1)],objs:=[]}) (λi=>decide ((i:Int) < (l.length:Int))) (λi=>KB i _) (by kernel_rfl)
  (λi a=>.n a.w (.gd (!bif decide ((l.getD i (0,0,0)).2.2 < 1)==false then true else false) a.w (.b (bif decide ((l.getD i (0,0,0)).2.2 < 1) then true else decide ((l.getD i (0,0,0)).2.2 > n)) (λh=>.sp 3 a (by rw [Bool.cond_true_left] at h;unfold eN;rw [h];rfl)) λh=>
   have h:(decide ((l.getD i (0,0,0)).2.2 < 1)||decide ((l.getD i (0,0,0)).2.2 > n))=false:=by rw [<-Bool.cond_true_left];exact h
   have c:=JX a.lt hm (of_decide_eq_false (Bool.or_eq_false_iff.1 h).1)
   .n a.w (.gd (!bif ((l.getD i (0,0,0)).1 !=(eS l i).2.1)==false then true else false) a.w
   (.gd (!bif decide ((i:Int) > 0)==true then bif (bif (l.getD i (0,0,0)).1 !=(eS l i).2.1 then true else decide ((l.getD i (0,0,0)).2.1<=(eS l i).2.1))==false then true else false else false) a.w
   (.gp (bif (bif (l.getD i (0,0,0)).1 !=(eS l i).2.1 then true else decide ((l.getD i (0,0,0)).2.1<=(eS l i).2.1))==false then true else false) a.lt hm
   (.b (bif bif (l.getD i (0,0,0)).1 !=(eS l i).2.1 then true else decide ((l.getD i (0,0,0)).2.1<=(eS l i).2.1) then true else bif decide ((i:Int) > 0) then (l.getD i (0,0,0)).2.2==(l.getD (Int.toNat (IntKind.wrap .i64 ((i:Int) - 1))) (0,0,0)).2.2 else false)
    (λh2=>.sp 9 a (by unfold eN;rw [h,<-c,h2];rfl))
    λh2=>.n a.w (.on {env:=[(0,lF l),(1,.int .i64 n),(5,.int .i64 (l.getD i (0,0,0)).2.1),(6,.int .i64 (IntKind.wrap .i64 ((i:Int)+1)))],objs:=[]} a (by unfold eN;rw [h,<-c,h2];rfl) (by rw [tM,bb (by have:=a.lt;omega)];rfl))))))))) (λi L k kn=>by kernel_rfl)
 exact ff (V:=V0) [] 1 hl (.b (decide ((l.length:Int) > 16)) (λh=>.r 5 (by
   have h:decide (l.length > 16)=true:=(GI _ 16).symm.trans h
   unfold rIs dJ;rw [h];rfl)) λh=>
  have h:decide (l.length > 16)=false:=(GI _ 16).symm.trans h
  .lp hu λt q=>have q:t=mP l n:=q
  .b t.1 (λh3=>.r t.2 (by rw [q] at h3 ⊢;unfold rIs dJ;rw [h,h3];rfl)) λh3=>.b ((eS l l.length).2.1 !=10000) (λh4=>.r 3 (by rw [q] at h3;unfold rIs dJ;rw [h,h3,h4];rfl)) λh4=>.r 0 (by rw [q] at h3;unfold rIs dJ;rw [h,h3,h4];rfl)) (by kernel_rfl)
theorem fK {l n:Nat} {stop:Nat->Option Int} {A:List AV} {t:Bool×Int} (q:t=br l (·+1) stop 0) (hl:decide ((l:Int) > (n:Int))=false):Run (rIs (bif decide (l > n) then 5 else bif (br l (·+1) stop 0).1 then (br l (·+1) stop 0).2 else 0) A []) SH.φE (cond t.1 (some (.int .i64 t.2,[])) (some (.int .i64 0,[]))):=by
 rw [GI] at hl
 rw [hl,<-q]
 exact .b t.1 (λh=>.r t.2 (by unfold rIs;rw [h];rfl)) λh=>.r 0 (by unfold rIs;rw [h];rfl)
theorem fL {l n:Nat} {e:Int} {A:List AV} (hl:decide ((l:Int) > (n:Int))=true):Run (rIs (bif decide (l > n) then 5 else e) A []) SH.φE (some (.int .i64 5,[])):=by
 rw [GI] at hl
 rw [hl]
 exact .r 5 rfl
theorem Em (l:List (Int×Int)) (hm:l.length<=4611686018427387904):aB wd u6 SH.φE (rIs (oS l)) [yr l] []:=by
 obtain ⟨u,w,hu,hl⟩:=bG (V:=V0) (T:=[]) (d:=1) (W:=[]) (f:=u6) (p:=P3) (Lf:=λL=>L) (LZ (yr l)) l.length (gH l) (qh 2) (λk=>k (.exit 0) {env:=[],objs:=[]}) (by kernel_rfl)
  (λi a=>
   have c:=pv (λj=>decide ((l.getD i (0,0)).1<=(l.getD j (0,0)).2)) a.lt hm
   .n a.w (.gd (!bif decide ((l.getD i (0,0)).1 < 0)==false then true else false) a.w (.gd (!bif decide ((l.getD i (0,0)).1 < 0)==false then true else false) a.w (.gd (!bif (bif decide ((l.getD i (0,0)).1 < 0) then true else decide ((l.getD i (0,0)).1≥(l.getD i (0,0)).2))==false then true else false) a.w
   (.b (bif bif decide ((l.getD i (0,0)).1 < 0) then true else decide ((l.getD i (0,0)).1≥(l.getD i (0,0)).2) then true else decide ((l.getD i (0,0)).2 > 10000)) (λh=>.sp 3 a (by rw [Bool.cond_true_left,Bool.cond_true_left,Bool.or_assoc] at h;unfold gH;rw [h];rfl)) λh=>
   have h:(decide ((l.getD i (0,0)).1 < 0)||(decide ((l.getD i (0,0)).1≥(l.getD i (0,0)).2)||decide ((l.getD i (0,0)).2 > 10000)))=false:=by rw [<-Bool.or_assoc,<-Bool.cond_true_left,<-Bool.cond_true_left];exact h
   .gd (!bif decide ((i:Int) > 0)==true then true else false) a.w (.gp true a.lt hm (.b (bif decide ((i:Int) > 0) then decide ((l.getD i (0,0)).1<=(l.getD (Int.toNat (IntKind.wrap .i64 ((i:Int) - 1))) (0,0)).2) else false)
    (λh2=>.sp 9 a (by unfold gH;rw [h,<-c,h2];rfl)) λh2=>.up a hm (by unfold gH;rw [h,<-c,h2];rfl)))))))) (λi L k kn=>by kernel_rfl)
 exact ff (V:=V0) [] 1 hl (.b (decide ((l.length:Int) > 16)) (λh=>fL (n:=16) h) λh=>.lp hu λt q=>fK (n:=16) q h) (by kernel_rfl)
def Je (l:List (List UInt8)) (i j:Nat):Bool:=aH (l.getD i []) (l.getD j [])||l.getD i []==l.getD j []
theorem HQ (l:List (List UInt8)) (hl:iz l):aB wd lH SH.φE (rIs (CG l)) [bR l] []:=by
 have hm:=hl.1
 obtain ⟨u,w,hu,hlo⟩:=bG (V:=V0) (T:=[sx]) (d:=1) (W:=[]) (f:=lH) (p:=P3) (Lf:=λL=>L) (LZ (bR l)) l.length (jO l) (qh 2) (λk=>k (.exit 0) {env:=[],objs:=[]}) (by kernel_rfl)
  (λi a=>
   have c:=pv (Je l i) a.lt hm
   .n a.w (.gd (!bif (l.getD i []==[])==false then true else false) a.w (.call (hZ (l.getD i []) (hl.at a.lt)) λb q=>.b (bif l.getD i []==[] then true else !b) (λh=>.sp 2 a (by rw [q _ rfl,Bool.cond_true_left] at h;unfold jO;rw [h];rfl)) λh=>
   have h:(l.getD i []==[]||!dc (l.getD i []))=false:=by rw [<-q _ rfl,<-Bool.cond_true_left];exact h
   .gd (!bif decide ((i:Int) > 0)==true then true else false) a.w (.gp true a.lt hm (.b (bif decide ((i:Int) > 0) then Je l i (Int.toNat (IntKind.wrap .i64 ((i:Int) - 1))) else false)
    (λh2=>.sp 9 a (by rw [c] at h2;unfold Je at h2;unfold jO;rw [h,h2];rfl)) λh2=>.up a hm (by rw [c] at h2;unfold Je at h2;unfold jO;rw [h,h2];rfl)))))) (λi L k kn=>by kernel_rfl)
 exact ff (V:=V0) [sx] 1 hlo (.b (decide ((l.length:Int) > 40)) (λh=>fL (n:=40) h) λh=>.lp hu λt q=>fK (n:=40) q h) (by kernel_rfl)
theorem En (v:SERVE) (n:Int) (hv:v.Ok):aB wd qA SH.φE (rIs (cg v n)) [.agg v.c,.int .i64 n] []:=by
 obtain ⟨h1,h2,h3,h4⟩:=hv
 exact ea (V:=V0) [jW,sx,aY wd qu SH.φE (rIs (dJ v.split n))] 1 (.b (v.var !=0) (λa=>.b (bif decide (v.var < 1) then true else decide (v.var > n)) (λb=>.r 3 (by rw [Bool.cond_true_left] at b;unfold rIs cg;rw [a,b];rfl)) λb=>
   .b (bif bif bif !v.kind==[] then true else !v.by'==[] then true else !v.salt==[] then true else decide ((v.split.length:Int) > 0)) (λc=>.r 15 (by rw [Bool.cond_true_left] at b;simp only [Bool.cond_true_left,Bool.or_assoc] at c;unfold rIs cg;rw [a,b,c];rfl))
    λc=>.r 0 (by rw [Bool.cond_true_left] at b;simp only [Bool.cond_true_left,Bool.or_assoc] at c;unfold rIs cg;rw [a,b,c];rfl))
  λa=>.call (dz v.kind h1) λx qx=>.call (dz v.by' h2) λy qy=>.b (bif !x then true else !y) (λb=>.r 6 (by rw [qx _ rfl,qy _ rfl,Bool.cond_true_left] at b;unfold rIs cg;rw [a,b];rfl)) λb=>
   have b:(!dX v.kind||!dX v.by')=false:=by rw [<-qx _ rfl,<-qy _ rfl,<-Bool.cond_true_left];exact b
   .call (hZ v.salt h3) λz qz=>.b (!z) (λc=>.r 2 (by rw [qz _ rfl] at c;unfold rIs cg;rw [a,b,c];rfl)) λc=>.call (xh v.split n h4) λt q=>.r t (by rw [qz _ rfl] at c;rw [show t=dJ v.split n from q];unfold rIs cg;rw [a,b,c];rfl)) (by kernel_rfl)
theorem E3 (e:EXP):(bif bif bif bif e.op==0 then e.kind==[] else false then e.name==[] else false then (e.vals.length:Int)==0 else false then (e.kids.length:Int)==0 else false)=mq e:=by
 rw [cY,cY]
 unfold mq
 cases e.op==0 <;> cases e.kind==[] <;> cases e.name==[] <;> cases e.vals.length==0 <;> cases e.kids.length==0 <;> rfl
theorem HO (e:EXP):aB wd yY φB (rIs (mq e)) [.agg e.c] []:=by
 rw [e.C7]
 exact ea (V:=V0) [] 1 (.r (bif bif bif bif e.op==0 then e.kind==[] else false then e.name==[] else false then (e.vals.length:Int)==0 else false then (e.kids.length:Int)==0 else false) (E3 e)) (by kernel_rfl)
end Go.T

namespace Go.T
open Go Go.Ab Go.Proofs Go.SH
theorem yd {p:PART} {K V:Bool} (hK:K=(bif eJ p.op then decide (p.n≥2) else bif p.op==4 then p.n==1 else p.n==0)) (hV:V=(bif p.op==8 then decide (p.vals.length > 0) else bif dU p.op&&p.op !=6 then p.vals.length==1 else p.vals.length==0)) :
  (bif bif bif K then V else false then bif dU p.op then true else p.kind==[] else false then bif bif dU p.op then true else p.op==5 then true else p.name==[] else false)=countB p:=by
 unfold countB
 rw [<-hK,<-hV]
 cases K <;> cases V <;> cases dU p.op <;> cases p.kind==[] <;> cases p.name==[] <;> cases p.op==5 <;> rfl
theorem F8 (p:PART):aB wd mX φB (rIs (countB p)) [.agg p.c] []:=
 ea (V:=V0) [] 3 (.b (bif p.op==2 then true else p.op==3) (λh=>
   have ho:p.op=2∨p.op=3:=by simpa using h
   .r (bif bif bif decide ((p.n:Int)≥2) then (p.vals.length:Int)==0 else false then bif dU p.op then true else p.kind==[] else false then bif bif dU p.op then true else p.op==5 then true else p.name==[] else false)
    (yd (by rw [Iv,show eJ p.op=true from h];rfl) (by rw [cY];rcases ho with e | e <;> rw [e] <;> rfl))) λh1=>
  have g1:eJ p.op=false:=h1
  .b (p.op==4) (λh=>.r (bif bif bif (p.n:Int)==1 then (p.vals.length:Int)==0 else false then bif dU p.op then true else p.kind==[] else false then bif bif dU p.op then true else p.op==5 then true else p.name==[] else false)
    (yd (by rw [lh,g1,h];rfl) (by rw [cY,show p.op=4 by simpa using h];rfl))) λh2=>
  .b (p.op==8) (λh=>.r (bif bif bif (p.n:Int)==0 then decide ((p.vals.length:Int) > 0) else false then bif dU p.op then true else p.kind==[] else false then bif bif dU p.op then true else p.op==5 then true else p.name==[] else false)
    (yd (by rw [cY,g1,h2];rfl) (by rw [BS,h,Fw];rfl))) λh3=>
  .b (bif dU p.op then p.op !=6 else false) (λh=>.r (bif bif bif (p.n:Int)==0 then (p.vals.length:Int)==1 else false then bif dU p.op then true else p.kind==[] else false then bif bif dU p.op then true else p.op==5 then true else p.name==[] else false)
    (yd (by rw [cY,g1,h2];rfl) (by rw [Bool.cond_false_right] at h;rw [lh,h3,h];rfl))) λh=>
  .r (bif bif bif (p.n:Int)==0 then (p.vals.length:Int)==0 else false then bif dU p.op then true else p.kind==[] else false then bif bif dU p.op then true else p.op==5 then true else p.name==[] else false)
    (yd (by rw [cY,g1,h2];rfl) (by rw [Bool.cond_false_right] at h;rw [cY,h3,h];rfl))) (by kernel_rfl)
theorem KL {p:PART} (hc:countB p=true):(iX p (p.op !=4)).1=(iX p (eJ p.op)).1:=by
 by_cases h:(eJ p.op||p.op==4)=true
 ·have:(p.op !=4)=eJ p.op:=by
   unfold eJ at h ⊢
   by_cases e:p.op=4
   ·rw [e];rfl
   ·have e1:(p.op==4)=false:=beq_eq_false_iff_ne.2 e
    rw [e1,Bool.or_false] at h
    rw [h,show (p.op !=4)=!(p.op==4) from rfl,e1];rfl
  rw [this]
 ·have h0:p.n=0:=by
   have h:(eJ p.op||p.op==4)=false:=by simpa using h
   obtain ⟨h1,h2⟩:=Bool.or_eq_false_iff.1 h
   unfold countB at hc
   rw [h1,h2] at hc
   simp at hc
   exact hc.1
  rw [oY p _ h0,oY p _ h0]
theorem xC {p:PART} (hc:countB p=true):(bif within 0 p.vals.length then true else !bif (cC p.op)==true then true else false)=true:=by
 by_cases h:cC p.op=true
 ·have hl:p.vals.length=1:=by
   unfold countB at hc
   have ho:p.op=9∨p.op=10∨p.op=11:=by unfold cC at h;simp at h;omega
   rcases ho with e | e | e <;> rw [e] at hc <;> simp [eJ,dU] at hc <;> exact hc.2
  rw [hl];rfl
 ·rw [show cC p.op=false by simpa using h];cases within 0 p.vals.length <;> rfl
def mf (p:PART):Int:=
 bif decide (p.n > 12)||decide (p.vals.length > 20) then 5 else
 bif (iX p (eJ p.op)).1 then 15 else
 bif (dU p.op&&!dX p.kind)||((dU p.op||p.op==5)&&!dX p.name) then 6 else
 bif (iy p.vals).1 then (iy p.vals).2 else
 bif cC p.op&&(p.vals.getD 0 default).kind !=3 then 8 else 0
theorem lJ (p:PART):j9 p=bif decide (p.op < 1)||decide (p.op > 15) then 7 else bif !countB p then 15 else mf p:=rfl
theorem BK (a b c d:Bool):(bif bif a then !b else false then true else bif bif a then true else c then !d else false)=((a&&!b)||((a||c)&&!d)):=by cases a <;> cases b <;> cases c <;> cases d <;> rfl
theorem HM (p:PART) (hp:p.Ok):aB wd ry SH.φE (rIs (j9 p)) [.agg p.c] []:=by
 obtain ⟨u1,w1,h1,l1⟩:=bG (V:=V0) (T:=[aY wd mX φB (rIs (countB p)),jW,FU]) (d:=3) (W:=[]) (f:=ry) (p:=[1,1,1,1,0,1,0]) (Lf:=λL=>L) (PZ 3 p.c) p.n (λi=>bif (bif p.ko i==p.op then p.op !=4 else false) then some () else none) (λ_ k=>k .ret {env:=[(2,.int .i64 15)],objs:=[]}) (λk=>k (.exit 0) {env:=[(1,.ref 1 0)],objs:=[(1,.cells p.c)]}) (by kernel_rfl)
  (λi a=>.n a.w (.b (bif p.ko i==p.op then p.op !=4 else false) (λh=>.sp () a (nM h)) λh=>.up a hp.2.2.2 (nN h))) (λi L k kn=>by kernel_rfl)
 obtain ⟨u2,w2,h2,l2⟩:=bG (V:=V0) (T:=[aY wd mX φB (rIs (countB p)),jW,FU]) (d:=3) (W:=[]) (f:=ry) (p:=[1,1,1,1,1,1,0,1,0]) (Lf:=λL=>L) (PZ 4 p.c) p.vals.length (ju p.vals) (qh 2) (λk=>k (.exit 2) {env:=[(1,.ref 1 0)],objs:=[(1,.cells p.c)]}) (by kernel_rfl)
  (λi a=>.n a.w (.call (EE (p.vals.getD i default) (hp.2.2.1.at a.lt)) λt q=>.b (t !=0) (λh=>.sp t a (by rw [q _ rfl] at h ⊢;unfold ju;rw [h];rfl)) λh=>.up a hp.2.2.1.1 (by rw [q _ rfl] at h;unfold ju;rw [h];rfl))) (λi L k kn=>by kernel_rfl)
 exact cM (V:=V0) (T:=[aY wd mX φB (rIs (countB p)),jW,FU]) (d:=3) 0 (ag (l1 _) (ag (l2 _) aE)) aD (.b (bif decide (p.op < 1) then true else decide (p.op > 15)) (λh=>.r 7 (by rw [Bool.cond_true_left] at h;unfold rIs;rw [lJ,h];rfl)) λh=>
  have h:(decide (p.op < 1)||decide (p.op > 15))=false:=by rw [<-Bool.cond_true_left];exact h
  .call (F8 p) λb qb=>.b (!b) (λhb=>.r 15 (by rw [show b=countB p from qb] at hb;unfold rIs;rw [lJ,h,hb];rfl)) λhb=>
  have hb:(!countB p)=false:=by rw [<-show b=countB p from qb];exact hb
  have hc:countB p=true:=by simpa using hb
  have e:j9 p=mf p:=by rw [lJ,h,hb];rfl
  .b (bif decide ((p.n:Int) > 12) then true else decide ((p.vals.length:Int) > 20)) (λh5=>.r 5 (by rw [Bool.cond_true_left,nv,nu] at h5;unfold rIs;rw [e,mf,h5];rfl)) λh5=>
  have h5:(decide (p.n > 12)||decide (p.vals.length > 20))=false:=by rw [<-nv,<-nu,<-Bool.cond_true_left];exact h5
  .lp h1 λt q=>
  have q:t.1=(iX p (eJ p.op)).1:=by rw [<-KL hc,q];rfl
  .b t.1 (λh3=>.r 15 (by rw [q] at h3;unfold rIs;rw [e,mf,h5,h3];rfl)) λh3=>
  have h3:(iX p (eJ p.op)).1=false:=q.symm.trans h3
  .call (dz p.kind hp.1) λx qx=>.call (dz p.name hp.2.1) λy qy=>
  .b (bif bif dU p.op then !x else false then true else bif bif dU p.op then true else p.op==5 then !y else false) (λh6=>.r 6 (by rw [BK,qx _ rfl,qy _ rfl] at h6;unfold rIs;rw [e,mf,h5,h3,h6];rfl)) λh6=>
  have h6:((dU p.op&&!dX p.kind)||((dU p.op||p.op==5)&&!dX p.name))=false:=by rw [<-qx _ rfl,<-qy _ rfl,<-BK];exact h6
  .lp h2 λs qs=>have qs:s=iy p.vals:=qs
  .b s.1 (λh7=>.r s.2 (by rw [qs] at h7 ⊢;unfold rIs;rw [e,mf,h5,h3,h6,h7];rfl)) λh7=>
  have h7:(iy p.vals).1=false:=by rw [<-qs];exact h7
  .n (c:=bif within 0 p.vals.length then true else !bif (cC p.op)==true then true else false) (xC hc) (.b (bif cC p.op then (p.vals.getD (Int.toNat 0) default).kind !=3 else false)
   (λh8=>.r 8 (by rw [Bool.cond_false_right] at h8;unfold rIs;rw [e,mf,h5,h3,h6,h7,show (cC p.op&&(p.vals.getD 0 default).kind !=3)=true from h8];rfl))
   λh8=>.r 0 (by rw [Bool.cond_false_right] at h8;unfold rIs;rw [e,mf,h5,h3,h6,h7,show (cC p.op&&(p.vals.getD 0 default).kind !=3)=false from h8];rfl))) (by kernel_rfl)
def rW (z:Nat) (l:List AV) (os:List AO) (x:Int×Nat):Prop:=∀ (e:EXP) (d n:Nat),l=[.agg e.c,.int .i64 ((d+z:Nat):Int),.ref aa 0]->os=[ti n]->x=iu e d n
theorem rW.mk {z:Nat} {e:EXP} {d n:Nat} {x:Int×Nat} (h:x=iu e d n):rW z [.agg e.c,.int .i64 ((d+z:Nat):Int),.ref aa 0] [ti n] x:=λe' d' n' h1 h2=>by
 have:=Qk z (e,d,n) (e',d',n') h1 h2
 rw [h];exact this
def Mm (o:Bool×Int×Nat) (k:Ex->St->Res):Res:=cond o.1 (k .ret {env:=[(6,.int .i64 o.2.1)],objs:=[(aa,ti o.2.2)]}) (k (.exit 0) {env:=[],objs:=[(aa,ti o.2.2)]})
instance:Inhabited (Bool×Int×Nat):=⟨(false,0,0)⟩
noncomputable abbrev FT:Ent:=aY wd u5 SH.φW (rW 1)
theorem HA:∀e:EXP,e.Ok->∀d n:Nat,d<=10->aB wd u5 SH.φW (rW 1) [.agg e.c,.int .i64 ((d+1:Nat):Int),.ref aa 0] [ti n]:=by
 intro e he
 induction he with
 | mk e h1 h2 h3 h4 h5 ih=>
 intro d n hd
 have he:e.Ok:=.mk e h1 h2 h3 h4 h5
 have hw:=AJ e d n
 have pn:e.part.n=e.kids.length:=rfl
 obtain ⟨u,w,hu,hl⟩:=aA (V:=V0) (T:=[aY wd ry SH.φE (rIs (j9 e.part)),FT]) (d:=1) (W:=[]) (f:=u5) (p:=[1,1,1,1,1,0,1,0]) (Lf:=λL=>L) (λx:Nat×Nat=>SH.E2 e.part d x.1 x.2) (λx=>(d < 10/\x.1<=e.kids.length)/\yv e.kids (d+1) x.1 x.2=j8 e.kids (d+1) (n+1)) (λx=>e.kids.length - x.1) Mm (λo=>o.1=(o.2.1 !=0)/\o.2=j8 e.kids (d+1) (n+1)) (by kernel_rfl)
  (λx hx=>.b (decide ((x.1:Int) < (e.part.n:Int))) (λh=>
    have hi:x.1 < e.kids.length:=nf h
    have wd1:IntKind.wrap .i64 (((d+1:Nat):Int)+1)=((d+1+1:Nat):Int):=bb (by omega)
    have hd1:d < 10:=hx.1.1
    .n (cw hi) (.call (f:=u5) (R:=rW 1) (ψ:=SH.φW) (l:=[.agg (Di e.part x.1),.int .i64 (IntKind.wrap .i64 (((d+1:Nat):Int)+1)),.ref aa 0]) (os:=[ti x.2]) (by rw [ik hi,wd1];exact ih _ (Fq hi) (d+1) x.2 (by omega)) λt q=>
     have q:t=iu (e.kid x.1) (d+1) x.2:=q (e.kid x.1) (d+1) x.2 (by rw [ik hi,wd1]) rfl
     have st:=tk e.kids (d+1) x.2 hi
     .b (t.1 !=0) (λhb=>.fi (true,t) ⟨hb.symm,by rw [<-hx.2,st,show e.kids.getD x.1 default=e.kid x.1 from rfl,<-q,hb];rfl⟩)
      λhb=>.go {env:=[(1,.int .i64 ((d+1:Nat):Int)),(2,.ref aa 0),(3,.ref 3 0),(8,.int .i64 (IntKind.wrap .i64 ((x.1:Int)+1)))],objs:=[(3,.cells e.part.c),(aa,ti t.2)]} (x.1+1,t.2)
       ⟨⟨hx.1.1,hi⟩,by rw [<-hx.2,st,show e.kids.getD x.1 default=e.kid x.1 from rfl,<-q,hb];rfl⟩ (by show e.kids.length - (x.1+1) < e.kids.length - x.1;omega) (by rw [bb (by omega)];rfl)))
   λh=>.fi (false,0,x.2) ⟨rfl,by rw [<-hx.2,wD];have:=of_decide_eq_false h;rw [pn] at this;omega⟩) (λv L k kn=>by kernel_rfl)
 have w1:¬ n≥60->IntKind.wrap .i64 ((n:Int)+1)=((n+1:Nat):Int):=λh=>bb (by omega)
 rw [<-e.bM]
 exact ff (V:=V0) [aY wd ry SH.φE (rIs (j9 e.part)),FT] 1 hl (.b (decide ((n:Int)≥60)) (λh=>.r (5,n) (by rw [e.bM];exact .mk (by rw [NZ] at h;rw [hw,h];rfl))) λh=>
  have h:decide (n≥60)=false:=by rw [<-NZ];exact h
  have w1:=w1 (of_decide_eq_false h)
  .b (decide (((d+1:Nat):Int) > 10)) (λh2=>.e (18,n+1) (r:=(.int .i64 18,[ti (IntKind.wrap .i64 ((n:Int)+1))])) (by
    rw [e.bM];exact .mk (by rw [hw,h,ij,decide_eq_true (show d≥10 by have:=of_decide_eq_true h2;omega)];rfl)) (by rw [w1];rfl)) λh2=>
  have hd1:d < 10:=by have:=of_decide_eq_false h2;omega
  have lv:ij e d=j9 e.part:=by unfold ij;rw [decide_eq_false (by omega)];rfl
  .call (HM e.part he.part) λt q=>have q:t=j9 e.part:=q
  .b (t !=0) (λh3=>.e (t,n+1) (r:=(.int .i64 t,[ti (IntKind.wrap .i64 ((n:Int)+1))])) (by rw [e.bM];exact .mk (by rw [hw,h,lv,<-q,h3];rfl)) (by rw [w1];rfl)) λh3=>
  have hz:iu e d n=j8 e.kids (d+1) (n+1):=by rw [hw,h,lv,<-q,h3];rfl
  have hs:bU u w {env:=[(1,.int .i64 ((d+1:Nat):Int)),(2,.ref aa 0),(3,.ref 3 0),(8,.int .i64 0)],objs:=[(3,.cells e.part.c),(aa,ti (IntKind.wrap .i64 ((n:Int)+1)))]} (λo=>o.1=(o.2.1 !=0)/\o.2=j8 e.kids (d+1) (n+1)):=by rw [w1];exact hu (0,n+1) ⟨⟨hd1,Nat.zero_le _⟩,rfl⟩
  .lp hs λo qo=>.b o.1 (λh4=>.r (o.2.1,o.2.2) (by rw [e.bM];exact .mk (by rw [hz,<-qo.2]))) λh4=>.r (0,o.2.2) (by
   rw [e.bM];exact .mk (by
    rw [hz,<-qo.2]
    have h5:(o.2.1 !=0)=false:=qo.1.symm.trans h4
    have h5:o.2.1=0:=by simpa using h5
    rw [<-h5]))) (by kernel_rfl)
theorem HU (e:EXP) (he:e.Ok):aB wd u7 SH.φE (rIs (gh e)) [.agg e.c] []:=by
 have h:=HA e he 0 0 (Nat.zero_le _)
 rw [<-e.bM] at h ⊢
 exact ea (V:=V0) [FT] 1 (.call h λt q=>.r t.1 (by rw [q e 0 0 (by rw [e.bM]) rfl];rfl)) (by kernel_rfl)
end Go.T

namespace Go.T
open Go Go.Ab Go.Proofs Go.SH
def rC {α:Type} (A:α->List AV) (E:α->Int) (l:List AV) (_:List AO) (x:Int):Prop:=∀a,l=A a->x=E a
theorem aB.rC {α:Type} {f:FuncId} {A:α->List AV} {E:α->Int} {a:α} (hi:∀a b,A a=A b->a=b) (h:aB wd f SH.φE (rIs (E a)) (A a) []):aB wd f SH.φE (rC A E) (A a) []:=h.mono λx hx b e=>by rw [<-hi _ _ e];exact hx
abbrev aM (l:List (List UInt8)):List AV:=[bR l]
abbrev aX (e:EXP):List AV:=[.agg e.c]
abbrev aS (n:Nat) (v:SERVE):List AV:=[.agg v.c,.int .i64 n]
theorem JJ (a b:List (List UInt8)) (h:aM a=aM b):a=b:=kp (by simpa using h)
theorem JG (a b:EXP) (h:aX a=aX b):a=b:=EXP.cK _ _ (by simpa using h)
theorem JI (n:Nat) (a b:SERVE) (h:aS n a=aS n b):a=b:=SERVE.cK (by simpa using h)
noncomputable abbrev Lh:Ent:=aY wd lH SH.φE (rC aM CG)
noncomputable abbrev eRX:Ent:=aY wd u7 SH.φE (rC aX gh)
noncomputable abbrev N5 (n:Nat):Ent:=aY wd qA SH.φE (rC (aS n) λv=>cg v n)
theorem Ev (l:List (List UInt8)) (hl:iz l):aB wd lH SH.φE (rC aM CG) [bR l] []:=aB.rC JJ (HQ l hl)
theorem Od (e:EXP) (he:e.Ok):aB wd u7 SH.φE (rC aX gh) [.agg e.x] []:=by rw [EXP.Dm];exact aB.rC JG (HU e he)
theorem LY (n:Nat) (v:SERVE) (hv:v.Ok):aB wd qA SH.φE (rC (aS n) λv=>cg v n) [.agg v.c,.int .i64 n] []:=aB.rC (E:=λv=>cg v n) (JI n) (En v n hv)
theorem HL (l:List PRQ) (hl:okL (λp:PRQ=>fe p.flag) l):aB wd gr SH.φE (rIs (GG l)) [GF l] []:=by
 have hm:=hl.big
 obtain ⟨u,w,hu,hlo⟩:=bG (V:=V0) (T:=[jW]) (d:=1) (W:=[]) (f:=gr) (p:=P3) (Lf:=λL=>L) (LZ (GF l)) l.length (jK l) (qh 2) (λk=>k (.exit 0) {env:=[],objs:=[]}) (by kernel_rfl)
  (λi a=>
   have c:=pv (λj=>aH (l.getD i default).flag (l.getD j default).flag||(l.getD i default).flag==(l.getD j default).flag) a.lt hm
   .n a.w (.call (dz (l.getD i default).flag (hl.at a.lt)) λb q=>.b (!b) (λh=>.sp 6 a (by rw [q _ rfl] at h;unfold jK;rw [h];rfl)) λh=>
   have h:(!dX (l.getD i default).flag)=false:=by rw [<-q _ rfl];exact h
   .gd (!bif decide ((i:Int) > 0)==true then true else false) a.w (.gp true a.lt hm (.b (bif decide ((i:Int) > 0) then (aH (l.getD i default).flag (l.getD (Int.toNat (IntKind.wrap .i64 ((i:Int) - 1))) default).flag||(l.getD i default).flag==(l.getD (Int.toNat (IntKind.wrap .i64 ((i:Int) - 1))) default).flag) else false)
    (λh2=>.sp 9 a (by rw [c] at h2;unfold jK;rw [h,h2];rfl)) λh2=>
   .n a.w (.gd (!bif decide ((l.getD i default).var < 1)==false then true else false) a.w (.b (bif decide ((l.getD i default).var < 1) then true else decide ((l.getD i default).var > 8))
    (λh3=>.sp 3 a (by rw [c] at h2;rw [Bool.cond_true_left] at h3;unfold jK;rw [h,h2,h3];rfl)) λh3=>.up a hm (by rw [c] at h2;rw [Bool.cond_true_left] at h3;unfold jK;rw [h,h2,h3];rfl))))))) (λi L k kn=>by kernel_rfl)
 exact ff (V:=V0) [jW] 1 hlo (.b (decide ((l.length:Int) > 4)) (λh=>fL (n:=4) h) λh=>.lp hu λt q=>fK (n:=4) q h) (by kernel_rfl)
def TZ (x:AV) (n:Nat) (i:Int):St:={env:=[(0,x),(1,.int .i64 n),(5,.int .i64 i)],objs:=[]}
theorem HH (l:List TGT) (n:Nat) (hl:okL TGT.Ok l):aB wd oe SH.φE (rIs (G0 l n)) [GZ l,.int .i64 n] []:=by
 have hm:=hl.big
 obtain ⟨u,w,hu,hlo⟩:=bG (V:=V0) (T:=[jW,Lh]) (d:=1) (W:=[]) (f:=oe) (p:=P3) (Lf:=λL=>L) (TZ (GZ l) n) l.length (jx l n) (qh 4) (λk=>k (.exit 0) {env:=[],objs:=[]}) (by kernel_rfl)
  (λi a=>.n a.w (.call (dz (l.getD i default).kind (hl.at a.lt).1) λb q=>.b (!b) (λh=>.sp 6 a (by rw [q _ rfl] at h;unfold jx;rw [h];rfl)) λh=>
   have h:(!dX (l.getD i default).kind)=false:=by rw [<-q _ rfl];exact h
   .n a.w (.gd (!bif decide ((l.getD i default).var < 1)==false then true else false) a.w (.gd (!bif (bif decide ((l.getD i default).var < 1) then true else decide ((l.getD i default).var > (n:Int)))==false then true else false) a.w
   (.b (bif bif decide ((l.getD i default).var < 1) then true else decide ((l.getD i default).var > (n:Int)) then true else ((l.getD i default).keys.length:Int)==0)
    (λh2=>.sp 3 a (by rw [Bool.cond_true_left,Bool.cond_true_left,Bool.or_assoc,cY] at h2;unfold jx;rw [h,h2];rfl)) λh2=>
   have h2:(decide ((l.getD i default).var < 1)||(decide ((l.getD i default).var > (n:Int))||(l.getD i default).keys.length==0))=false:=by rw [<-cY,<-Bool.or_assoc,<-Bool.cond_true_left,<-Bool.cond_true_left];exact h2
   .n a.w (.call (Ev _ (hl.at a.lt).2) λt qt=>.b (t !=0) (λh3=>.sp t a (by rw [qt _ rfl] at h3 ⊢;unfold jx;rw [h,h2,h3];rfl)) λh3=>.up a hm (by rw [qt _ rfl] at h3;unfold jx;rw [h,h2,h3];rfl))))))) (λi L k kn=>by kernel_rfl)
 exact ff (V:=V0) [jW,Lh] 1 hlo (.b (decide ((l.length:Int) > 8)) (λh=>fL (n:=8) h) λh=>.lp hu λt q=>fK (n:=8) q h) (by kernel_rfl)
def RZ (l:List RULE) (n:Nat) (x:Nat×Nat):St:={env:=[(0,lW l),(1,.int .i64 n),(5,.int .i64 x.1),(6,.int .i64 x.2)],objs:=[]}
def Mn (l:List RULE) (n:Nat) (o:Int×Bool) (k:Ex->St->Res):Res:=cond o.2 (k .ret {env:=[(4,.int .i64 10)],objs:=[]}) (k (.exit 2) (TZ (lW l) n o.1))
abbrev PRi:List Nat:=[1,1,0,1,0,0,1,0,0,1,0,1,0]
theorem Ep (l:List RULE) (n:Nat) (hl:okL RULE.Ok l):aB wd qq SH.φE (rIs (GD l n)) [lW l,.int .i64 n] []:=by
 have hm:=hl.big
 obtain ⟨u2,w2,h2,l2⟩:=ou (V:=V0) (T:=[jW,eRX,N5 n]) (d:=1) (W:=[]) (f:=qq) (p:=PRi) (Lf:=λL=>L) (RZ l n) (λx=>(x.2<=x.1/\x.1 < l.length)/\sy l x.1 x.2=sy l x.1 0) (λx=>x.1 - x.2) (Mn l n) (λs o=>o.1=slI 5 s/\o.2=sy l o.1.toNat 0) (by kernel_rfl)
  (λx hx=>.b (decide ((x.2:Int) < (x.1:Int))) (λh=>
    have hk:x.2 < x.1:=nf h
    have st:=x6 l x.1 hk
    .n (cw (show x.2 < l.length by have:=hx.1.2;omega)) (.n (cw hx.1.2) (.b ((l.getD x.2 default).name==(l.getD x.1 default).name) (λhb=>.fi ((x.1:Int),true) ⟨rfl,by show true=sy l (x.1:Int).toNat 0;rw [Int.toNat_natCast,<-hx.2,st,hb];rfl⟩)
     λhb=>.nx {env:=[(0,lW l),(1,.int .i64 n),(5,.int .i64 x.1),(6,.int .i64 (IntKind.wrap .i64 ((x.2:Int)+1)))],objs:=[]} (x.1,x.2+1) ⟨⟨hk,hx.1.2⟩,by show sy l x.1 (x.2+1)=_;rw [<-hx.2,st,hb];rfl⟩ (by show x.1 - (x.2+1) < x.1 - x.2;omega) (λo ho=>ho) (by rw [bb (by have:=hx.1.2;omega)];rfl))))
   λh=>.fi ((x.1:Int),false) ⟨rfl,by show false=sy l (x.1:Int).toNat 0;rw [Int.toNat_natCast,<-hx.2,B0];have:=of_decide_eq_false h;omega⟩) (λv L k kn=>by kernel_rfl)
 obtain ⟨u,w,hu,hlo⟩:=bG (V:=V0) (T:=[jW,eRX,N5 n]) (d:=1) (W:=[]) (f:=qq) (p:=P3) (Lf:=λo:Orc=>[(P3,o),(PRi,mkO u2 w2 (Mn l n))]) (TZ (lW l) n) l.length (eu l n) (qh 4) (λk=>k (.exit 0) {env:=[],objs:=[]}) (by kernel_rfl)
  (λi a=>.n a.w (.call (dz (l.getD i default).name (hl.at a.lt).1) λb q=>.b (!b) (λh=>.sp 6 a (by rw [q _ rfl] at h;unfold eu;rw [h];rfl)) λh=>
   have h:(!dX (l.getD i default).name)=false:=by rw [<-q _ rfl];exact h
   .lp (h2 (i,0) ⟨⟨Nat.zero_le _,a.lt⟩,rfl⟩) λo qo=>
   have e1:o.1=(i:Int):=qo.1
   have e2:o.2=sy l i 0:=by rw [qo.2,e1,Int.toNat_natCast]
   .b o.2 (λh2=>.sp 10 a (by rw [e2] at h2;unfold eu;rw [h,h2];rfl)) λh2=>
   have h2:sy l i 0=false:=e2.symm.trans h2
   have wi:within o.1 l.length=true:=by rw [e1];exact a.w
   have ei:o.1.toNat=i:=by rw [e1,Int.toNat_natCast]
   .n wi (.call (f:=u7) (R:=rC aX gh) (ψ:=SH.φE) (l:=[.agg (l.getD o.1.toNat default).when.x]) (os:=[]) (by rw [ei];exact Od _ (hl.at a.lt).2.1) λt qt=>
   have qt:t=gh (l.getD i default).when:=by rw [qt (l.getD o.1.toNat default).when (by rw [EXP.Dm]),ei]
   .b (t !=0) (λh3=>.sp t a (by rw [qt] at h3 ⊢;unfold eu;rw [h,h2,h3];rfl)) λh3=>
   have h3:(gh (l.getD i default).when !=0)=false:=by rw [<-qt];exact h3
   .n wi (.call (f:=qA) (R:=rC (aS n) λv=>cg v n) (ψ:=SH.φE) (l:=[.agg (l.getD o.1.toNat default).serve.c,.int .i64 n]) (os:=[]) (by rw [ei];exact LY n _ (hl.at a.lt).2.2) λs qs=>
   have qs:s=cg (l.getD i default).serve n:=by rw [qs (l.getD o.1.toNat default).serve rfl,ei]
   .b (s !=0) (λh4=>.sp s a (by rw [qs] at h4 ⊢;unfold eu;rw [h,h2,h3,h4];rfl)) λh4=>
    .on (TZ (lW l) n (IntKind.wrap .i64 (o.1+1))) a (by rw [qs] at h4;unfold eu;rw [h,h2,h3,h4];rfl) (by rw [e1,bb (by have:=a.lt;omega)]))))) (λi L k kn=>by kernel_rfl)
 exact cM (V:=V0) (T:=[jW,eRX,N5 n]) (d:=1) 0 (ag (hlo _) (ag (l2 _) aE)) aD (.b (decide ((l.length:Int) > 12)) (λh=>fL (n:=12) h) λh=>.lp hu λt q=>fK (n:=12) q h) (by kernel_rfl)
def VZ (f:FLAG) (i:Int):St:={env:=[(1,.ref 1 0),(3,.int .i64 f.vars.length),(4,.int .i64 i)],objs:=[(1,.cells f.c)]}
theorem HC (f:FLAG) (hl:okL VAL.Ok f.vars):aB wd jG SH.φE (rIs (GA f)) [.agg f.c] []:=by
 have hm:=hl.big
 obtain ⟨u,w,hu,hlo⟩:=bG (V:=V0) (T:=[FU]) (d:=1) (W:=[]) (f:=jG) (p:=[1,1,1,1,0,1,0]) (Lf:=λL=>L) (λi:Int=>VZ f i) f.vars.length (jt f) (qh 2) (λk=>k (.exit 0) (Qj f)) (by kernel_rfl)
  (λi a=>.n a.w (.call (EE _ (hl.at a.lt)) λt q=>.b (t !=0) (λh=>.sp t a (by rw [q _ rfl] at h ⊢;unfold jt;rw [h];rfl)) λh=>
   .n a.w (.b ((f.vars.getD i default).kind !=f.kind) (λh2=>.sp 8 a (by rw [q _ rfl] at h;unfold jt;rw [h,h2];rfl)) λh2=>.up (S:=VZ f) a hm (by rw [q _ rfl] at h;unfold jt;rw [h,h2];rfl)))) (λi L k kn=>by kernel_rfl)
 exact ff (V:=V0) [FU] 1 hlo (.b (decide ((f.vars.length:Int) > 8)) (λh=>.r 5 (by rw [vI] at h;unfold rIs GA;rw [h];rfl)) λh=>
  have h:decide (f.vars.length > 8)=false:=by rw [<-vI];exact h
  .b ((f.vars.length:Int)==0) (λh2=>.r 3 (by rw [cY] at h2;unfold rIs GA;rw [h,h2];rfl)) λh2=>
  have h2:(f.vars.length==0)=false:=by rw [<-cY];exact h2
  .lp hu λt q=>have q:t=hJ f:=q
  .b t.1 (λh3=>.r t.2 (by rw [q] at h3 ⊢;unfold rIs GA;rw [h,h2,h3];rfl)) λh3=>
  have h3:(hJ f).1=false:=by rw [<-q];exact h3
  .b (bif decide (f.off < 1) then true else decide (f.off > (f.vars.length:Int))) (λh4=>.r 3 (by rw [Bool.cond_true_left] at h4;unfold rIs GA;rw [h,h2,h3,h4];rfl)) λh4=>.r 0 (by rw [Bool.cond_true_left] at h4;unfold rIs GA;rw [h,h2,h3,h4];rfl)) (by kernel_rfl)
theorem pass {A:List AV} {t e r:Int} {x:Res} (q:t=e) (h:(e !=0)=false->Run (rIs r A []) SH.φE x):Run (rIs (bif e !=0 then e else r) A []) SH.φE (cond (t !=0) (some (.int .i64 t,[])) x):=by
 subst q
 cases he:(t !=0) with
 | true=>exact .r t rfl
 | false=>exact h he
theorem Bp (f:FLAG) (hf:f.Ok):aB wd yZ SH.φE (rIs (kV f)) [.agg f.c] []:=by
 obtain ⟨h1,h2,h3,h4,h5,h6⟩:=hf
 exact ea (V:=V0) [jW,aY wd jG SH.φE (rIs (GA f)),aY wd gr SH.φE (rIs (GG f.prqs)),aY wd oe SH.φE (rIs (G0 f.tgts f.vars.length)),aY wd qq SH.φE (rIs (GD f.rules f.vars.length)),N5 f.vars.length] 1
  (.call (dz f.key h1) λb q=>.b (!b) (λh=>.r 6 (by rw [q _ rfl] at h;unfold rIs kV;rw [h];rfl)) λh=>
  .b (bif decide (f.kind < 1) then true else decide (f.kind > 5)) (λk=>.r 7 (by rw [q _ rfl] at h;rw [Bool.cond_true_left] at k;unfold rIs kV;rw [h,k];rfl)) λk=>by
   have h:(!dX f.key)=false:=by rw [<-q _ rfl];exact h
   have k:(decide (f.kind < 1)||decide (f.kind > 5))=false:=by rw [<-Bool.cond_true_left];exact k
   unfold kV
   rw [h,k]
   exact .call (HC f h2) λt1 q1=>pass q1 λ_=>.call (HL f.prqs h3) λt2 q2=>pass q2 λ_=>.call (HH f.tgts _ h4) λt3 q3=>pass q3 λ_=>.call (Ep f.rules _ h5) λt4 q4=>pass q4 λ_=>.call (LY _ f.dflt h6) λt5 q5=>.r t5 (q5 _ rfl)) (by kernel_rfl)
end Go.T

namespace Go.T
open Go Go.Ab Go.Proofs Go.SH
theorem xj (f:LAYER) (hf:f.Ok):aB wd qB SH.φE (rIs (gC f)) [.agg f.c] []:=by
 obtain ⟨h1,h2,h3,h4⟩:=hf
 have hm:f.cooling.length<=4611686018427387904:=by omega
 obtain ⟨u,w,hu,hlo⟩:=bG (V:=V0) (T:=[jW,sx]) (d:=1) (W:=[]) (f:=qB) (p:=[1,1,1,1,1,0,1,0]) (Lf:=λL=>L) (PZ 3 f.c) f.cooling.length (gS f.cooling) (qh 2) (λk=>k (.exit 0) {env:=[],objs:=[]}) (by kernel_rfl)
  (λi a=>
   have c:=pv (λj=>decide ((f.cooling.getD i (0,0,0)).1 < (f.cooling.getD j (0,0,0)).2.1)) a.lt hm
   .n a.w (.b (bif bif bif bif decide ((f.cooling.getD i (0,0,0)).1 < 0) then true else decide ((f.cooling.getD i (0,0,0)).1≥(f.cooling.getD i (0,0,0)).2.1) then true else decide ((f.cooling.getD i (0,0,0)).2.1 > 10000) then true else decide ((f.cooling.getD i (0,0,0)).2.2 < 0) then true else decide ((f.cooling.getD i (0,0,0)).2.2 > 1099511627776))
    (λh=>.sp 3 a (by rw [No] at h;unfold gS;rw [h];rfl)) λh=>
   have h:mg (f.cooling.getD i (0,0,0)).1 (f.cooling.getD i (0,0,0)).2.1 (f.cooling.getD i (0,0,0)).2.2=false:=by rw [<-No];exact h
   .gp true a.lt hm (.b (bif decide ((i:Int) > 0) then decide ((f.cooling.getD i (0,0,0)).1 < (f.cooling.getD (Int.toNat (IntKind.wrap .i64 ((i:Int) - 1))) (0,0,0)).2.1) else false)
    (λh2=>.sp 9 a (by rw [c] at h2;unfold gS;rw [h,h2];rfl)) λh2=>.up a hm (by rw [c] at h2;unfold gS;rw [h,h2];rfl)))) (λi L k kn=>by kernel_rfl)
 exact ff (V:=V0) [jW,sx] 1 hlo (.call (dz f.key h1) λx qx=>.call (dz f.kind h2) λy qy=>.b (bif !x then true else !y) (λb=>.r 6 (by rw [qx _ rfl,qy _ rfl,Bool.cond_true_left] at b;unfold rIs gC;rw [b];rfl)) λb=>
  have b:(!dX f.key||!dX f.kind)=false:=by rw [<-qx _ rfl,<-qy _ rfl,<-Bool.cond_true_left];exact b
  .call (hZ f.salt h3) λz qz=>.b (!z) (λc=>.r 2 (by rw [qz _ rfl] at c;unfold rIs gC;rw [b,c];rfl)) λc=>
  have c:(!dc f.salt)=false:=by rw [<-qz _ rfl];exact c
  .b (bif bif bif decide (f.hold < 0) then true else decide (f.hold > 10000) then true else decide (f.cool < 0) then true else decide (f.cool > 1099511627776)) (λd=>.r 3 (by simp only [Bool.cond_true_left,Bool.or_assoc] at d;unfold rIs gC;rw [b,c,d];rfl)) λd=>
  have d:(decide (f.hold < 0)||(decide (f.hold > 10000)||(decide (f.cool < 0)||decide (f.cool > 1099511627776))))=false:=by simp only [Bool.cond_true_left,Bool.or_assoc] at d;exact d
  .b (decide ((f.cooling.length:Int) > 32)) (λh=>.r 5 (by rw [nr] at h;unfold rIs gC;rw [b,c,d,h];rfl)) λh=>
  .lp hu λt q=>have q:t=lR f.cooling:=q
  .b t.1 (λh3=>.r t.2 (by rw [nr] at h;rw [q] at h3 ⊢;unfold rIs gC;rw [b,c,d,h,h3];rfl)) λh3=>.r 0 (by rw [nr] at h;rw [q] at h3;unfold rIs gC;rw [b,c,d,h,h3];rfl)) (by kernel_rfl)
theorem Eo (f:SEG) (hf:f.Ok):aB wd og SH.φE (rIs (Bd f)) [.agg f.c] []:=by
 obtain ⟨h1,h2,h3,h4,h5⟩:=hf
 have hn:aB wd yY φB (rIs (mq f.when)) [.agg f.when.x] []:=by rw [EXP.Dm];exact HO f.when
 exact ea (V:=V0) [jW,Lh,aY wd yY φB (rIs (mq f.when)),eRX] 1 (.call (dz f.key h1) λx qx=>.call (dz f.kind h2) λy qy=>.b (bif !x then true else !y) (λb=>.r 6 (by rw [qx _ rfl,qy _ rfl,Bool.cond_true_left] at b;unfold rIs Bd;rw [b];rfl)) λb=>by
  have b:(!dX f.key||!dX f.kind)=false:=by rw [<-qx _ rfl,<-qy _ rfl,<-Bool.cond_true_left];exact b
  unfold Bd
  rw [b]
  exact .call (Ev f.incl h3) λt1 q1=>pass (q1 _ rfl) λ_=>.call (Ev f.excl h4) λt2 q2=>pass (q2 _ rfl) λ_=>.call hn λz qz=>.b z (λh=>.r 0 (by rw [show z=mq f.when from qz] at h;unfold rIs;rw [h];rfl))
   λh=>.call (Od f.when h5) λt q=>.r t (by rw [show z=mq f.when from qz] at h;unfold rIs;rw [h,q f.when (by rw [EXP.Dm])];rfl)) (by kernel_rfl)
theorem Bq (f:EXPT) (hf:f.Ok):aB wd jI SH.φE (rIs (mz f)) [.agg f.c] []:=by
 obtain ⟨h1,h2,h3,h4,h5,h6,h7⟩:=hf
 exact ea (V:=V0) [jW,sx,aY wd u6 SH.φE (rIs (oS f.claims)),aY wd qu SH.φE (rIs (dJ f.arms 8)),eRX] 1 (.call (dz f.key h1) λx qx=>.call (dz f.layer h2) λy qy=>.call (dz f.flag h3) λz qz=>
  .b (bif bif !x then true else !y then true else !z) (λb=>.r 6 (by rw [qx _ rfl,qy _ rfl,qz _ rfl,Bool.cond_true_left,Bool.cond_true_left,Bool.or_assoc] at b;unfold rIs mz;rw [b];rfl)) λb=>
  have b:(!dX f.key||(!dX f.layer||!dX f.flag))=false:=by rw [<-qx _ rfl,<-qy _ rfl,<-qz _ rfl,<-Bool.or_assoc,<-Bool.cond_true_left,<-Bool.cond_true_left];exact b
  .call (hZ f.salt h4) λv qv=>.b (!v) (λc=>.r 2 (by rw [qv _ rfl] at c;unfold rIs mz;rw [b,c];rfl)) λc=>
  have c:(!dc f.salt)=false:=by rw [<-qv _ rfl];exact c
  .b (bif decide (f.status < 1) then true else decide (f.status > 3)) (λd=>.r 7 (by rw [Bool.cond_true_left] at d;unfold rIs mz;rw [b,c,d];rfl)) λd=>by
   have d:(decide (f.status < 1)||decide (f.status > 3))=false:=by rw [<-Bool.cond_true_left];exact d
   unfold mz
   rw [b,c,d]
   exact .call (Em f.claims (by omega)) λt1 q1=>pass q1 λ_=>.call (xh f.arms 8 (by omega)) λt2 q2=>pass q2 λ_=>.call (Od f.when h7) λt q=>.r t (q f.when (by rw [EXP.Dm]))) (by kernel_rfl)
end Go.T

namespace Go.T
open Go Go.Ab Go.Proofs Go.SH
open Go.SM (ATT ATT.Ok mG Dc JC vX ENV dh pM pJ pr sY tb s7 wB B9 xe qY mK)
def iv (chk:Nat->Int) (bad:Nat->Bool) (i:Nat):Option Int:=bif chk i !=0 then some (chk i) else bif bad i then some 9 else none
theorem Bh {chk:Nat->Int} {bad:Nat->Bool} {n:Nat}:∀d i,i+d=n->xe chk bad d i=bif (br n (·+1) (iv chk bad) i).1 then (br n (·+1) (iv chk bad) i).2 else 0
 | 0,i,h=>by rw [bA _ _ _ (by omega)];rfl
 | d+1,i,h=>by
  rw [cG (λi _=>Nat.lt_succ_self i) (show i < n by omega)]
  have ih:=Bh (chk:=chk) (bad:=bad) (n:=n) d (i+1) (by omega)
  unfold xe iv
  cases chk i !=0 with
  | true=>rfl
  | false=>
   cases bad i with
   | true=>rfl
   | false=>exact ih
section
variable {most:Int} {n:Nat} {chk:Nat->Int} {bad:Nat->Bool} {A:List AV}
theorem uT {t:Bool×Int} (q:t=br n (·+1) (iv chk bad) 0) (h:decide ((n:Int) > most)=false):Run (rIs (SM.bN most n chk bad) A []) SH.φE (cond t.1 (some (.int .i64 t.2,[])) (some (.int .i64 0,[]))):=by
 unfold SM.bN
 rw [h,Bh n 0 (Nat.zero_add n),<-q]
 exact .b t.1 (λh=>.r t.2 (by unfold rIs;rw [h];rfl)) λh=>.r 0 (by unfold rIs;rw [h];rfl)
theorem uU (h:decide ((n:Int) > most)=true):Run (rIs (SM.bN most n chk bad) A []) SH.φE (some (.int .i64 5,[])):=by
 unfold SM.bN
 rw [h]
 exact .r 5 rfl
end
theorem HJ (s h:List UInt8) (n:Int) (hs:fe s) (hh:fe h):aB wd ru SH.φE (rIs (qY s h n)) [.agg [.str s,.str h,.int .i64 n]] []:=
 ea (V:=V0) [sx,jW] 1 (.call (hZ s hs) λx qx=>.b (!x) (λa=>.r 2 (by rw [qx _ rfl] at a;unfold rIs qY;rw [a];rfl)) λa=>.b (bif decide (n < 0) then true else decide (n > 10000)) (λb=>.r 3 (by rw [qx _ rfl] at a;unfold rIs qY;rw [a,b];rfl)) λb=>
  .call (dz h hh) λy qy=>.b (bif !y then bif !h==[] then true else n !=0 else false) (λc=>.r 6 (by rw [qx _ rfl] at a;rw [qy _ rfl] at c;unfold rIs qY;rw [a,b,c];rfl)) λc=>.r 0 (by rw [qx _ rfl] at a;rw [qy _ rfl] at c;unfold rIs qY;rw [a,b,c];rfl)) (by kernel_rfl)
abbrev aE0:ATT:=([],[],0)
def aP (l:List ATT) (i:Nat):Bool:=aH (l.getD i aE0).1 (l.getD (Int.toNat (IntKind.wrap .i64 ((i:Int) - 1))) aE0).1
def aQ (l:List ATT) (i:Nat):Bool:=(l.getD i aE0).1==(l.getD (Int.toNat (IntKind.wrap .i64 ((i:Int) - 1))) aE0).1
def aR (l:List ATT) (i:Nat):Bool:=bif decide ((i:Int) > 0) then bif aP l i then true else bif aQ l i then aH (l.getD i aE0).2.1 (l.getD (Int.toNat (IntKind.wrap .i64 ((i:Int) - 1))) aE0).2.1||(l.getD i aE0).2.1==(l.getD (Int.toNat (IntKind.wrap .i64 ((i:Int) - 1))) aE0).2.1 else false else false
theorem Nu {l:List ATT} {i:Nat} (h:i < l.length) (hm:l.length<=4611686018427387904):aR l i=JC l i:=by
 unfold aR JC aP aQ
 by_cases h0:0 < i
 ·rw [pw h hm h0];rfl
 ·rw [decide_eq_false (show ¬ (i:Int) > 0 by omega)];rfl
theorem HW (l:List ATT) (hl:okL ATT.Ok l):aB wd mm SH.φE (rIs (vX l)) [mG l] []:=by
 have hm:=hl.big
 obtain ⟨u,w,hu,hlo⟩:=bG (V:=V0) (T:=[jW]) (d:=1) (W:=[]) (f:=mm) (p:=P3) (Lf:=λL=>L) (LZ (mG l)) l.length (iv (Dc l) (JC l)) (qh 2) (λk=>k (.exit 0) {env:=[],objs:=[]}) (by kernel_rfl)
  (λi a=>
   have ok:=SM.Nq hl a.lt
   have e:=Nu a.lt hm
   have fz:∀ {X:Bool},decide ((i:Int) > 0)=false->(bif X==false then bif decide ((i:Int) > 0)==true then true else false else false)=false:=fun {X} h=>by rw [h];cases X <;> rfl
   .n a.w (.call (dz (l.getD i aE0).1 ok.1) λx qx=>.gd (!bif (!x)==false then true else false) a.w (.call (dz (l.getD i aE0).2.1 ok.2) λy qy=>.gd (!bif (bif !x then true else !y)==false then true else false) a.w
   (.b (bif bif !x then true else !y then true else (l.getD i aE0).2.1==[107,101,121]) (λh=>.sp 6 a (by rw [qx _ rfl,qy _ rfl] at h;unfold iv Dc;rw [h];rfl)) λh=>
   have h:(bif bif !dX (l.getD i aE0).1 then true else !dX (l.getD i aE0).2.1 then true else (l.getD i aE0).2.1==[107,101,121])=false:=by rw [<-qx _ rfl,<-qy _ rfl];exact h
   .n a.w (.gd (!bif decide ((l.getD i aE0).2.2 < 1)==false then true else false) a.w (.b (bif decide ((l.getD i aE0).2.2 < 1) then true else decide ((l.getD i aE0).2.2 > 5)) (λh2=>.sp 7 a (by unfold iv Dc;rw [h,h2];rfl)) λh2=>
   .gd (!bif decide ((i:Int) > 0)==true then true else false) a.w (.gp true a.lt hm
   (.gd (!bif aP l i==false then bif decide ((i:Int) > 0)==true then true else false else false) a.w
   (.n (c:=bif within (IntKind.wrap .i64 ((i:Int) - 1)) l.length then true else !bif aP l i==false then bif decide ((i:Int) > 0)==true then true else false else false) (SM.BA a.lt hm fz)
   (.gd (!bif aQ l i==true then bif aP l i==false then bif decide ((i:Int) > 0)==true then true else false else false else false) a.w
   (.n (c:=bif within (IntKind.wrap .i64 ((i:Int) - 1)) l.length then true else !bif aQ l i==true then bif aP l i==false then bif decide ((i:Int) > 0)==true then true else false else false else false) (SM.BA a.lt hm λh=>by rw [fz h];cases aQ l i <;> rfl)
   (.b (aR l i) (λh3=>.sp 9 a (by rw [e] at h3;unfold iv Dc;rw [h,h2,h3];rfl)) λh3=>.up a hm (by rw [e] at h3;unfold iv Dc;rw [h,h2,h3];rfl))))))))))))) (λi L k kn=>by kernel_rfl)
 exact ff (V:=V0) [jW] 1 hlo (.b (decide ((l.length:Int) > 30)) (λh=>uU h) λh=>.lp hu λt q=>uT q h) (by kernel_rfl)
def kP (key:Nat->List UInt8) (i:Nat):Bool:=bif decide ((i:Int) > 0) then aH (key i) (key (Int.toNat (IntKind.wrap .i64 ((i:Int) - 1))))||key i==key (Int.toNat (IntKind.wrap .i64 ((i:Int) - 1))) else false
theorem Be {α:Type} [Inhabited α] {f g:FuncId} {A:α->List AV} {E:α->Int} (key:α->List UInt8) (x:AV) (most:Int) (l:List α) (hl:l.length<=1048576) (hg:∀i,i < l.length->aB wd g SH.φE (rC A E) (A (l.getD i default)) []) (hb:kT (dS (bB V0.P f) P3)=true)
  (he:∀ (i:Nat) (L:List (List Nat×Orc)) (k:Ex->St->Res) (kn:St->Res),dW (V0.run [aY wd g SH.φE (rC A E)] 1 [] L [] f) f 9 P3 (LZ x i) kn k=cond (decide ((i:Int) < (l.length:Int))) (cond (within (i:Int) l.length) (cond (gR wd g SH.φE (rC A E) (A (l.getD i default)) []) (cond (wR wd g SH.φE (rC A E) (A (l.getD i default)) [] !=0) (k .ret {env:=[(2,.int .i64 (wR wd g SH.φE (rC A E) (A (l.getD i default)) []))],objs:=[]})
   (cond (bif within (i:Int) l.length then true else !bif decide ((i:Int) > 0)==true then true else false) (cond (bif within (IntKind.wrap .i64 ((i:Int) - 1)) l.length then true else !bif decide ((i:Int) > 0)==true then true else false) (cond (kP (λj=>key (l.getD j default)) i) (k .ret {env:=[(2,.int .i64 9)],objs:=[]}) (kn (LZ x (IntKind.wrap .i64 ((i:Int)+1))))) none) none)) none) none) (k (.exit 0) {env:=[],objs:=[]}))
  (hr:∀ (u:St->Bool) (w:St->Bool×Int),yM (V0.run [aY wd g SH.φE (rC A E)] 1 [] [(P3,mkO u w (H5 (qh 2) λk=>k (.exit 0) {env:=[],objs:=[]}))] [] f) 9 f [x] []=cond (decide ((l.length:Int) > most)) (some (.int .i64 5,[])) (cond (u (LZ x 0)) (cond (w (LZ x 0)).1 (some (.int .i64 (w (LZ x 0)).2,[])) (some (.int .i64 0,[]))) none)) :
  aB wd f SH.φE (rIs (SM.bN most l.length (λi=>E (l.getD i default)) (B9 λi=>key (l.getD i default)))) [x] []:=by
 have hm:l.length<=4611686018427387904:=by omega
 obtain ⟨u,w,hu,hlo⟩:=bG (V:=V0) (T:=[aY wd g SH.φE (rC A E)]) (d:=1) (W:=[]) (f:=f) (p:=P3) (Lf:=λL=>L) (LZ x) l.length (iv (λi=>E (l.getD i default)) (B9 λi=>key (l.getD i default))) (qh 2) (λk=>k (.exit 0) {env:=[],objs:=[]}) hb
  (λi a=>
   have e:kP (λj=>key (l.getD j default)) i=B9 (λj=>key (l.getD j default)) i:=SM.bad_eq (key:=λj=>key (l.getD j default)) (by have:=a.lt;omega)
   .n a.w (.call (hg i a.lt) λt q=>.b (t !=0) (λh=>.sp t a (by rw [q _ rfl] at h ⊢;unfold iv;rw [h];rfl)) λh=>.gd (!bif decide ((i:Int) > 0)==true then true else false) a.w (.gp true a.lt hm
   (.b (kP (λj=>key (l.getD j default)) i) (λh2=>.sp 9 a (by rw [q _ rfl] at h;rw [e] at h2;unfold iv;rw [h,h2];rfl)) λh2=>.up a hm (by rw [q _ rfl] at h;rw [e] at h2;unfold iv;rw [h,h2];rfl))))) he
 exact ff (V:=V0) [aY wd g SH.φE (rC A E)] 1 hlo (.b (decide ((l.length:Int) > most)) (λh=>uU h) λh=>.lp hu λt q=>uT q h) (hr u w)
abbrev JH (g:SEG):List AV:=[.agg g.c]
abbrev JL (g:FLAG):List AV:=[.agg g.c]
abbrev JK (g:LAYER):List AV:=[.agg g.c]
abbrev JF (g:EXPT):List AV:=[.agg g.c]
theorem HK (l:List SEG) (hl:okL SEG.Ok l):aB wd rv SH.φE (rIs (sY l)) [dh l] []:=Be (A:=JH) (E:=Bd) SEG.key (dh l) 20 l hl.1 (λi hi=>aB.rC (λa b h=>SM.SEG.cK (by simpa using h)) (Eo _ (hl.at hi))) (by kernel_rfl) (λi L k kn=>by kernel_rfl) λu w=>by kernel_rfl
theorem Ew (l:List FLAG) (hl:okL FLAG.Ok l):aB wd Bt SH.φE (rIs (tb l)) [pM l] []:=Be (A:=JL) (E:=kV) FLAG.key (pM l) 30 l hl.1 (λi hi=>aB.rC (λa b h=>SM.FLAG.cK (by simpa using h)) (Bp _ (hl.at hi))) (by kernel_rfl) (λi L k kn=>by kernel_rfl) λu w=>by kernel_rfl
theorem Cu (l:List LAYER) (hl:okL LAYER.Ok l):aB wd xp SH.φE (rIs (s7 l)) [pJ l] []:=Be (A:=JK) (E:=gC) LAYER.key (pJ l) 6 l hl.1 (λi hi=>aB.rC (λa b h=>SM.LAYER.cK (by simpa using h)) (xj _ (hl.at hi))) (by kernel_rfl) (λi L k kn=>by kernel_rfl) λu w=>by kernel_rfl
theorem Ey (l:List EXPT) (hl:okL EXPT.Ok l):aB wd l8 SH.φE (rIs (wB l)) [pr l] []:=Be (A:=JF) (E:=mz) EXPT.key (pr l) 16 l hl.1 (λi hi=>aB.rC (λa b h=>SM.EXPT.cK (by simpa using h)) (Bq _ (hl.at hi))) (by kernel_rfl) (λi L k kn=>by kernel_rfl) λu w=>by kernel_rfl
theorem Ez (e:ENV) (he:e.Ok):aB wd fN SH.φE (rIs (mK e)) [.agg e.c] []:=
 ea (V:=V0) [aY wd ru SH.φE (rIs (qY e.salt e.hkind e.hold)),aY wd mm SH.φE (rIs (vX e.attrs)),aY wd rv SH.φE (rIs (sY e.segs)),aY wd Bt SH.φE (rIs (tb e.flags)),aY wd xp SH.φE (rIs (s7 e.layers)),aY wd l8 SH.φE (rIs (wB e.expts))] 1
  (.call (HJ _ _ _ he.salt he.hkind) λt1 q1=>pass q1 λ_=>.call (HW _ he.attrs) λt2 q2=>pass q2 λ_=>.call (HK _ he.segs) λt3 q3=>pass q3 λ_=>.call (Ew _ he.flags) λt4 q4=>pass q4 λ_=>.call (Cu _ he.layers) λt5 q5=>pass q5 λ_=>.call (Ey _ he.expts) λt6 q6=>.r t6 q6) (by kernel_rfl)
end Go.T

namespace Go.SM
open Go Go.Ab Go.Proofs Go.SH
theorem Ea {τ:Type} [Inhabited τ] {n:Nat} {stop:Nat->Option τ}:∀i,(br n (·+1) stop i).1=false->∀j,i<=j->j < n->stop j=none:=by
 have step:∀d i,n - i<=d->(br n (·+1) stop i).1=false->∀j,i<=j->j < n->stop j=none:=by
  intro d
  induction d with
  | zero=>intro i hd _ j h1 h2;omega
  | succ d ih=>
   intro i hd h j h1 h2
   have hi:i < n:=by omega
   rw [cG (λi _=>Nat.lt_succ_self i) hi] at h
   cases hs:stop i with
   | some t=>rw [hs] at h;cases h
   | none=>
    rw [hs] at h
    by_cases hj:j=i
    ·rw [hj];exact hs
    ·exact ih (i+1) (by omega) h j (by omega) h2
 exact λi=>step _ i (Nat.le_refl _)
theorem D9 {n:Nat} {stop:Nat->Option Int} (hp:∀i t,i < n->stop i=some t->t≠0) (h:(bif (br n (·+1) stop 0).1 then (br n (·+1) stop 0).2 else 0)=0):∀j,j < n->stop j=none:=by
 cases hb:(br n (·+1) stop 0).1 with
 | true=>
  have:=n8 (P:=λt=>t≠0) hp 0 hb
  rw [hb] at h
  exact absurd h this
 | false=>exact λj hj=>Ea 0 hb j (Nat.zero_le _) hj
theorem K0 {f:FLAG} (h:kV f=0):Gy f:=by
 unfold kV at h
 refine ⟨np (mF (by decide) h).1,?_⟩
 have h:=(mF (by decide) h).2
 have h:=(mF (by decide) h).2
 have h:=(dG h).2
 obtain ⟨h1,h⟩:=dG h
 have h:=(dG h).2
 obtain ⟨h2,_⟩:=dG h
 unfold GG at h1
 unfold GD at h2
 obtain ⟨h2a,h2b⟩:=mF (by decide) h2
 refine ⟨vH (mF (by decide) h1).1,vH h2a,λr hr=>?_⟩
 obtain ⟨j,hj,rfl⟩:=List.getElem_of_mem hr
 have hs:=D9 (stop:=eu f.rules f.vars.length) (λi t _ ht=>by
  unfold eu at ht
  intro h0
  subst h0
  revert ht
  cases !dX (f.rules.getD i default).name with
  | true=>intro ht;cases ht
  | false=>
   cases sy f.rules i 0 with
   | true=>intro ht;cases ht
   | false=>
    show (bif gh (f.rules.getD i default).when !=0 then some (gh (f.rules.getD i default).when) else _)=_->False
    cases hz:(gh (f.rules.getD i default).when !=0) with
    | true=>
     intro ht
     have ht:gh (f.rules.getD i default).when=0:=Option.some.inj ht
     rw [ht] at hz;cases hz
    | false=>
     show (bif cg (f.rules.getD i default).serve f.vars.length !=0 then some (cg (f.rules.getD i default).serve f.vars.length) else none)=_->False
     cases hz:(cg (f.rules.getD i default).serve f.vars.length !=0) with
     | true=>
      intro ht
      have ht:cg (f.rules.getD i default).serve f.vars.length=0:=Option.some.inj ht
      rw [ht] at hz;cases hz
     | false=>intro ht;cases ht) h2b j hj
 have e1:f.rules.getD j default=f.rules[j]:=by simp [List.getD,hj]
 unfold eu at hs
 rw [e1] at hs
 revert hs
 cases !dX f.rules[j].name with
 | true=>intro ht;cases ht
 | false=>
  cases sy f.rules j 0 with
  | true=>intro ht;cases ht
  | false=>
   show (bif gh f.rules[j].when !=0 then some (gh f.rules[j].when) else _)=none->_
   cases hz:(gh f.rules[j].when !=0) with
   | true=>intro ht;cases ht
   | false=>exact λ_=>z7 (by simpa using hz)
theorem MZ {e:ENV} (ok:e.Ok) (h:mK e=0):GoodE e:=by
 unfold mK at h
 have h:=(dG h).2
 have h:=(dG h).2
 obtain ⟨h1,h⟩:=dG h
 obtain ⟨h2,h⟩:=dG h
 obtain ⟨h3,h4⟩:=dG h
 have l1:=vy (most:=20) h1
 have l2:=vy (most:=30) h2
 have l4:=vy (most:=16) h4
 exact ⟨ok,Nat.le_trans l1.1 (by decide),Nat.le_trans l2.1 (by decide),Nat.le_trans l4.1 (by decide),vx λj hj=>LU (l1.2 j hj),vx λj hj=>K0 (l2.2 j hj),vx λj hj=>K7 (l4.2 j hj)⟩
end Go.SM
namespace Go.T
open Go Go.Ab Go.Proofs Go.SH
open Go.SM (ENV GoodE Gy TX txA TXS mG dh KOk XOk rlP whens)
theorem z8 (l:List (List UInt8×List UInt8×Int)) (hl:l.length<=1048576) (n:Nat) (g:Nat->List UInt8) (hn:n<=1000000) {e:EXP} (he:KOk e) (ho:e.Ok):aB wd rp SM.φI' iM [mG l,txA n g,.agg e.x] []:=by rw [EXP.Dm];exact ID l hl n g hn he ho
noncomputable abbrev N6 (n:Nat):Ent:=aY wd fw SM.φI' (Kf n)
noncomputable abbrev M5:Ent:=aY wd cU SM.φQ' iM
def F1 (e:ENV) (f:FLAG) (n:Nat) (g:Nat->List UInt8) (i:Int):St:={env:=[(2,.ref 2 0),(3,.ref 3 0),(5,txA n g),(6,.int .i64 i)],objs:=[(2,.cells e.c),(3,.cells f.c)]}
def F2 (e:ENV) (f:FLAG) (n:Nat) (g:Nat->List UInt8) (i:Int):St:={env:=[(2,.ref 2 0),(3,.ref 3 0),(5,txA n g),(8,.int .i64 i)],objs:=[(2,.cells e.c),(3,.cells f.c)]}
def Mr (e:ENV) (f:FLAG) (n:Nat) (g:Nat->List UInt8) (b:Bool×Int) (k:Ex->St->Res):Res:=cond b.1 (k .ret {env:=[(4,.int .i64 b.2)],objs:=[]}) (k (.exit 0) {env:=[(2,.ref 2 0),(3,.ref 3 0),(5,txA n g)],objs:=[(2,.cells e.c),(3,.cells f.c)]})
def Mq (e:ENV) (f:FLAG) (b:Bool×Int) (k:Ex->St->Res):Res:=cond b.1 (k .ret {env:=[(4,.int .i64 b.2)],objs:=[]}) (k (.exit 2) {env:=[(2,.ref 2 0),(3,.ref 3 0)],objs:=[(2,.cells e.c),(3,.cells f.c)]})
theorem Ej {f:FLAG} (hf:Gy f) (fo:f.Ok):rlP f.rules:=by
 refine ⟨λr hr=>(fo.2.2.2.2.1.2 r hr).2.1,?_,by have:=hf.2.2.1;omega⟩
 have h1:=SM.IZ λr hr=>(hf.2.2.2 r hr).2
 have:=hf.2.2.1
 omega
theorem CP (e:ENV) (he:GoodE e) (f:FLAG) (hf:Gy f) (fo:f.Ok):aB wd gK SM.φI' iM [.agg e.c,.agg f.c] []:=by
 obtain ⟨⟨n,g⟩,hk,hc⟩:=vB e.segs (by have:=he.segs;omega)
 have hn:n<=1000000:=by have h1:n=e.segs.length:=hk.1;have:=he.segs;omega
 haveI:=gB (T:=[N6 e.flags.length,eX9,vP,M5]) hc
 have ha:e.attrs.length<=1048576:=he.ok.attrs.1
 have hp:f.prqs.length<=1000:=by have:=hf.2.1;omega
 have hr:f.rules.length<=1000:=by have:=hf.2.2.1;omega
 obtain ⟨u1,w1,h1,l1⟩:=aA (V:=V0) (T:=[kf ej [dh e.segs] [] (n,g) SM.φX,N6 e.flags.length,eX9,vP,M5]) (d:=1) (W:=[]) (f:=gK) (p:=P3) (Lf:=λL=>L) (F1 e f n g) (λi=>ix f.prqs.length i) (λi=>(f.prqs.length - i).toNat) (Mr e f n g) (λ_=>True) (by kernel_rfl)
  (λi hi=>.b (decide (i < (f.prqs.length:Int))) (λh=>
    have hx:=ax hi (by omega) (of_decide_eq_true h)
    .n (bw hi h) (.call (xV e (f.prqs.getD i.toNat default).flag (by have:=he.flags;omega)) λt q=>.b (decide (t < 0)) (λ_=>.fi (true,11) trivial) λht=>
     .n (bw hi h) (.n (c:=within t e.flags.length) (ay (by have:=of_decide_eq_false ht;omega) q.2) (.b (decide ((f.prqs.getD i.toNat default).var > ((e.flags.getD t.toNat default).vars.length:Int))) (λ_=>.fi (true,3) trivial)
      λ_=>.to (IntKind.wrap .i64 (i+1)) hx.1 hx.2))))
   λ_=>.fi (false,0) trivial) (λv L k kn=>by kernel_rfl)
 obtain ⟨u2,w2,h2,l2⟩:=aA (V:=V0) (T:=[kf ej [dh e.segs] [] (n,g) SM.φX,N6 e.flags.length,eX9,vP,M5]) (d:=1) (W:=[]) (f:=gK) (p:=PB) (Lf:=λL=>L) (F2 e f n g) (λi=>ix f.rules.length i) (λi=>(f.rules.length - i).toNat) (Mq e f) (λ_=>True) (by kernel_rfl)
  (λi hi=>.b (decide (i < (f.rules.length:Int))) (λh=>
    have hx:=ax hi (by omega) (of_decide_eq_true h)
    have hm:f.rules.getD i.toNat default∈f.rules:=aN (by have:=of_decide_eq_true h;have:=hi.1;omega)
    .n (bw hi h) (.call (z8 e.attrs ha n g hn (hf.2.2.2 _ hm).1 (fo.2.2.2.2.1.2 _ hm).2.1) λt _=>.b (t !=0) (λ_=>.fi (true,t) trivial) λ_=>
     .n (bw hi h) (.call (w9 e.attrs (f.rules.getD i.toNat default).serve ha) λs _=>.b (s !=0) (λ_=>.fi (true,s) trivial) λ_=>.to (IntKind.wrap .i64 (i+1)) hx.1 hx.2)))
   λ_=>.fi (false,0) trivial) (λv L k kn=>by kernel_rfl)
 exact cM (V:=V0) (T:=[kf ej [dh e.segs] [] (n,g) SM.φX,N6 e.flags.length,eX9,vP,M5]) (d:=1) 0 (ag (l1 _) (ag (l2 _) aE)) aD
  (.n (eL [dh e.segs] []) (.lp (h1 0 (ix0 _)) λt _=>.b t.1 (λ_=>.r t.2 trivial) λ_=>.lp (h2 0 (ix0 _)) λs _=>.b s.1 (λ_=>.r s.2 trivial) λ_=>.call (w9 e.attrs f.dflt ha) λv _=>.b (v !=0) (λ_=>.r v trivial) λ_=>
   .call (tm (Ej hf fo) λr hr=>(hf.2.2.2 r hr).1) λz _=>.b (!z.ok) (λ_=>.r (19:Int) trivial) λ_=>.b (decide ((z.n:Int) > 0)) (λ_=>.r (13:Int) trivial) λ_=>.r (0:Int) trivial)) (by kernel_rfl)
end Go.T

namespace Go.T
open Go Go.Ab Go.Proofs Go.SH
open Go.SM (ENV GoodE TX txA TXS mG dh KOk SP SO soL Spn iA pW)
def Hg (n m:Nat) (F T F' T':Nat->Int):Nat->Int×Int:=Ns n m (λj=>(F j,T j)) λj=>(F' j,T' j)
theorem I2 (n m:Nat) (F T F' T':Nat->Int):af n m (SP F T) (λj=>[.int .i64 (F' j),.int .i64 (T' j)])=SP (λj=>(Hg n m F T F' T' j).1) λj=>(Hg n m F T F' T' j).2:=Gm (λp:Int×Int=>[AV.int .i64 p.1,.int .i64 p.2]) n m (λj=>(F j,T j)) (λj=>(F' j,T' j))
theorem I3 (h:Int):ab (SP Int.ofNat Int.ofNat 0) [(0,.agg [.int .i64 0,.int .i64 h])]=SP (λ_=>0) (λj=>bif Nat.beq 0 j then h else 0):=by
 funext j
 unfold ab
 show _=[AV.int .i64 0,.int .i64 (bif Nat.beq 0 j then h else 0)]
 cases Nat.beq 0 j <;> rfl
def X1 (e:ENV) (x:EXPT) (i:Nat) (a b j:Int):St:={env:=[(1,.int .i64 i),(2,.ref 2 0),(5,.ref 5 0),(6,.int .i64 a),(7,.int .i64 b),(8,.int .i64 j)],objs:=[(2,.cells e.c),(5,.cells x.c)]}
def Ml (e:ENV) (x:EXPT) (i:Nat) (a:Int) (b:Bool×Int) (k:Ex->St->Res):Res:=cond b.1 (k .ret {env:=[(4,.int .i64 b.2)],objs:=[]}) (k (.exit 0) {env:=[(1,.int .i64 i),(2,.ref 2 0),(5,.ref 5 0),(6,.int .i64 a)],objs:=[(2,.cells e.c),(5,.cells x.c)]})
def X2 (e:ENV) (x:EXPT) (i:Nat) (v:SO×Int):St:={env:=[(1,.int .i64 i),(2,.ref 2 0),(5,.ref 5 0),(10,.sl (.key 100) 2 v.1.n (SP v.1.F v.1.T)),(11,.int .i64 v.2)],objs:=[(2,.cells e.c),(5,.cells x.c),(100,.own 2 v.1.n)]}
def X3 (e:ENV) (x:EXPT) (i:Nat) (j:Int):St:={env:=[(1,.int .i64 i),(2,.ref 2 0),(5,.ref 5 0),(13,.int .i64 j)],objs:=[(2,.cells e.c),(5,.cells x.c)]}
def Mj (b:Bool×Int) (k:Ex->St->Res):Res:=cond b.1 (k .ret {env:=[(4,.int .i64 b.2)],objs:=[]}) (k (.exit 4) {env:=[],objs:=[]})
abbrev cl (e:ENV) (j:Int):List (Int×Int):=(e.expts.getD j.toNat default).claims
theorem CS (e:ENV) (he:GoodE e) (i:Nat) (hi:i < e.expts.length):aB wd cm SM.φI' iM [.agg e.c,.int .i64 i] []:=by
 have hex:=he.expts
 have hxm:e.expts.getD i default∈e.expts:=aN hi
 have hxg:=he.expt _ hxm
 have hxo:=he.ok.expts.2 _ hxm
 obtain ⟨⟨n,g⟩,hk,hc⟩:=vB e.segs (by have:=he.segs;omega)
 have hn:n<=1000000:=by have h1:n=e.segs.length:=hk.1;have:=he.segs;omega
 obtain ⟨a,ha,hca⟩:=ox e (e.expts.getD i default).layer (by have:=he.ok.layers.1;omega)
 obtain ⟨b,hb,hcb⟩:=xV e (e.expts.getD i default).flag (by have:=he.flags;omega)
 have hm:(e.expts.getD i default).arms.length<=1048576:=hxo.2.2.2.2.2.1
 have hat:e.attrs.length<=1048576:=he.ok.attrs.1
 have hl:∀j:Int,0<=j->j < (i:Int)->(cl e j).length<=16:=λj h0 h1=>(he.expt _ (aN (show j.toNat < e.expts.length by omega))).1.2
 haveI t3:=gB (T:=[eX9,Ll]) hc
 haveI t2:=gB (T:=[kf ej [dh e.segs] [] (n,g) SM.φX,eX9,Ll]) hcb
 haveI t1:=gB (T:=[kf fw [.agg e.c,.str (e.expts.getD i default).flag] [] b SM.φI',kf ej [dh e.segs] [] (n,g) SM.φX,eX9,Ll]) hca
 obtain ⟨u1,w1,h1,l1⟩:=aA (V:=V0) (T:=[kf fu [.agg e.c,.str (e.expts.getD i default).layer] [] a SM.φI',kf fw [.agg e.c,.str (e.expts.getD i default).flag] [] b SM.φI',kf ej [dh e.segs] [] (n,g) SM.φX,eX9,Ll]) (d:=1) (W:=[]) (f:=cm) (p:=[1,1,1,1,0,1,0]) (Lf:=λL=>L) (X1 e (e.expts.getD i default) i a b) (λj=>0<=b/\ix (e.expts.getD i default).arms.length j) (λj=>((e.expts.getD i default).arms.length - j).toNat) (Ml e (e.expts.getD i default) i a) (λ_=>True) (by kernel_rfl)
  (λj hj=>.b (decide (j < ((e.expts.getD i default).arms.length:Int))) (λh=>
    have hx:=ax hj.2 (by omega) (of_decide_eq_true h)
    .n (bw hj.2 h) (.n (c:=within b e.flags.length) (ay hj.1 hb.2) (.b (decide (((e.expts.getD i default).arms.getD j.toNat (0,0,0)).2.2 > ((e.flags.getD b.toNat default).vars.length:Int))) (λ_=>.fi (true,3) trivial)
     λ_=>.to (IntKind.wrap .i64 (j+1)) ⟨hj.1,hx.1⟩ hx.2)))
   λ_=>.fi (false,0) trivial) (λv L k kn=>by kernel_rfl)
 obtain ⟨u2,w2,h2,l2⟩:=aA (V:=V0) (T:=[kf fu [.agg e.c,.str (e.expts.getD i default).layer] [] a SM.φI',kf fw [.agg e.c,.str (e.expts.getD i default).flag] [] b SM.φI',kf ej [dh e.segs] [] (n,g) SM.φX,eX9,Ll]) (d:=1) (W:=[]) (f:=cm) (p:=[1,1,1,1,1,1,1,1,0,1,0]) (Lf:=λL=>L) (X2 e (e.expts.getD i default) i) (λv=>ix i v.2/\(v.1.n:Int)<=1+16*v.2) (λv=>(i - v.2).toNat) (SM.Mk e (e.expts.getD i default) i) (λo=>o.n<=1000000) (by kernel_rfl)
  (λv hv=>.b (decide (v.2 < (i:Int))) (λh=>
    have h':=of_decide_eq_true h
    have h0:=hv.1.1
    have hx:=ax hv.1 (by omega) h'
    have hc:=hl v.2 h0 h'
    have hv2:=hv.2
    have hw:IntKind.wrap .i64 (v.2+1)=v.2+1:=wrap_i64 (by omega) (by omega)
    .n (c:=within v.2 e.expts.length) (ay h0 (by omega)) (.b (bif (e.expts.getD v.2.toNat default).layer==(e.expts.getD i default).layer then (e.expts.getD v.2.toNat default).status !=3 else false)
     (λ_=>.n (av (b:=16) (n:=v.1.n+(cl e v.2).length) (m:=v.1.n) (by omega)) (.go {env:=[(1,.int .i64 i),(2,.ref 2 0),(5,.ref 5 0),(10,.sl (.key 100) 2 (v.1.n+(cl e v.2).length) (af v.1.n (cl e v.2).length (SP v.1.F v.1.T) λj=>[.int .i64 ((cl e v.2).getD j (0,0)).1,.int .i64 ((cl e v.2).getD j (0,0)).2])),(11,.int .i64 (IntKind.wrap .i64 (v.2+1)))],objs:=[(2,.cells e.c),(5,.cells (e.expts.getD i default).c),(100,.own 2 (v.1.n+(cl e v.2).length))]}
      (SO.mk (v.1.n+(cl e v.2).length) (λj=>(Hg v.1.n (cl e v.2).length v.1.F v.1.T (λj=>((cl e v.2).getD j (0,0)).1) (λj=>((cl e v.2).getD j (0,0)).2) j).1) (λj=>(Hg v.1.n (cl e v.2).length v.1.F v.1.T (λj=>((cl e v.2).getD j (0,0)).1) (λj=>((cl e v.2).getD j (0,0)).2) j).2),IntKind.wrap .i64 (v.2+1))
      ⟨hx.1,by show ((v.1.n+(cl e v.2).length:Nat):Int)<=1+16*IntKind.wrap .i64 (v.2+1);rw [hw];omega⟩ hx.2 (by rw [I2 v.1.n (cl e v.2).length v.1.F v.1.T (λj=>((cl e v.2).getD j (0,0)).1) λj=>((cl e v.2).getD j (0,0)).2];rfl)))
     λ_=>.to (v.1,IntKind.wrap .i64 (v.2+1)) ⟨hx.1,by show (v.1.n:Int)<=1+16*IntKind.wrap .i64 (v.2+1);rw [hw];omega⟩ hx.2))
   λh=>.fi v.1 (by have:=hv.2;have:=hv.1.2;omega)) (λv L k kn=>by kernel_rfl)
 obtain ⟨u3,w3,h3,l3⟩:=aA (V:=V0) (T:=[kf fu [.agg e.c,.str (e.expts.getD i default).layer] [] a SM.φI',kf fw [.agg e.c,.str (e.expts.getD i default).flag] [] b SM.φI',kf ej [dh e.segs] [] (n,g) SM.φX,eX9,Ll]) (d:=1) (W:=[]) (f:=cm) (p:=[1,1,1,1,1,1,1,1,1,1,0,1,0]) (Lf:=λL=>L) (X3 e (e.expts.getD i default) i) (λj=>ix i j) (λj=>(i - j).toNat) Mj (λ_=>True) (by kernel_rfl)
  (λj hj=>.b (bif decide (j < (i:Int)) then (e.expts.getD i default).status==2 else false) (λh=>
    have h':=of_decide_eq_true (Gq h)
    have hx:=ax hj (by omega) h'
    .n (c:=within j e.expts.length) (ay hj.1 (by omega)) (.b (bif bif (e.expts.getD j.toNat default).status==2 then (e.expts.getD j.toNat default).flag==(e.expts.getD i default).flag else false then !(e.expts.getD j.toNat default).layer==(e.expts.getD i default).layer else false) (λ_=>.fi (true,14) trivial)
     λ_=>.to (IntKind.wrap .i64 (j+1)) hx.1 hx.2))
   λ_=>.fi (false,0) trivial) (λv L k kn=>by kernel_rfl)
 exact cM (V:=V0) (T:=[kf fu [.agg e.c,.str (e.expts.getD i default).layer] [] a SM.φI',kf fw [.agg e.c,.str (e.expts.getD i default).flag] [] b SM.φI',kf ej [dh e.segs] [] (n,g) SM.φX,eX9,Ll]) (d:=1) 0 (ag (l1 _) (ag (l2 _) (ag (l3 _) aE))) aD
  (.n (cw hi) (.n (eL [.agg e.c,.str (e.expts.getD i default).layer] []) (.n (eL [.agg e.c,.str (e.expts.getD i default).flag] []) (.b (bif decide (a < 0) then true else decide (b < 0)) (λ_=>.r (11:Int) trivial) λhab=>
   have ha0:0<=a:=by
    by_cases h:a < 0
    ·rw [decide_eq_true h] at hab;cases hab
    ·omega
   have hb0:0<=b:=by
    by_cases h:b < 0
    ·rw [decide_eq_true h] at hab;cases hq:decide (a < 0) <;> rw [hq] at hab <;> cases hab
    ·omega
   have hs:bU u2 w2 {env:=[(1,.int .i64 i),(2,.ref 2 0),(5,.ref 5 0),(10,.sl (.key 100) 2 1 (ab (SP Int.ofNat Int.ofNat 0) [(0,.agg [.int .i64 0,.int .i64 (e.layers.getD a.toNat default).hold])])),(11,.int .i64 0)],objs:=[(2,.cells e.c),(5,.cells (e.expts.getD i default).c),(100,.own 2 1)]} (λo=>o.n<=1000000):=by
    rw [I3];exact h2 (SO.mk 1 (λ_=>0) (λj=>bif Nat.beq 0 j then (e.layers.getD a.toNat default).hold else 0),0) ⟨ix0 _,by show ((1:Nat):Int)<=1+16*0;decide⟩
   .lp (h1 0 ⟨hb0,ix0 _⟩) λt _=>.b t.1 (λ_=>.r t.2 trivial) λ_=>.n (eL [dh e.segs] []) (.call (z8 e.attrs hat n g hn hxg.1.1.1 hxo.2.2.2.2.2.2) λs _=>.b (s !=0) (λ_=>.r s trivial) λ_=>
   .b ((e.expts.getD i default).status==3) (λ_=>.r (0:Int) trivial) λ_=>.n (c:=within a e.layers.length) (ay ha0 ha.2) (.lp hs λo qo=>.call (C6 (pW (e.expts.getD i default).claims) (iA o) (by show (e.expts.getD i default).claims.length<=_;have:=hxg.1.2;omega) qo) λz _=>
   .b (decide ((z.n:Int) > 0)) (λ_=>.r (14:Int) trivial) λ_=>.lp (h3 0 (ix0 _)) λv _=>.b v.1 (λ_=>.r v.2 trivial) λ_=>.r (0:Int) trivial)))))) (by kernel_rfl)
end Go.T

namespace Go.T
open Go Go.Ab Go.Proofs Go.SH
open Go.SM (ENV GoodE TX txA TXS In EDG ED edA mG dh KOk STE mK φL')
noncomputable abbrev eFE:Ent:=aY wd gK SM.φI' iM
noncomputable abbrev eXE:Ent:=aY wd cm SM.φI' iM
def Px (l:List AV) (_:List AO) (r:List UInt8×Bool):Prop:=∀ (x:TXS) (ne:Nat) (f:EDG),l=[txA x.1 x.2,edA ne f]->r.1=[]∨In x r.1
theorem xM (n:Nat) (g:Nat->List UInt8) (ne:Nat) (f:EDG) (hn:n<=999999) (hne:ne<=1000000):aB wd rz φL' Px [txA n g,edA ne f] []:=(Im n g ne f hn hne).mono λx h y _ _ e=>by
 have e:txA n g=txA y.1 y.2:=(List.cons.inj e).1
 rw [<-show (n,g)=y from qN e];exact h
noncomputable abbrev P7:Ent:=aY wd rz φL' Px
abbrev sgW:List UInt8:=[115,101,103,109,101,110,116,32]
abbrev flW:List UInt8:=[102,108,97,103,32]
abbrev xpW:List UInt8:=[101,120,112,101,114,105,109,101,110,116,32]
def Y1 (e:ENV) (n:Nat) (g:Nat->List UInt8) (i:Int):St:={env:=[(1,.ref 1 0),(5,txA n g),(6,.int .i64 i)],objs:=[(1,.cells e.c)]}
def Y2 (k:Nat) (e:ENV) (i:Int):St:={env:=[(1,.ref 1 0),(k,.int .i64 i)],objs:=[(1,.cells e.c)]}
def Kl (x:Nat) (en:List (Nat×AV)) (ob:List (Nat×AO)) (b:Bool×STE) (k:Ex->St->Res):Res:=cond b.1 (k .ret {env:=[(2,.str b.2.1),(3,.int .i64 b.2.2)],objs:=[]}) (k (.exit x) {env:=en,objs:=ob})
instance:Inhabited (Bool×STE):=⟨(false,default)⟩
def bP (b:Bool×STE):Prop:=b.1=true->b.2.2≠0
theorem bP.no:bP (false,default):=λh=>by cases h
theorem Ic {t:Int} (h:(t !=0)=true):t≠0:=by simpa using h
theorem Gi {a b:Nat} (h:a+b<=1000):Nat.ble (a+b) 4611686018427387904=true:=Nat.ble_eq_true_of_le (by omega)
def Pz (e:ENV) (_:List AV) (_:List AO) (r:STE):Prop:=r.2=0->mK e=0
noncomputable abbrev NH (e:ENV) (n:Nat) (g:Nat->List UInt8):List Ent:=[eX9,eFE,eXE,aY wd fN SH.φE (rIs (mK e)),kf ej [dh e.segs] [] (n,g) SM.φX,Qa,P7,aY wd iH SM.φX (rKs e.flags.length (Dk e)),P9]
theorem IJ (e:ENV) (ok:e.Ok) (hs:e.segs.length<=1000):aB wd dK SM.φV' (Pz e) [.agg e.c] []:=by
 obtain ⟨⟨n,g⟩,hk,hc⟩:=vB e.segs (by omega)
 have hn:n<=1000:=by have h1:n=e.segs.length:=hk.1;omega
 have hg:GoodE e->∀ {s:List UInt8},s=[]∨In (n,g) s->s.length<=32:=λhe s h=>by
  rcases h with h | ⟨j,hj,h⟩
  ·rw [h];decide
  ·have hj:j < n:=hj
   have h1:n=e.segs.length:=hk.1
   rw [<-h,show (n,g).2 j=Bc e.segs j from hk.2 j hj]
   exact (he.seg _ (aN (by omega))).2
 have hat:e.attrs.length<=1048576:=ok.attrs.1
 haveI t1:=gB (T:=[Qa,P7,aY wd iH SM.φX (rKs e.flags.length (Dk e)),P9]) hc
 obtain ⟨u1,w1,h1,l1⟩:=aA (V:=V0) (T:=NH e n g) (d:=1) (W:=[]) (f:=dK) (p:=PB) (Lf:=λL=>L) (Y1 e n g) (λi=>GoodE e/\ix e.segs.length i) (λi=>(e.segs.length - i).toNat) (Kl 0 [(1,.ref 1 0),(5,txA n g)] [(1,.cells e.c)]) bP (by kernel_rfl)
  (λi hi=>.b (decide (i < (e.segs.length:Int))) (λh=>
    have he:=hi.1
    have hx:=ax hi.2 (by omega) (of_decide_eq_true h)
    have hm:e.segs.getD i.toNat default∈e.segs:=aN (by have:=of_decide_eq_true h;have:=hi.2.1;omega)
    have nx:(ix e.segs.length (IntKind.wrap .i64 (i+1))):=hx.1
    .n (bw hi.2 h) (.b ((e.segs.getD i.toNat default).when.op==0) (λ_=>.to (IntKind.wrap .i64 (i+1)) ⟨he,hx.1⟩ hx.2) λ_=>
     .n (bw hi.2 h) (.call (z8 e.attrs hat n g (by omega) (he.seg _ hm).1.1 (ok.segs.2 _ hm).2.2.2.2) λt _=>.b (t !=0) (λht=>.n (bw hi.2 h) (.n (c:=Nat.ble (sgW.length+(e.segs.getD i.toNat default).key.length) 4611686018427387904) (Gi (by have:=(he.seg _ hm).2;show 8+_<=1000;omega))
      (.fi (true,sgW++(e.segs.getD i.toNat default).key,t) λ_=>Ic ht))) λ_=>.to (IntKind.wrap .i64 (i+1)) ⟨he,hx.1⟩ hx.2)))
   λ_=>.fi (false,default) bP.no) (λv L k kn=>by kernel_rfl)
 obtain ⟨u2,w2,h2,l2⟩:=aA (V:=V0) (T:=NH e n g) (d:=1) (W:=[]) (f:=dK) (p:=[1,1,1,1,1,0,1,0]) (Lf:=λL=>L) (Y2 10 e) (λi=>GoodE e/\ix e.flags.length i) (λi=>(e.flags.length - i).toNat) (Kl 2 [(1,.ref 1 0)] [(1,.cells e.c)]) bP (by kernel_rfl)
  (λi hi=>.b (decide (i < (e.flags.length:Int))) (λh=>
    have he:=hi.1
    have hx:=ax hi.2 (by have:=he.flags;omega) (of_decide_eq_true h)
    have hm:e.flags.getD i.toNat default∈e.flags:=aN (by have:=of_decide_eq_true h;have:=hi.2.1;omega)
    .n (bw hi.2 h) (.call (CP e he _ (he.flag _ hm) (ok.flags.2 _ hm)) λt _=>.b (t !=0) (λht=>.n (bw hi.2 h) (.n (c:=Nat.ble (flW.length+(e.flags.getD i.toNat default).key.length) 4611686018427387904) (Gi (by have:=(he.flag _ hm).1;show 5+_<=1000;omega))
      (.fi (true,flW++(e.flags.getD i.toNat default).key,t) λ_=>Ic ht))) λ_=>.to (IntKind.wrap .i64 (i+1)) ⟨he,hx.1⟩ hx.2))
   λ_=>.fi (false,default) bP.no) (λv L k kn=>by kernel_rfl)
 obtain ⟨u3,w3,h3,l3⟩:=aA (V:=V0) (T:=NH e n g) (d:=1) (W:=[]) (f:=dK) (p:=[1,1,1,1,1,1,1,0,1,0]) (Lf:=λL=>L) (λi:Nat=>Y2 14 e i) (λi=>GoodE e/\i<=e.expts.length) (λi=>e.expts.length - i) (Kl 4 [] []) bP (by kernel_rfl)
  (λi hi=>.b (decide ((i:Int) < (e.expts.length:Int))) (λh=>
    have he:=hi.1
    have hlt:i < e.expts.length:=nf h
    have hm:e.expts.getD i default∈e.expts:=aN hlt
    .call (CS e he i hlt) λt _=>.b (t !=0) (λht=>.n (cw hlt) (.n (c:=Nat.ble (xpW.length+(e.expts.getD i default).key.length) 4611686018427387904) (Gi (by have:=(he.expt _ hm).2;show 11+_<=1000;omega))
      (.fi (true,xpW++(e.expts.getD i default).key,t) λ_=>Ic ht))) λ_=>.go (Y2 14 e (IntKind.wrap .i64 ((i:Int)+1))) (i+1) ⟨he,hlt⟩ (by show e.expts.length - (i+1) < e.expts.length - i;omega) (by rw [bb (by have:=he.expts;omega)]))
   λ_=>.fi (false,default) bP.no) (λv L k kn=>by kernel_rfl)
 exact cM (V:=V0) (T:=NH e n g) (d:=1) 0 (ag (l1 _) (ag (l2 _) (ag (l3 _) aE))) aD
  (.call (Ez e ok) λt q=>.b (t !=0) (λht=>.r ([],t) λh=>absurd h (Ic ht)) λht=>
   have hz:mK e=0:=by rw [<-show t=mK e from q];simpa using ht
   have he:=SM.MZ ok hz
   .n (eL [dh e.segs] []) (.lp (h1 0 ⟨he,ix0 _⟩) λt1 q1=>.b t1.1 (λh=>.r (t1.2.1,t1.2.2) λh'=>absurd h' (q1 h)) λ_=>
   .call (IL e.segs hs λg hg=>SM.XOk.of (he.seg g hg).1) λed qd=>.call (xM n g ed.1 ed.2 (by omega) qd) λls ql=>.b ls.2 (λ_=>.n (c:=Nat.ble (sgW.length+ls.1.length) 4611686018427387904) (Gi (by have:=hg he (ql (n,g) ed.1 ed.2 rfl);show 8+_<=1000;omega)) (.r (sgW++ls.1,12) λh=>by cases h)) λ_=>
   .lp (h2 0 ⟨he,ix0 _⟩) λt2 q2=>.b t2.1 (λh=>.r (t2.2.1,t2.2.2) λh'=>absurd h' (q2 h)) λ_=>
   .call (Iz e (by have:=he.flags;omega)) λfk qk=>.call (Ib e he.flags λf hf=>by have:=(he.flag f hf).2.1;omega) λfn qn=>.call (xM fk.1 fk.2 fn.1 fn.2 (by have:=qk.1;have:=he.flags;omega) qn) λlf qf=>.b lf.2 (λ_=>.n (c:=Nat.ble (flW.length+lf.1.length) 4611686018427387904) (Gi (by
     have:lf.1.length<=32:=by
      rcases qf fk fn.1 fn.2 rfl with h | ⟨j,hj,h⟩
      ·rw [h];decide
      ·have h1:=qk.1
       rw [<-h,show fk.2 j=Dk e j from qk.2 j hj]
       exact (he.flag _ (aN (by omega))).1
     show 5+_<=1000;omega)) (.r (flW++lf.1,12) λh=>by cases h)) λ_=>
   .lp (h3 0 ⟨he,Nat.zero_le _⟩) λt3 q3=>.b t3.1 (λh=>.r (t3.2.1,t3.2.2) λh'=>absurd h' (q3 h)) λ_=>.r ([],0) λ_=>hz)) (by kernel_rfl)
def rVa (e:ENV) (_:List AV) (_:List AO) (b:Bool):Prop:=b=true->mK e=0
theorem GR (e:ENV) (ok:e.Ok) (hs:e.segs.length<=1000):aB wd mY φB (rVa e) [.agg e.c] []:=
 ea (V:=V0) [aY wd dK SM.φV' (Pz e)] 1 (.call (IJ e ok hs) λt q=>.r (t.2==0) λh=>q (by simpa using h)) (by kernel_rfl)
end Go.T

namespace Go.T
open Go Go.Ab Go.Proofs Go.SH
open Go.SM (txA TX KOk)
open Go.SO (EH SmG SmT vcS)
noncomputable abbrev eEx:Ent:=aY wd e9 φE (rEx 25)
noncomputable abbrev IM:Ent:=aY wd uf φKs Ke
def RGr (cs:List AV):Prop:=∃x:SEG,(SmG 50 x/\x.key.length<=40)/\TellL cs x.c
theorem rT {l:List (List UInt8)} (h:l.length<=3/\∀s∈l,s.length<=8):SmT l 50:=⟨by omega,λs hs=>Nat.le_trans (h.2 s hs) (by decide)⟩
theorem DE.fit {b n:Nat} {e:EXP} (h:DE b e) (hn:20<=n:=by decide):Fit n e:=h.1.1.mono hn
theorem BX {b:Nat} (op:Int):Fit b (.mk op [] [] [] []):=.mk _ (Nat.zero_le _) (Nat.zero_le _) (Nat.zero_le _) (λv hv=>(List.not_mem_nil hv).elim) (Nat.zero_le _) (λk hk=>(List.not_mem_nil hk).elim)
theorem JS:TellL [.int .i64 0,.str [],.str [],nA,nA] [.int .i64 0,.str [],.str [],gV [],.sl .no 5 0 (EXP.row [])]:=.cons (.same rfl) (.cons (.same rfl) (.cons (.same rfl) (.cons aU (.cons aU .nil))))
theorem Jo {k kd:List UInt8} {a b:List (List UInt8)} {e:EXP} {n:Nat} (hk:k.length<=40) (hd:kd.length<=40) (ha:a.length<=3/\∀s∈a,s.length<=8) (hb:b.length<=3/\∀s∈b,s.length<=8) (he:DE n e) :
  RGr [.str k,.str kd,bR a,bR b,.int .i64 e.op,.str e.kind,.str e.name,gV e.vals,.sl .no 5 e.kids.length (EXP.row e.kids)]:=
 ⟨SEG.mk k kd a b e,⟨⟨by show k.length<=1000;omega,by show kd.length<=1000;omega,rT ha,rT hb,he.fit⟩,hk⟩,TellL.refl rfl⟩
theorem Jp {k kd:List UInt8} {a b:List (List UInt8)} (hk:k.length<=40) (hd:kd.length<=40) (ha:a.length<=3/\∀s∈a,s.length<=8) (hb:b.length<=3/\∀s∈b,s.length<=8) :
  RGr [.str k,.str kd,bR a,bR b,.int .i64 0,.str [],.str [],nA,nA]:=
 ⟨SEG.mk k kd a b (.mk 0 [] [] [] []),⟨⟨by show k.length<=1000;omega,by show kd.length<=1000;omega,rT ha,rT hb,BX 0⟩,hk⟩,.cons (.same rfl) (.cons (.same rfl) (.cons (.same rfl) (.cons (.same rfl) JS)))⟩
structure SGV where
 m:Nat
 n:Nat
 g:Nat->List AV
 C:CODES
 i:Int
structure SGA where
 h:EH
 n:Nat
 g:Nat->List AV
 C:CODES
instance:Inhabited SGA:=⟨⟨⟨[],[],0,0,λ_=>[]⟩,0,λ_=>[],default⟩⟩
def sgO (x:SGA):List AO:=[aK x.C,.cells (vcS x.h (.sl (.key 1000002) 9 x.n x.g)),.own 9 x.n]
def φSg (x:SGA):AV×List AO:=(.tup [],sgO x)
def rSg (h:EH) (_:List AV) (_:List AO) (x:SGA):Prop:=(x.h=h/\x.n<=3/\∀j,j < x.n->RGr (x.g j))/\x.C.Ok
abbrev sgN (j:Nat):List UInt8:=SO.NM (0+j)
theorem D1 (j:Nat):(sgN j).length<=40:=by
 unfold sgN SO.NM
 cases Nat.beq 0 (0+j) <;> cases Nat.beq 1 (0+j) <;> cases Nat.beq 2 (0+j) <;> decide
def sgS (h:EH) (v:SGV):St:={env:=[(0,cR),(1,.ref 1000001 0),(4,txA v.m sgN),(5,.int .i64 v.i)],objs:=[(aa,aK v.C),(1000001,.cells (vcS h (.sl (.key 1000002) 9 v.n v.g))),(1000002,.own 9 v.n)]}
def sgE (x:SGA) (k:Ex->St->Res):Res:=k (.exit 0) {env:=[],objs:=[(aa,aK x.C),(1000001,.cells (vcS x.h (.sl (.key 1000002) 9 x.n x.g))),(1000002,.own 9 x.n)]}
def sgI (v:SGV):Prop:=((ix v.m v.i/\v.m<=3)/\(v.n:Int)=v.i)/\(∀j,j < v.n->RGr (v.g j))/\v.C.Ok
abbrev zS:List AV:=[.str [],.str [],nA,nA,.int .i64 0,.str [],.str [],nA,nA]
theorem Hn {h:EH} {v:SGV} {P:SGA->Prop} (hv:sgI v) (hi:v.i < (v.m:Int)) (x:List AV) {D:CODES} (hx:RGr x) (hD:D.Ok) :
  RT (sgS h) sgI (λv=>(v.m - v.i).toNat) sgE (λ_ o=>P o) v (λ(_:List (List Nat×Orc)) _ kn=>cond (roomy 168 (v.n+1)&&Nat.beq v.n v.n) (kn {env:=[(0,cR),(1,.ref 1000001 0),(4,txA v.m sgN),(5,.int .i64 (IntKind.wrap .i64 (v.i+1)))],objs:=[(aa,aK D),(1000001,.cells (vcS h (.sl (.key 1000002) 9 (v.n+1) (af v.n 1 v.g (ab zS [(0,.agg x)]))))),(1000002,.own 9 (v.n+1))]}) none):=
 have hn:=hv.1.2
 have hm:=hv.1.1.2
 have h0:=hv.1.1.1.1
 .n (av (b:=168) (n:=v.n+1) (m:=v.n) (by omega)) (.go _ (SGV.mk v.m (v.n+1) (af v.n 1 v.g (ab zS [(0,.agg x)])) D (IntKind.wrap .i64 (v.i+1)))
  ⟨⟨⟨(ax hv.1.1.1 (by omega) hi).1,hm⟩,by show ((v.n+1:Nat):Int)=IntKind.wrap .i64 (v.i+1);rw [wrap_i64 (by omega) (by omega)];omega⟩,ba (P:=RGr) hv.2.1 hx,hD⟩ (ax hv.1.1.1 (by omega) hi).2 rfl)
abbrev LI:List UInt8:=[100,101,118,105,99,101]
theorem J0 (h:EH) (g0:Nat->List AV) {C:CODES} (hC:C.Ok):aB wd lN φSg (rSg h) [cR,.ref 1000001 0] [aK C,.cells (vcS h (.sl (.key 1000002) 9 0 g0)),.own 9 0]:=by
 obtain ⟨u,w,hu,hl⟩:=aA (V:=V0) (T:=[IM,fD,eEx]) (d:=2) (W:=[]) (f:=lN) (p:=[1,1,0]) (Lf:=λL=>L) (sgS h) sgI (λv=>(v.m - v.i).toNat) sgE (λx=>(x.h=h/\x.n<=3/\∀j,j < x.n->RGr (x.g j))/\x.C.Ok) (by kernel_rfl)
  (λv hv=>.b (decide (v.i < (v.m:Int))) (λhd=>
    have hi:=of_decide_eq_true hd
    have hk:=D1 v.i.toNat
    have h0:=hv.1.1.1.1
    have sl:(decide ((0:Int)<=((0:Nat):Int))&&(decide (((0:Nat):Int)<=v.i)&&decide (v.i<=(v.m:Int))))=true:=slT (Int.le_refl _) h0 (by omega)
    have ex:∀ {D:CODES},D.Ok->aB wd e9 φE (rEx 25) [cR,txV (v.i.toNat - Int.toNat ((0:Nat):Int)) (λj=>sgN (Int.toNat ((0:Nat):Int)+j)),.int .i64 3] [aK D]:=λhD=>su 3 (.inr rfl) _ _ ⟨by have:=hv.1.1.2;show v.i.toNat - 0<=7;omega,λj _=>D1 _⟩ hD
    .n (bw hv.1.1.1 hd) (.call (vC hv.2.2) λa qa=>.call (vC qa.2) λb qb=>.call (ao qb.2 4 (by decide)) λt qt=>
     .b (t.1==1)
      (λ_=>.call (ao qt.2 3 (by decide)) λs qs=>.b (decide (s.1 > 0))
       (λ_=>.n sl (.call (ex qs.2) λe qe=>Hn hv hi [.str (sgN v.i.toNat),.str LI,bR a.1,bR b.1,.int .i64 e.1.op,.str e.1.kind,.str e.1.name,gV e.1.vals,.sl .no 5 e.1.kids.length (EXP.row e.1.kids)] (Jo hk (by decide) qa.1 qb.1 qe.1) qe.2))
       λ_=>Hn hv hi [.str (sgN v.i.toNat),.str LI,bR a.1,bR b.1,.int .i64 0,.str [],.str [],nA,nA] (Jp hk (by decide) qa.1 qb.1) qs.2)
      λ_=>.call (ao qt.2 3 (by decide)) λs qs=>.b (decide (s.1 > 0))
       (λ_=>.n sl (.call (ex qs.2) λe qe=>Hn hv hi [.str (sgN v.i.toNat),.str pt,bR a.1,bR b.1,.int .i64 e.1.op,.str e.1.kind,.str e.1.name,gV e.1.vals,.sl .no 5 e.1.kids.length (EXP.row e.1.kids)] (Jo hk (by decide) qa.1 qb.1 qe.1) qe.2))
       λ_=>Hn hv hi [.str (sgN v.i.toNat),.str pt,bR a.1,bR b.1,.int .i64 0,.str [],.str [],nA,nA] (Jp hk (by decide) qa.1 qb.1) qs.2))
   λ_=>.fi (SGA.mk h v.n v.g v.C) ⟨⟨rfl,by have:=hv.1.2;have:=hv.1.1.1.2;have:=hv.1.1.2;show v.n<=3;omega,hv.2.1⟩,hv.2.2⟩) (λv L k kn=>by kernel_rfl)
 have e:(λj=>ab [.str []] [(0,.str [97,108,112,104,97]),(1,.str [98,101,116,97]),(2,.str [103,97,109,109,97])] (Int.toNat ((0:Nat):Int)+j))=TX sgN:=funext λj=>SO.D7 _
 exact ff (V:=V0) [IM,fD,eEx] 2 hl (.call (ao hC 4 (by decide)) λt q=>
  have hq:0<=t.1/\t.1 < 4:=q.1
  have hs:bU u w {env:=[(0,cR),(1,.ref 1000001 0),(4,.sl .no 1 (Int.toNat t.1 - Int.toNat ((0:Nat):Int)) λj=>ab [.str []] [(0,.str [97,108,112,104,97]),(1,.str [98,101,116,97]),(2,.str [103,97,109,109,97])] (Int.toNat ((0:Nat):Int)+j)),(5,.int .i64 0)],objs:=[(aa,aK t.2),(1000001,.cells (vcS h (.sl (.key 1000002) 9 0 g0))),(1000002,.own 9 0)]} (λx=>(x.h=h/\x.n<=3/\∀j,j < x.n->RGr (x.g j))/\x.C.Ok):=by
   rw [e];exact hu (SGV.mk (t.1.toNat - 0) 0 g0 t.2 0) ⟨⟨⟨ix0 _,by show t.1.toNat - 0<=3;omega⟩,rfl⟩,λj hj=>absurd hj (Nat.not_lt_zero _),q.2⟩
  .n (c:=decide ((0:Int)<=((0:Nat):Int))&&(decide (((0:Nat):Int)<=t.1)&&decide (t.1<=((3:Nat):Int)))) (slT (Int.le_refl _) hq.1 (by omega)) (.lp hs λx qx=>.r x qx)) (by kernel_rfl)
end Go.T

namespace Go.T
open Go Go.Ab Go.Proofs Go.SH
open Go.SO (LH lyC zl SmL)
theorem mN:∀s∈tq,s.length<=40:=by decide
structure LYV where
 h:LH
 n:Nat
 g:Nat->List AV
 C:CODES
 a:Int
 i:Int
instance:Inhabited LYV:=⟨⟨⟨[],[],[],0,0⟩,0,λ_=>[],default,0,0⟩⟩
def lyS (v:LYV):St:={env:=[(0,cR),(4,.ref 4 0),(5,.ref 5 0),(6,.int .i64 v.a),(7,.int .i64 v.i)],objs:=[(4,.cells zl),(5,.cells (lyC v.h (.sl (.key 52) 3 v.n v.g))),(52,.own 3 v.n),(aa,aK v.C)]}
def lyO (v:LYV) (k:Ex->St->Res):Res:=k (.exit 0) {env:=[(4,.ref 4 0),(5,.ref 5 0)],objs:=[(4,.cells zl),(5,.cells (lyC v.h (.sl (.key 52) 3 v.n v.g))),(52,.own 3 v.n),(aa,aK v.C)]}
def lyH (h:LH):Prop:=h.key.length<=40/\h.kind.length<=40/\h.salt.length<=40
def lyP (v:LYV):Prop:=(lyH v.h/\v.n<=3/\∀j,j < v.n->rRg (v.g j))/\v.C.Ok
def φLy (x:LAYER×CODES):AV×List AO:=(.agg x.1.c,[aK x.2])
instance:Inhabited (LAYER×CODES):=⟨(default,default)⟩
def rLy (_:List AV) (_:List AO) (x:LAYER×CODES):Prop:=SmL 10 x.1/\x.2.Ok
theorem Io (s:List UInt8) (hs:s.length<=40) {C:CODES} (hC:C.Ok):aB wd Al φLy rLy [cR,.str s] [aK C]:=by
 obtain ⟨u,w,hu,hl⟩:=aA (V:=V0) (T:=[fD,CY,Aa]) (d:=1) (W:=[]) (f:=Al) (p:=[1,1,1,1,1,0,1,0]) (Lf:=λL=>L) lyS (λv=>lyP v/\(v.n:Int)=v.i) (λv=>4 - v.n) lyO lyP (by kernel_rfl)
  (λv hv=>.call (ao hv.1.2 3 (by decide)) λt q=>.b (decide (v.i < t.1)) (λh=>
    have hn:=hv.2
    have hi:v.i < 3:=by have h:=of_decide_eq_true h;have q1:0<=t.1/\t.1 < 3:=q.1;omega
    .call (js q.2 3000 (by decide)) λa qa=>.call (js qa.2 2000 (by decide)) λb qb=>
    .b (decide (IntKind.wrap .i64 (IntKind.wrap .i64 (IntKind.wrap .i64 (v.a+a.1)+1)+b.1) > 10000)) (λ_=>.fi (LYV.mk v.h v.n v.g b.2 0 0) ⟨hv.1.1,qb.2⟩)
     λ_=>.call (ao qb.2 200 (by decide)) λc qc=>.n (av (b:=24) (n:=v.n+1) (m:=v.n) (by omega))
      (.to (LYV.mk v.h (v.n+1) (af v.n 1 v.g (ab z3 [(0,.agg [.int .i64 (IntKind.wrap .i64 (v.a+a.1)),.int .i64 (IntKind.wrap .i64 (IntKind.wrap .i64 (IntKind.wrap .i64 (v.a+a.1)+1)+b.1)),.int .i64 c.1])])) c.2 (IntKind.wrap .i64 (IntKind.wrap .i64 (IntKind.wrap .i64 (v.a+a.1)+1)+b.1)) (IntKind.wrap .i64 (v.i+1)))
       ⟨⟨⟨hv.1.1.1,by show v.n+1<=3;omega,ba (P:=rRg) hv.1.1.2.2 ⟨(_,_,_),trivial,TellL.refl rfl⟩⟩,qc.2⟩,by show ((v.n+1:Nat):Int)=IntKind.wrap .i64 (v.i+1);rw [wrap_i64 (by omega) (by omega)];omega⟩ (by show 4 - (v.n+1) < 4 - v.n;omega)))
   λ_=>.fi (LYV.mk v.h v.n v.g t.2 0 0) ⟨hv.1.1,q.2⟩) (λv L k kn=>by kernel_rfl)
 have fin:∀ (kd sa:List UInt8) (ho co:Int) {D:CODES},kd.length<=40->sa∈tq->D.Ok->Run (rLy [cR,.str s] [aK C]) φLy (cond (u (lyS (LYV.mk (LH.mk s kd sa ho co) 0 (λ_=>z3) D 0 0))) (some (.agg [.str (w (lyS (LYV.mk (LH.mk s kd sa ho co) 0 (λ_=>z3) D 0 0))).h.key,.str (w (lyS (LYV.mk (LH.mk s kd sa ho co) 0 (λ_=>z3) D 0 0))).h.kind,.str (w (lyS (LYV.mk (LH.mk s kd sa ho co) 0 (λ_=>z3) D 0 0))).h.salt,.int .i64 (w (lyS (LYV.mk (LH.mk s kd sa ho co) 0 (λ_=>z3) D 0 0))).h.hold,.int .i64 (w (lyS (LYV.mk (LH.mk s kd sa ho co) 0 (λ_=>z3) D 0 0))).h.cool,.sl .no 3 (w (lyS (LYV.mk (LH.mk s kd sa ho co) 0 (λ_=>z3) D 0 0))).n (w (lyS (LYV.mk (LH.mk s kd sa ho co) 0 (λ_=>z3) D 0 0))).g],[aK (w (lyS (LYV.mk (LH.mk s kd sa ho co) 0 (λ_=>z3) D 0 0))).C])) none):=
  λkd sa ho co D hk ha hD=>.lp (T:=λx=>some (.agg [.str x.h.key,.str x.h.kind,.str x.h.salt,.int .i64 x.h.hold,.int .i64 x.h.cool,.sl .no 3 x.n x.g],[aK x.C])) (hu (LYV.mk (LH.mk s kd sa ho co) 0 (λ_=>z3) D 0 0) ⟨⟨⟨⟨hs,hk,mN _ ha⟩,by show 0<=3;omega,λj hj=>absurd hj (Nat.not_lt_zero _)⟩,hD⟩,rfl⟩) λx q=>by
   obtain ⟨l,h1,h2⟩:=uY q.1.2.2
   have hh:=q.1.1
   exact .t (LAYER.mk x.h.key x.h.kind x.h.salt x.h.hold x.h.cool l,x.C) ⟨⟨⟨Nat.le_trans hh.1 (by decide),Nat.le_trans hh.2.1 (by decide),Nat.le_trans hh.2.2 (by decide)⟩,by have:=q.1.2.1;show l.length<=10;omega⟩,q.2⟩ (.agg (.cons (.same rfl) (.cons (.same rfl) (.cons (.same rfl) (.cons (.same rfl) (.cons (.same rfl) (.cons (h2 .no) .nil)))))))
 exact ff (V:=V0) [fD,CY,Aa] 1 hl (.call (me hC) λa qa=>.call (ao qa.2 3 (by decide)) λb qb=>.call (ao qb.2 4 (by decide)) λc qc=>.b (c.1==1)
  (λ_=>.call (ao qc.2 2 (by decide)) λd qd=>.b (d.1==1) (λ_=>.call (js qd.2 3000 (by decide)) λe qe=>fin LI a.1 e.1 (IntKind.wrap .i64 (b.1*50)) (by decide) qa.1 qe.2) λ_=>fin LI a.1 0 (IntKind.wrap .i64 (b.1*50)) (by decide) qa.1 qd.2)
  λ_=>.call (ao qc.2 2 (by decide)) λd qd=>.b (d.1==1) (λ_=>.call (js qd.2 3000 (by decide)) λe qe=>fin pt a.1 e.1 (IntKind.wrap .i64 (b.1*50)) (by decide) qa.1 qe.2) λ_=>fin pt a.1 0 (IntKind.wrap .i64 (b.1*50)) (by decide) qa.1 qd.2) (by kernel_rfl)
noncomputable abbrev eLy:Ent:=aY wd Al φLy rLy
end Go.T

namespace Go.T
open Go Go.Ab Go.Proofs Go.SH
open Go.SM (ENV TX txA)
open Go.SO (FH flC zf CF)
structure FL where
 h:FH
 off:Int
 a:RW
 b:RW
 c:RW
 d:RW
 C:CODES
 n:Int
 i:Int
 cut:Bool
 m:Nat
instance:Inhabited FL:=⟨⟨⟨[],0,false⟩,0,default,default,default,default,default,0,0,false,0⟩⟩
def kA (k sz:Nat) (r:RW):AV:=.sl (.key k) sz r.n r.g
def flB (e:ENV) (v:FL) (off:Int) (a b c d:AV) (own:List (Nat×AO)):List (Nat×AO):=(4,.cells e.c)::(6,.cells zf)::(7,.cells (flC v.h off a b c d))::(own++[(aa,aK v.C)])
def flN (v:FL):List (Nat×AV):=[(0,cR),(4,.ref 4 0),(6,.ref 6 0),(7,.ref 7 0),(8,.int .i64 v.n)]
def fl1 (e:ENV) (v:FL):List (Nat×AO):=flB e v 0 (kA 42 4 v.a) nA nA nA [(42,.own 4 v.a.n)]
def fl2 (e:ENV) (v:FL):List (Nat×AO):=flB e v v.off (kA 42 4 v.a) (kA 79 2 v.b) nA nA [(42,.own 4 v.a.n),(79,.own 2 v.b.n)]
def fl3 (e:ENV) (v:FL):List (Nat×AO):=flB e v v.off (kA 42 4 v.a) (kA 79 2 v.b) (kA 106 3 v.c) nA [(42,.own 4 v.a.n),(79,.own 2 v.b.n),(106,.own 3 v.c.n)]
def fl4 (e:ENV) (v:FL):List (Nat×AO):=flB e v v.off (kA 42 4 v.a) (kA 79 2 v.b) (kA 106 3 v.c) (kA 131 11 v.d) [(42,.own 4 v.a.n),(79,.own 2 v.b.n),(106,.own 3 v.c.n),(131,.own 11 v.d.n)]
def FS1 (e:ENV) (v:FL):St:={env:=flN v++[(9,.int .i64 v.i)],objs:=fl1 e v}
def FS2 (e:ENV) (v:FL):St:={env:=flN v++[(10,.int .i64 v.i)],objs:=fl2 e v}
def FS3 (e:ENV) (v:FL):St:={env:=flN v++[(11,.int .i64 v.i)],objs:=fl3 e v}
def FS4 (e:ENV) (v:FL):St:={env:=flN v++[(13,.sl .fit 1 4 (TX CF)),(14,.int .i64 v.i)],objs:=fl4 e v}
def FO1 (e:ENV) (v:FL) (k:Ex->St->Res):Res:=k (.exit 0) {env:=flN v,objs:=fl1 e v}
def FO2 (e:ENV) (v:FL) (k:Ex->St->Res):Res:=k (.exit 2) {env:=flN v,objs:=fl2 e v}
def FO3 (e:ENV) (v:FL) (k:Ex->St->Res):Res:=k (.exit 4) {env:=flN v,objs:=fl3 e v}
def flR (v:FL) (d:AV):St:={env:=[(0,cR),(6,.ref 6 0),(7,.ref 7 0),(8,.int .i64 v.n)],objs:=[(6,.cells zf),(7,.cells (flC v.h v.off (kA 42 4 v.a) (kA 79 2 v.b) (kA 106 3 v.c) d)),(42,.own 4 v.a.n),(79,.own 2 v.b.n),(106,.own 3 v.c.n),(131,.own 11 v.d.n),(aa,aK v.C)]}
def FO4 (v:FL) (k:Ex->St->Res):Res:=cond v.cut (k (.exit 6) (flR v (.sl .no 11 v.m v.d.g))) (k (.exit 6) (flR v (kA 131 11 v.d)))
noncomputable abbrev QF:Ent:=aY wd F3 φSv rSv
end Go.T

namespace Go.T
open Go Go.Ab Go.Proofs Go.SH
open Go.SM (ENV TX txA KOk rlP whens)
open Go.SO (FH flC zf CF SmF SmT)
def PRw (cs:List AV):Prop:=∃p:PRQ,p.flag.length<=1000/\TellL cs p.c
def TRw (cs:List AV):Prop:=∃t:TGT,(t.kind.length<=1000/\SmT t.keys 50)/\TellL cs t.c
def RRw (cs:List AV):Prop:=∃r:RULE,(r.name.length<=1000/\DE 25 r.when/\SmV r.serve)/\TellL cs r.c
structure FA (v:FL):Prop where
 key:v.h.key.length<=40
 kind:1<=v.h.kind/\v.h.kind<=5
 n:1<=v.n/\v.n<=4
 C:v.C.Ok
def F1P (v:FL):Prop:=FA v/\(1<=v.a.n/\v.a.n<=4)/\∀j,j < v.a.n->rVl (v.a.g j)
def F2P (v:FL):Prop:=F1P v/\v.b.n<=40/\∀j,j < v.b.n->PRw (v.b.g j)
def F3P (v:FL):Prop:=F2P v/\v.c.n<=3/\∀j,j < v.c.n->TRw (v.c.g j)
def F4Q (v:FL):Prop:=F3P v/\(v.m<=5/\∀j,j < v.m->RRw (v.d.g j))/\(v.cut=false->v.m=v.d.n)
structure PreF (e:ENV):Prop where
 segs:e.segs.length<=7/\∀g∈e.segs,g.key.length<=40
 flags:e.flags.length<=40/\∀f∈e.flags,(1<=f.vars.length/\f.vars.length<=1000)/\f.key.length<=1000
theorem uA {τ:Type} {f:FuncId} {φ:τ->AV×List AO} {P:τ->Prop} {x y:AV} (h:∀c v,Rep c x v->Rep c y v) (hk:ak [y]=[]) (hd:aB wd f φ (λ_ _=>P) [y] []):aB wd f φ (λ_ _=>P) [x] []:=by
 obtain ⟨r,hr,hc⟩:=hd
 refine ⟨r,hr,Ct.args hc rfl hk λi u u' hu hu' c v hv=>?_⟩
 match i,hu,hu' with
 | 0,hu,hu'=>
  simp only [List.getElem?_cons_zero,Option.some.injEq] at hu hu'
  subst hu hu'
  exact h c v hv
 | i+1,hu,_=>simp at hu
theorem JR {n:Nat} {g:Nat->List AV} (hn:n<=10) (h:∀j,j < n->RRw (g j)):aB wd cU SM.φQ' iM [.sl .no 11 n g] []:=by
 obtain ⟨l,h1,h2,h3⟩:=bH (R:=RULE.c) h
 refine uA (P:=λ_=>True) (h3 .no 11 λ_=>⟨rfl,rfl⟩).2 rfl (tm (l:=l) ⟨λr hr=>(h2 r hr).2.1.fit (n:=20).ok (by decide),?_,by omega⟩ λr hr=>(h2 r hr).2.1.1.2)
 have:=SM.IZ λr hr=>Nat.le_trans (h2 r hr).2.1.2 (by decide)
 omega
abbrev zV:List AV:=z4
noncomputable abbrev tF (e:ENV):List Ent:=[fD,Ju,IM,aY wd gQ SM.φX (rKs e.segs.length (Bc e.segs)),eEx,QF,M5]
theorem O3 (e:ENV):∃ (u:St->Bool) (w:St->FL),(∀v,(FA v/\(v.a.n:Int)=v.i/\v.i<=v.n)/\(∀j,j < v.a.n->rVl (v.a.g j))->bU u w (FS1 e v) F1P)/\∀L:List (List Nat×Orc),bu (V0.run (tF e) 1 [] L [] kZ) kZ [1,1,1,0,1,0] (mkO u w (FO1 e)):=
 aA (Lf:=λL=>L) (FS1 e) (λv=>(FA v/\(v.a.n:Int)=v.i/\v.i<=v.n)/\∀j,j < v.a.n->rVl (v.a.g j)) (λv=>(v.n - v.i).toNat) (FO1 e) F1P (by kernel_rfl)
  (λv hv=>.b (decide (v.i < v.n)) (λh=>
    have h:=of_decide_eq_true h
    have hn:=hv.1.2.1
    have h4:=hv.1.1.n
    have hw:IntKind.wrap .i64 (v.i+1)=v.i+1:=wrap_i64 (by omega) (by omega)
    .call (pR hv.1.1.C v.h.kind hv.1.1.kind) λt q=>.n (av (b:=56) (n:=v.a.n+1) (m:=v.a.n) (by omega))
     (.to {v with a:=⟨v.a.n+1,af v.a.n 1 v.a.g (ab zV [(0,.agg t.1.c)])⟩,C:=t.2,i:=IntKind.wrap .i64 (v.i+1)} ⟨⟨⟨hv.1.1.key,hv.1.1.kind,hv.1.1.n,q.2⟩,by show ((v.a.n+1:Nat):Int)=IntKind.wrap .i64 (v.i+1);rw [hw];omega,by show IntKind.wrap .i64 (v.i+1)<=v.n;rw [hw];omega⟩,ba (P:=rVl) hv.2 (qM q.1.1)⟩ (by show (v.n - IntKind.wrap .i64 (v.i+1)).toNat < (v.n - v.i).toNat;rw [hw];omega)))
   λh=>.fi v ⟨hv.1.1,by have:=of_decide_eq_false h;have:=hv.1.2;have:=hv.1.1.n;omega,hv.2⟩) (λv L k kn=>by kernel_rfl)
theorem O0 (e:ENV) (he:PreF e):∃ (u:St->Bool) (w:St->FL),(∀v,(F1P v/\ix e.flags.length v.i)/\(v.b.n:Int)<=v.i/\(∀j,j < v.b.n->PRw (v.b.g j))->bU u w (FS2 e v) F2P)/\∀L:List (List Nat×Orc),bu (V0.run (tF e) 1 [] L [] kZ) kZ [1,1,1,1,1,0,1,0] (mkO u w (FO2 e)):=
 aA (Lf:=λL=>L) (FS2 e) (λv=>(F1P v/\ix e.flags.length v.i)/\(v.b.n:Int)<=v.i/\∀j,j < v.b.n->PRw (v.b.g j)) (λv=>(e.flags.length - v.i).toNat) (FO2 e) F2P (by kernel_rfl)
  (λv hv=>.b (decide (v.i < (e.flags.length:Int))) (λh=>
    have hx:=ax hv.1.2 (by have:=he.flags.1;omega) (of_decide_eq_true h)
    have h0:=hv.1.2.1
    have h4:=he.flags.1
    have h5:=of_decide_eq_true h
    have hb:=hv.2.1
    have hw:IntKind.wrap .i64 (v.i+1)=v.i+1:=wrap_i64 (by omega) (by omega)
    have hf:=he.flags.2 (e.flags.getD v.i.toNat default) (aN (by omega))
    .call (ao hv.1.1.1.C 4 (by decide)) λt q=>.b (t.1==1) (λ_=>.n (bw hv.1.2 h) (.n (bw hv.1.2 h) (.call (ao q.2 ((e.flags.getD v.i.toNat default).vars.length:Int) (by have:=hf.1;omega)) λs p=>
      .n (av (b:=24) (n:=v.b.n+1) (m:=v.b.n) (by omega)) (.to {v with b:=⟨v.b.n+1,af v.b.n 1 v.b.g (ab [.str [],.int .i64 0] [(0,.agg [.str (Dk e v.i.toNat),.int .i64 (IntKind.wrap .i64 (1+s.1))])])⟩,C:=s.2,i:=IntKind.wrap .i64 (v.i+1)}
       ⟨⟨⟨⟨hv.1.1.1.key,hv.1.1.1.kind,hv.1.1.1.n,p.2⟩,hv.1.1.2⟩,hx.1⟩,by show ((v.b.n+1:Nat):Int)<=IntKind.wrap .i64 (v.i+1);rw [hw];omega,ba (P:=PRw) hv.2.2 ⟨PRQ.mk (Dk e v.i.toNat) _,hf.2,TellL.refl rfl⟩⟩ hx.2))))
     λ_=>.to {v with C:=t.2,i:=IntKind.wrap .i64 (v.i+1)} ⟨⟨⟨⟨hv.1.1.1.key,hv.1.1.1.kind,hv.1.1.1.n,q.2⟩,hv.1.1.2⟩,hx.1⟩,by show (v.b.n:Int)<=IntKind.wrap .i64 (v.i+1);rw [hw];omega,hv.2.2⟩ hx.2)
   λh=>.fi v ⟨hv.1.1,by have:=hv.2.1;have:=hv.1.2.2;have:=he.flags.1;omega,hv.2.2⟩) (λv L k kn=>by kernel_rfl)
theorem OZ (e:ENV):∃ (u:St->Bool) (w:St->FL),(∀v,(F2P v/\0<=v.i)/\(v.c.n:Int)<=v.i/\v.i<=3/\(∀j,j < v.c.n->TRw (v.c.g j))->bU u w (FS3 e v) F3P)/\∀L:List (List Nat×Orc),bu (V0.run (tF e) 1 [] L [] kZ) kZ [1,1,1,1,1,1,0,1,0] (mkO u w (FO3 e)):=
 aA (Lf:=λL=>L) (FS3 e) (λv=>(F2P v/\0<=v.i)/\(v.c.n:Int)<=v.i/\v.i<=3/\∀j,j < v.c.n->TRw (v.c.g j)) (λv=>(4 - v.i).toNat) (FO3 e) F3P (by kernel_rfl)
  (λv hv=>
   have hA:=hv.1.1.1.1
   .call (ao hA.C 3 (by decide)) λt q=>.b (decide (v.i < t.1)) (λh=>
    have h3:v.i < 3:=by have h:=of_decide_eq_true h;have q1:0<=t.1/\t.1 < 3:=q.1;omega
    have h0:=hv.1.2
    have hc:=hv.2.1
    have hw:IntKind.wrap .i64 (v.i+1)=v.i+1:=wrap_i64 (by omega) (by omega)
    have ok:∀ {c:RW} {D:CODES} {i:Int},D.Ok->F2P {v with c:=c,C:=D,i:=i}:=λhD=>⟨⟨⟨hA.key,hA.kind,hA.n,hD⟩,hv.1.1.1.2⟩,hv.1.1.2⟩
    have more:∀ {D:CODES} (x:List AV),D.Ok->TRw x->((F2P {v with c:=⟨v.c.n+1,af v.c.n 1 v.c.g (ab [.str [],.int .i64 0,nA] [(0,.agg x)])⟩,C:=D,i:=IntKind.wrap .i64 (v.i+1)}/\0<=IntKind.wrap .i64 (v.i+1))/\((v.c.n+1:Nat):Int)<=IntKind.wrap .i64 (v.i+1)/\IntKind.wrap .i64 (v.i+1)<=3/\∀j,j < v.c.n+1->TRw (af v.c.n 1 v.c.g (ab [.str [],.int .i64 0,nA] [(0,.agg x)]) j)):=λx hD hx=>⟨⟨ok hD,by rw [hw];omega⟩,by rw [hw];omega,by rw [hw];omega,ba (P:=TRw) hv.2.2.2 hx⟩
    have same:∀ {D:CODES},D.Ok->((F2P {v with C:=D,i:=IntKind.wrap .i64 (v.i+1)}/\0<=IntKind.wrap .i64 (v.i+1))/\(v.c.n:Int)<=IntKind.wrap .i64 (v.i+1)/\IntKind.wrap .i64 (v.i+1)<=3/\∀j,j < v.c.n->TRw (v.c.g j)):=λhD=>⟨⟨ok hD,by rw [hw];omega⟩,by rw [hw];omega,by rw [hw];omega,hv.2.2.2⟩
    have mu:(4 - IntKind.wrap .i64 (v.i+1)).toNat < (4 - v.i).toNat:=by rw [hw];omega
    .call (ao q.2 v.n (by have:=hA.n;omega)) λa qa=>.call (vC qa.2) λb qb=>.call (ao qb.2 4 (by decide)) λc qc=>
    have tr:∀ (kd:List UInt8),kd.length<=40->TRw [.str kd,.int .i64 (IntKind.wrap .i64 (1+a.1)),bR b.1]:=λkd hk=>⟨TGT.mk kd _ b.1,⟨Nat.le_trans hk (by decide),rT qb.1⟩,TellL.refl rfl⟩
    .b (c.1==1)
     (λ_=>.b (decide ((b.1.length:Int) > 0)) (λ_=>.n (av (b:=48) (n:=v.c.n+1) (m:=v.c.n) (by omega)) (.to {v with c:=⟨v.c.n+1,af v.c.n 1 v.c.g (ab [.str [],.int .i64 0,nA] [(0,.agg [.str LI,.int .i64 (IntKind.wrap .i64 (1+a.1)),bR b.1])])⟩,C:=c.2,i:=IntKind.wrap .i64 (v.i+1)} (more _ qc.2 (tr LI (by decide))) mu))
      λ_=>.to {v with C:=c.2,i:=IntKind.wrap .i64 (v.i+1)} (same qc.2) mu)
     λ_=>.b (decide ((b.1.length:Int) > 0)) (λ_=>.n (av (b:=48) (n:=v.c.n+1) (m:=v.c.n) (by omega)) (.to {v with c:=⟨v.c.n+1,af v.c.n 1 v.c.g (ab [.str [],.int .i64 0,nA] [(0,.agg [.str pt,.int .i64 (IntKind.wrap .i64 (1+a.1)),bR b.1])])⟩,C:=c.2,i:=IntKind.wrap .i64 (v.i+1)} (more _ qc.2 (tr pt (by decide))) mu))
      λ_=>.to {v with C:=c.2,i:=IntKind.wrap .i64 (v.i+1)} (same qc.2) mu)
   λ_=>.fi {v with C:=t.2} ⟨⟨⟨⟨hA.key,hA.kind,hA.n,q.2⟩,hv.1.1.1.2⟩,hv.1.1.2⟩,by have:=hv.2;show v.c.n<=3;omega,hv.2.2.2⟩) (λv L k kn=>by kernel_rfl)
end Go.T

namespace Go.T
open Go Go.Ab Go.Proofs Go.SH
open Go.SM (ENV TX txA KOk)
open Go.SO (FH flC zf CF SmF SmT)
abbrev zR:List AV:=[.str [],.int .i64 0,.str [],.str [],nA,nA,.int .i64 0,.str [],.str [],.str [],nA]
abbrev ruC (s:List UInt8) (e:EXP) (v:SERVE):List AV:=[.str s,.int .i64 e.op,.str e.kind,.str e.name,gV e.vals,.sl .no 5 e.kids.length (EXP.row e.kids),.int .i64 v.var,.str v.kind,.str v.by',.str v.salt,lF v.split]
theorem OY (e:ENV) (he:PreF e):∃ (u:St->Bool) (w:St->FL),(∀v,(F3P v/\0<=v.i)/\(v.d.n:Int)<=v.i/\v.i<=4/\v.cut=false/\(∀j,j < v.d.n->RRw (v.d.g j))->bU u w (FS4 e v) F4Q)/\∀L:List (List Nat×Orc),bu (V0.run (tF e) 1 [] L [] kZ) kZ [1,1,1,1,1,1,1,1,0,1,0] (mkO u w FO4):=
 aA (Lf:=λL=>L) (FS4 e) (λv=>(F3P v/\0<=v.i)/\(v.d.n:Int)<=v.i/\v.i<=4/\v.cut=false/\∀j,j < v.d.n->RRw (v.d.g j)) (λv=>(5 - v.i).toNat) FO4 F4Q (by kernel_rfl)
  (λv hv=>
   have hA:=hv.1.1.1.1.1
   have ok:∀ {d:RW} {D:CODES} {i:Int} {c:Bool} {m:Nat},D.Ok->F3P {v with d:=d,C:=D,i:=i,cut:=c,m:=m}:=λhD=>⟨⟨⟨⟨hA.key,hA.kind,hA.n,hD⟩,hv.1.1.1.1.2⟩,hv.1.1.1.2⟩,hv.1.1.2⟩
   have hd:=hv.2.1
   have h0:=hv.1.2
   have h5:=hv.2.2.1
   .call (ao hA.C 5 (by decide)) λt q=>.b (decide (v.i < t.1)) (λh=>
    have h4:v.i < 4:=by have h:=of_decide_eq_true h;have q1:0<=t.1/\t.1 < 5:=q.1;omega
    have hw:IntKind.wrap .i64 (v.i+1)=v.i+1:=wrap_i64 (by omega) (by omega)
    .n (c:=within v.i 4) (ay h0 h4) (.call (A7 e (by have:=he.segs.1;omega)) λks qk=>
    have hk:ks.1<=7/\∀j,j < ks.1->(ks.2 j).length<=40:=⟨by have:=qk.1;have:=he.segs.1;omega,λj hj=>by rw [qk.2 j hj];exact he.segs.2 _ (aN (by have:=qk.1;omega))⟩
    .call (su 3 (.inr rfl) ks.1 ks.2 hk q.2) λx qx=>.call (Bb qx.2 v.n (by have:=hA.n;omega)) λs qs=>
    have hr:=ba (P:=RRw) (h:=ab zR [(0,.agg (ruC (CF v.i.toNat) x.1 s.1))]) hv.2.2.2.2 ⟨RULE.mk (CF v.i.toNat) x.1 s.1,⟨SO.CD _,qx.1,qs.1⟩,TellL.refl rfl⟩
    .n (av (b:=184) (n:=v.d.n+1) (m:=v.d.n) (by omega)) (.call (JR (n:=v.d.n+1) (g:=af v.d.n 1 v.d.g (ab zR [(0,.agg (ruC (CF v.i.toNat) x.1 s.1))])) (by omega) hr) λz _=>
    have w1:IntKind.wrap .i64 (((v.d.n+1:Nat):Int) - 1)=((v.d.n:Nat):Int):=by rw [wrap_i64 (by omega) (by omega)];omega
    .b (bif !z.ok then true else decide ((z.n:Int) > 0))
     (λ_=>.n (c:=decide ((0:Int)<=((0:Nat):Int))&&(decide (((0:Nat):Int)<=IntKind.wrap .i64 (((v.d.n+1:Nat):Int) - 1))&&decide (IntKind.wrap .i64 (((v.d.n+1:Nat):Int) - 1)<=((v.d.n+1:Nat):Int)))) (slT (Int.le_refl _) (by rw [w1];omega) (by rw [w1];omega))
      (.fi {v with d:=⟨v.d.n+1,λj=>af v.d.n 1 v.d.g (ab zR [(0,.agg (ruC (CF v.i.toNat) x.1 s.1))]) (Int.toNat ((0:Nat):Int)+j)⟩,C:=s.2,cut:=true,m:=Int.toNat (IntKind.wrap .i64 (((v.d.n+1:Nat):Int) - 1)) - Int.toNat ((0:Nat):Int)}
       ⟨ok qs.2,⟨by show Int.toNat (IntKind.wrap .i64 (((v.d.n+1:Nat):Int) - 1)) - 0<=5;rw [w1];omega,λj hj=>by
        have hj:j < Int.toNat (IntKind.wrap .i64 (((v.d.n+1:Nat):Int) - 1)) - 0:=hj
        rw [w1] at hj
        show RRw (af v.d.n 1 v.d.g _ (0+j))
        rw [Nat.zero_add];exact hr j (by omega)⟩,λh=>by cases h⟩))
     λ_=>.to {v with d:=⟨v.d.n+1,af v.d.n 1 v.d.g (ab zR [(0,.agg (ruC (CF v.i.toNat) x.1 s.1))])⟩,C:=s.2,i:=IntKind.wrap .i64 (v.i+1)}
      ⟨⟨ok qs.2,by show 0<=IntKind.wrap .i64 (v.i+1);rw [hw];omega⟩,by show ((v.d.n+1:Nat):Int)<=IntKind.wrap .i64 (v.i+1);rw [hw];omega,by show IntKind.wrap .i64 (v.i+1)<=4;rw [hw];omega,hv.2.2.2.1,hr⟩ (by show (5 - IntKind.wrap .i64 (v.i+1)).toNat < (5 - v.i).toNat;rw [hw];omega))))
   λ_=>.fi {v with C:=t.2,cut:=false,m:=v.d.n} ⟨ok q.2,⟨by show v.d.n<=5;omega,hv.2.2.2.2⟩,λ_=>rfl⟩) (λv L k kn=>by kernel_rfl)
def φFl (x:FLAG×CODES):AV×List AO:=(.agg x.1.c,[aK x.2])
instance:Inhabited (FLAG×CODES):=⟨(default,default)⟩
def DF (f:FLAG):Prop:=SmF 50 f/\(1<=f.vars.length/\f.vars.length<=4)
def rFl (_:List AV) (_:List AO) (x:FLAG×CODES):Prop:=DF x.1/\x.2.Ok
theorem smv {s:SERVE} (h:SmV s):SO.SmV 50 s:=⟨by have:=h.2;omega,xL h.1.1,xL h.1.2.1,xL h.1.2.2,by have:=h.2;omega⟩
theorem xU {v:FL} (hv:F4Q v) {s:SERVE} (hs:SmV s) {D:CODES} (hD:D.Ok) {l:List AV} {os:List AO}:Run (rFl l os) φFl (some (.agg [.str v.h.key,.int .i64 v.h.kind,.sl .no 4 v.a.n v.a.g,.bool v.h.on,.int .i64 v.off,.sl .no 2 v.b.n v.b.g,.sl .no 3 v.c.n v.c.g,.sl .no 11 v.m v.d.g,.int .i64 s.var,.str s.kind,.str s.by',.str s.salt,lF s.split],[aK D])):=by
 obtain ⟨⟨⟨⟨hA,ha⟩,hb⟩,hc⟩,hd,_⟩:=hv
 obtain ⟨la,a1,a2,a3⟩:=yw ha.2
 obtain ⟨lb,b1,b2,b3⟩:=bH (R:=PRQ.c) hb.2
 obtain ⟨lc,c1,c2,c3⟩:=bH (R:=TGT.c) hc.2
 obtain ⟨ld,d1,d2,d3⟩:=bH (R:=RULE.c) hd.2
 exact .t (FLAG.mk v.h.key v.h.kind la v.h.on v.off lb lc ld s,D) ⟨⟨⟨Nat.le_trans hA.key (by decide),⟨by have:=ha.1;show la.length<=50;omega,a2⟩,⟨by have:=hb.1;show lb.length<=50;omega,b2⟩,⟨by have:=hc.1;show lc.length<=50;omega,c2⟩,⟨by have:=hd.1;show ld.length<=50;omega,λr hr=>⟨(d2 r hr).1,(d2 r hr).2.1.fit,smv (d2 r hr).2.2⟩⟩,smv hs⟩,by have:=ha.1;show 1<=la.length/\la.length<=4;omega⟩,hD⟩
  (.agg (.cons (.same rfl) (.cons (.same rfl) (.cons (a3 .no) (.cons (.same rfl) (.cons (.same rfl) (.cons (b3 .no 2 λ_=>⟨rfl,rfl⟩) (.cons (c3 .no 3 λ_=>⟨rfl,rfl⟩) (.cons (d3 .no 11 λ_=>⟨rfl,rfl⟩) (TellL.refl rfl))))))))))
theorem K3 (e:ENV) (he:PreF e) (s:List UInt8) (hs:s.length<=40) {C:CODES} (hC:C.Ok):aB wd kZ φFl rFl [cR,.agg e.c,.str s] [aK C]:=by
 obtain ⟨u1,w1,h1,l1⟩:=O3 e
 obtain ⟨u2,w2,h2,l2⟩:=O0 e he
 obtain ⟨u3,w3,h3,l3⟩:=OZ e
 obtain ⟨u4,w4,h4,l4⟩:=OY e he
 exact cM (V:=V0) (T:=tF e) (d:=1) 0 (ag (l1 _) (ag (l2 _) (ag (l3 _) (ag (l4 _) aE)))) aD
  (.call (ao hC 5 (by decide)) λa qa=>.call (ao qa.2 6 (by decide)) λb qb=>.call (ao qb.2 4 (by decide)) λc qc=>
   have hk:IntKind.wrap .i64 (1+a.1)=1+a.1:=by have q:0<=a.1/\a.1 < 5:=qa.1;exact wrap_i64 (by omega) (by omega)
   have hn:IntKind.wrap .i64 (1+c.1)=1+c.1:=by have q:0<=c.1/\c.1 < 4:=qc.1;exact wrap_i64 (by omega) (by omega)
   .lp (h1 (FL.mk (FH.mk s (IntKind.wrap .i64 (1+a.1)) (decide (b.1 < 5))) 0 ⟨0,λ_=>zV⟩ default default default c.2 (IntKind.wrap .i64 (1+c.1)) 0 false 0) ⟨⟨⟨hs,by have q:0<=a.1/\a.1 < 5:=qa.1;show 1<=IntKind.wrap .i64 (1+a.1)/\IntKind.wrap .i64 (1+a.1)<=5;rw [hk];omega,by have q:0<=c.1/\c.1 < 4:=qc.1;show 1<=IntKind.wrap .i64 (1+c.1)/\IntKind.wrap .i64 (1+c.1)<=4;rw [hn];omega,qc.2⟩,rfl,by have q:0<=c.1/\c.1 < 4:=qc.1;show 0<=IntKind.wrap .i64 (1+c.1);rw [hn];omega⟩,λj hj=>absurd hj (Nat.not_lt_zero _)⟩) λv hv=>
   .call (ao hv.1.C v.n (by have:=hv.1.n;omega)) λo qo=>.lp (h2 {v with off:=IntKind.wrap .i64 (1+o.1),b:=⟨0,λ_=>[.str [],.int .i64 0]⟩,C:=o.2,i:=0} ⟨⟨⟨⟨hv.1.key,hv.1.kind,hv.1.n,qo.2⟩,hv.2⟩,ix0 _⟩,Int.le_refl _,λj hj=>absurd hj (Nat.not_lt_zero _)⟩) λv2 q2=>
   .lp (h3 {v2 with c:=⟨0,λ_=>[.str [],.int .i64 0,nA]⟩,i:=0} ⟨⟨⟨⟨⟨q2.1.1.key,q2.1.1.kind,q2.1.1.n,q2.1.1.C⟩,q2.1.2⟩,q2.2⟩,Int.le_refl _⟩,Int.le_refl _,by show (0:Int)<=3;decide,λj hj=>absurd hj (Nat.not_lt_zero _)⟩) λv3 q3=>
   have hh:=h4 {v3 with d:=⟨0,λ_=>zR⟩,i:=0,cut:=false} ⟨⟨⟨⟨⟨⟨q3.1.1.1.key,q3.1.1.1.kind,q3.1.1.1.n,q3.1.1.1.C⟩,q3.1.1.2⟩,q3.1.2⟩,q3.2⟩,Int.le_refl _⟩,Int.le_refl _,by show (0:Int)<=4;decide,rfl,λj hj=>absurd hj (Nat.not_lt_zero _)⟩
   have hs:bU u4 w4 {env:=flN v3++[(13,.sl .fit 1 4 (ab [.str []] [(0,.str [102,105,114,115,116]),(1,.str [115,101,99,111,110,100]),(2,.str [116,104,105,114,100]),(3,.str [102,111,117,114,116,104])])),(14,.int .i64 0)],objs:=fl4 e {v3 with d:=⟨0,λ_=>zR⟩}} F4Q:=by rw [SO.E7];exact hh
   .lp hs λv4 q4=>
   have sv:=Bb q4.1.1.1.1.C v4.n (by have:=q4.1.1.1.1.n;omega)
   .b v4.cut (λ_=>.call sv λr qr=>xU q4 qr.1 qr.2) λhcut=>.call sv λr qr=>by
    have h:=xU (l:=[cR,.agg e.c,.str s]) (os:=[aK C]) q4 qr.1 qr.2
    rw [q4.2.2 hcut] at h
    exact h) (by kernel_rfl)
end Go.T

namespace Go.T
open Go Go.Ab Go.Proofs Go.SH
open Go.SM (ENV TX txA SP SO spA iA qT)
open Go.SO (SmX toL)
structure PreX (e:ENV):Prop where
 f:PreF e
 len:LenE e
 vars:∀f∈e.flags,f.vars.length<=4
 lys:∀l∈e.layers,l.key.length<=1000
 f1:1<=e.flags.length
 l1:1<=e.layers.length
def φXp (x:EXPT×CODES):AV×List AO:=(.agg x.1.c,[aK x.2])
instance:Inhabited (EXPT×CODES):=⟨(default,default)⟩
def rXp (_:List AV) (_:List AO) (x:EXPT×CODES):Prop:=SmX 50 x.1/\x.2.Ok
noncomputable abbrev VXp:Env:=Vb [51,52,53] [] []
theorem Cf (o:SO):cv (spA o) (yr (toL o)):=⟨rfl,λc v h=>SO.JU h⟩
theorem yz (op:Int):TellL [.int .i64 op,.str [],.str [],nA,nA] (eC (.mk op [] [] [] [])):=yA op [] []
theorem K8 (e:ENV) (he:PreX e) (s:List UInt8) (hs:s.length<=40) (now:Int) {C:CODES} (hC:C.Ok):aB wd k0 φXp rXp [cR,.agg e.c,.str s,.int .i64 now] [aK C]:=by
 have hf:=he.f.flags.1
 have hl:=he.len.l
 have f1:=he.f1
 have l1:=he.l1
 have sk:=A7 e (by have:=he.f.segs.1;omega)
 have kk:∀ {ks:SM.TXS},rKs e.segs.length (Bc e.segs) [.agg e.c] [] ks->ks.1<=7/\∀j,j < ks.1->(ks.2 j).length<=40:=fun {ks} qk=>⟨by have:=qk.1;have:=he.f.segs.1;omega,λj hj=>by rw [qk.2 j hj];exact he.f.segs.2 _ (aN (by have:=qk.1;omega))⟩
 have fin:=λ(fk lk sa:List UInt8) (ar:List RG) (st op:Int) (kd nm:List UInt8) (a b:AV) (x:EXP) (D:CODES) (hD:D.Ok) (h1:fk.length<=1000) (h2:lk.length<=1000) (h3:sa.length<=40) (h4:ar.length<=4) (hw:TellL [.int .i64 op,.str kd,.str nm,a,b] (eC x)) (hx:Fit 50 x)=>
  Run.call (Post:=rXp [cR,.agg e.c,.str s,.int .i64 now] [aK C]) (φ:=φXp) (KZ e he.len lk now) λfr qf=>.call (js hD 8000 (by decide)) λw1 q1=>.call (js q1.2 8000 (by decide)) λw2 q2=>
  .call (xE (iA fr.1) (qT [.int .i64 0,.int .i64 0] w1.1 w2.1) (Nat.le_trans qf (by decide)) (by show 1<=1000000;omega)) λmi qm=>.call (js q2.2 7000 (by decide)) λw3 q3=>.call (IA mi w3.1 (Nat.le_trans qm (by decide))) λo qo=>
  .t (EXPT.mk s lk fk sa st (toL o) ar x,w3.2) (r:=(.agg [.str s,.str lk,.str fk,.str sa,.int .i64 st,.sl .no 2 o.n (SP o.F o.T),lF ar,.int .i64 op,.str kd,.str nm,a,b],[aK w3.2]))
   ⟨⟨Nat.le_trans hs (by decide),h2,h1,Nat.le_trans h3 (by decide),by show (toL o).length<=10000+50;rw [SO.Dx];exact Nat.le_trans qo (by decide),Nat.le_trans h4 (by decide),hx⟩,q3.2⟩ (.agg (.cons (.same rfl) (.cons (.same rfl) (.cons (.same rfl) (.cons (.same rfl) (.cons (.same rfl) (.cons (Cf o) (.cons (.same rfl) hw))))))))
 have tw:∀x:EXP,TellL [.int .i64 x.op,.str x.kind,.str x.name,gV x.vals,.sl .no 5 x.kids.length (EXP.row x.kids)] (eC x):=λx=>TellL.refl rfl
 exact ea (V:=VXp) [fD,CY,Aa,Jv,aY wd gQ SM.φX (rKs e.segs.length (Bc e.segs)),eEx,QM,P6,QL] 1 (.call (ao hC (e.flags.length:Int) (by omega)) λa qa=>
  have ha:0<=a.1/\a.1 < (e.flags.length:Int):=qa.1
  have fm:=aN (l:=e.flags) (i:=a.1.toNat) (by omega)
  .n (c:=within a.1 e.flags.length) (ay ha.1 ha.2) (.call (ao qa.2 (e.layers.length:Int) (by omega)) λb qb=>
  have hb:0<=b.1/\b.1 < (e.layers.length:Int):=qb.1
  have lm:=aN (l:=e.layers) (i:=b.1.toNat) (by omega)
  have h1:=(he.f.flags.2 _ fm).2
  have h2:=he.lys _ lm
  .n (c:=within b.1 e.layers.length) (ay hb.1 hb.2) (.call (me qb.2) λt qt=>
  have h3:=mN _ qt.1
  .call (ao qt.2 3 (by decide)) λst qs=>.call (uH qs.2 ((e.flags.getD a.1.toNat default).vars.length:Int) (by have:=(he.f.flags.2 _ fm).1;have:=he.vars _ fm;omega)) λar qr=>
  .b (IntKind.wrap .i64 (1+st.1)==1)
   (λ_=>.call (ao qr.2 2 (by decide)) λd qd=>.b (bif true then d.1==0 else false)
    (λ_=>.call (ao qd.2 2 (by decide)) λw qw=>.b (w.1==1)
     (λ_=>.call sk λks qk=>.call (su 2 (.inl rfl) ks.1 ks.2 (kk qk) qw.2) λx qx=>fin (e.flags.getD a.1.toNat default).key (e.layers.getD b.1.toNat default).key t.1 ar.1 2 _ _ _ _ _ x.1 x.2 qx.2 h1 h2 h3 qr.1 (tw x.1) qx.1.fit)
     λ_=>fin (e.flags.getD a.1.toNat default).key (e.layers.getD b.1.toNat default).key t.1 ar.1 2 1 [] [] nA nA (.mk 1 [] [] [] []) w.2 qw.2 h1 h2 h3 qr.1 (yz 1) (BX 1))
    λ_=>.call (ao qd.2 2 (by decide)) λw qw=>.b (w.1==1)
     (λ_=>.call sk λks qk=>.call (su 2 (.inl rfl) ks.1 ks.2 (kk qk) qw.2) λx qx=>fin (e.flags.getD a.1.toNat default).key (e.layers.getD b.1.toNat default).key t.1 ar.1 (IntKind.wrap .i64 (1+st.1)) _ _ _ _ _ x.1 x.2 qx.2 h1 h2 h3 qr.1 (tw x.1) qx.1.fit)
     λ_=>fin (e.flags.getD a.1.toNat default).key (e.layers.getD b.1.toNat default).key t.1 ar.1 (IntKind.wrap .i64 (1+st.1)) 1 [] [] nA nA (.mk 1 [] [] [] []) w.2 qw.2 h1 h2 h3 qr.1 (yz 1) (BX 1))
   λ_=>.call (ao qr.2 2 (by decide)) λw qw=>.b (w.1==1)
     (λ_=>.call sk λks qk=>.call (su 2 (.inl rfl) ks.1 ks.2 (kk qk) qw.2) λx qx=>fin (e.flags.getD a.1.toNat default).key (e.layers.getD b.1.toNat default).key t.1 ar.1 (IntKind.wrap .i64 (1+st.1)) _ _ _ _ _ x.1 x.2 qx.2 h1 h2 h3 qr.1 (tw x.1) qx.1.fit)
     λ_=>fin (e.flags.getD a.1.toNat default).key (e.layers.getD b.1.toNat default).key t.1 ar.1 (IntKind.wrap .i64 (1+st.1)) 1 [] [] nA nA (.mk 1 [] [] [] []) w.2 qw.2 h1 h2 h3 qr.1 (yz 1) (BX 1)))) (by kernel_rfl)
noncomputable abbrev eXp:Ent:=aY wd k0 φXp rXp
end Go.T

namespace Go.T
open Go Go.Ab Go.Proofs Go.SH
open Go.SM (ENV TX txA mG)
open Go.SO (EH vcE)
def G9:List (Nat×List UInt8)->Nat->List UInt8
 | [],_=>[]
 | (k,s)::r,j=>bif Nat.beq k j then s else G9 r j
theorem qJ:∀ (l:List (Nat×List UInt8)) (j:Nat),ab [.str []] (l.map λp=>(p.1,AV.str p.2)) j=[AV.str (G9 l j)]
 | [],_=>rfl
 | (k,s)::r,j=>by
  have ih:=qJ r j
  show ab [.str []] ((k,AV.str s)::r.map λp=>(p.1,AV.str p.2)) j=_
  unfold ab G9
  cases Nat.beq k j
  ·exact ih
  ·rfl
theorem uD {l:List (Nat×List UInt8)} {b:Nat} (h:∀p∈l,p.2.length<=b) (j:Nat):(G9 l j).length<=b:=by
 induction l with
 | nil=>exact Nat.zero_le _
 | cons p r ih=>
  unfold G9
  cases Nat.beq p.1 j
  ·exact ih λq hq=>h q (List.mem_cons_of_mem _ hq)
  ·exact h p (List.mem_cons_self ..)
abbrev nF:List (Nat×List UInt8):=[(0,[102,97]),(1,[102,98]),(2,[102,99]),(3,[102,100])]
abbrev nL:List (Nat×List UInt8):=[(0,[108,97]),(1,[108,98])]
abbrev nX:List (Nat×List UInt8):=[(0,[120,97]),(1,[120,98]),(2,[120,99])]
abbrev kF (l:List (Nat×List UInt8)) (j:Nat):List UInt8:=G9 l (0+j)
structure NEV where
 h:EH
 s:RW
 f:RW
 l:RW
 x:RW
 C:CODES
 m:Nat
 i:Int
 q:Nat
 a:Bool
instance:Inhabited NEV:=⟨⟨⟨[],[],0,0,λ_=>[]⟩,default,default,default,default,default,0,0,0,false⟩⟩
def zE:List AV:=[.str [],.str [],.int .i64 0,nA,nA,nA,nA,nA]
def enN (now:Int) (v:NEV) (ks:Nat->List UInt8) (t:Nat):List (Nat×AV):=[(0,cR),(1,.int .i64 now),(4,.ref 4 0),(5,.ref 5 0),(6,txA v.m ks),(t,.int .i64 v.i)]
def enB (now:Int):List (Nat×AV):=[(0,cR),(1,.int .i64 now),(4,.ref 4 0),(5,.ref 5 0)]
def en1 (v:NEV):List (Nat×AO):=[(4,.cells zE),(5,.cells (vcE v.h (kA 30 9 v.s) (kA 43 13 v.f) nA nA)),(30,.own 9 v.s.n),(43,.own 13 v.f.n),(aa,aK v.C)]
def en2 (v:NEV):List (Nat×AO):=[(4,.cells zE),(5,.cells (vcE v.h (kA 30 9 v.s) (kA 43 13 v.f) (kA 64 6 v.l) nA)),(30,.own 9 v.s.n),(43,.own 13 v.f.n),(64,.own 6 v.l.n),(aa,aK v.C)]
def en3 (k q:Nat) (v:NEV):List (Nat×AO):=[(4,.cells zE),(5,.cells (vcE v.h (kA 30 9 v.s) (kA 43 13 v.f) (kA 64 6 v.l) (.gsl k 12 v.x.n))),(30,.own 9 v.s.n),(43,.own 13 v.f.n),(64,.own 6 v.l.n),(k,.grw (q+1) 12 v.x.n v.x.g),(aa,aK v.C)]
def ES1 (now:Int) (v:NEV):St:={env:=enN now v (kF nF) 7,objs:=en1 v}
def ES2 (now:Int) (v:NEV):St:={env:=enN now v (kF nL) 8,objs:=en2 v}
def ES3 (now:Int) (v:NEV):St:={env:=enN now v (kF nX) 9,objs:=en2 v}
def ES4 (k:Nat) (now:Int) (v:NEV):St:={env:=enN now v (kF nX) 9,objs:=en3 k v.q v}
def EO1 (now:Int) (v:NEV) (k:Ex->St->Res):Res:=k (.exit 0) {env:=enB now,objs:=en1 v}
def EO2 (now:Int) (v:NEV) (k:Ex->St->Res):Res:=k (.exit 2) {env:=enB now,objs:=en2 v}
noncomputable abbrev VEn:Env:=Vb [] [99] [102,113]
end Go.T

namespace Go.T
open Go Go.Ab Go.Proofs Go.SH
open Go.SM (ENV TX txA mG mK)
open Go.SO (EH vcE SmE SmG SmF SmL SmX HOk th vS Kc)
theorem Ct.Nr {P:Program} {G:Nat->Option (List AV)} {f:FuncId} {l l':List AV} {os:List AO} {r:AV×List AO} (h:Ct P G f l os r) (hl:l'.length=l.length) (hk:∀k∈ak l,k∈ak l')
  (hw:∀ (i:Nat) (u u':AV),l[i]?=some u->l'[i]?=some u'->∀c v,Rep c u' v->Rep c u v):Ct P G f l' os r:=by
 refine ⟨λc0 vs hg ho hs hr hlv=>h.1 c0 vs hg ho (by rw [hs,hl]) (λi u hu=>?_) (λk hk'=>hlv k (hk k hk')),h.2⟩
 have hlt:=(List.getElem?_eq_some_iff.1 hu).1
 have hu':l'[i]?=some (l'[i]'(by omega)):=List.getElem?_eq_getElem _
 exact hw i u _ hu hu' c0 _ (hr i _ hu')
theorem wK {τ:Type} {f:FuncId} {φ:τ->AV×List AO} {P:τ->Prop} {a x y:AV} {r:List AV} {os:List AO} (h:∀c v,Rep c x v->Rep c y v) (hk:y.keys=[]) (hd:aB wd f φ (λ_ _=>P) (a::y::r) os):aB wd f φ (λ_ _=>P) (a::x::r) os:=by
 obtain ⟨t,ht,hc⟩:=hd
 refine ⟨t,ht,Ct.Nr hc rfl (λk hk'=>?_) λi u u' hu hu' c v hv=>?_⟩
 ·simp only [ak,hk,List.nil_append,List.mem_append] at hk' ⊢
  rcases hk' with hk' | hk'
  ·exact .inl hk'
  ·exact .inr (.inr hk')
 ·match i,hu,hu' with
  | 0,hu,hu'=>simp only [List.getElem?_cons_zero,Option.some.injEq] at hu hu';subst hu hu';exact hv
  | 1,hu,hu'=>
   simp only [List.getElem?_cons_succ,List.getElem?_cons_zero,Option.some.injEq] at hu hu'
   subst hu hu'
   exact h c v hv
  | i+2,hu,hu'=>
   simp only [List.getElem?_cons_succ] at hu hu'
   rw [hu] at hu';cases hu';exact hv
structure BE (e:ENV):Prop where
 salt:e.salt.length<=1000
 hkind:e.hkind.length<=1000
 attrs:e.attrs=th
 segs:e.segs.length<=3/\∀g∈e.segs,SmG 50 g/\g.key.length<=40
 flags:e.flags.length<=4/\∀f∈e.flags,DF f
 layers:e.layers.length<=2/\∀l∈e.layers,SmL 10 l
 expts:e.expts.length<=3/\∀x∈e.expts,SmX 50 x
theorem BE.sm {e:ENV} (h:BE e):SmE 50 e:=
 ⟨h.salt,h.hkind,⟨by rw [h.attrs];decide,by rw [h.attrs];exact SO.FY⟩,⟨Nat.le_trans h.segs.1 (by decide),λg hg=>(h.segs.2 g hg).1⟩,⟨Nat.le_trans h.flags.1 (by decide),λf hf=>(h.flags.2 f hf).1⟩,
  ⟨Nat.le_trans h.layers.1 (by decide),λl hl=>⟨(h.layers.2 l hl).1,Nat.le_trans (h.layers.2 l hl).2 (by decide)⟩⟩,⟨Nat.le_trans h.expts.1 (by decide),h.expts.2⟩⟩
theorem BE.ok {e:ENV} (h:BE e):e.Ok:=h.sm.ok (by decide)
theorem BE.NT {e:ENV} (h:BE e):PreF e:=
 ⟨⟨Nat.le_trans h.segs.1 (by decide),λg hg=>(h.segs.2 g hg).2⟩,⟨Nat.le_trans h.flags.1 (by decide),λf hf=>⟨⟨(h.flags.2 f hf).2.1,Nat.le_trans (h.flags.2 f hf).2.2 (by decide)⟩,(h.flags.2 f hf).1.key⟩⟩⟩
theorem BE.PF {e:ENV} (h:BE e) (hf:1<=e.flags.length) (hl:1<=e.layers.length):PreX e:=
 ⟨h.NT,⟨Nat.le_trans h.segs.1 (by decide),Nat.le_trans h.flags.1 (by decide),Nat.le_trans h.layers.1 (by decide),Nat.le_trans h.expts.1 (by decide),λx hx=>Nat.le_trans (h.layers.2 x hx).2 (by decide),λx hx=>Nat.le_trans (h.expts.2 x hx).claims (by decide)⟩,
  λf hf=>(h.flags.2 f hf).2.2,λl hl=>(h.layers.2 l hl).1.1,hf,hl⟩
def RFl (cs:List AV):Prop:=∃f:FLAG,DF f/\TellL cs f.c
def RLy (cs:List AV):Prop:=∃l:LAYER,SmL 10 l/\TellL cs l.c
def RXp (cs:List AV):Prop:=∃x:EXPT,SmX 50 x/\TellL cs x.c
def Lst {T:Type} [Inhabited T] (sz:Nat) (R:T->List AV) (Q:T->Prop) (n:Nat) (a:AV):Prop:=∃l:List T,l.length=n/\(∀x∈l,Q x)/\cv a (.sl .no sz l.length λj=>R (l.getD j default))
theorem vo {T:Type} [Inhabited T] {sz:Nat} {R:T->List AV} {Q:T->Prop}:Lst sz R Q 0 nA:=⟨[],rfl,λx hx=>(List.not_mem_nil hx).elim,aU⟩
theorem qE {T:Type} [Inhabited T] {sz:Nat} {R:T->List AV} {Q:T->Prop} (hR:∀x,(R x).length=sz/\ak (R x)=[]) {n:Nat} {g:Nat->List AV} (h:∀j,j < n->∃x,Q x/\TellL (g j) (R x)):Lst sz R Q n (.sl .no sz n g):=by
 obtain ⟨l,h1,h2,h3⟩:=bH (R:=R) h
 exact ⟨l,h1,h2,h3 .no sz hR⟩
structure NP0 (v:NEV):Prop where
 h:HOk v.h
 s:v.s.n<=3/\∀j,j < v.s.n->RGr (v.s.g j)
 C:v.C.Ok
def NP1 (v:NEV):Prop:=NP0 v/\v.f.n<=4/\∀j,j < v.f.n->RFl (v.f.g j)
def NP2 (v:NEV):Prop:=NP1 v/\v.l.n<=2/\∀j,j < v.l.n->RLy (v.l.g j)
def NP3 (v:NEV):Prop:=NP2 v/\v.x.n<=3/\∀j,j < v.x.n->RXp (v.x.g j)
theorem NP0.told {v:NEV} (h:NP0 v) {b c d:AV} {n2 n3 n4:Nat} (hb:Lst 13 FLAG.c DF n2 b) (hc:Lst 6 LAYER.c (SmL 10) n3 c) (hd:Lst 12 EXPT.c (SmX 50) n4 d) (k2:n2<=4) (k3:n3<=2) (k4:n4<=3) :
  ∃e:ENV,TellL (Kc v.h (.sl .no 9 v.s.n v.s.g) b c d) e.c/\BE e/\e.flags.length=n2/\e.layers.length=n3:=by
 obtain ⟨l1,a1,b1,c1⟩:=qE (R:=SEG.c) (sz:=9) (λ_=>⟨rfl,rfl⟩) h.s.2
 obtain ⟨l2,a2,b2,c2⟩:=hb
 obtain ⟨l3,a3,b3,c3⟩:=hc
 obtain ⟨l4,a4,b4,c4⟩:=hd
 exact ⟨ENV.mk v.h.salt v.h.hkind v.h.hold th l1 l2 l3 l4,.cons (.same rfl) (.cons (.same rfl) (.cons (.same rfl) (.cons h.h.attrs (.cons c1 (.cons c2 (.cons c3 (.cons c4 .nil))))))),
  ⟨h.h.salt,h.h.hkind,rfl,⟨by show l1.length<=3;rw [a1];exact h.s.1,b1⟩,⟨by show l2.length<=4;omega,b2⟩,⟨by show l3.length<=2;omega,b3⟩,⟨by show l4.length<=3;omega,b4⟩⟩,a2,a3⟩
theorem KC {v:NEV} (h:NP1 v):Lst 13 FLAG.c DF v.f.n (.sl .no 13 v.f.n v.f.g):=qE (R:=FLAG.c) (λ_=>⟨rfl,rfl⟩) h.2.2
theorem MI {v:NEV} (h:NP2 v):Lst 6 LAYER.c (SmL 10) v.l.n (.sl .no 6 v.l.n v.l.g):=qE (R:=LAYER.c) (λ_=>⟨rfl,rfl⟩) h.2.2
theorem zq {n:Nat} {g:Nat->List AV} (h:∀j,j < n->RXp (g j)):Lst 12 EXPT.c (SmX 50) n (.sl .no 12 n g):=qE (R:=EXPT.c) (λ_=>⟨rfl,rfl⟩) h
noncomputable abbrev QN:Ent:=aY wd kZ φFl rFl
def VaE (cells:List AV) (b:Bool):Prop:=b=true->∃e:ENV,TellL cells e.c/\BE e/\mK e=0
def rVe (l:List AV) (_:List AO) (b:Bool):Prop:=∀cells,l=[.agg cells]->VaE cells b
theorem Dr {cells:List AV} (h:∃e:ENV,TellL cells e.c/\BE e):aB wd mY φB rVe [.agg cells] []:=by
 obtain ⟨e,h1,h2⟩:=h
 obtain ⟨b,hb,hc⟩:=uA (P:=λb=>b=true->mK e=0) (λ_ _=>nT h1) rfl (GR e h2.ok (by have:=h2.segs;omega))
 exact ⟨b,λcs hcs hb'=>by cases hcs;exact ⟨e,h1,h2,hb hb'⟩,hc⟩
noncomputable abbrev QD:Ent:=aY wd mY φB rVe
def Pw (_:List AV) (os:List AO) (x:SGA):Prop:=(∀h a,os[1]?=some (.cells (SO.vcS h a))->x.h=h)/\(x.n<=3/\∀j,j < x.n->RGr (x.g j))/\x.C.Ok
theorem Hq (h:EH) (g0:Nat->List AV) {C:CODES} (hC:C.Ok):aB wd lN φSg Pw [cR,.ref 1000001 0] [aK C,.cells (SO.vcS h (.sl (.key 1000002) 9 0 g0)),.own 9 0]:=by
 obtain ⟨x,hx,hc⟩:=J0 h g0 hC
 exact ⟨x,⟨λh' a e=>hx.1.1.trans (SO.Lr (by simpa using e)),hx.1.2,hx.2⟩,hc⟩
noncomputable abbrev eSg:Ent:=aY wd lN φSg Pw
noncomputable abbrev tEn:List Ent:=[fD,QN,eLy,eXp,QD,Aa,CY,eSg]
noncomputable abbrev wEn:List (List Nat×Vw):=[([1,1,1,1,1,1,1,1,1,0,1,0,0,1,0,0,1],LW 99),([1,1,1,1,1,1,1,1,1,0,1,0,0,1,1],Oh 5 7 99 199)]
def zF:List AV:=[.str [],.int .i64 0,nA,.bool false,.int .i64 0,nA,nA,nA,.int .i64 0,.str [],.str [],.str [],nA]
def zLy:List AV:=[.str [],.str [],.str [],.int .i64 0,.int .i64 0,nA]
theorem MF (j:Nat):(kF nF j).length<=40:=uD (by decide) _
theorem ME (j:Nat):(kF nL j).length<=40:=uD (by decide) _
theorem MD (j:Nat):(kF nX j).length<=40:=uD (by decide) _
def E1I (v:NEV):Prop:=NP1 v/\(v.f.n:Int)=v.i/\v.i<=(v.m:Int)/\v.m<=4
def E2I (v:NEV):Prop:=NP2 v/\(v.l.n:Int)=v.i/\v.i<=(v.m:Int)/\v.m<=2
theorem Qy (now:Int):∃ (u:St->Bool) (w:St->NEV),(∀v,E1I v->bU u w (ES1 now v) NP1)/\∀L:List (List Nat×Orc),bu (VEn.run tEn 1 [] L wEn cD) cD [1,1,1,1,1,0,1,0] (mkO u w (EO1 now)):=
 aA (Lf:=λL=>L) (ES1 now) E1I (λv=>v.m - v.f.n) (EO1 now) NP1 (by kernel_rfl)
  (λv hv=>.b (decide (v.i < (v.m:Int))) (λhd=>
    have hi:=of_decide_eq_true hd
    have h1:=hv.2.1
    have h4:=hv.2.2.2
    have hw:IntKind.wrap .i64 (v.i+1)=v.i+1:=wrap_i64 (by omega) (by omega)
    have fl:aB wd kZ φFl rFl [cR,.agg (Kc v.h (.sl .no 9 v.s.n v.s.g) (.sl .no 13 v.f.n v.f.g) nA nA),.str (kF nF v.i.toNat)] [aK v.C]:=by
     obtain ⟨e,e1,e2,_⟩:=hv.1.1.told (KC hv.1) vo vo hv.1.2.1 (by decide) (by decide)
     exact wK (P:=λx:FLAG×CODES=>DF x.1/\x.2.Ok) (λ_ _=>nT e1) rfl (K3 e e2.NT _ (MF _) hv.1.1.C)
    .n (c:=within v.i v.m) (ay (by omega) hi) (.call fl λt q=>.n (av (b:=216) (n:=v.f.n+1) (m:=v.f.n) (by omega))
     (.to {v with f:=⟨v.f.n+1,af v.f.n 1 v.f.g (ab zF [(0,.agg t.1.c)])⟩,C:=t.2,i:=IntKind.wrap .i64 (v.i+1)}
      ⟨⟨⟨hv.1.1.h,hv.1.1.s,q.2⟩,by show v.f.n+1<=4;omega,ba (P:=RFl) hv.1.2.2 ⟨t.1,q.1,TellL.refl rfl⟩⟩,by show ((v.f.n+1:Nat):Int)=IntKind.wrap .i64 (v.i+1);rw [hw];omega,by show IntKind.wrap .i64 (v.i+1)<=(v.m:Int);rw [hw];omega,h4⟩ (by show v.m - (v.f.n+1) < v.m - v.f.n;omega))))
   λ_=>.fi v hv.1) (λv L k kn=>by kernel_rfl)
theorem Qx (now:Int):∃ (u:St->Bool) (w:St->NEV),(∀v,E2I v->bU u w (ES2 now v) NP2)/\∀L:List (List Nat×Orc),bu (VEn.run tEn 1 [] L wEn cD) cD [1,1,1,1,1,1,1,0,1,0] (mkO u w (EO2 now)):=
 aA (Lf:=λL=>L) (ES2 now) E2I (λv=>v.m - v.l.n) (EO2 now) NP2 (by kernel_rfl)
  (λv hv=>.b (decide (v.i < (v.m:Int))) (λhd=>
    have hi:=of_decide_eq_true hd
    have h1:=hv.2.1
    have h4:=hv.2.2.2
    have hw:IntKind.wrap .i64 (v.i+1)=v.i+1:=wrap_i64 (by omega) (by omega)
    .n (c:=within v.i v.m) (ay (by omega) hi) (.call (Io (kF nL v.i.toNat) (ME _) hv.1.1.1.C) λt q=>.n (av (b:=88) (n:=v.l.n+1) (m:=v.l.n) (by omega))
     (.to {v with l:=⟨v.l.n+1,af v.l.n 1 v.l.g (ab zLy [(0,.agg t.1.c)])⟩,C:=t.2,i:=IntKind.wrap .i64 (v.i+1)}
      ⟨⟨⟨⟨hv.1.1.1.h,hv.1.1.1.s,q.2⟩,hv.1.1.2⟩,by show v.l.n+1<=2;omega,ba (P:=RLy) hv.1.2.2 ⟨t.1,q.1,TellL.refl rfl⟩⟩,by show ((v.l.n+1:Nat):Int)=IntKind.wrap .i64 (v.i+1);rw [hw];omega,by show IntKind.wrap .i64 (v.i+1)<=(v.m:Int);rw [hw];omega,h4⟩ (by show v.m - (v.l.n+1) < v.m - v.l.n;omega))))
   λ_=>.fi v hv.1) (λv L k kn=>by kernel_rfl)
end Go.T

namespace Go.T
open Go Go.Ab Go.Proofs Go.SH
open Go.SM (ENV TX txA mG mK)
open Go.SO (EH vcE SmE SmG SmF SmL SmX HOk th vS Kc)
def ES5 (now:Int) (p:Option Bool×NEV):St:=
 match p.1 with
 | none=>ES3 now p.2
 | some true=>ES4 99 now p.2
 | some false=>ES4 199 now p.2
structure NO where
 v:NEV
 b:Bool
 d:Bool
instance:Inhabited NO:=⟨⟨default,false,false⟩⟩
def enX (o:List (Nat×AO)):St:={env:=[(4,.ref 4 0),(5,.ref 5 0)],objs:=o}
def EO3 (x:NO) (k:Ex->St->Res):Res:=cond x.b (cond x.d (k (.exit 4) (enX (en3 99 x.v.q x.v))) (k (.exit 4) (enX (en3 199 x.v.q x.v)))) (k (.exit 4) (enX (en2 x.v)))
def E3I (p:Option Bool×NEV):Prop:=NP3 p.2/\(p.2.x.n:Int)<=p.2.i/\p.2.i<=(p.2.m:Int)/\p.2.m<=3
def yq:List AV:=[.str [],.str [],.str [],.str [],.int .i64 0,nA,nA,.int .i64 0,.str [],.str [],nA,nA]
def mx (p:Option Bool×NEV):Nat:=(p.2.m - p.2.i).toNat
theorem Qh {a b c:Bool} (h:(bif bif a then b else false then c else false)=true):a=true/\b=true/\c=true:=by
 cases a <;> cases b <;> cases c <;> simp at h ⊢
section
variable {v:NEV} (hv:NP3 v) (hc:(bif bif decide (v.i < (v.m:Int)) then decide ((v.f.n:Int) > 0) else false then decide ((v.l.n:Int) > 0) else false)=true)
include hv
theorem Pf (now:Int) {X:AV} {n:Nat} (hX:Lst 12 EXPT.c (SmX 50) n X) (hn:n<=3) (hc:(bif bif decide (v.i < (v.m:Int)) then decide ((v.f.n:Int) > 0) else false then decide ((v.l.n:Int) > 0) else false)=true) :
  aB wd k0 φXp rXp [cR,.agg (Kc v.h (.sl .no 9 v.s.n v.s.g) (.sl .no 13 v.f.n v.f.g) (.sl .no 6 v.l.n v.l.g) X),.str (kF nX v.i.toNat),.int .i64 now] [aK v.C]:=by
 obtain ⟨e,e1,e2,e3,e4⟩:=hv.1.1.1.told (KC hv.1.1) (MI hv.1) hX hv.1.1.2.1 hv.1.2.1 hn
 obtain ⟨_,h1,h2⟩:=Qh hc
 have h1:=of_decide_eq_true h1
 have h2:=of_decide_eq_true h2
 exact wK (P:=λx:EXPT×CODES=>SmX 50 x.1/\x.2.Ok) (λ_ _=>nT e1) rfl (K8 e (e2.PF (by omega) (by omega)) _ (MD _) now hv.1.1.1.C)
theorem LG {X:AV} {n:Nat} (hX:Lst 12 EXPT.c (SmX 50) n X) (hn:n<=3):aB wd mY φB rVe [.agg (Kc v.h (.sl .no 9 v.s.n v.s.g) (.sl .no 13 v.f.n v.f.g) (.sl .no 6 v.l.n v.l.g) X)] []:=by
 obtain ⟨e,e1,e2,_⟩:=hv.1.1.1.told (KC hv.1.1) (MI hv.1) hX hv.1.1.2.1 hv.1.2.1 hn
 exact Dr ⟨e,e1,e2⟩
end
theorem NP3.up {v:NEV} (hv:NP3 v) {C:CODES} (hC:C.Ok) {x:RW} (h1:x.n<=3) (h2:∀j,j < x.n->RXp (x.g j)) (i:Int) (q:Nat):NP3 {v with x:=x,C:=C,i:=i,q:=q}:=
 ⟨⟨⟨⟨hv.1.1.1.h,hv.1.1.1.s,hC⟩,hv.1.1.2⟩,hv.1.2⟩,h1,h2⟩
theorem Qw (now:Int):∃ (u:St->Bool) (w:St->NO),(∀p,E3I p->bU u w (ES5 now p) λx=>NP3 x.v)/\∀L:List (List Nat×Orc),bu (VEn.run tEn 1 [] L wEn cD) cD [1,1,1,1,1,1,1,1,1,0,1,0] (mkO u w EO3):=
 ov (Lf:=λL=>L) (ES5 now) E3I mx EO3 (λx=>NP3 x.v) (by kernel_rfl) λp hp=>by
  obtain ⟨o,v⟩:=p
  have hv:NP3 v:=hp.1
  have hn:(v.x.n:Int)<=v.i:=hp.2.1
  have h4:v.i<=(v.m:Int):=hp.2.2.1
  have h5:v.m<=3:=hp.2.2.2
  have hi:=λ(hc:(bif bif decide (v.i < (v.m:Int)) then decide ((v.f.n:Int) > 0) else false then decide ((v.l.n:Int) > 0) else false)=true)=>of_decide_eq_true (Qh hc).1
  have hw:IntKind.wrap .i64 (v.i+1)=v.i+1:=wrap_i64 (by omega) (by omega)
  have h0:0<=v.i:=by omega
  match o with
  | none=>
   exact ⟨_,.b (bif bif decide (v.i < (v.m:Int)) then decide ((v.f.n:Int) > 0) else false then decide ((v.l.n:Int) > 0) else false) (λhc=>
     .n (c:=within v.i v.m) (ay h0 (hi hc)) (.call (Pf hv now vo (by decide) hc) λt q=>
      have hr:=ba (P:=RXp) (n:=0) (g:=λ_=>[]) (h:=ab yq [(0,.agg t.1.c)]) (λj hj=>absurd hj (Nat.not_lt_zero _)) ⟨t.1,q.1,TellL.refl rfl⟩
      .call (LG hv (zq hr) (by decide)) λb _=>.b (!b)
       (λ_=>.go _ (some false,{v with x:=⟨0,af 0 1 (λ_=>[]) (ab yq [(0,.agg t.1.c)])⟩,C:=t.2,i:=IntKind.wrap .i64 (v.i+1),q:=0})
        ⟨hv.up q.2 (by show 0<=3;decide) (λj hj=>absurd hj (Nat.not_lt_zero _)) _ _,by show (0:Int)<=IntKind.wrap .i64 (v.i+1);rw [hw];omega,by show IntKind.wrap .i64 (v.i+1)<=(v.m:Int);rw [hw];have:=hi hc;omega,h5⟩ (by show (v.m - IntKind.wrap .i64 (v.i+1)).toNat < (v.m - v.i).toNat;rw [hw];have:=hi hc;omega) rfl)
       λ_=>.go _ (some true,{v with x:=⟨1,af 0 1 (λ_=>[]) (ab yq [(0,.agg t.1.c)])⟩,C:=t.2,i:=IntKind.wrap .i64 (v.i+1),q:=0})
        ⟨hv.up q.2 (by show 1<=3;decide) hr _ _,by show (1:Int)<=IntKind.wrap .i64 (v.i+1);rw [hw];omega,by show IntKind.wrap .i64 (v.i+1)<=(v.m:Int);rw [hw];have:=hi hc;omega,h5⟩ (by show (v.m - IntKind.wrap .i64 (v.i+1)).toNat < (v.m - v.i).toNat;rw [hw];have:=hi hc;omega) rfl))
    λ_=>.fi (NO.mk v false false) hv,λL k kn=>by kernel_rfl⟩
  | some true=>exact ⟨_,.b (bif bif decide (v.i < (v.m:Int)) then decide ((v.f.n:Int) > 0) else false then decide ((v.l.n:Int) > 0) else false) (λhc=>
     have hx:v.x.n < 3:=by have:=hi hc;omega
     .n (c:=within v.i v.m) (ay h0 (hi hc)) (.n (c:=Nat.beq 12 12&&Nat.beq v.x.n v.x.n) (by simp) (.call (Pf hv now (zq hv.2.2) hv.2.1 hc) λt q=>
      have hr:=ba (P:=RXp) (n:=v.x.n) (g:=v.x.g) (h:=ab yq [(0,.agg t.1.c)]) hv.2.2 ⟨t.1,q.1,TellL.refl rfl⟩
      .n (av (b:=208) (n:=v.x.n+1) (m:=v.x.n) (by omega)) (.n (c:=Nat.beq 12 12&&Nat.beq (v.x.n+1) (v.x.n+1)) (by simp) (.call (LG hv (zq hr) hx) λb _=>.b (!b)
       (λ_=>
        have w1:IntKind.wrap .i64 (((v.x.n+1:Nat):Int) - 1)=(v.x.n:Int):=by rw [wrap_i64 (by omega) (by omega)];omega
        have w2:Int.toNat (IntKind.wrap .i64 (((v.x.n+1:Nat):Int) - 1)) - Int.toNat ((0:Nat):Int)=v.x.n:=by rw [w1];show v.x.n - 0=v.x.n;omega
        .n (c:=decide ((0:Int)<=((0:Nat):Int))&&(decide (((0:Nat):Int)<=IntKind.wrap .i64 (((v.x.n+1:Nat):Int) - 1))&&decide (IntKind.wrap .i64 (((v.x.n+1:Nat):Int) - 1)<=((v.x.n+1:Nat):Int)))) (slT (Int.le_refl _) (by rw [w1];omega) (by rw [w1];omega))
        (.n (c:=Nat.beq 12 12&&(Nat.beq (v.x.n+1) (v.x.n+1)&&(j6 (v.x.n+1) (Int.toNat (IntKind.wrap .i64 (((v.x.n+1:Nat):Int) - 1)) - Int.toNat ((0:Nat):Int))&&(Nat.ble (Int.toNat (IntKind.wrap .i64 (((v.x.n+1:Nat):Int) - 1)) - Int.toNat ((0:Nat):Int)) (v.x.n+1)&&!(Nat.beq 99 5)&&!(Nat.beq 199 5))))) (by rw [w2];simp [j6];decide)
        (.go (ES4 199 now {v with x:=⟨Int.toNat (IntKind.wrap .i64 (((v.x.n+1:Nat):Int) - 1)) - Int.toNat ((0:Nat):Int),af v.x.n 1 v.x.g (ab yq [(0,.agg t.1.c)])⟩,C:=t.2,i:=IntKind.wrap .i64 (v.i+1),q:=v.x.n}) (some (Nat.beq 199 99),{v with x:=⟨v.x.n,af v.x.n 1 v.x.g (ab yq [(0,.agg t.1.c)])⟩,C:=t.2,i:=IntKind.wrap .i64 (v.i+1),q:=v.x.n})
         ⟨hv.up (x:=⟨v.x.n,af v.x.n 1 v.x.g (ab yq [(0,.agg t.1.c)])⟩) q.2 hv.2.1 (λj hj=>hr j (Nat.lt_succ_of_lt hj)) _ _,by show (v.x.n:Int)<=IntKind.wrap .i64 (v.i+1);rw [hw];omega,by show IntKind.wrap .i64 (v.i+1)<=(v.m:Int);rw [hw];have:=hi hc;omega,h5⟩ (by show (v.m - IntKind.wrap .i64 (v.i+1)).toNat < (v.m - v.i).toNat;rw [hw];have:=hi hc;omega) (by rw [w2];rfl))))
       λ_=>.go _ (some (Nat.beq 99 99),{v with x:=⟨v.x.n+1,af v.x.n 1 v.x.g (ab yq [(0,.agg t.1.c)])⟩,C:=t.2,i:=IntKind.wrap .i64 (v.i+1),q:=v.x.n})
        ⟨hv.up (x:=⟨v.x.n+1,af v.x.n 1 v.x.g (ab yq [(0,.agg t.1.c)])⟩) q.2 hx hr _ _,by show ((v.x.n+1:Nat):Int)<=IntKind.wrap .i64 (v.i+1);rw [hw];omega,by show IntKind.wrap .i64 (v.i+1)<=(v.m:Int);rw [hw];have:=hi hc;omega,h5⟩ (by show (v.m - IntKind.wrap .i64 (v.i+1)).toNat < (v.m - v.i).toNat;rw [hw];have:=hi hc;omega) rfl)))))
    λ_=>.fi (NO.mk v true (Nat.beq 99 99)) hv,λL k kn=>by kernel_rfl⟩
  | some false=>exact ⟨_,.b (bif bif decide (v.i < (v.m:Int)) then decide ((v.f.n:Int) > 0) else false then decide ((v.l.n:Int) > 0) else false) (λhc=>
     have hx:v.x.n < 3:=by have:=hi hc;omega
     .n (c:=within v.i v.m) (ay h0 (hi hc)) (.n (c:=Nat.beq 12 12&&Nat.beq v.x.n v.x.n) (by simp) (.call (Pf hv now (zq hv.2.2) hv.2.1 hc) λt q=>
      have hr:=ba (P:=RXp) (n:=v.x.n) (g:=v.x.g) (h:=ab yq [(0,.agg t.1.c)]) hv.2.2 ⟨t.1,q.1,TellL.refl rfl⟩
      .n (av (b:=208) (n:=v.x.n+1) (m:=v.x.n) (by omega)) (.n (c:=Nat.beq 12 12&&Nat.beq (v.x.n+1) (v.x.n+1)) (by simp) (.call (LG hv (zq hr) hx) λb _=>.b (!b)
       (λ_=>
        have w1:IntKind.wrap .i64 (((v.x.n+1:Nat):Int) - 1)=(v.x.n:Int):=by rw [wrap_i64 (by omega) (by omega)];omega
        have w2:Int.toNat (IntKind.wrap .i64 (((v.x.n+1:Nat):Int) - 1)) - Int.toNat ((0:Nat):Int)=v.x.n:=by rw [w1];show v.x.n - 0=v.x.n;omega
        .n (c:=decide ((0:Int)<=((0:Nat):Int))&&(decide (((0:Nat):Int)<=IntKind.wrap .i64 (((v.x.n+1:Nat):Int) - 1))&&decide (IntKind.wrap .i64 (((v.x.n+1:Nat):Int) - 1)<=((v.x.n+1:Nat):Int)))) (slT (Int.le_refl _) (by rw [w1];omega) (by rw [w1];omega))
        (.n (c:=Nat.beq 12 12&&(Nat.beq (v.x.n+1) (v.x.n+1)&&(j6 (v.x.n+1) (Int.toNat (IntKind.wrap .i64 (((v.x.n+1:Nat):Int) - 1)) - Int.toNat ((0:Nat):Int))&&(Nat.ble (Int.toNat (IntKind.wrap .i64 (((v.x.n+1:Nat):Int) - 1)) - Int.toNat ((0:Nat):Int)) (v.x.n+1)&&!(Nat.beq 199 5)&&!(Nat.beq 99 5))))) (by rw [w2];simp [j6];decide)
        (.go (ES4 99 now {v with x:=⟨Int.toNat (IntKind.wrap .i64 (((v.x.n+1:Nat):Int) - 1)) - Int.toNat ((0:Nat):Int),af v.x.n 1 v.x.g (ab yq [(0,.agg t.1.c)])⟩,C:=t.2,i:=IntKind.wrap .i64 (v.i+1),q:=v.x.n}) (some (Nat.beq 99 99),{v with x:=⟨v.x.n,af v.x.n 1 v.x.g (ab yq [(0,.agg t.1.c)])⟩,C:=t.2,i:=IntKind.wrap .i64 (v.i+1),q:=v.x.n})
         ⟨hv.up (x:=⟨v.x.n,af v.x.n 1 v.x.g (ab yq [(0,.agg t.1.c)])⟩) q.2 hv.2.1 (λj hj=>hr j (Nat.lt_succ_of_lt hj)) _ _,by show (v.x.n:Int)<=IntKind.wrap .i64 (v.i+1);rw [hw];omega,by show IntKind.wrap .i64 (v.i+1)<=(v.m:Int);rw [hw];have:=hi hc;omega,h5⟩ (by show (v.m - IntKind.wrap .i64 (v.i+1)).toNat < (v.m - v.i).toNat;rw [hw];have:=hi hc;omega) (by rw [w2];rfl))))
       λ_=>.go _ (some (Nat.beq 199 99),{v with x:=⟨v.x.n+1,af v.x.n 1 v.x.g (ab yq [(0,.agg t.1.c)])⟩,C:=t.2,i:=IntKind.wrap .i64 (v.i+1),q:=v.x.n})
        ⟨hv.up (x:=⟨v.x.n+1,af v.x.n 1 v.x.g (ab yq [(0,.agg t.1.c)])⟩) q.2 hx hr _ _,by show ((v.x.n+1:Nat):Int)<=IntKind.wrap .i64 (v.i+1);rw [hw];omega,by show IntKind.wrap .i64 (v.i+1)<=(v.m:Int);rw [hw];have:=hi hc;omega,h5⟩ (by show (v.m - IntKind.wrap .i64 (v.i+1)).toNat < (v.m - v.i).toNat;rw [hw];have:=hi hc;omega) rfl)))))
    λ_=>.fi (NO.mk v true (Nat.beq 199 99)) hv,λL k kn=>by kernel_rfl⟩
end Go.T

namespace Go.T
open Go Go.Ab Go.Proofs Go.SH
open Go.SM (ENV TX txA mG mK)
open Go.SO (EH vcE SmE SmG SmF SmL SmX HOk th vS Kc)
def φEn (x:ENV×CODES):AV×List AO:=(.agg x.1.c,[aK x.2])
instance:Inhabited (ENV×CODES):=⟨(SO.e0,default)⟩
def rEn (_:List AV) (_:List AO) (x:ENV×CODES):Prop:=(BE x.1/\mK x.1=0)/\x.2.Ok
theorem Ph:BE SO.e0:=⟨Nat.zero_le _,Nat.zero_le _,rfl,⟨Nat.zero_le _,λg hg=>(List.not_mem_nil hg).elim⟩,⟨Nat.zero_le _,λg hg=>(List.not_mem_nil hg).elim⟩,⟨Nat.zero_le _,λg hg=>(List.not_mem_nil hg).elim⟩,⟨Nat.zero_le _,λg hg=>(List.not_mem_nil hg).elim⟩⟩
theorem FP {l:List AV} {os:List AO} {cells:List AV} {b:Bool} (q:rVe [.agg cells] [] b) (hb:(!b)=false) {C:CODES} (hC:C.Ok):Run (rEn l os) φEn (some (.agg cells,[aK C])):=by
 obtain ⟨e,h1,h2,h3⟩:=q cells rfl (by simpa using hb)
 exact .t (e,C) ⟨⟨h2,h3⟩,hC⟩ (.agg h1)
theorem FW:TellL SO.c0 SO.e0.c:=.cons (.same rfl) (.cons (.same rfl) (.cons (.same rfl) (.cons SO.sD (.cons aU (.cons aU (.cons aU (.cons aU .nil)))))))
theorem O4 {l:List AV} {os:List AO} {C:CODES} (hC:C.Ok):Run (rEn l os) φEn (some (.agg SO.c0,[aK C])):=.t (SO.e0,C) ⟨⟨Ph,SO.Pg⟩,hC⟩ (.agg FW)
theorem Lb {n:Nat} {t:Int} (h0:0<=t) (h1:t < (n:Int)+1):(decide ((0:Int)<=((0:Nat):Int))&&(decide (((0:Nat):Int)<=t)&&decide (t<=(n:Int))))=true:=slT (Int.le_refl _) h0 (by omega)
theorem Jx {s k:List UInt8} {ho:Int} (h1:s.length<=1000) (h2:k.length<=1000):HOk ⟨s,k,ho,8,vS⟩:=⟨h1,h2,SO.sD⟩
theorem M0 (now:Int) {C:CODES} (hC:C.Ok):aB wd cD φEn rEn [cR,.int .i64 now] [aK C]:=by
 obtain ⟨u1,w1,h1,l1⟩:=Qy now
 obtain ⟨u2,w2,h2,l2⟩:=Qx now
 obtain ⟨u3,w3,h3,l3⟩:=Qw now
 have fin:=λ(h:EH) (hh:HOk h) (D:CODES) (hD:D.Ok)=>Run.call (Post:=rEn [cR,.int .i64 now] [aK C]) (φ:=φEn) (Hq h (λ_=>[.str [],.str [],nA,nA,.int .i64 0,.str [],.str [],nA,nA]) hD) λsg qg=>
  .call (ao qg.2.2 5 (by decide)) λa qa=>
  have i1:0<=a.1/\a.1 < 5:=qa.1
  have hg:HOk sg.h:=by rw [qg.1 h _ rfl];exact hh
  have s1:bU u1 w1 {env:=enN now ⟨sg.h,⟨sg.n,sg.g⟩,⟨0,λ_=>zF⟩,default,default,a.2,Int.toNat a.1 - Int.toNat ((0:Nat):Int),0,0,false⟩ (λj=>G9 nF (Int.toNat ((0:Nat):Int)+j)) 7,objs:=en1 ⟨sg.h,⟨sg.n,sg.g⟩,⟨0,λ_=>zF⟩,default,default,a.2,Int.toNat a.1 - Int.toNat ((0:Nat):Int),0,0,false⟩} NP1:=
   h1 ⟨sg.h,⟨sg.n,sg.g⟩,⟨0,λ_=>zF⟩,default,default,a.2,Int.toNat a.1 - 0,0,0,false⟩ ⟨⟨⟨hg,qg.2.1,qa.2⟩,by show 0<=4;decide,λj hj=>absurd hj (Nat.not_lt_zero _)⟩,rfl,Int.natCast_nonneg _,by show a.1.toNat - 0<=4;omega⟩
  .n (Lb (n:=4) i1.1 (by omega)) (.lp (Q:=NP1) (g:=u1) (w:=w1) (s:={env:=[(0,cR),(1,.int .i64 now),(4,.ref 4 0),(5,.ref 5 0),(6,.sl .no 1 (Int.toNat a.1 - Int.toNat ((0:Nat):Int)) λj=>ab [.str []] (nF.map λp=>(p.1,AV.str p.2)) (Int.toNat ((0:Nat):Int)+j)),(7,.int .i64 0)],objs:=en1 ⟨sg.h,⟨sg.n,sg.g⟩,⟨0,λ_=>zF⟩,default,default,a.2,Int.toNat a.1 - Int.toNat ((0:Nat):Int),0,0,false⟩}) (by simp only [qJ];exact s1) λv1 q1=>
  .call (ao q1.1.C 3 (by decide)) λb qb=>
  have i2:0<=b.1/\b.1 < 3:=qb.1
  have s2:bU u2 w2 {env:=enN now {v1 with l:=⟨0,λ_=>zLy⟩,C:=b.2,m:=Int.toNat b.1 - Int.toNat ((0:Nat):Int),i:=0} (λj=>G9 nL (Int.toNat ((0:Nat):Int)+j)) 8,objs:=en2 {v1 with l:=⟨0,λ_=>zLy⟩,C:=b.2,m:=Int.toNat b.1 - Int.toNat ((0:Nat):Int),i:=0}} NP2:=
   h2 {v1 with l:=⟨0,λ_=>zLy⟩,C:=b.2,m:=Int.toNat b.1 - 0,i:=0} ⟨⟨⟨⟨q1.1.h,q1.1.s,qb.2⟩,q1.2⟩,by show 0<=2;decide,λj hj=>absurd hj (Nat.not_lt_zero _)⟩,rfl,Int.natCast_nonneg _,by show b.1.toNat - 0<=2;omega⟩
  .n (Lb (n:=2) i2.1 (by omega)) (.lp (Q:=NP2) (g:=u2) (w:=w2) (s:={env:=[(0,cR),(1,.int .i64 now),(4,.ref 4 0),(5,.ref 5 0),(6,.sl .no 1 (Int.toNat b.1 - Int.toNat ((0:Nat):Int)) λj=>ab [.str []] (nL.map λp=>(p.1,AV.str p.2)) (Int.toNat ((0:Nat):Int)+j)),(8,.int .i64 0)],objs:=en2 {v1 with l:=⟨0,λ_=>zLy⟩,C:=b.2,m:=Int.toNat b.1 - Int.toNat ((0:Nat):Int),i:=0}}) (by simp only [qJ];exact s2) λv2 q2=>
  .call (ao q2.1.1.C 4 (by decide)) λc qc=>
  have i3:0<=c.1/\c.1 < 4:=qc.1
  have s3:bU u3 w3 {env:=enN now {v2 with x:=⟨0,λ_=>[]⟩,C:=c.2,m:=Int.toNat c.1 - Int.toNat ((0:Nat):Int),i:=0} (λj=>G9 nX (Int.toNat ((0:Nat):Int)+j)) 9,objs:=en2 {v2 with x:=⟨0,λ_=>[]⟩,C:=c.2,m:=Int.toNat c.1 - Int.toNat ((0:Nat):Int),i:=0}} (λx=>NP3 x.v):=
   h3 (none,{v2 with x:=⟨0,λ_=>[]⟩,C:=c.2,m:=Int.toNat c.1 - 0,i:=0}) ⟨⟨⟨⟨⟨q2.1.1.h,q2.1.1.s,qc.2⟩,q2.1.2⟩,q2.2⟩,by show 0<=3;decide,λj hj=>absurd hj (Nat.not_lt_zero _)⟩,by show (0:Int)<=0;decide,Int.natCast_nonneg _,by show c.1.toNat - 0<=3;omega⟩
  .n (Lb (n:=3) i3.1 (by omega)) (.lp (Q:=λx=>NP3 x.v) (g:=u3) (w:=w3) (s:={env:=[(0,cR),(1,.int .i64 now),(4,.ref 4 0),(5,.ref 5 0),(6,.sl .no 1 (Int.toNat c.1 - Int.toNat ((0:Nat):Int)) λj=>ab [.str []] (nX.map λp=>(p.1,AV.str p.2)) (Int.toNat ((0:Nat):Int)+j)),(9,.int .i64 0)],objs:=en2 {v2 with x:=⟨0,λ_=>[]⟩,C:=c.2,m:=Int.toNat c.1 - Int.toNat ((0:Nat):Int),i:=0}}) (by simp only [qJ];exact s3) λx q=>
  .b x.b (λ_=>.b x.d
    (λ_=>.n (c:=Nat.beq 12 12&&Nat.beq x.v.x.n x.v.x.n) (by simp) (.call (LG q (zq q.2.2) q.2.1) λr qr=>.b (!r) (λ_=>O4 q.1.1.1.C) λhr=>.n (c:=Nat.beq 12 12&&Nat.beq x.v.x.n x.v.x.n) (by simp) (FP qr hr q.1.1.1.C)))
    λ_=>.n (c:=Nat.beq 12 12&&Nat.beq x.v.x.n x.v.x.n) (by simp) (.call (LG q (zq q.2.2) q.2.1) λr qr=>.b (!r) (λ_=>O4 q.1.1.1.C) λhr=>.n (c:=Nat.beq 12 12&&Nat.beq x.v.x.n x.v.x.n) (by simp) (FP qr hr q.1.1.1.C)))
   λ_=>.call (LG q vo (by decide)) λr qr=>.b (!r) (λ_=>O4 q.1.1.1.C) λhr=>FP qr hr q.1.1.1.C)))
 exact cM (V:=VEn) (T:=tEn) (d:=1) (W:=wEn) 0 (ag (l1 _) (ag (l2 _) (ag (l3 _) aE))) (bE (Hs 99) (bE (J8 5 7 99 199) aD))
  (.call (ao hC 2 (by decide)) λt qt=>.b (t.1==1)
   (λ_=>.call (me qt.2) λs qs=>.call (js qs.2 2500 (by decide)) λw qw=>fin ⟨s.1,pt,w.1,8,vS⟩ (Jx (Nat.le_trans (mN _ qs.1) (by decide)) (by decide)) w.2 qw.2)
   λ_=>fin ⟨[],[],0,8,vS⟩ (Jx (Nat.zero_le _) (Nat.zero_le _)) t.2 qt.2) (by kernel_rfl)
noncomputable abbrev QO:Ent:=aY wd cD φEn rEn
end Go.T

namespace Go.T
open Go Go.Ab Go.Proofs Go.SH
set_option maxRecDepth 100000 in
theorem CQ:vD (E V0 400 qR [.str Dn] [])=true:=by kernel_rfl
theorem FI:aB wd qR φS (rIs sW) [.str Dn] []:=by
 obtain ⟨o,get,h1,h2⟩:=rU CQ
 refine ⟨sW,rfl,?_⟩
 refine (F7 (V:=V0) nd ny (λ_=>rfl) h1).res rfl λc v hr=>?_
 unfold bR
 rw [qj]
 exact Rep.I5 (xi h2) hr
noncomputable abbrev Pd:Ent:=aY wd qR φS (rIs sW)
end Go.T

namespace Go.T
open Go Go.Ab Go.Proofs Go.SH
def SbZ (s:List UInt8) (i:Int):St:={env:=[(0,.str s),(50,bR sW),(51,.int .i64 sW.length),(52,.int .i64 i)],objs:=[]}
theorem vW (i n:Nat):Nat.blt i n=decide (i < n):=by
 by_cases h:i < n
 ·rw [decide_eq_true h];exact hH h
 ·rw [decide_eq_false h]
  cases e:Nat.blt i n with
  | false=>rfl
  | true=>exact absurd (ltB e) h
theorem lt1 (s:List UInt8):decide ((s.length:Int) < 1)=!decide (0 < s.length):=by
 by_cases h:0 < s.length
 ·rw [decide_eq_true h,decide_eq_false (by omega)];rfl
 ·rw [decide_eq_false h,decide_eq_true (by omega)];rfl
theorem dy (s:List UInt8):aB wd AU φB (rS dX) [.str s] []:=by
 obtain ⟨u1,o1,h1,l1⟩:=kB (V:=V0) (T:=[Pd]) (d:=1) (W:=[]) (f:=AU) (p:=[1,1,0,1,0]) (Lf:=λL=>L) (Sa s) s.length (fc s) (λi h=>oq h) (λi=>bif oZ s i then some false else none) (LA 2) (λ_ k=>k (.exit 0) {env:=[(0,.str s)],objs:=[]}) (λi=>Nat.blt i s.length) (λi=>vW i _) (by kernel_rfl)
  (λi a=>.b (bif !bif decide (((Utf8.decode ⟨s.toArray⟩ i).1:Int)≥97) then decide (((Utf8.decode ⟨s.toArray⟩ i).1:Int)<=122) else false then bif (i:Int)==0 then true else bif bif bif decide (((Utf8.decode ⟨s.toArray⟩ i).1:Int) < 48) then true else decide (((Utf8.decode ⟨s.toArray⟩ i).1:Int) > 57) then ((Utf8.decode ⟨s.toArray⟩ i).1:Int) !=45 else false then ((Utf8.decode ⟨s.toArray⟩ i).1:Int) !=95 else false else false)
   (λh=>.sp false a (nM (by unfold oZ;rw [<-oO];exact h))) λh=>.on _ a (nN (by unfold oZ;rw [<-oO];exact h)) rfl) (λi L k kn=>by kernel_rfl)
 obtain ⟨u2,o2,h2,l2⟩:=bG (V:=V0) (T:=[Pd]) (d:=1) (W:=[]) (f:=AU) (p:=[1,1,1,0,1,0]) (Lf:=λL=>L) (SbZ s) sW.length (λi=>bif sW.getD i []==s then some false else none) (LA 2) (λk=>k (.exit 2) {env:=[],objs:=[]}) (by kernel_rfl)
  (λi a=>.n a.w (.b (sW.getD i []==s) (λh=>.sp false a (nM h)) λh=>.up a (by rw [qj];decide) (nN h))) (λi L k kn=>by kernel_rfl)
 exact cM (V:=V0) (T:=[Pd]) (d:=1) 0 (ag (l1 _) (ag (l2 _) aE)) aD
  (.b (bif decide ((s.length:Int) < 1) then true else decide ((s.length:Int) > 32)) (λh=>.r false (.mk (by
    rw [lt1,NY] at h
    unfold dX sX
    cases hd:decide (s.length<=32) <;> cases hw:decide (0 < s.length) <;> simp_all))) λh=>.lp h1 λt q=>.b t.1 (λht=>.r t.2 (.mk (by
     have q:t=seek s.length (fc s) (oZ s) false:=q
     rw [tR] at q
     rw [q] at ht ⊢
     have hv:(lA s).2=false:=lD ht
     unfold dX sX;rw [hv,ht];simp))) λht=>.call FI λr qr=>
   have qr:r=sW:=qr
   have hu:bU u2 o2 {env:=[(0,.str s),(50,bR r),(51,.int .i64 r.length),(52,.int .i64 0)],objs:=[]} (λt=>t=rl s):=by rw [qr];exact h2
   .lp hu λt2 q2=>.b t2.1 (λh2=>.r t2.2 (.mk (by
    rw [q2] at h2 ⊢
    have hv:(rl s).2=false:=lD h2
    unfold dX;rw [hv,h2];simp))) λh2=>.r true (.mk (by
    have q:t=seek s.length (fc s) (oZ s) false:=q
    rw [tR] at q
    rw [q] at ht
    rw [lt1,NY] at h
    rw [q2] at h2
    unfold dX sX
    cases hd:decide (s.length<=32) <;> cases hw:decide (0 < s.length) <;> simp_all))) (by kernel_rfl)
noncomputable abbrev jV:Ent:=aY wd AU φB (rS dX)
theorem jv (s:List UInt8) (hs:s.length<=Fe):aB wd uw φB (rS dc) [.str s] []:=by
 obtain ⟨u,o,hu,hl⟩:=kB (V:=V0) (T:=[N3]) (d:=1) (W:=[]) (f:=uw) (p:=[1,1,0,1,0]) (Lf:=λL=>L) (Sv s) s.length (fc s) (λi h=>oq h) (λi=>bif An s i then some false else none) (LA 2) (λ_ k=>k (.exit 0) {env:=[],objs:=[]}) (λi=>Nat.blt i s.length) (λi=>vW i _) (by kernel_rfl)
  (λi a=>.b (An s i) (λh=>.sp false a (nM h)) λh=>.on _ a (nN h) rfl) (λi L k kn=>by kernel_rfl)
 exact ff (V:=V0) [N3] 1 hl (.call (IY s hs) λb q=>.b (bif decide ((s.length:Int) > 200) then true else !b) (λh=>.r false (.mk (by
   rw [BF,q s rfl] at h
   unfold dc
   cases hd:decide (s.length<=200) <;> cases hw:GB s <;> simp_all))) λh=>.lp hu λt qt=>.b t.1 (λht=>.r t.2 (.mk (by
    have q:t=seek s.length (fc s) (An s) false:=qt
    rw [sG] at q
    rw [q] at ht ⊢
    have hv:(lP s).2=false:=lD ht
    unfold dc;rw [hv,ht];simp))) λht=>.r true (.mk (by
    have qt:t=seek s.length (fc s) (An s) false:=qt
    rw [sG] at qt
    rw [qt] at ht
    rw [BF,q s rfl] at h
    unfold dc
    cases hd:decide (s.length<=200) <;> cases hw:GB s <;> simp_all))) (by kernel_rfl)
noncomputable abbrev GK:Ent:=aY wd uw φB (rS dc)
end Go.T

namespace Go.T
open Go Go.Ab Go.Proofs Go.SH
theorem xu:∀ (l:List UInt8) (a:Nat),digs l->Lib.parseUint10 a l=if val a l < 18446744073709551616∨l=[] then .ok (val a l) else .range
 | [],a,h=>by simp [Lib.parseUint10,uu]
 | c::r,a,h=>by
  have hc:=h c (List.mem_cons_self ..)
  have ih:=xu r (put a c) (λc hc=>h c (List.mem_cons_of_mem _ hc))
  have hv:=LN r (put a c)
  have hq:=put_eq a c
  rw [Lib.parseUint10,if_pos hc,<-hq]
  simp only [pT,reduceCtorEq,or_false]
  by_cases h1:1844674407370955162<=a
  ·rw [if_pos h1,if_neg (by omega)]
  ·rw [if_neg h1]
   by_cases h2:18446744073709551616<=put a c
   ·rw [if_pos h2,if_neg (by omega)]
   ·rw [if_neg h2,ih]
    by_cases h3:r=[]
    ·subst h3
     have h4:val (put a c) [] < 18446744073709551616:=by rw [uu];omega
     rw [if_pos (.inl h4),if_pos h4]
    ·simp [h3]
theorem IV {s:List UInt8} (h:wz s=false) :
  (∃v:Int,Lib.atoiAll s=.ok v/\v=(bif (fG s).2 then -(val 0 (fG s).1:Int) else (val 0 (fG s).1:Int)))∨(Lib.atoiAll s=.range/\wy < val 0 (fG s).1):=by
 unfold wz at h
 simp only [Bool.or_eq_false_iff] at h
 obtain ⟨⟨h1,_⟩,h3⟩:=h
 have hd:=Ak h3
 have hne:(fG s).1≠[]:=by simpa using h1
 have hp:Lib.parseMag (fG s).1=if val 0 (fG s).1 < 18446744073709551616 then .ok (val 0 (fG s).1) else .range:=by
  unfold Lib.parseMag
  rw [if_neg hne,xu _ _ hd]
  simp [hne]
 rcases fF s with ⟨r,rfl,hc⟩ | ⟨hh,hc⟩
 ·rw [hc] at hp hd hne ⊢
  simp only [cond_true] at hp ⊢
  have ha:Lib.atoiAll (45::r)=(match Lib.parseMag r with | .ok u=>if 9223372036854775808 < u then .range else .ok (-(u:Int)) | e=>(match e with | .range=>.range | _=>Lib.atoiAll (45::r))):=by
   rw [hp]
   simp only [Lib.atoiAll]
   by_cases hlt:val 0 r < 18446744073709551616
   ·simp [hp,hlt]
   ·simp [hp,hlt]
  rw [ha,hp]
  by_cases hlt:val 0 r < 18446744073709551616
  ·rw [if_pos hlt]
   by_cases h2:9223372036854775808 < val 0 r
   ·simp only [h2,if_true]
    exact .inr ⟨trivial,by unfold wy;omega⟩
   ·simp only [h2,if_false]
    exact .inl ⟨_,rfl,rfl⟩
  ·rw [if_neg hlt]
   exact .inr ⟨rfl,by unfold wy;omega⟩
 ·rw [hc] at hp hd hne ⊢
  simp only [cond_false] at hp ⊢
  obtain ⟨c,r,rfl⟩:∃c r,s=c::r:=by cases s with
   | nil=>exact absurd rfl hne
   | cons c r=>exact ⟨c,r,rfl⟩
  have hcd:=hd c (List.mem_cons_self ..)
  have ha:Lib.atoiAll (c::r)=(match Lib.parseMag (c::r) with | .ok u=>if 9223372036854775808<=u then .range else .ok (u:Int) | e=>(match e with | .range=>.range | _=>Lib.atoiAll (c::r))):=by
   have n43:¬ (c.toNat=43∨c.toNat=45):=by omega
   have n45:¬ c.toNat=45:=by omega
   rw [hp]
   simp only [Lib.atoiAll,if_neg n43,hp]
   by_cases hlt:val 0 (c::r) < 18446744073709551616
   ·simp [hlt,n45]
   ·simp [hlt]
  rw [ha,hp]
  by_cases hlt:val 0 (c::r) < 18446744073709551616
  ·rw [if_pos hlt]
   by_cases h2:9223372036854775808<=val 0 (c::r)
   ·simp only [h2,if_true]
    exact .inr ⟨trivial,by unfold wy;omega⟩
   ·simp only [h2,if_false]
    exact .inl ⟨_,rfl,rfl⟩
  ·rw [if_neg hlt]
   exact .inr ⟨rfl,by unfold wy;omega⟩
theorem Ln (s:List UInt8):aB wd de SH.φD (rIs (fG s)) [.str s,.str [45]] []:=
 have h1:∀n:Nat,decide ((1:Int)<=(n:Int)+1)=true:=λn=>decide_eq_true (by omega)
 ea (V:=V0) [] 6 (.n (c:=bif decide ((0:Int)<=((0:Nat):Int))&&(decide (((0:Nat):Int)<=((([45]:List UInt8).length:Nat):Int))&&decide (((([45]:List UInt8).length:Nat):Int)<=(s.length:Int))) then true else !bif decide ((s.length:Int)≥((([45]:List UInt8).length:Nat):Int))==true then true else false) (by
   by_cases h:1<=s.length
   ·simp [h]
   ·simp)
  (.b (!bif decide ((s.length:Int)≥((([45]:List UInt8).length:Nat):Int)) then List.take (Int.toNat ((([45]:List UInt8).length:Nat):Int) - Int.toNat ((0:Nat):Int)) (List.drop (Int.toNat ((0:Nat):Int)) s)==[45] else false)
   (λh=>.r (s,false) (by
    show (s,false)=fG s
    rcases fF s with ⟨r,rfl,hc⟩ | ⟨hh,hc⟩
    ·simp [h1] at h
    ·exact hc.symm))
   λh=>.n (c:=decide ((0:Int)<=((([45]:List UInt8).length:Nat):Int))&&(decide (((([45]:List UInt8).length:Nat):Int)<=(s.length:Int))&&decide ((s.length:Int)<=(s.length:Int)))) (by
    rcases fF s with ⟨r,rfl,hc⟩ | ⟨hh,hc⟩
    ·simp [h1]
    ·cases s with
     | nil=>simp at h
     | cons c r=>
            have hne:(c==45)=false:=by simpa using hh
            simp [List.take,hne,h1] at h)
    (.r (List.take (Int.toNat (s.length:Int) - Int.toNat ((([45]:List UInt8).length:Nat):Int)) (List.drop (Int.toNat ((([45]:List UInt8).length:Nat):Int)) s),true) (by
     show (_,true)=fG s
     rcases fF s with ⟨r,rfl,hc⟩ | ⟨hh,hc⟩
     ·rw [hc];simp
     ·cases s with
      | nil=>simp at h
      | cons c r=>
             have hne:(c==45)=false:=by simpa using hh
             simp [List.take,hne,h1] at h)))) (by kernel_rfl)
noncomputable abbrev LF (s:List UInt8):Ent:=aY wd de SH.φD (rIs (fG s))
def Ir (d:List UInt8×Bool):Bool:=bif d.1==[] then true else bif ((d.1.getD 0 0).toNat:Int)==48 then bif decide ((d.1.length:Int) > 1) then true else d.2 else false
theorem vG (s:List UInt8):wz s=(Ir (fG s)||(JB (fG s).1).1):=by
 unfold wz Ir
 rw [PY,QP,B8]
 cases (fG s).1==[] <;> cases ((fG s).1.getD 0 0).toNat==48 <;> cases decide ((fG s).1.length > 1) <;> cases (fG s).2 <;> simp
theorem vj (s d:List UInt8) (T:List Ent):∃ (u:St->Bool) (w:St->Bool×Unit),bU u w (Yp s d 0) (λo=>o=JB d)/\∀L,bu (V0.run T 1 [] L [] eb) eb [1,1,1,0,1,0] (mkO u w (H5 NQ λk=>k (.exit 0) {env:=[(0,.str s)],objs:=[]})):=by
 rw [<-Lu]
 exact kB (V:=V0) (T:=T) (d:=1) (W:=[]) (f:=eb) (p:=[1,1,1,0,1,0]) (Lf:=λL=>L) (Yp s d) d.length (fc d) (λi h=>oq h) (λi=>bif Ca (Utf8.decode ⟨d.toArray⟩ i).1 then some () else none) NQ (λ_ k=>k (.exit 0) {env:=[(0,.str s)],objs:=[]}) (λi=>Nat.blt i d.length) (λi=>vW i _) (by kernel_rfl)
  (λi a=>.b (Ca (Utf8.decode ⟨d.toArray⟩ i).1) (λh=>.sp () a (nM h)) λh=>.on _ a (nN h) rfl) (λi L k kn=>by kernel_rfl)
theorem Fc (b:Bool) (n:Nat):(bif (bif !true then true else decide ((bif b then -(n:Int) else (n:Int)) < -1099511627776)) then true else decide ((bif b then -(n:Int) else (n:Int)) > 1099511627776))=decide (n > wy):=by
 unfold wy
 by_cases hm:n > 1099511627776
 ·rw [decide_eq_true hm]
  cases b with
  | true=>rw [decide_eq_true (show (bif true then -(n:Int) else (n:Int)) < -1099511627776 by show -(n:Int) < _;omega)];rfl
  | false=>rw [decide_eq_true (show (bif false then -(n:Int) else (n:Int)) > 1099511627776 by show (n:Int) > _;omega)];cases decide ((bif false then -(n:Int) else (n:Int)) < -1099511627776) <;> rfl
 ·rw [decide_eq_false hm]
  cases b with
  | true=>rw [decide_eq_false (show ¬ (bif true then -(n:Int) else (n:Int)) < -1099511627776 by show ¬ -(n:Int) < _;omega),decide_eq_false (show ¬ (bif true then -(n:Int) else (n:Int)) > 1099511627776 by show ¬ -(n:Int) > _;omega)];rfl
  | false=>rw [decide_eq_false (show ¬ (bif false then -(n:Int) else (n:Int)) < -1099511627776 by show ¬ (n:Int) < _;omega),decide_eq_false (show ¬ (bif false then -(n:Int) else (n:Int)) > 1099511627776 by show ¬ (n:Int) > _;omega)];rfl
section
variable (s:List UInt8) {u1:St->Bool} {w1:St->Bool×Unit} (h1:bU u1 w1 (Yp s (fG s).1 0) (λo=>o=JB (fG s).1))
include h1
theorem ze {e:Res} (he:wz s=false->Run (rS s4 [.str s] []) SH.φN e) (hn:wz s=true->e=none):Run (rS s4 [.str s] []) SH.φN (cond (gR wd de SH.φD (rIs (fG s)) [.str s,.str [45]] []) (cond (bif within 0 (wR wd de SH.φD (rIs (fG s)) [.str s,.str [45]] []).1.length then true else !bif ((wR wd de SH.φD (rIs (fG s)) [.str s,.str [45]] []).1==[])==false then true else false) (cond (Ir (wR wd de SH.φD (rIs (fG s)) [.str s,.str [45]] [])) (some (.tup [.int .i64 0,.int .i64 1],[])) (cond (u1 (Yp s (wR wd de SH.φD (rIs (fG s)) [.str s,.str [45]] []).1 0)) (cond (w1 (Yp s (wR wd de SH.φD (rIs (fG s)) [.str s,.str [45]] []).1 0)).1 (some (.tup [.int .i64 0,.int .i64 1],[])) e) none)) none) none):=
 have bad:wz s=true->s4 s=(0,1):=λh=>by unfold s4;rw [h];rfl
 .call (T:=λd=>cond (bif within 0 d.1.length then true else !bif (d.1==[])==false then true else false) (cond (Ir d) (some (.tup [.int .i64 0,.int .i64 1],[])) (cond (u1 (Yp s d.1 0)) (cond (w1 (Yp s d.1 0)).1 (some (.tup [.int .i64 0,.int .i64 1],[])) e) none)) none) (Ln s) λd qd=>by
  have qd:d=fG s:=qd
  subst qd
  refine .n (MQ _) (.b _ (λh=>.r (0,1) (.mk (bad (by rw [vG,h];rfl)).symm)) λh=>.lp (T:=λt=>cond t.1 _ e) h1 λt q=>.b _ (λht=>.r (0,1) (.mk (bad (by rw [q] at ht;rw [vG,ht,Bool.or_true])).symm)) λht=>he ?_)
  rw [q] at ht
  rw [vG,h,ht];rfl
end
theorem E0 (s:List UInt8) (hs:s.length<=1048576):aB wd eb SH.φN (rS s4) [.str s] []:=by
 cases hb:wz s with
 | true=>
  obtain ⟨u1,w1,h1,l1⟩:=vj s (fG s).1 [LF s]
  exact ff (V:=V0) [LF s] 1 l1 (ze s h1 (e:=none) (λh=>by rw [hb] at h;cases h) λ_=>rfl) (by kernel_rfl)
 | false=>
  rcases IV hb with ⟨v,hv,hval⟩ | ⟨hv,hval⟩
  ·have ha:Ct wd.P wd.G mh [.str s] [] (SH.φI v):=by
    have h:=Gj s hs (.inl ⟨v,hv⟩)
    unfold Dd at h;rw [hv] at h;exact h
   haveI:=gB (T:=[]) ha
   obtain ⟨u1,w1,h1,l1⟩:=vj s (fG s).1 [LF s,kf mh [.str s] [] v SH.φI]
   exact ff (V:=V0) [LF s,kf mh [.str s] [] v SH.φI] 1 l1 (ze s h1 (λ_=>.n (eL [.str s] []) (.b (bif bif !true then true else decide (v < -1099511627776) then true else decide (v > 1099511627776))
    (λh=>.r (0,3) (.mk (by rw [hval,Fc] at h;unfold s4;rw [hb,h];rfl))) λh=>.r (v,0) (.mk (by rw [hval,Fc] at h;unfold s4;rw [hb,h,hval];rfl)))) λh=>by rw [hb] at h;cases h) (by kernel_rfl)
  ·have ha:Ct wd.P wd.G mh [.str s] [] (SH.φJ (Lib.atoiSat s)):=by
    have h:=Gj s hs (.inr hv)
    unfold Dd at h;rw [hv] at h;exact h
   haveI:=gB (T:=[]) ha
   obtain ⟨u1,w1,h1,l1⟩:=vj s (fG s).1 [LF s,kf mh [.str s] [] (Lib.atoiSat s) SH.φJ]
   exact ff (V:=V0) [LF s,kf mh [.str s] [] (Lib.atoiSat s) SH.φJ] 1 l1 (ze s h1 (λ_=>.n (eL [.str s] []) (.r (0,3) (.mk (by unfold s4;rw [hb,decide_eq_true (show val 0 (fG s).1 > wy from hval)];rfl)))) λh=>by rw [hb] at h;cases h) (by kernel_rfl)
noncomputable abbrev QK:Ent:=aY wd eb SH.φN (rS s4)
end Go.T

namespace Go.T
open Go Go.Ab Go.Proofs Go.SH
theorem H3 (s:List UInt8) (hs:s.length<=1048576):aB wd AQ φ3P r3P [.str s] []:=by
 have hsp:=Lm s hs
 have hlen:∀p∈Lib.split s [46],p.length<=1048576:=λp hp=>Nat.le_trans (tz _ _ _ p hp) hs
 have no:fZ s=false->Run (r3P [.str s] []) φ3P (some (.tup [.arr 1 3 λ_=>[.int .i64 0],.bool false],[])):=λe=>.r (λ_=>0,false) (.mk e.symm)
 by_cases h3:(Lib.split s [46]).length=3
 ·obtain ⟨a,b,c,he⟩:∃a b c,Lib.split s [46]=[a,b,c]:=by
   match hL:Lib.split s [46],h3 with
   | [a,b,c],_=>exact ⟨a,b,c,rfl⟩
  rw [he] at hsp hlen
  have hb:fZ s=(!lT a&&(!lT b&&!lT c)):=by unfold fZ;rw [he]
  haveI:=gB (T:=[]) (show Ct wd.P wd.G mO [.str s,.str [46]] [] (SH.φ3 (a,b,c)) from hsp)
  exact ea (V:=V0) [QK,kf mO [.str s,.str [46]] [] (a,b,c) SH.φ3] 1 (.n (eL [.str s,.str [46]] []) (.call (E0 a (hlen a (by simp))) λx1 y1=>
   have e1:(bif bif x1.2 !=0 then true else decide (x1.1 < 0) then true else decide (x1.1 > 999999))=lT a:=by rw [y1 _ rfl];rfl
   .b (bif bif x1.2 !=0 then true else decide (x1.1 < 0) then true else decide (x1.1 > 999999)) (λh=>no (by rw [e1] at h;rw [hb,h];rfl)) λh1=>.call (E0 b (hlen b (by simp))) λx2 y2=>
   have e2:(bif bif x2.2 !=0 then true else decide (x2.1 < 0) then true else decide (x2.1 > 999999))=lT b:=by rw [y2 _ rfl];rfl
   .b (bif bif x2.2 !=0 then true else decide (x2.1 < 0) then true else decide (x2.1 > 999999)) (λh=>no (by rw [e2] at h;rw [hb,h];cases lT a <;> rfl)) λh2=>.call (E0 c (hlen c (by simp))) λx3 y3=>
   have e3:(bif bif x3.2 !=0 then true else decide (x3.1 < 0) then true else decide (x3.1 > 999999))=lT c:=by rw [y3 _ rfl];rfl
   .b (bif bif x3.2 !=0 then true else decide (x3.1 < 0) then true else decide (x3.1 > 999999)) (λh=>no (by rw [e3] at h;rw [hb,h];cases lT a <;> cases lT b <;> rfl)) λh3=>
   .e ((λj=>bif Nat.beq j 2 then x3.1 else bif Nat.beq j 1 then x2.1 else bif Nat.beq j 0 then x1.1 else 0),true) (r:=(.tup [.arr 1 3 λj=>bif Nat.beq j (Int.toNat (IntKind.wrap .i64 (IntKind.wrap .i64 (0+1)+1))) then [.int .i64 x3.1] else bif Nat.beq j (Int.toNat (IntKind.wrap .i64 (0+1))) then [.int .i64 x2.1] else bif Nat.beq j (Int.toNat 0) then [.int .i64 x1.1] else [.int .i64 0],.bool true],[]))
    (.mk (by rw [e1] at h1;rw [e2] at h2;rw [e3] at h3;rw [hb,h1,h2,h3];rfl)) (by
    have e:(λj=>bif Nat.beq j (Int.toNat (IntKind.wrap .i64 (IntKind.wrap .i64 (0+1)+1))) then [AV.int .i64 x3.1] else bif Nat.beq j (Int.toNat (IntKind.wrap .i64 (0+1))) then [.int .i64 x2.1] else bif Nat.beq j (Int.toNat 0) then [.int .i64 x1.1] else [.int .i64 0])=λj=>[AV.int .i64 (bif Nat.beq j 2 then x3.1 else bif Nat.beq j 1 then x2.1 else bif Nat.beq j 0 then x1.1 else 0)]:=by
     funext j
     show (bif Nat.beq j 2 then [AV.int .i64 x3.1] else bif Nat.beq j 1 then [.int .i64 x2.1] else bif Nat.beq j 0 then [.int .i64 x1.1] else [.int .i64 0])=_
     cases Nat.beq j 2 <;> cases Nat.beq j 1 <;> cases Nat.beq j 0 <;> rfl
    unfold φ3P;rw [e]))) (by kernel_rfl)
 ·haveI:=gB (T:=[]) (show Ct wd.P wd.G mO [.str s,.str [46]] [] (SH.φR (Lib.split s [46])) from hsp)
  exact cM (V:=V0) (T:=[kf mO [.str s,.str [46]] [] (Lib.split s [46]) SH.φR]) (d:=1) 0 (L:=[([1,1,1,1,0,1,0],mkO (λ_=>false) (λ_=>()) NQ)]) (ag (λst k r h=>by unfold mkO at h;cases h) aE) aD (.n (eL [.str s,.str [46]] []) (.n (c:=((Lib.split s [46]).length:Int) !=3) (bne_iff_ne.2 (by omega)) (no (by
   unfold fZ
   split
   ·rename_i h;rw [h] at h3;exact absurd rfl h3
   ·rfl)))) (by kernel_rfl)
noncomputable abbrev Pb:Ent:=aY wd AQ φ3P r3P
def rSh (v:VAL) (_:List AV) (_:List AO) (b:Bool):Prop:=1<=v.kind/\v.kind<=5->b=j5 v
theorem Hm (v:VAL):aB wd AP φB (rSh v) [.agg v.c] []:=by
 have e1:(bif v.text==[] then (v.list.length:Int)==0 else false)=(v.text==[]&&v.list.length==0):=by rw [cY,Bool.cond_false_right]
 have e2:(bif v.num==0 then (v.list.length:Int)==0 else false)=(v.num==0&&v.list.length==0):=by rw [cY,Bool.cond_false_right]
 have e3:(bif v.num==0 then v.text==[] else false)=(v.num==0&&v.text==[]):=Bool.cond_false_right _ _
 have a1:v.kind=1∨v.kind=2->j5 v=(v.text==[]&&v.list.length==0):=λh=>by unfold j5;rw [decide_eq_true (show v.kind<=2 by omega)];rfl
 have a2:v.kind=3∨v.kind=4->j5 v=(v.num==0&&v.list.length==0):=λh=>by unfold j5;rw [decide_eq_false (show ¬ v.kind<=2 by omega),decide_eq_true (show v.kind<=4 by omega)];rfl
 have a3:v.kind=5->j5 v=(v.num==0&&v.text==[]):=λh=>by unfold j5;rw [decide_eq_false (show ¬ v.kind<=2 by omega),decide_eq_false (show ¬ v.kind<=4 by omega)];rfl
 have t:=λ(h1:(v.kind==1)=false) (h2:(v.kind==2)=false)=>Run.b (Post:=rSh v [.agg v.c] []) (φ:=SH.φB) (v.kind==3)
  (λh=>.b (v.kind==3) (λ_=>.r (bif v.num==0 then (v.list.length:Int)==0 else false) λ_=>by rw [e2,a2 (.inl (by simpa using h))]) λ_=>.r (bif v.num==0 then v.text==[] else false) λ_=>by exfalso;simp_all)
  λh3=>.b (v.kind==4) (λh=>.r (bif v.num==0 then (v.list.length:Int)==0 else false) λ_=>by rw [e2,a2 (.inr (by simpa using h))]) λh4=>.r (bif v.num==0 then v.text==[] else false) λhk=>by
   rw [e3,a3]
   simp only [beq_eq_false_iff_ne,ne_eq] at h1 h2 h3 h4
   omega
 exact ea (V:=V0) [] 9 (.b (v.kind==1) (λh=>.b (v.kind==1) (λ_=>.r (bif v.text==[] then (v.list.length:Int)==0 else false) λ_=>by rw [e1,a1 (.inl (by simpa using h))]) λh'=>t h' (by rw [show v.kind=1 by simpa using h];rfl)) λh1=>
  .b (v.kind==2) (λh=>.r (bif v.text==[] then (v.list.length:Int)==0 else false) λ_=>by rw [e1,a1 (.inr (by simpa using h))]) λh2=>t h1 h2) (by kernel_rfl)
noncomputable abbrev O8 (v:VAL):Ent:=aY wd AP φB (rSh v)
def V1Z (v:VAL) (i:Int):St:={env:=[(1,.ref 1 0),(64,bR v.list),(65,.int .i64 v.list.length),(66,.int .i64 i)],objs:=[(1,.cells v.c)]}
def V2Z (v:VAL) (i:Int):St:={env:=[(1,.ref 1 0),(76,.int .i64 v.list.length),(77,.int .i64 i)],objs:=[(1,.cells v.c)]}
theorem B5 (v:VAL) (hv:v.Ok):aB wd pU SH.φE rV [.agg v.c] []:=by
 have hm:=hv.2.1
 have ht:fe v.text:=by have:=hv.1;unfold fe Fe;omega
 have mk:∀ {x:Int},x=cr v->rV [.agg v.c] [] x:=λh v' e=>by
  have e:v=v':=VAL.cK (by simpa using e)
  rw [<-e];exact h
 obtain ⟨u1,w1,h1,l1⟩:=bG (V:=V0) (T:=[Pb,O8 v,GK]) (d:=9) (W:=[]) (f:=pU) (p:=[1,1,1,0,1,0,1,1,1,1,1,1,1,1,1,0,1,0,1,0]) (Lf:=λL=>L) (V1Z v) v.list.length (λi=>bif !dc (v.list.getD i []) then some () else none) (λ_ k=>k .ret {env:=[(2,.int .i64 2)],objs:=[]}) (λk=>k (.exit 1) {env:=[(1,.ref 1 0)],objs:=[(1,.cells v.c)]}) (by kernel_rfl)
  (λi a=>.n a.w (.call (jv _ (hv.2.at a.lt)) λb q=>.b (!b) (λh=>.sp () a (nM (by rw [<-q _ rfl];exact h))) λh=>.up a hm (nN (by rw [<-q _ rfl];exact h)))) (λi L k kn=>by kernel_rfl)
 obtain ⟨u2,w2,hz,l2⟩:=bG (V:=V0) (T:=[Pb,O8 v,GK]) (d:=9) (W:=[]) (f:=pU) (p:=[1,1,1,0,1,0,1,1,1,1,1,1,1,1,1,0,1,1,1,0]) (Lf:=λL=>L) (V2Z v) v.list.length (λi=>bif decide (i > 0)&&!aH (v.list.getD (i - 1) []) (v.list.getD i []) then some () else none) (λ_ k=>k .ret {env:=[(2,.int .i64 9)],objs:=[]}) (λk=>k (.exit 3) {env:=[],objs:=[]}) (by kernel_rfl)
  (λi a=>.gp true a.lt hm (.gd (!bif decide ((i:Int) > 0)==true then true else false) a.w (.b (bif decide ((i:Int) > 0) then !aH (v.list.getD (Int.toNat (IntKind.wrap .i64 ((i:Int) - 1))) []) (v.list.getD (Int.toNat (i:Int)) []) else false)
   (λh=>.sp () a (nM (by rw [<-pv (λj=>!aH (v.list.getD j []) (v.list.getD i [])) a.lt hm];exact h))) λh=>.up a hm (nN (by rw [<-pv (λj=>!aH (v.list.getD j []) (v.list.getD i [])) a.lt hm];exact h))))) (λi L k kn=>by kernel_rfl)
 exact cM (V:=V0) (T:=[Pb,O8 v,GK]) (d:=9) 0 (ag (l1 _) (ag (l2 _) aE)) aD (.b (bif decide (v.kind < 1) then true else decide (v.kind > 5)) (λh=>.r 7 (mk (by unfold cr;rw [<-Bool.cond_true_left,h];rfl))) λh=>
  have h1':(decide (v.kind < 1)||decide (v.kind > 5))=false:=by rw [<-Bool.cond_true_left];exact h
  have hk:1<=v.kind/\v.kind<=5:=by simp at h1';omega
  .call (Hm v) λb qb=>.b (!b) (λh2=>.r 15 (mk (by rw [qb hk] at h2;unfold cr;rw [h1',h2];rfl))) λh2=>
  have h2:(!j5 v)=false:=by rw [qb hk] at h2;exact h2
  .b (v.kind==1) (λk=>.b (bif v.num !=0 then v.num !=1 else false) (λh3=>.r 3 (mk (by rw [Bool.cond_false_right] at h3;unfold cr;rw [h1',h2,k,h3];rfl))) λh3=>.r 0 (mk (by rw [Bool.cond_false_right] at h3;unfold cr;rw [h1',h2,k,h3];rfl))) λk1=>
  .b (v.kind==2) (λk=>.b (bif decide (v.num < -1099511627776) then true else decide (v.num > 1099511627776)) (λh3=>.r 3 (mk (by rw [Bool.cond_true_left] at h3;unfold cr;rw [h1',h2,k1,k,h3];rfl))) λh3=>.r 0 (mk (by rw [Bool.cond_true_left] at h3;unfold cr;rw [h1',h2,k1,k,h3];rfl))) λk2=>
  .b (v.kind==3) (λk=>.call (jv v.text ht) λb q=>.b (!b) (λh3=>.r 2 (mk (by rw [q _ rfl] at h3;unfold cr;rw [h1',h2,k1,k2,k,h3];rfl))) λh3=>.r 0 (mk (by rw [q _ rfl] at h3;unfold cr;rw [h1',h2,k1,k2,k,h3];rfl))) λk3=>
  .b (v.kind==4) (λk=>.call (H3 v.text hv.1) λb q=>.b (!b.2) (λh3=>.r 1 (mk (by rw [q _ rfl] at h3;unfold cr;rw [h1',h2,k1,k2,k3,k,h3];rfl))) λh3=>.r 0 (mk (by rw [q _ rfl] at h3;unfold cr;rw [h1',h2,k1,k2,k3,k,h3];rfl))) λk4=>
  have e5:cr v=bN v.list:=by unfold cr;rw [h1',h2,k1,k2,k3,k4];rfl
  .b (v.kind==5) (λk=>.b (decide ((v.list.length:Int) > 20)) (λh=>.r 5 (mk (by
   have h:decide (v.list.length > 20)=true:=(GI _ 20).symm.trans h
   rw [e5];unfold bN;rw [h];rfl))) λh=>
   have h:decide (v.list.length > 20)=false:=(GI _ 20).symm.trans h
   .lp h1 λt q=>have q:t=Dt v.list:=q
   .b t.1 (λh3=>.r 2 (mk (by rw [q] at h3;rw [e5];unfold bN;rw [h,h3];rfl))) λh3=>.lp hz λt2 q2=>
   have q2:t2=xv v.list:=q2
   .b t2.1 (λh4=>.r 9 (mk (by rw [q] at h3;rw [q2] at h4;rw [e5];unfold bN;rw [h,h3,h4];rfl))) λh4=>.r 0 (mk (by rw [q] at h3;rw [q2] at h4;rw [e5];unfold bN;rw [h,h3,h4];rfl))) λk5=>.r 0 (mk (by
   exfalso
   have e1:v.kind≠1:=by simpa using k1
   have e2:v.kind≠2:=by simpa using k2
   have e3:v.kind≠3:=by simpa using k3
   have e4:v.kind≠4:=by simpa using k4
   have e5:v.kind≠5:=by simpa using k5
   omega))) (by kernel_rfl)
noncomputable abbrev N7:Ent:=aY wd pU SH.φE rV
end Go.T

namespace Go.T
open Go Go.Ab Go.Proofs Go.SH
def xD (p:PART):Bool:=bif !(bif decide (p.op≥6) then decide (p.op<=15) else false) then bif !p.kind==[] then true else bif !p.name==[] then p.op !=5 else false else false
def Cd (p:PART):Bool:=bif p.op==8 then decide (p.vals.length > 0) else bif dU p.op&&p.op !=6 then p.vals.length==1 else p.vals.length==0
theorem Ig (p:PART):(dU p.op||(p.kind==[]&&(p.name==[]||p.op==5)))=!xD p:=by
 unfold xD dU
 rw [show (p.op !=5)=!(p.op==5) from rfl]
 cases (bif decide (p.op≥6) then decide (p.op<=15) else false) <;> cases p.kind==[] <;> cases p.name==[] <;> cases p.op==5 <;> rfl
theorem lQ {p:PART} {K:Bool} (hK:K=(bif eJ p.op then decide (p.n≥2) else bif p.op==4 then p.n==1 else p.n==0)):countB p=(K&&(!xD p&&Cd p)):=by
 unfold countB Cd
 rw [Ig,<-hK]
theorem lt2 (n:Nat):decide ((n:Int) < 2)=!decide (n≥2):=by
 by_cases h:n≥2
 ·rw [decide_eq_true h,decide_eq_false (by omega)];rfl
 ·rw [decide_eq_false h,decide_eq_true (by omega)];rfl
theorem LS (p:PART):aB wd A8 φB (rIs (countB p)) [.agg p.c] []:=
 have t:=λ(h:countB p=(!xD p&&Cd p))=>Run.b (Post:=rIs (countB p) [.agg p.c] []) (φ:=SH.φB) (xD p) (λhn=>.r false (by unfold rIs;rw [h,hn];rfl)) λhn=>.b (p.op==8)
  (λh8=>.r (decide ((p.vals.length:Int) > 0)) (by unfold rIs;rw [h,hn,Cd,h8,BS,Fw];rfl)) λh8=>.b (bif dU p.op then p.op !=6 else false)
  (λh9=>.r ((p.vals.length:Int)==1) (by rw [Bool.cond_false_right] at h9;unfold rIs;rw [h,hn,Cd,h8,h9,lh];rfl))
  λh9=>.r ((p.vals.length:Int)==0) (by rw [Bool.cond_false_right] at h9;unfold rIs;rw [h,hn,Cd,h8,h9,cY];rfl)
 ea (V:=V0) [] 9 (.b (eJ p.op) (λh=>.b (decide ((p.n:Int) < 2)) (λh2=>.r false (by
   rw [lt2] at h2
   unfold rIs;rw [lQ (K:=false) (by rw [h];show false=decide (p.n≥2);simpa using h2.symm)];rfl)) λh2=>t (by
   rw [lt2] at h2
   rw [lQ (K:=true) (by rw [h];show true=decide (p.n≥2);simpa using h2.symm)];rfl)) λh=>
  .b (p.op==4) (λh4=>.b ((p.n:Int) !=1) (λh2=>.r false (by
   have e:(p.n==1)=false:=by rw [<-lh];simpa using h2
   unfold rIs;rw [lQ (K:=false) (by rw [h,h4,e];rfl)];rfl)) λh2=>t (by
   have e:(p.n==1)=true:=by rw [<-lh];simpa using h2
   rw [lQ (K:=true) (by rw [h,h4,e];rfl)];rfl)) λh4=>
  .b (decide ((p.n:Int) > 0)) (λh2=>.r false (by
   have e:(p.n==0)=false:=by rw [<-cY];have:=of_decide_eq_true h2;exact beq_eq_false_iff_ne.2 (by omega)
   unfold rIs;rw [lQ (K:=false) (by rw [h,h4,e];rfl)];rfl)) λh2=>t (by
   have e:(p.n==0)=true:=by rw [<-cY];have:=of_decide_eq_false h2;exact beq_iff_eq.2 (by omega)
   rw [lQ (K:=true) (by rw [h,h4,e];rfl)];rfl)) (by kernel_rfl)
def P1Z (p:PART) (i:Int):St:={env:=[(2,.ref 2 0),(35,vz p),(36,.int .i64 p.n),(37,.int .i64 i)],objs:=[(2,.cells p.c)]}
def P2Z (p:PART) (i:Int):St:={env:=[(2,.ref 2 0),(83,gV p.vals),(84,.int .i64 p.vals.length),(85,.int .i64 i)],objs:=[(2,.cells p.c)]}
noncomputable abbrev O9 (p:PART):Ent:=aY wd A8 φB (rIs (countB p))
theorem Kk (p:PART) (hp:p.Ok) (d:Nat):aB wd qV SH.φE (rIs (bif decide (d≥10) then 18 else j9 p)) [.agg p.c,.int .i64 (d:Int)] []:=by
 obtain ⟨u1,w1,h1,l1⟩:=bG (V:=V0) (T:=[O9 p,jV,N7]) (d:=9) (W:=[]) (f:=qV) (p:=[1,1,1,1,1,0,1,0]) (Lf:=λL=>L) (P1Z p) p.n (λi=>bif (bif p.ko i==p.op then eJ p.op else false) then some () else none) (λ_ k=>k .ret {env:=[(4,.int .i64 15)],objs:=[]}) (λk=>k (.exit 0) {env:=[(2,.ref 2 0)],objs:=[(2,.cells p.c)]}) (by kernel_rfl)
  (λi a=>.n a.w (.b (bif p.ko i==p.op then eJ p.op else false) (λh=>.sp () a (nM h)) λh=>.up a hp.2.2.2 (nN h))) (λi L k kn=>by kernel_rfl)
 obtain ⟨u2,w2,h2,l2⟩:=bG (V:=V0) (T:=[O9 p,jV,N7]) (d:=9) (W:=[]) (f:=qV) (p:=[1,1,1,1,1,1,1,0,1,0]) (Lf:=λL=>L) (P2Z p) p.vals.length (ju p.vals) (qh 4) (λk=>k (.exit 2) {env:=[(2,.ref 2 0)],objs:=[(2,.cells p.c)]}) (by kernel_rfl)
  (λi a=>.n a.w (.call (B5 (p.vals.getD i default) (hp.2.2.1.at a.lt)) λt q=>.b (t !=0) (λh=>.sp t a (by rw [q _ rfl] at h ⊢;unfold ju;rw [h];rfl)) λh=>.up a hp.2.2.1.1 (by rw [q _ rfl] at h;unfold ju;rw [h];rfl))) (λi L k kn=>by kernel_rfl)
 have dd:decide ((d:Int)≥10)=decide (d≥10):=by
  by_cases h:d≥10
  ·rw [decide_eq_true h,decide_eq_true (by omega)]
  ·rw [decide_eq_false h,decide_eq_false (by omega)]
 exact cM (V:=V0) (T:=[O9 p,jV,N7]) (d:=9) 0 (ag (l1 _) (ag (l2 _) aE)) aD (.b (decide ((d:Int)≥10)) (λh=>.r 18 (by rw [dd] at h;unfold rIs;rw [h];rfl)) λhd=>
  have mk:∀ {x:Int},x=j9 p->rIs (bif decide (d≥10) then 18 else j9 p) [.agg p.c,.int .i64 (d:Int)] [] x:=λhx=>by rw [dd] at hd;unfold rIs;rw [hd];exact hx
  .b (bif decide (p.op < 1) then true else decide (p.op > 15)) (λh=>.r 7 (mk (by rw [Bool.cond_true_left] at h;rw [lJ,h];rfl))) λh=>
  have h:(decide (p.op < 1)||decide (p.op > 15))=false:=by rw [<-Bool.cond_true_left];exact h
  .call (LS p) λb qb=>.b (!b) (λhb=>.r 15 (mk (by rw [show b=countB p from qb] at hb;rw [lJ,h,hb];rfl))) λhb=>
  have hb:(!countB p)=false:=by rw [<-show b=countB p from qb];exact hb
  have hc:countB p=true:=by simpa using hb
  have e:j9 p=mf p:=by rw [lJ,h,hb];rfl
  .b (bif decide ((p.n:Int) > 12) then true else decide ((p.vals.length:Int) > 20)) (λh5=>.r 5 (mk (by rw [Bool.cond_true_left,nv,nu] at h5;rw [e,mf,h5];rfl))) λh5=>
  have h5:(decide (p.n > 12)||decide (p.vals.length > 20))=false:=by rw [<-nv,<-nu,<-Bool.cond_true_left];exact h5
  .lp h1 λt q=>
  have q:t=iX p (eJ p.op):=q
  .b t.1 (λh3=>.r 15 (mk (by rw [q] at h3;rw [e,mf,h5,h3];rfl))) λh3=>
  have h3:(iX p (eJ p.op)).1=false:=by rw [<-q];exact h3
  .call (dy p.kind) λx qx=>.call (dy p.name) λy qy=>
  .b (bif bif dU p.op then !x else false then true else bif bif dU p.op then true else p.op==5 then !y else false) (λh6=>.r 6 (mk (by rw [BK,qx _ rfl,qy _ rfl] at h6;rw [e,mf,h5,h3,h6];rfl))) λh6=>
  have h6:((dU p.op&&!dX p.kind)||((dU p.op||p.op==5)&&!dX p.name))=false:=by rw [<-qx _ rfl,<-qy _ rfl,<-BK];exact h6
  .lp h2 λs qs=>have qs:s=iy p.vals:=qs
  .b s.1 (λh7=>.r s.2 (mk (by rw [qs] at h7 ⊢;rw [e,mf,h5,h3,h6,h7];rfl))) λh7=>
  have h7:(iy p.vals).1=false:=by rw [<-qs];exact h7
  .n (c:=bif within 0 p.vals.length then true else !bif (cC p.op)==true then true else false) (xC hc) (.b (bif cC p.op then (p.vals.getD (Int.toNat 0) default).kind !=3 else false)
   (λh8=>.r 8 (mk (by rw [Bool.cond_false_right] at h8;rw [e,mf,h5,h3,h6,h7,show (cC p.op&&(p.vals.getD 0 default).kind !=3)=true from h8];rfl)))
   λh8=>.r 0 (mk (by rw [Bool.cond_false_right] at h8;rw [e,mf,h5,h3,h6,h7,show (cC p.op&&(p.vals.getD 0 default).kind !=3)=false from h8];rfl)))) (by kernel_rfl)
def E1Z (p:PART) (d:Nat) (x:Bool×Nat×Nat):St:={env:=[(1,.int .i64 d),(2,.ref aa 0),(27,vz p),(28,.int .i64 p.n),(29,.int .i64 x.2.1)],objs:=bif x.1 then [(3,.cells p.c),(aa,ti x.2.2)] else [(aa,ti x.2.2)]}
noncomputable abbrev O6:Ent:=aY wd uM SH.φW (rW 0)
noncomputable abbrev ePt (e:EXP) (d:Nat):Ent:=aY wd qV SH.φE (rIs (ij e d))
theorem JO:∀e:EXP,e.Ok->∀d n:Nat,d<=10->aB wd uM SH.φW (rW 0) [.agg e.c,.int .i64 ((d+0:Nat):Int),.ref aa 0] [ti n]:=by
 intro e he
 induction he with
 | mk e h1 h2 h3 h4 h5 ih=>
 intro d n hd
 have he:e.Ok:=.mk e h1 h2 h3 h4 h5
 have hw:=AJ e d n
 have pn:e.part.n=e.kids.length:=rfl
 obtain ⟨u,w,hu,hl⟩:=aA (V:=V0) (T:=[ePt e d,O6]) (d:=1) (W:=[]) (f:=uM) (p:=[1,1,1,1,0,1,0]) (Lf:=λL=>L) (E1Z e.part d) (λx=>(d < 10/\x.2.1<=e.kids.length)/\yv e.kids (d+1) x.2.1 x.2.2=j8 e.kids (d+1) (n+1)) (λx=>e.kids.length - x.2.1) Mm (λo=>o.1=(o.2.1 !=0)/\o.2=j8 e.kids (d+1) (n+1)) (by kernel_rfl)
  (λx hx=>.b (decide ((x.2.1:Int) < (e.part.n:Int))) (λh=>
    have hi:x.2.1 < e.kids.length:=nf h
    have wd1:IntKind.wrap .i64 ((d:Int)+1)=((d+1:Nat):Int):=bb (by omega)
    have hd1:d < 10:=hx.1.1
    .n (cw hi) (.call (f:=uM) (R:=rW 0) (ψ:=SH.φW) (l:=[.agg (Di e.part x.2.1),.int .i64 (IntKind.wrap .i64 ((d:Int)+1)),.ref aa 0]) (os:=[ti x.2.2]) (by rw [ik hi,wd1];exact ih _ (Fq hi) (d+1) x.2.2 (by omega)) λt q=>
     have q:t=iu (e.kid x.2.1) (d+1) x.2.2:=q (e.kid x.2.1) (d+1) x.2.2 (by rw [ik hi,wd1]) rfl
     have st:=tk e.kids (d+1) x.2.2 hi
     .b (t.1 !=0) (λhb=>.fi (true,t) ⟨hb.symm,by rw [<-hx.2,st,show e.kids.getD x.2.1 default=e.kid x.2.1 from rfl,<-q,hb];rfl⟩)
      λhb=>.go {env:=[(1,.int .i64 d),(2,.ref aa 0),(27,vz e.part),(28,.int .i64 e.part.n),(29,.int .i64 (IntKind.wrap .i64 ((x.2.1:Int)+1)))],objs:=[(aa,ti t.2)]} (false,x.2.1+1,t.2)
       ⟨⟨hx.1.1,hi⟩,by rw [<-hx.2,st,show e.kids.getD x.2.1 default=e.kid x.2.1 from rfl,<-q,hb];rfl⟩ (by show e.kids.length - (x.2.1+1) < e.kids.length - x.2.1;omega) (by rw [bb (by omega)];rfl)))
   λh=>.fi (false,0,x.2.2) ⟨rfl,by rw [<-hx.2,wD];have:=of_decide_eq_false h;rw [pn] at this;omega⟩) (λv L k kn=>by obtain ⟨b,i,n⟩:=v;cases b <;> kernel_rfl)
 have w1:¬ n≥60->IntKind.wrap .i64 ((n:Int)+1)=((n+1:Nat):Int):=λh=>bb (by omega)
 have pe:aB wd qV SH.φE (rIs (ij e d)) [.agg e.part.c,.int .i64 (d:Int)] []:=Kk e.part he.part d
 rw [<-e.bM]
 exact ff (V:=V0) [ePt e d,O6] 1 hl (.b (decide ((n:Int)≥60)) (λh=>.r (5,n) (by rw [e.bM];exact .mk (by rw [NZ] at h;rw [hw,h];rfl))) λh=>
  have h:decide (n≥60)=false:=by rw [<-NZ];exact h
  have w1:=w1 (of_decide_eq_false h)
  .call pe λt q=>have q:t=ij e d:=q
  .b (t !=0) (λh3=>.e (t,n+1) (r:=(.int .i64 t,[ti (IntKind.wrap .i64 ((n:Int)+1))])) (by rw [e.bM];exact .mk (by rw [hw,h,<-q,h3];rfl)) (by rw [w1];rfl)) λh3=>
  have hd1:d < 10:=by
   rcases Nat.lt_or_ge d 10 with hh | hh
   ·exact hh
   ·rw [q,ij,decide_eq_true hh] at h3;cases h3
  have hz:iu e d n=j8 e.kids (d+1) (n+1):=by rw [hw,h,<-q,h3];rfl
  have hs:bU u w {env:=[(1,.int .i64 d),(2,.ref aa 0),(27,vz e.part),(28,.int .i64 e.part.n),(29,.int .i64 0)],objs:=[(3,.cells e.part.c),(aa,ti (IntKind.wrap .i64 ((n:Int)+1)))]} (λo=>o.1=(o.2.1 !=0)/\o.2=j8 e.kids (d+1) (n+1)):=by rw [w1];exact hu (true,0,n+1) ⟨⟨hd1,Nat.zero_le _⟩,rfl⟩
  .lp hs λo qo=>.b o.1 (λh4=>.r (o.2.1,o.2.2) (by rw [e.bM];exact .mk (by rw [hz,<-qo.2]))) λh4=>.r (0,o.2.2) (by
   rw [e.bM];exact .mk (by
    rw [hz,<-qo.2]
    have h5:(o.2.1 !=0)=false:=qo.1.symm.trans h4
    have h5:o.2.1=0:=by simpa using h5
    rw [<-h5]))) (by kernel_rfl)
def rX (l:List AV) (_:List AO) (x:Int):Prop:=∀e:EXP,l=[.agg e.c]->x=gh e
theorem Ho (e:EXP) (he:e.Ok):aB wd uO SH.φE (rIs (gh e)) [.agg e.c] []:=by
 have h:=JO e he 0 0 (Nat.zero_le _)
 rw [<-e.bM] at h ⊢
 exact ea (V:=V0) [O6] 1 (.call h λt q=>.r t.1 (by have q:=q e 0 0 (by rw [e.bM]) rfl;rw [q];rfl)) (by kernel_rfl)
end Go.T

namespace Go.T
open Go Go.Ab Go.Proofs Go.SH
def rWh (l:List AV) (_:List AO) (x:Int):Prop:=∀b e,l=[.bool b,.int .i64 e]->x=bif b then e else 0
theorem bK (b:Bool) (e:Int):aB wd DZ SH.φE rWh [.bool b,.int .i64 e] []:=
 have mk:∀ {x:Int},x=(bif b then e else 0)->rWh [.bool b,.int .i64 e] [] x:=λh b' e' q=>by
  simp only [List.cons.injEq,AV.bool.injEq,AV.int.injEq,true_and,and_true] at q
  rw [h,q.1,q.2]
 ea (V:=V0) [] 3 (.b b (λh=>.r e (mk (by rw [h];rfl))) λh=>.r 0 (mk (by rw [h];rfl))) (by kernel_rfl)
noncomputable abbrev lY:Ent:=aY wd DZ SH.φE rWh
theorem Kx (e:EXP):aB wd yG φB (rIs (mq e)) [.agg e.c] []:=by
 rw [e.C7]
 exact ea (V:=V0) [] 2 (.r (bif bif bif bif e.op==0 then e.kind==[] else false then e.name==[] else false then (e.vals.length:Int)==0 else false then (e.kids.length:Int)==0 else false) (E3 e)) (by kernel_rfl)
theorem qS (l:List (Int×Int×Int)) (n:Int) (hm:l.length<=4611686018427387904):aB wd iD SH.φE (rIs (dJ l n)) [lF l,.int .i64 n] []:=by
 obtain ⟨u,w,hu,hl⟩:=kB (V:=V0) (T:=[lY]) (d:=3) (W:=[]) (f:=iD) (p:=[1,1,1,0,1,0]) (Lf:=λL=>L) (λi:Nat=>Ss l n (eS l i) i) l.length (·+1) (s1 _) (eN l n) (qh 4) (λi k=>k (.exit 0) {env:=[(5,.ref 5 0)],objs:=[(5,.cells (nW (eS l i)))]}) (λi=>decide ((i:Int) < (l.length:Int))) (λi=>KB i _) (by kernel_rfl)
  (λi a=>.n a.w (.b (bif decide ((l.getD i (0,0,0)).2.2 < 1) then true else decide ((l.getD i (0,0,0)).2.2 > n)) (λh=>.sp 3 a (by rw [Bool.cond_true_left] at h;unfold eN;rw [h];rfl)) λh=>
   have h:(decide ((l.getD i (0,0,0)).2.2 < 1)||decide ((l.getD i (0,0,0)).2.2 > n))=false:=by rw [<-Bool.cond_true_left];exact h
   .b (bif bif (l.getD i (0,0,0)).1 !=(eS l i).2.1 then true else decide ((l.getD i (0,0,0)).2.1<=(l.getD i (0,0,0)).1) then true else (l.getD i (0,0,0)).2.2==(eS l i).2.2)
    (λh2=>.sp 9 a (by rw [Bool.cond_true_left,Bool.cond_true_left,Bool.or_assoc] at h2;unfold eN;rw [h,h2];rfl))
    λh2=>.on {env:=[(1,.int .i64 n),(5,.ref 5 0),(12,lF l),(13,.int .i64 l.length),(14,.int .i64 (IntKind.wrap .i64 ((i:Int)+1)))],objs:=[(5,.cells (nW (l.getD i (0,0,0))))]} a (by rw [Bool.cond_true_left,Bool.cond_true_left,Bool.or_assoc] at h2;unfold eN;rw [h,h2];rfl) (by rw [tM,bb (by have:=a.lt;omega)];rfl))) (λi L k kn=>by kernel_rfl)
 exact ff (V:=V0) [lY] 3 hl (.b (decide ((l.length:Int) > 16)) (λh=>.r 5 (by
   have h:decide (l.length > 16)=true:=(GI _ 16).symm.trans h
   unfold rIs dJ;rw [h];rfl)) λh=>
  have h:decide (l.length > 16)=false:=(GI _ 16).symm.trans h
  .lp hu λt q=>have q:t=mP l n:=q
  .b t.1 (λh3=>.r t.2 (by rw [q] at h3 ⊢;unfold rIs dJ;rw [h,h3];rfl)) λh3=>.call (bK ((eS l l.length).2.1 !=10000) 3) λx qx=>.r x (by rw [qx _ _ rfl];rw [q] at h3;unfold rIs dJ;rw [h,h3];rfl)) (by kernel_rfl)
def SpZ (l:List (Int×Int)) (i:Int):St:={env:=[(0,yr l),(8,yr l),(9,.int .i64 l.length),(10,.int .i64 i)],objs:=[]}
theorem KT (a b:Int):(!bif bif decide (0<=a) then decide (a < b) else false then decide (b<=10000) else false)=(decide (a < 0)||(decide (a≥b)||decide (b > 10000))):=by
 by_cases h1:0<=a <;> by_cases h2:a < b <;> by_cases h3:b<=10000 <;> simp [h1,h2,h3] <;> omega
theorem DP (l:List (Int×Int)) (hm:l.length<=4611686018427387904):aB wd uN SH.φE (rIs (oS l)) [yr l] []:=by
 obtain ⟨u,w,hu,hl⟩:=bG (V:=V0) (T:=[]) (d:=3) (W:=[]) (f:=uN) (p:=[1,1,0,1,0]) (Lf:=λL=>L) (SpZ l) l.length (gH l) (qh 2) (λk=>k (.exit 0) {env:=[],objs:=[]}) (by kernel_rfl)
  (λi a=>
   have c:=pv (λj=>decide ((l.getD i (0,0)).1<=(l.getD j (0,0)).2)) a.lt hm
   .n a.w (.b (!bif bif decide (0<=(l.getD i (0,0)).1) then decide ((l.getD i (0,0)).1 < (l.getD i (0,0)).2) else false then decide ((l.getD i (0,0)).2<=10000) else false) (λh=>.sp 3 a (by rw [KT] at h;unfold gH;rw [h];rfl)) λh=>
   .gp true a.lt hm (.b (bif decide ((i:Int) > 0) then decide ((l.getD i (0,0)).1<=(l.getD (Int.toNat (IntKind.wrap .i64 ((i:Int) - 1))) (0,0)).2) else false)
    (λh2=>.sp 9 a (by rw [KT] at h;unfold gH;rw [h,<-c,h2];rfl)) λh2=>.up a hm (by rw [KT] at h;unfold gH;rw [h,<-c,h2];rfl)))) (λi L k kn=>by kernel_rfl)
 exact ff (V:=V0) [] 3 hl (.b (decide ((l.length:Int) > 16)) (λh=>fL (n:=16) h) λh=>.lp hu λt q=>fK (n:=16) q h) (by kernel_rfl)
def SkZ (l:List (List UInt8)) (i:Int):St:={env:=[(0,bR l),(8,bR l),(9,.int .i64 l.length),(10,.int .i64 i)],objs:=[]}
theorem Hh (l:List (List UInt8)) (hl:iz l):aB wd uL SH.φE (rIs (CG l)) [bR l] []:=by
 have hm:=hl.1
 obtain ⟨u,w,hu,hlo⟩:=bG (V:=V0) (T:=[GK]) (d:=3) (W:=[]) (f:=uL) (p:=[1,1,0,1,0]) (Lf:=λL=>L) (SkZ l) l.length (jO l) (qh 2) (λk=>k (.exit 0) {env:=[],objs:=[]}) (by kernel_rfl)
  (λi a=>
   have c:=pv (Je l i) a.lt hm
   .n a.w (.call (jv (l.getD i []) (hl.at a.lt)) λb q=>.b (bif l.getD i []==[] then true else !b) (λh=>.sp 2 a (by rw [q _ rfl,Bool.cond_true_left] at h;unfold jO;rw [h];rfl)) λh=>
   have h:(l.getD i []==[]||!dc (l.getD i []))=false:=by rw [<-q _ rfl,<-Bool.cond_true_left];exact h
   .gp true a.lt hm (.b (bif decide ((i:Int) > 0) then Je l i (Int.toNat (IntKind.wrap .i64 ((i:Int) - 1))) else false)
    (λh2=>.sp 9 a (by rw [c] at h2;unfold Je at h2;unfold jO;rw [h,h2];rfl)) λh2=>.up a hm (by rw [c] at h2;unfold Je at h2;unfold jO;rw [h,h2];rfl)))) (λi L k kn=>by kernel_rfl)
 exact ff (V:=V0) [GK] 3 hlo (.b (decide ((l.length:Int) > 40)) (λh=>fL (n:=40) h) λh=>.lp hu λt q=>fK (n:=40) q h) (by kernel_rfl)
theorem DQ (v:SERVE) (n:Int) (hv:v.Ok):aB wd pZ SH.φE (rIs (cg v n)) [.agg v.c,.int .i64 n] []:=by
 obtain ⟨h1,h2,h3,h4⟩:=hv
 exact ea (V:=V0) [jV,GK,lY,aY wd iD SH.φE (rIs (dJ v.split n))] 9 (.b (v.var !=0) (λa=>.call (bK (bif decide (v.var < 1) then true else decide (v.var > n)) 3) λx qx=>.call (bK (bif bif bif !v.kind==[] then true else !v.by'==[] then true else !v.salt==[] then true else decide ((v.split.length:Int) > 0)) 15) λy qy=>
   have qx:x=_:=qx _ _ rfl
   have qy:y=_:=qy _ _ rfl
   .b (x !=0) (λb=>.r x (by rw [qx,Bool.cond_true_left] at b ⊢;unfold rIs cg;rw [a];cases hb:(decide (v.var < 1)||decide (v.var > n)) <;> rw [hb] at b <;> first | rfl | cases b)) λb=>
   have hb:(decide (v.var < 1)||decide (v.var > n))=false:=by rw [qx,Bool.cond_true_left] at b;cases hb:(decide (v.var < 1)||decide (v.var > n)) <;> rw [hb] at b <;> first | rfl | cases b
   have e:cg v n=y:=by rw [qy];simp only [Bool.cond_true_left,Bool.or_assoc];unfold cg;rw [a,hb];rfl
   .b (y !=0) (λc=>.r y e.symm) λc=>.r 0 (by unfold rIs;rw [e];exact (by simpa using c:y=0).symm))
  λa=>.call (dy v.kind) λx qx=>.call (dy v.by') λy qy=>.call (bK (bif !x then true else !y) 6) λt1 q1=>.call (jv v.salt h3) λz qz=>.call (bK (!z) 2) λt2 q2=>.call (qS v.split n h4) λt q=>
   have q1:t1=bif !dX v.kind||!dX v.by' then 6 else 0:=by rw [q1 _ _ rfl,qx _ rfl,qy _ rfl,Bool.cond_true_left]
   have q2:t2=bif !dc v.salt then 2 else 0:=by rw [q2 _ _ rfl,qz _ rfl]
   have q:t=dJ v.split n:=q
   have e:cg v n=bif t1 !=0 then t1 else bif t2 !=0 then t2 else t:=by
    unfold cg;rw [a,q1,q2,q]
    cases (!dX v.kind||!dX v.by') <;> cases !dc v.salt <;> rfl
   .b (t1 !=0) (λc=>.r t1 (by unfold rIs;rw [e,c];rfl)) λc=>.b (t2 !=0) (λc2=>.r t2 (by unfold rIs;rw [e,c,c2];rfl)) λc2=>.b (t !=0) (λc3=>.r t (by unfold rIs;rw [e,c,c2];rfl)) λc3=>.r 0 (by unfold rIs;rw [e,c,c2];exact (by simpa using c3:t=0).symm)) (by kernel_rfl)
end Go.T

namespace Go.T
open Go Go.Ab Go.Proofs Go.SH
def Ps:List AV->Int
 | [.int _ v]=>v
 | _=>0
def orN:Nat->Nat->(Nat->List AV)->Int
 | 0,_,_=>0
 | k+1,j,g=>bif Ps (g j) !=0 then Ps (g j) else orN k (j+1) g
def HY (l:List AV) (_:List AO) (x:Int):Prop:=∀n g,l=[.sl .fit 1 n g]->x=orN n 0 g
abbrev fI (l:List (Nat×AV)):Nat->List AV:=ab [.int .i64 0] l
theorem HY.mk {n:Nat} {g:Nat->List AV} {x:Int} (h:x=orN n 0 g):HY [.sl .fit 1 n g] [] x:=λn' g' e=>by
 simp only [List.cons.injEq,AV.sl.injEq,true_and,and_true] at e
 rw [h,e.1,e.2]
theorem PK {x:Int} (h:(x !=0)=false):(0:Int)=x:=(by simpa using h:x=0).symm
theorem xw {b:Bool} {x y:Int} (h:b=true):x=bif b then x else y:=by rw [h];rfl
theorem iV {b:Bool} {x y z:Int} (h:b=false) (e:z=y):z=bif b then x else y:=by rw [h];exact e
theorem Jr (a b:Int):aB wd mS SH.φE HY [.sl .fit 1 2 (fI [(0,.int .i64 a),(1,.int .i64 b)])] []:=
 ea (V:=V0) [] 9 (.b (a !=0) (λh=>.r a (.mk (xw h))) λh=>.b (b !=0) (λh2=>.r b (.mk (iV h (xw h2)))) λh2=>.r 0 (.mk (iV h (iV h2 rfl)))) (by kernel_rfl)
theorem Jq (a b c:Int):aB wd mS SH.φE HY [.sl .fit 1 3 (fI [(0,.int .i64 a),(1,.int .i64 b),(2,.int .i64 c)])] []:=
 ea (V:=V0) [] 9 (.b (a !=0) (λh=>.r a (.mk (xw h))) λh=>.b (b !=0) (λh2=>.r b (.mk (iV h (xw h2)))) λh2=>.b (c !=0) (λh3=>.r c (.mk (iV h (iV h2 (xw h3))))) λh3=>.r 0 (.mk (iV h (iV h2 (iV h3 rfl))))) (by kernel_rfl)
theorem xW (a b c d:Int):aB wd mS SH.φE HY [.sl .fit 1 4 (fI [(0,.int .i64 a),(1,.int .i64 b),(2,.int .i64 c),(3,.int .i64 d)])] []:=
 ea (V:=V0) [] 9 (.b (a !=0) (λh=>.r a (.mk (xw h))) λh=>.b (b !=0) (λh2=>.r b (.mk (iV h (xw h2)))) λh2=>.b (c !=0) (λh3=>.r c (.mk (iV h (iV h2 (xw h3))))) λh3=>.b (d !=0) (λh4=>.r d (.mk (iV h (iV h2 (iV h3 (xw h4)))))) λh4=>.r 0 (.mk (iV h (iV h2 (iV h3 (iV h4 rfl)))))) (by kernel_rfl)
theorem MT (a b c d e f:Int):aB wd mS SH.φE HY [.sl .fit 1 6 (fI [(0,.int .i64 a),(1,.int .i64 b),(2,.int .i64 c),(3,.int .i64 d),(4,.int .i64 e),(5,.int .i64 f)])] []:=
 ea (V:=V0) [] 9 (.b (a !=0) (λh=>.r a (.mk (xw h))) λh=>.b (b !=0) (λh2=>.r b (.mk (iV h (xw h2)))) λh2=>.b (c !=0) (λh3=>.r c (.mk (iV h (iV h2 (xw h3))))) λh3=>.b (d !=0) (λh4=>.r d (.mk (iV h (iV h2 (iV h3 (xw h4)))))) λh4=>
  .b (e !=0) (λh5=>.r e (.mk (iV h (iV h2 (iV h3 (iV h4 (xw h5))))))) λh5=>.b (f !=0) (λh6=>.r f (.mk (iV h (iV h2 (iV h3 (iV h4 (iV h5 (xw h6)))))))) λh6=>.r 0 (.mk (iV h (iV h2 (iV h3 (iV h4 (iV h5 (iV h6 rfl)))))))) (by kernel_rfl)
noncomputable abbrev jj:Ent:=aY wd mS SH.φE HY
def mxI (i:Nat):Int:=bif decide (0 > IntKind.wrap .i64 ((i:Int) - 1)) then 0 else IntKind.wrap .i64 ((i:Int) - 1)
theorem Jg {i n:Nat} (h:i < n) (hn:n<=4611686018427387904):mxI i=((i - 1:Nat):Int):=by
 unfold mxI
 rw [wrap_i64 (by omega) (by omega)]
 by_cases h0:i=0
 ·subst h0;rfl
 ·rw [decide_eq_false (by omega),cond_false];omega
theorem OK {i n:Nat} (c:Bool) (h:i < n) (hn:n<=4611686018427387904):(bif within (mxI i) n then true else c)=true:=gw (by rw [Jg h hn];exact cw (by omega))
theorem OJ (G:Nat->Bool) {i n:Nat} (h:i < n) (hn:n<=4611686018427387904):(bif decide ((i:Int) > 0) then G (Int.toNat (mxI i)) else false)=(decide (i > 0)&&G (i - 1)):=by
 rw [Jg h hn,Int.toNat_natCast]
 by_cases h0:i > 0
 ·rw [decide_eq_true h0,decide_eq_true (show (i:Int) > 0 by omega)];rfl
 ·rw [decide_eq_false h0,decide_eq_false (show ¬ (i:Int) > 0 by omega)];rfl
def PqZ (l:List PRQ) (i:Int):St:={env:=[(0,GF l),(9,GF l),(10,.int .i64 l.length),(11,.int .i64 i)],objs:=[]}
theorem Hc (l:List PRQ) (hl:okL (λp:PRQ=>fe p.flag) l):aB wd gq SH.φE (rIs (GG l)) [GF l] []:=by
 have hm:=hl.big
 obtain ⟨u,w,hu,hlo⟩:=bG (V:=V0) (T:=[jV,lY,jj]) (d:=3) (W:=[]) (f:=gq) (p:=[1,1,0,1,0]) (Lf:=λL=>L) (PqZ l) l.length (jK l) (qh 2) (λk=>k (.exit 0) {env:=[],objs:=[]}) (by kernel_rfl)
  (λi a=>
   have c:=OJ (λj=>aH (l.getD i default).flag (l.getD j default).flag||(l.getD i default).flag==(l.getD j default).flag) a.lt hm
   .n a.w (.call (dy (l.getD i default).flag) λb q=>.call (bK (!b) 6) λt1 q1=>.n (OK (!bif decide ((i:Int) > 0)==true then true else false) a.lt hm)
   (.call (bK (bif decide ((i:Int) > 0) then (aH (l.getD i default).flag (l.getD (Int.toNat (mxI i)) default).flag||(l.getD i default).flag==(l.getD (Int.toNat (mxI i)) default).flag) else false) 9) λt2 q2=>
   .call (bK (bif decide ((l.getD i default).var < 1) then true else decide ((l.getD i default).var > 8)) 3) λt3 q3=>.call (Jq t1 t2 t3) λt qt=>
   have e:jK l i=bif t !=0 then some t else none:=by
    have y:t=bif t1 !=0 then t1 else bif t2 !=0 then t2 else bif t3 !=0 then t3 else 0:=qt _ _ rfl
    rw [y,q1 _ _ rfl,q2 _ _ rfl,q3 _ _ rfl,q _ rfl,c,Bool.cond_true_left]
    unfold jK
    cases !dX (l.getD i default).flag <;> cases (decide (i > 0)&&(aH (l.getD i default).flag (l.getD (i - 1) default).flag||(l.getD i default).flag==(l.getD (i - 1) default).flag)) <;> cases (decide ((l.getD i default).var < 1)||decide ((l.getD i default).var > 8)) <;> rfl
   .b (t !=0) (λh=>.sp t a (by rw [e,h];rfl)) λh=>.up a hm (by rw [e,h];rfl)))) (λi L k kn=>by kernel_rfl)
 exact ff (V:=V0) [jV,lY,jj] 3 hlo (.b (decide ((l.length:Int) > 4)) (λh=>fL (n:=4) h) λh=>.lp hu λt q=>fK (n:=4) q h) (by kernel_rfl)
noncomputable abbrev Lg:Ent:=aY wd uL SH.φE (rC aM CG)
noncomputable abbrev eSX:Ent:=aY wd uO SH.φE (rC aX gh)
noncomputable abbrev N4 (n:Nat):Ent:=aY wd pZ SH.φE (rC (aS n) λv=>cg v n)
theorem DU (l:List (List UInt8)) (hl:iz l):aB wd uL SH.φE (rC aM CG) [bR l] []:=aB.rC JJ (Hh l hl)
theorem Ob (e:EXP) (he:e.Ok):aB wd uO SH.φE (rC aX gh) [.agg e.x] []:=by rw [EXP.Dm];exact aB.rC JG (Ho e he)
theorem LQ (n:Nat) (v:SERVE) (hv:v.Ok):aB wd pZ SH.φE (rC (aS n) λv=>cg v n) [.agg v.c,.int .i64 n] []:=aB.rC (E:=λv=>cg v n) (JI n) (DQ v n hv)
def TgZ (l:List TGT) (n:Nat) (i:Int):St:={env:=[(1,.int .i64 n),(11,GZ l),(12,.int .i64 l.length),(13,.int .i64 i)],objs:=[]}
theorem Ha (l:List TGT) (n:Nat) (hl:okL TGT.Ok l):aB wd n7 SH.φE (rIs (G0 l n)) [GZ l,.int .i64 n] []:=by
 have hm:=hl.big
 obtain ⟨u,w,hu,hlo⟩:=bG (V:=V0) (T:=[jV,lY,jj,Lg]) (d:=3) (W:=[]) (f:=n7) (p:=[1,1,0,1,0]) (Lf:=λL=>L) (TgZ l n) l.length (jx l n) (qh 4) (λk=>k (.exit 0) {env:=[],objs:=[]}) (by kernel_rfl)
  (λi a=>.n a.w (.call (dy (l.getD i default).kind) λb q=>.call (bK (!b) 6) λt1 q1=>.call (bK (bif decide ((l.getD i default).var < 1) then true else decide ((l.getD i default).var > (n:Int))) 3) λt2 q2=>
   .call (bK (((l.getD i default).keys.length:Int)==0) 3) λt3 q3=>.call (DU _ (hl.at a.lt).2) λt4 q4=>.call (xW t1 t2 t3 t4) λt qt=>
   have e:jx l n i=bif t !=0 then some t else none:=by
    have y:t=bif t1 !=0 then t1 else bif t2 !=0 then t2 else bif t3 !=0 then t3 else bif t4 !=0 then t4 else 0:=qt _ _ rfl
    rw [y,q1 _ _ rfl,q2 _ _ rfl,q3 _ _ rfl,q4 _ rfl,q _ rfl,cY,Bool.cond_true_left]
    unfold jx
    generalize CG (l.getD i default).keys=m
    cases hm:(m !=0) <;> cases !dX (l.getD i default).kind <;> cases decide ((l.getD i default).var < 1) <;> cases decide ((l.getD i default).var > (n:Int)) <;> cases (l.getD i default).keys.length==0 <;> first | rfl | (show some m=(bif m !=0 then some m else none);rw [hm];rfl)
   .b (t !=0) (λh=>.sp t a (by rw [e,h];rfl)) λh=>.up a hm (by rw [e,h];rfl))) (λi L k kn=>by kernel_rfl)
 exact ff (V:=V0) [jV,lY,jj,Lg] 3 hlo (.b (decide ((l.length:Int) > 8)) (λh=>fL (n:=8) h) λh=>.lp hu λt q=>fK (n:=8) q h) (by kernel_rfl)
def Q0 (l:List RULE) (n:Nat) (i:Int):St:={env:=[(0,lW l),(1,.int .i64 n),(13,lW l),(14,.int .i64 l.length),(15,.int .i64 i)],objs:=[]}
abbrev PSi:List Nat:=[1,0,1,1,0,1,0,0,1,1,0,0,1,1,0,1,0]
def R2Z (l:List RULE) (n:Nat) (x:Nat×Nat):St:=QX l n x.1 x.2
theorem DS (l:List RULE) (n:Nat) (hl:okL RULE.Ok l):aB wd pY SH.φE (rIs (GD l n)) [lW l,.int .i64 n] []:=by
 have hm:=hl.big
 obtain ⟨u2,w2,h2,l2⟩:=ou (V:=V0) (T:=[jV,lY,jj,eSX,N4 n]) (d:=9) (W:=[]) (f:=pY) (p:=PSi) (Lf:=λL=>L) (R2Z l n) (λx=>(x.2<=x.1/\x.1 < l.length)/\sy l x.1 x.2=sy l x.1 0) (λx=>x.1 - x.2) (Mt l n) (λs o=>(o.1:Int)=slI 15 s/\o.2=sy l o.1 0) (by kernel_rfl)
  (λx hx=>.b (decide ((x.2:Int) < (x.1:Int))) (λh=>
    have hk:x.2 < x.1:=nf h
    have st:=x6 l x.1 hk
    .n (cw hk) (.b ((l.getD (0+Int.toNat (x.2:Int)) default).name==(l.getD x.1 default).name) (λhb=>.fi (x.1,true) ⟨rfl,by
      have hb:((l.getD x.2 default).name==(l.getD x.1 default).name)=true:=by rw [Int.toNat_natCast,Nat.zero_add] at hb;exact hb
      show true=sy l x.1 0;rw [<-hx.2,st,hb];rfl⟩)
     λhb=>.nx {env:=[(0,lW l),(1,.int .i64 n),(6,.ref 6 0),(13,lW l),(14,.int .i64 l.length),(15,.int .i64 x.1),(26,Pv l x.1),(27,.int .i64 x.1),(28,.int .i64 (IntKind.wrap .i64 ((x.2:Int)+1)))],objs:=[(6,.cells (l.getD x.1 default).c)]} (x.1,x.2+1) ⟨⟨hk,hx.1.2⟩,by
      have hb:((l.getD x.2 default).name==(l.getD x.1 default).name)=false:=by rw [Int.toNat_natCast,Nat.zero_add] at hb;exact hb
      show sy l x.1 (x.2+1)=_;rw [<-hx.2,st,hb];rfl⟩ (by show x.1 - (x.2+1) < x.1 - x.2;omega) (λ_ h=>h) (by rw [bb (by omega)];rfl)))
   λh=>.fi (x.1,false) ⟨rfl,by show false=sy l x.1 0;rw [<-hx.2,B0];have:=of_decide_eq_false h;omega⟩) (λv L k kn=>by kernel_rfl)
 obtain ⟨u,w,hu,hlo⟩:=kB (V:=V0) (T:=[jV,lY,jj,eSX,N4 n]) (d:=9) (W:=[]) (f:=pY) (p:=[1,0,1,1,0,1,0]) (Lf:=λo:Orc=>[([1,0,1,1,0,1,0],o),(PSi,mkO u2 w2 (Mt l n))]) (B72 l n) l.length (·+1) (s1 _) (eu l n) (qh 4) (λ_ k=>k (.exit 0) {env:=[],objs:=[]}) (λi=>decide ((i:Int) < (l.length:Int))) (λi=>KB i _) (by kernel_rfl)
  (λi a=>.n a.w (.call (dy (l.getD i default).name) λb q=>.b (!b) (λh=>.sp 6 a (by rw [q _ rfl] at h;unfold eu;rw [h];rfl)) λh=>
   have h:(!dX (l.getD i default).name)=false:=by rw [<-q _ rfl];exact h
   .n (c:=decide ((0:Int)<=((0:Nat):Int))&&(decide (((0:Nat):Int)<=(i:Int))&&decide ((i:Int)<=(l.length:Int)))) (slT (Int.le_refl _) (by omega) (by have:=a.lt;omega))
   (.lp (h2 (i,0) ⟨⟨Nat.zero_le _,a.lt⟩,rfl⟩) λo qo=>
   have e1:o.1=i:=Int.ofNat.inj qo.1
   .b o.2 (λhd=>.sp 10 a (by rw [qo.2,e1] at hd;unfold eu;rw [h,hd];rfl)) λhd=>
   have hd:sy l i 0=false:=by rw [qo.2,e1] at hd;exact hd
   .call (f:=uO) (R:=rC aX gh) (ψ:=SH.φE) (l:=[.agg (l.getD o.1 default).when.x]) (os:=[]) (by rw [e1];exact Ob _ (hl.at a.lt).2.1) λt qt=>
   .call (f:=pZ) (R:=rC (aS n) λv=>cg v n) (ψ:=SH.φE) (l:=[.agg (l.getD o.1 default).serve.c,.int .i64 n]) (os:=[]) (by rw [e1];exact LQ n _ (hl.at a.lt).2.2) λs qs=>
   .call (Jr t s) λr qr=>
   have e:eu l n i=bif r !=0 then some r else none:=by
    have y:r=bif t !=0 then t else bif s !=0 then s else 0:=qr _ _ rfl
    have yt:t=gh (l.getD i default).when:=by rw [qt (l.getD o.1 default).when (by rw [EXP.Dm]),e1]
    have ys:s=cg (l.getD i default).serve n:=by rw [qs (l.getD o.1 default).serve rfl,e1]
    rw [y]
    unfold eu
    rw [h,hd,<-yt,<-ys]
    cases h1:(t !=0) <;> cases h2:(s !=0) <;> first | rfl | (show some t=(bif t !=0 then some t else none);rw [h1];rfl) | (show some s=(bif s !=0 then some s else none);rw [h2];rfl)
   .b (r==0) (λh0=>.on (Q0 l n (IntKind.wrap .i64 ((o.1:Int)+1))) a (by rw [e,show r=0 by simpa using h0];rfl) (by rw [e1,bb (by have:=a.lt;omega)];rfl)) λh0=>.sp r a (by rw [e,show (r !=0)=true by simpa using h0];rfl)))) (λi L k kn=>by kernel_rfl)
 exact cM (V:=V0) (T:=[jV,lY,jj,eSX,N4 n]) (d:=9) 0 (ag (hlo _) (ag (l2 _) aE)) aD (.b (decide ((l.length:Int) > 12)) (λh=>fL (n:=12) h) λh=>.lp hu λt q=>fK (n:=12) q h) (by kernel_rfl)
end Go.T

namespace Go.T
open Go Go.Ab Go.Proofs Go.SH
theorem ch {t o r:Int}:(bif (bif t !=0 then t else o) !=0 then (bif t !=0 then t else o) else r)=bif t !=0 then t else (bif o !=0 then o else r):=by
 cases h:(t !=0) with
 | true=>rw [cond_true,h];rfl
 | false=>rfl
theorem wh {b:Bool} {c r:Int} (hc:(c !=0)=true):(bif (bif b then c else 0) !=0 then (bif b then c else 0) else r)=bif b then c else r:=by
 cases b with
 | true=>rw [cond_true,hc]
 | false=>rfl
theorem zr {r:Int}:(bif (0:Int) !=0 then 0 else r)=r:=rfl
theorem My (e:EXP):aB wd yG φB (rIs (mq e)) [.agg e.x] []:=by rw [EXP.Dm];exact Kx e
theorem id0 {t:Int}:(bif t !=0 then t else 0)=t:=by
 cases h:(t !=0) with
 | true=>rfl
 | false=>exact PK h
theorem DR (f:SEG) (hf:f.Ok):aB wd lC SH.φE (rIs (Bd f)) [.agg f.c] []:=by
 obtain ⟨h1,h2,h3,h4,h5⟩:=hf
 exact ea (V:=V0) [jV,lY,jj,Lg,aY wd yG φB (rIs (mq f.when)),eSX] 9 (.call (dy f.key) λx qx=>.call (dy f.kind) λy qy=>.call (bK (bif !x then true else !y) 6) λt1 q1=>.call (DU f.incl h3) λt2 q2=>.call (DU f.excl h4) λt3 q3=>.call (Jq t1 t2 t3) λt qt=>.call (My f.when) λz qz=>
  have e:Bd f=bif t !=0 then t else bif z then 0 else gh f.when:=by
   rw [show t=bif t1 !=0 then t1 else bif t2 !=0 then t2 else bif t3 !=0 then t3 else 0 from qt _ _ rfl,ch,ch,ch,zr,q1 _ _ rfl,wh rfl,q2 _ rfl,q3 _ rfl,qx _ rfl,qy _ rfl,Bool.cond_true_left,show z=mq f.when from qz];rfl
  .b (bif t !=0 then true else z) (λh=>.r t (by
    unfold rIs;rw [e]
    cases h0:(t !=0) with
    | true=>rfl
    | false=>rw [h0] at h;rw [show z=true from h];exact (PK h0).symm)) λh=>.call (Ob f.when h5) λs q=>.r s (by
    unfold rIs;rw [e,q f.when (by rw [EXP.Dm])]
    rw [Bool.cond_true_left] at h
    rw [(Bool.or_eq_false_iff.1 h).1,(Bool.or_eq_false_iff.1 h).2];rfl)) (by kernel_rfl)
theorem Ba (f:EXPT) (hf:f.Ok):aB wd gI SH.φE (rIs (mz f)) [.agg f.c] []:=by
 obtain ⟨h1,h2,h3,h4,h5,h6,h7⟩:=hf
 exact ea (V:=V0) [jV,GK,lY,jj,aY wd uN SH.φE (rIs (oS f.claims)),aY wd iD SH.φE (rIs (dJ f.arms 8)),eSX] 9 (.call (dy f.key) λx qx=>.call (dy f.layer) λy qy=>.call (dy f.flag) λz qz=>.call (bK (bif bif !x then true else !y then true else !z) 6) λt1 q1=>
  .call (jv f.salt h4) λv qv=>.call (bK (!v) 2) λt2 q2=>.call (bK (bif decide (f.status < 1) then true else decide (f.status > 3)) 7) λt3 q3=>.call (DP f.claims (by omega)) λt4 q4=>.call (qS f.arms 8 (by omega)) λt5 q5=>.call (Ob f.when h7) λt6 q6=>.call (MT t1 t2 t3 t4 t5 t6) λt qt=>.r t (by
  have q6:t6=gh f.when:=q6 f.when (by rw [EXP.Dm])
  unfold rIs
  rw [show t=bif t1 !=0 then t1 else bif t2 !=0 then t2 else bif t3 !=0 then t3 else bif t4 !=0 then t4 else bif t5 !=0 then t5 else bif t6 !=0 then t6 else 0 from qt _ _ rfl,id0,q1 _ _ rfl,wh rfl,q2 _ _ rfl,wh rfl,q3 _ _ rfl,wh rfl,qx _ rfl,qy _ rfl,qz _ rfl,qv _ rfl,q6,show t4=oS f.claims from q4,show t5=dJ f.arms 8 from q5,Bool.cond_true_left,Bool.cond_true_left,Bool.cond_true_left,Bool.or_assoc];rfl)) (by kernel_rfl)
def LyZ (f:LAYER) (i:Int):St:={env:=[(1,.ref 1 0),(52,lF f.cooling),(53,.int .i64 f.cooling.length),(54,.int .i64 i)],objs:=[(1,.cells f.c)]}
theorem w6 (f:LAYER) (hf:f.Ok):aB wd mT SH.φE (rIs (gC f)) [.agg f.c] []:=by
 obtain ⟨h1,h2,h3,h4⟩:=hf
 have hm:f.cooling.length<=4611686018427387904:=by omega
 obtain ⟨u,w,hu,hlo⟩:=bG (V:=V0) (T:=[jV,GK,lY,jj]) (d:=9) (W:=[]) (f:=mT) (p:=[1,1,0,1,0]) (Lf:=λL=>L) (LyZ f) f.cooling.length (gS f.cooling) (qh 2) (λk=>k (.exit 0) {env:=[],objs:=[]}) (by kernel_rfl)
  (λi a=>
   have c:=pv (λj=>decide ((f.cooling.getD i (0,0,0)).1 < (f.cooling.getD j (0,0,0)).2.1)) a.lt hm
   .n a.w (.b (bif bif !bif bif decide (0<=(f.cooling.getD i (0,0,0)).1) then decide ((f.cooling.getD i (0,0,0)).1 < (f.cooling.getD i (0,0,0)).2.1) else false then decide ((f.cooling.getD i (0,0,0)).2.1<=10000) else false then true else decide ((f.cooling.getD i (0,0,0)).2.2 < 0) then true else decide ((f.cooling.getD i (0,0,0)).2.2 > 1099511627776))
    (λh=>.sp 3 a (by rw [Np] at h;unfold gS;rw [h];rfl)) λh=>
   have h:mg (f.cooling.getD i (0,0,0)).1 (f.cooling.getD i (0,0,0)).2.1 (f.cooling.getD i (0,0,0)).2.2=false:=by rw [<-Np];exact h
   .gp true a.lt hm (.b (bif decide ((i:Int) > 0) then decide ((f.cooling.getD i (0,0,0)).1 < (f.cooling.getD (Int.toNat (IntKind.wrap .i64 ((i:Int) - 1))) (0,0,0)).2.1) else false)
    (λh2=>.sp 9 a (by rw [c] at h2;unfold gS;rw [h,h2];rfl)) λh2=>.up a hm (by rw [c] at h2;unfold gS;rw [h,h2];rfl)))) (λi L k kn=>by kernel_rfl)
 exact ff (V:=V0) [jV,GK,lY,jj] 9 hlo (.call (dy f.key) λx qx=>.call (dy f.kind) λy qy=>.call (bK (bif !x then true else !y) 6) λt1 q1=>.call (jv f.salt h3) λz qz=>.call (bK (!z) 2) λt2 q2=>
  .call (bK (bif bif bif decide (f.hold < 0) then true else decide (f.hold > 10000) then true else decide (f.cool < 0) then true else decide (f.cool > 1099511627776)) 3) λt3 q3=>.call (bK (decide ((f.cooling.length:Int) > 32)) 5) λt4 q4=>.call (xW t1 t2 t3 t4) λt qt=>
  have e:gC f=bif t !=0 then t else bif (lR f.cooling).1 then (lR f.cooling).2 else 0:=by
   rw [show t=bif t1 !=0 then t1 else bif t2 !=0 then t2 else bif t3 !=0 then t3 else bif t4 !=0 then t4 else 0 from qt _ _ rfl,ch,ch,ch,ch,zr,q1 _ _ rfl,wh rfl,q2 _ _ rfl,wh rfl,q3 _ _ rfl,wh rfl,q4 _ _ rfl,wh rfl,qx _ rfl,qy _ rfl,qz _ rfl,nr]
   simp only [Bool.cond_true_left,Bool.or_assoc]
   rfl
  .b (t !=0) (λh=>.r t (by unfold rIs;rw [e,h];rfl)) λh=>.lp hu λs qs=>have qs:s=lR f.cooling:=qs
  .b s.1 (λh3=>.r s.2 (by rw [qs] at h3 ⊢;unfold rIs;rw [e,h,h3];rfl)) λh3=>.r 0 (by rw [qs] at h3;unfold rIs;rw [e,h,h3];rfl)) (by kernel_rfl)
def FlZ (f:FLAG) (i:Int):St:={env:=[(1,.ref 1 0),(3,.int .i64 f.vars.length),(38,gV f.vars),(39,.int .i64 f.vars.length),(40,.int .i64 i)],objs:=[(1,.cells f.c)]}
noncomputable abbrev Pu (f:FLAG):List Ent:=[jV,lY,jj,N7,aY wd gq SH.φE (rIs (GG f.prqs)),aY wd n7 SH.φE (rIs (G0 f.tgts f.vars.length)),aY wd pY SH.φE (rIs (GD f.rules f.vars.length)),N4 f.vars.length]
theorem A9 (f:FLAG) (hf:f.Ok):aB wd qX SH.φE (rIs (kV f)) [.agg f.c] []:=by
 obtain ⟨h1,h2,h3,h4,h5,h6⟩:=hf
 have hm:=h2.big
 obtain ⟨u,w,hu,hlo⟩:=bG (V:=V0) (T:=Pu f) (d:=9) (W:=[]) (f:=qX) (p:=[1,1,1,0,1,0]) (Lf:=λL=>L) (FlZ f) f.vars.length (jt f) (qh 2) (λk=>k (.exit 0) (Qj f)) (by kernel_rfl)
  (λi a=>.n a.w (.call (B5 _ (h2.at a.lt)) λt1 q1=>.call (bK ((f.vars.getD i default).kind !=f.kind) 8) λt2 q2=>.call (Jr t1 t2) λt qt=>
   have e:jt f i=bif t !=0 then some t else none:=by
    rw [show t=bif t1 !=0 then t1 else bif t2 !=0 then t2 else 0 from qt _ _ rfl]
    unfold jt
    rw [<-q1 _ rfl,q2 _ _ rfl]
    cases h:(t1 !=0) with
    | true=>rw [cond_true,cond_true,h];rfl
    | false=>cases (f.vars.getD i default).kind !=f.kind <;> rfl
   .b (t !=0) (λh=>.sp t a (by rw [e,h];rfl)) λh=>.up a hm (by rw [e,h];rfl))) (λi L k kn=>by kernel_rfl)
 exact ff (V:=V0) (Pu f) 9 hlo (.call (dy f.key) λx qx=>.call (bK (!x) 6) λt1 q1=>.call (bK (bif decide (f.kind < 1) then true else decide (f.kind > 5)) 7) λt2 q2=>.call (bK (decide ((f.vars.length:Int) > 8)) 5) λt3 q3=>.call (bK ((f.vars.length:Int)==0) 3) λt4 q4=>.call (xW t1 t2 t3 t4) λt qt=>
  have e:kV f=bif t !=0 then t else bif (hJ f).1 then (hJ f).2 else bif decide (f.off < 1)||decide (f.off > f.vars.length) then 3 else bif GG f.prqs !=0 then GG f.prqs else bif G0 f.tgts f.vars.length !=0 then G0 f.tgts f.vars.length else bif GD f.rules f.vars.length !=0 then GD f.rules f.vars.length else cg f.dflt f.vars.length:=by
   rw [show t=bif t1 !=0 then t1 else bif t2 !=0 then t2 else bif t3 !=0 then t3 else bif t4 !=0 then t4 else 0 from qt _ _ rfl,ch,ch,ch,ch,zr,q1 _ _ rfl,wh rfl,q2 _ _ rfl,wh rfl,q3 _ _ rfl,wh rfl,q4 _ _ rfl,wh rfl,qx _ rfl,vI,cY,Bool.cond_true_left]
   have hs:=Cc f
   unfold kV GA
   cases decide (f.vars.length > 8) <;> cases f.vars.length==0 <;> cases hv:(hJ f).1 <;> cases (decide (f.off < 1)||decide (f.off > f.vars.length)) <;> first | rfl | (simp only [cond_true,cond_false];rw [hs hv];rfl)
  .b (t !=0) (λh=>.r t (by unfold rIs;rw [e,h];rfl)) λh=>.lp hu λs qs=>have qs:s=hJ f:=qs
  .b s.1 (λh3=>.r s.2 (by rw [qs] at h3 ⊢;unfold rIs;rw [e,h,h3];rfl)) λh3'=>.call (bK (bif decide (f.off < 1) then true else decide (f.off > (f.vars.length:Int))) 3) λt1 q1=>.call (Hc f.prqs h3) λt2 q2=>.call (Ha f.tgts _ h4) λt3 q3=>.call (DS f.rules _ h5) λt4 q4=>.call (xW t1 t2 t3 t4) λr qr=>
  have e2:kV f=bif r !=0 then r else cg f.dflt f.vars.length:=by
   rw [show r=bif t1 !=0 then t1 else bif t2 !=0 then t2 else bif t3 !=0 then t3 else bif t4 !=0 then t4 else 0 from qr _ _ rfl,ch,ch,ch,ch,zr,q1 _ _ rfl,wh rfl,show t2=GG f.prqs from q2,show t3=G0 f.tgts f.vars.length from q3,show t4=GD f.rules f.vars.length from q4,Bool.cond_true_left,e,h,show (hJ f).1=false by rw [<-qs];exact h3'];rfl
  .b (r !=0) (λh=>.r r (by unfold rIs;rw [e2,h];rfl)) λh=>.call (LQ _ f.dflt h6) λt5 q5=>.r t5 (by unfold rIs;rw [e2,h,q5 _ rfl];rfl)) (by kernel_rfl)
end Go.T
