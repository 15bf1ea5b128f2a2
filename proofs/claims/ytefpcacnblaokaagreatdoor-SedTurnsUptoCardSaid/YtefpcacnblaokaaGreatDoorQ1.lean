/-
  Texts of this seat put together: Bulk, Shelf, Base, Gl.
-/
import Derived.Test.YtefpcacnblaokaaGreatDoorRows
import Derived.Shelf.Strings.Builder1
import Derived.Shelf.Strings.Builder2
import Derived.Shelf.Strings.OnBuilder
import Derived.Shelf.Strings.Trim
import Derived.Shelf.Small.Utf8
import Derived.Shelf.Small.Bits
import Derived.Shelf.Small.Strs
import Derived.Shelf.Small.Wraps
import Derived.Shelf.Strings.BuilderF
import Derived.Shelf.Strings.BuilderK
import Derived.Shelf.Utf8.RuneCount
import Derived.Shelf.Strings.Builder2Cap
import Derived.Shelf.Strconv.Itoa0
import Derived.Shelf.Strconv.Itoa1
import Derived.Shelf.LaysM
import Derived.Shelf.Strconv.Itoa2
import Derived.Shelf.Strconv.Itoa3
import Derived.Shelf.Strconv.Itoa4
import Derived.Shelf.Strconv.ParseIntEmpty
import Derived.Shelf.Strconv.Clone
import Derived.Shelf.Strconv.SyntaxError
import Derived.Shelf.LaysC
import Derived.Shelf.Strconv.ToError
import Derived.Shelf.Strconv.Lower
import Derived.Shelf.Strconv.ParseUint10
import Derived.Shelf.Strconv.ParseUint10Empty
import Derived.Shelf.Strconv.ParseUint10Any
import Derived.Shelf.Strconv.ParseInt10
import Derived.Shelf.Strconv.RangeError
import Derived.Shelf.Strconv.ToErrorRange
import Derived.Shelf.Strconv.ParseUintEmpty
import Derived.Shelf.Strconv.ParseUint10b64
import Derived.Shelf.Strconv.ParseUint10b32
import Derived.Shelf.Strconv.ParseUint10b16
import Derived.Shelf.Strconv.ParseUint10b8
import Derived.Shelf.Strconv.ParseUint10At
import Derived.Shelf.Strconv.ParseInt10At64
import Derived.Shelf.Strconv.ParseInt10At32
import Derived.Shelf.Strconv.ParseInt10At16
import Derived.Shelf.Strconv.ParseInt10At8
import Derived.Shelf.Strconv.ParseInt10All
import Derived.Shelf.Strconv.ParseIntPublic10
import Derived.Shelf.Strconv.ErrVarParseInt
import Derived.Shelf.Strings.Search1
import Derived.Shelf.Strings.Search2
import Derived.Shelf.Strings.Search3
import Derived.Shelf.Strings.Cut
import Derived.Shelf.Strings.Count
import Derived.Shelf.Strings.Shaped
import Derived.Shelf.Sort.Plain
import Derived.Shelf.Strings.Prefix
import Derived.Shelf.Strings.Split
import Derived.Shelf.Strings.SplitShaped
import Derived.Shelf.Unicode.Decode
import Derived.Shelf.Strings.Runes
import Derived.Shelf.Strings.RuneCount
import Derived.Shelf.Strings.IndexAny
import Derived.Shelf.Strings.AsciiSet
import Derived.Shelf.Strings.IndexAnyAll
import Derived.Shelf.Strings.Explode
import Derived.Shelf.Unicode.DecodeSlow
import Derived.Shelf.Unicode.DecodeAny
import Derived.Shelf.Unicode.DecodeLast
import Derived.Shelf.Strings.BuilderCap
import Derived.Ground.Names2Prog
import Derived.Shelf.Slices.Clone
import Derived.Shelf.Slices.In.SortNone
import Derived.Shelf.Bytes.SlIndexSmall
import Derived.Shelf.Bytes.SlIndexAt
import Derived.Shelf.Bytes.SlSearch0
import Derived.Shelf.Bytes.SlSearch1
import Derived.Shelf.Bytes.SlSearch2
import Derived.Shelf.Bytes.SlIndexWhole
import Derived.Ground.SlbCloneProg
import Derived.Shelf.Bytes.SlClone
import Derived.Ground.SlgnProg
import Derived.Shelf.SlicesE.Clone
import Derived.Shelf.Bytes.SlEqualAll
import Derived.Ground.SlbtProg
import Derived.Shelf.Bytes.SlCut
import Derived.Shelf.Bytes.Small
import Derived.Shelf.Bytes.IndexByte
import Derived.Test.YtefpcacnblaokaaGreatDoorProg
import Derived.Shelf.Strings.SlTrimAscii
import Derived.WalkKit
import Derived.WalkSpells
import Derived.WalkLawsBesides
import Derived.Handy
import Derived.Lib.Hide
import Derived.BigQuiet
import Derived.OneCell
import Derived.BigGuardPart
import Derived.Deep.DeepCutAuto
import Derived.Deep.LoopGhost
import Derived.Laws.BytesArg
import Derived.Maps.AppendAt
import Derived.Deep.RegionLaw
import Derived.Deep.AppendLies
import Derived.Deep.RegionHeld3
import Derived.Deep.OwnRows
import Derived.Lib.QuietBelow
import Derived.Deep.RegionWith
import Derived.Lib.ParseIntBTie
import Derived.Lib.LaidTab

/-
  What the bound of the second form gives.
-/
namespace Go.Proofs.YtefpcacnblaokaaGreatDoor.bulks
theorem one_le {H:Type} (d:DataW H):1≤Rows.uptoBulk d:=by
 cases d with
 | lit l=>cases l <;> simp [Rows.uptoBulk]
 | nil=>simp [Rows.uptoBulk]
 | ptr d=>simp [Rows.uptoBulk]
 | slice elems spare=>simp [Rows.uptoBulk]
 | agg parts=>simp [Rows.uptoBulk]
 | iface t d=>simp [Rows.uptoBulk]
 | map entries=>simp [Rows.uptoBulk]
 | held h=>simp [Rows.uptoBulk]
theorem append {H:Type} (l r:List (DataW H)):Rows.uptoBulkAll (l ++ r)=Rows.uptoBulkAll l+Rows.uptoBulkAll r:=by
 induction l with
 | nil=>simp [Rows.uptoBulkAll]
 | cons x l ih=>simp only [List.cons_append,Rows.uptoBulkAll,ih];omega
theorem length_le {H:Type} (l:List (DataW H)):l.length≤Rows.uptoBulkAll l:=by
 induction l with
 | nil=>simp [Rows.uptoBulkAll]
 | cons x r ih=>have:=one_le x;simp only [Rows.uptoBulkAll,List.length_cons];omega
theorem slice_le {H:Type} (elems spare:List (DataW H)):elems.length+spare.length+1≤Rows.uptoBulk (.slice elems spare):=by
 have h1:=length_le elems
 have h2:=length_le spare
 simp only [Rows.uptoBulk]
 omega
theorem bound {H:Type} {l:List (DataW H)} (hk:Rows.uptoSmall H l=true):Rows.uptoBulkAll l≤1048576:=by
 simpa [Rows.uptoSmall] using hk
theorem room {n b:Nat} (hn:n≤2097152) (hb:b≤4096):(n+n / 4+192) * b≤281474976710656:=by
 have h:(n+n / 4+192) * b≤2621632 * 4096:=Nat.mul_le_mul (by omega) hb
 omega
end Go.Proofs.YtefpcacnblaokaaGreatDoor.bulks

/-
  DERIVED: THE SHELF's CONTRACTS AT THIS DUMP, IN PLAIN WORDS (tools/lay-plain.mjs out of 'TryzShelf.lean', which tools/lay-shelf.mjs wrote): THE SAME DECLARATIONS UNDER THE SAME NAMES: 'import', 'namespace', 'open', 'def', 'theorem' AND NOTHING ELSE: no command of the shelf's: FOR A HAND-IN. Each laying: the table of numbers ('.._ren') and one theorem, a field a fact of the dump's own or the kernel's comparison; each contract: ONE APPLICATION.
-/
namespace Go.Proofs
open Go.Shelf
def Tryz.lays161_ren:Go.Shelf.Ren:=⟨fun | 161=>30 | 231=>53 | 227=>54 | 233=>55 | 235=>56 | 228=>94 | 197=>95 | 151=>96 | 260=>164 | 152=>165 | 137=>58 | 119=>225 | 224=>226 | 225=>227 | 217=>102 | 266=>166 | n=>n,fun | 9=>9 | 4=>4 | 3=>3 | 5=>5 | 117=>128 | 116=>127 | 0=>0 | 124=>131 | 105=>220 | 21=>21 | 119=>84 | 46=>248 | 139=>343 | 138=>342 | n=>n,fun | 3=>0 | 4=>1 | n=>n⟩
theorem Tryz.lays161:Go.Proofs.Lays.n161 Tryz.prog Tryz.lays161_ren:={
 mixed:=by kernel_rfl
 f119:=Tryz.func225.trans (congrArg some (by kernel_rfl))
 f137:=Tryz.func58.trans (congrArg some (by kernel_rfl))
 f151:=Tryz.func96.trans (congrArg some (by kernel_rfl))
 f152:=Tryz.func165.trans (congrArg some (by kernel_rfl))
 f161:=Tryz.func30.trans (congrArg some (by kernel_rfl))
 f197:=Tryz.func95.trans (congrArg some (by kernel_rfl))
 f217:=Tryz.func102.trans (congrArg some (by kernel_rfl))
 f224:=Tryz.func226.trans (congrArg some (by kernel_rfl))
 f225:=Tryz.func227.trans (congrArg some (by kernel_rfl))
 f227:=Tryz.func54.trans (congrArg some (by kernel_rfl))
 f228:=Tryz.func94.trans (congrArg some (by kernel_rfl))
 f231:=Tryz.func53.trans (congrArg some (by kernel_rfl))
 f233:=Tryz.func55.trans (congrArg some (by kernel_rfl))
 f235:=Tryz.func56.trans (congrArg some (by kernel_rfl))
 f260:=Tryz.func164.trans (congrArg some (by kernel_rfl))
 f266:=Tryz.func166.trans (congrArg some (by kernel_rfl))
 t0:=Tryz.underlying0
 a0:=Tryz.isAgg0
 z0:=Tryz.sizeOf0
 v0:=Tryz.zeroValue0
 t3:=Tryz.underlying3
 a3:=Tryz.isAgg3
 z3:=Tryz.sizeOf3
 v3:=Tryz.zeroValue3
 t4:=Tryz.underlying4
 a4:=Tryz.isAgg4
 z4:=Tryz.sizeOf4
 v4:=Tryz.zeroValue4
 t5:=Tryz.underlying5
 a5:=Tryz.isAgg5
 z5:=Tryz.sizeOf5
 v5:=Tryz.zeroValue5
 t9:=Tryz.underlying9
 a9:=Tryz.isAgg9
 z9:=Tryz.sizeOf9
 v9:=Tryz.zeroValue9
 t21:=Tryz.underlying21
 a21:=Tryz.isAgg21
 z21:=Tryz.sizeOf21
 v21:=Tryz.zeroValue21
 t46:=Tryz.underlying248
 a46:=Tryz.isAgg248
 z46:=Tryz.sizeOf248
 v46:=Tryz.zeroValue248
 t105:=Tryz.underlying220
 a105:=Tryz.isAgg220
 z105:=Tryz.sizeOf220
 v105:=Tryz.zeroValue220
 t116:=Tryz.underlying127
 a116:=Tryz.isAgg127
 z116:=Tryz.sizeOf127
 t117:=Tryz.underlying128
 a117:=Tryz.isAgg128
 z117:=Tryz.sizeOf128
 v117:=Tryz.zeroValue128
 t119:=Tryz.underlying84
 a119:=Tryz.isAgg84
 z119:=Tryz.sizeOf84
 t124:=Tryz.underlying131
 a124:=Tryz.isAgg131
 z124:=Tryz.sizeOf131
 v124:=Tryz.zeroValue131
 t138:=Tryz.underlying342
 a138:=Tryz.isAgg342
 z138:=Tryz.sizeOf342
 v138:=Tryz.zeroValue342
 t139:=Tryz.underlying343
 a139:=Tryz.isAgg343
 z139:=Tryz.sizeOf343
 v139:=Tryz.zeroValue343
 g3:=by kernel_rfl
 g4:=by kernel_rfl }
def Tryz.lays160_ren:Go.Shelf.Ren:=⟨fun | 160=>104 | 232=>168 | 231=>53 | 227=>54 | 234=>169 | 233=>55 | 236=>170 | 235=>56 | 228=>94 | 271=>228 | 151=>96 | 197=>95 | 120=>271 | 152=>165 | 260=>164 | 137=>58 | 119=>225 | 224=>226 | 225=>227 | 217=>102 | 266=>166 | n=>n,fun | 9=>9 | 4=>4 | 3=>3 | 5=>5 | 117=>128 | 116=>127 | 0=>0 | 124=>131 | 21=>21 | 105=>220 | 46=>248 | 119=>84 | 139=>343 | 138=>342 | n=>n,fun | 3=>0 | 4=>1 | n=>n⟩
theorem Tryz.lays160:Go.Proofs.Lays.n160 Tryz.prog Tryz.lays160_ren:={
 mixed:=by kernel_rfl
 f119:=Tryz.func225.trans (congrArg some (by kernel_rfl))
 f120:=Tryz.func271.trans (congrArg some (by kernel_rfl))
 f137:=Tryz.func58.trans (congrArg some (by kernel_rfl))
 f151:=Tryz.func96.trans (congrArg some (by kernel_rfl))
 f152:=Tryz.func165.trans (congrArg some (by kernel_rfl))
 f160:=Tryz.func104.trans (congrArg some (by kernel_rfl))
 f197:=Tryz.func95.trans (congrArg some (by kernel_rfl))
 f217:=Tryz.func102.trans (congrArg some (by kernel_rfl))
 f224:=Tryz.func226.trans (congrArg some (by kernel_rfl))
 f225:=Tryz.func227.trans (congrArg some (by kernel_rfl))
 f227:=Tryz.func54.trans (congrArg some (by kernel_rfl))
 f228:=Tryz.func94.trans (congrArg some (by kernel_rfl))
 f231:=Tryz.func53.trans (congrArg some (by kernel_rfl))
 f232:=Tryz.func168.trans (congrArg some (by kernel_rfl))
 f233:=Tryz.func55.trans (congrArg some (by kernel_rfl))
 f234:=Tryz.func169.trans (congrArg some (by kernel_rfl))
 f235:=Tryz.func56.trans (congrArg some (by kernel_rfl))
 f236:=Tryz.func170.trans (congrArg some (by kernel_rfl))
 f260:=Tryz.func164.trans (congrArg some (by kernel_rfl))
 f266:=Tryz.func166.trans (congrArg some (by kernel_rfl))
 f271:=Tryz.func228.trans (congrArg some (by kernel_rfl))
 t0:=Tryz.underlying0
 a0:=Tryz.isAgg0
 z0:=Tryz.sizeOf0
 v0:=Tryz.zeroValue0
 t3:=Tryz.underlying3
 a3:=Tryz.isAgg3
 z3:=Tryz.sizeOf3
 v3:=Tryz.zeroValue3
 t4:=Tryz.underlying4
 a4:=Tryz.isAgg4
 z4:=Tryz.sizeOf4
 v4:=Tryz.zeroValue4
 t5:=Tryz.underlying5
 a5:=Tryz.isAgg5
 z5:=Tryz.sizeOf5
 v5:=Tryz.zeroValue5
 t9:=Tryz.underlying9
 a9:=Tryz.isAgg9
 z9:=Tryz.sizeOf9
 v9:=Tryz.zeroValue9
 t21:=Tryz.underlying21
 a21:=Tryz.isAgg21
 z21:=Tryz.sizeOf21
 v21:=Tryz.zeroValue21
 t46:=Tryz.underlying248
 a46:=Tryz.isAgg248
 z46:=Tryz.sizeOf248
 v46:=Tryz.zeroValue248
 t105:=Tryz.underlying220
 a105:=Tryz.isAgg220
 z105:=Tryz.sizeOf220
 v105:=Tryz.zeroValue220
 t116:=Tryz.underlying127
 a116:=Tryz.isAgg127
 z116:=Tryz.sizeOf127
 t117:=Tryz.underlying128
 a117:=Tryz.isAgg128
 z117:=Tryz.sizeOf128
 v117:=Tryz.zeroValue128
 t119:=Tryz.underlying84
 a119:=Tryz.isAgg84
 z119:=Tryz.sizeOf84
 t124:=Tryz.underlying131
 a124:=Tryz.isAgg131
 z124:=Tryz.sizeOf131
 v124:=Tryz.zeroValue131
 t138:=Tryz.underlying342
 a138:=Tryz.isAgg342
 z138:=Tryz.sizeOf342
 v138:=Tryz.zeroValue342
 t139:=Tryz.underlying343
 a139:=Tryz.isAgg343
 z139:=Tryz.sizeOf343
 v139:=Tryz.zeroValue343
 g3:=by kernel_rfl
 g4:=by kernel_rfl }
def Tryz.lays137_ren:Go.Shelf.Ren:=⟨fun | 137=>58 | 217=>102 | 266=>166 | n=>n,fun | 9=>9 | 5=>5 | 3=>3 | n=>n,fun | n=>n⟩
theorem Tryz.lays137:Go.Proofs.Lays.n137 Tryz.prog Tryz.lays137_ren:={
 mixed:=by kernel_rfl
 f137:=Tryz.func58.trans (congrArg some (by kernel_rfl))
 f217:=Tryz.func102.trans (congrArg some (by kernel_rfl))
 f266:=Tryz.func166.trans (congrArg some (by kernel_rfl))
 t3:=Tryz.underlying3
 a3:=Tryz.isAgg3
 z3:=Tryz.sizeOf3
 v3:=Tryz.zeroValue3
 t5:=Tryz.underlying5
 a5:=Tryz.isAgg5
 z5:=Tryz.sizeOf5
 v5:=Tryz.zeroValue5
 t9:=Tryz.underlying9
 a9:=Tryz.isAgg9
 z9:=Tryz.sizeOf9
 v9:=Tryz.zeroValue9 }
def Tryz.lays103_ren:Go.Shelf.Ren:=⟨fun | 103=>177 | 210=>235 | 206=>137 | n=>n,fun | 9=>9 | 4=>4 | 24=>290 | 3=>3 | n=>n,fun | n=>n⟩
theorem Tryz.lays103:Go.Proofs.Lays.n103 Tryz.prog Tryz.lays103_ren:={
 mixed:=by kernel_rfl
 f103:=Tryz.func177.trans (congrArg some (by kernel_rfl))
 f206:=Tryz.func137.trans (congrArg some (by kernel_rfl))
 f210:=Tryz.func235.trans (congrArg some (by kernel_rfl))
 t3:=Tryz.underlying3
 a3:=Tryz.isAgg3
 z3:=Tryz.sizeOf3
 v3:=Tryz.zeroValue3
 t4:=Tryz.underlying4
 a4:=Tryz.isAgg4
 z4:=Tryz.sizeOf4
 v4:=Tryz.zeroValue4
 t9:=Tryz.underlying9
 a9:=Tryz.isAgg9
 z9:=Tryz.sizeOf9
 v9:=Tryz.zeroValue9
 t24:=Tryz.underlying290
 a24:=Tryz.isAgg290
 z24:=Tryz.sizeOf290
 v24:=Tryz.zeroValue290 }
def Tryz.laysC174_ren:Go.Shelf.Ren:=⟨fun | 174=>278 | 247=>310 | 245=>311 | 287=>337 | 279=>338 | 280=>339 | 281=>340 | 282=>341 | 321=>354 | 322=>355 | 316=>356 | 171=>358 | 205=>357 | 243=>366 | 246=>298 | 283=>327 | 284=>328 | 285=>329 | 286=>330 | 129=>199 | 317=>346 | 318=>347 | 319=>348 | 320=>349 | 337=>361 | 338=>362 | n=>n,fun | 9=>9 | 3=>3 | 2=>2 | 75=>265 | 85=>384 | 4=>4 | 167=>428 | 5=>5 | 53=>321 | 175=>429 | 46=>248 | 168=>431 | 37=>22 | 0=>0 | 210=>445 | 21=>21 | 127=>333 | 145=>459 | 143=>457 | 171=>416 | 173=>418 | 212=>437 | 51=>319 | 20=>20 | 213=>438 | 232=>460 | 233=>461 | 80=>134 | n=>n,fun | 15=>4 | 16=>5 | 17=>3 | 18=>6 | 19=>7 | n=>n⟩
theorem Tryz.laysC174:Go.Proofs.LaysC.n174 Tryz.prog Tryz.laysC174_ren:={
 mixed:=by kernel_rfl
 f129:=Tryz.func199.trans (congrArg some (by kernel_rfl))
 f171:=Tryz.func358.trans (congrArg some (by kernel_rfl))
 f174:=Tryz.func278.trans (congrArg some (by kernel_rfl))
 f205:=Tryz.func357.trans (congrArg some (by kernel_rfl))
 f243:=Tryz.func366.trans (congrArg some (by kernel_rfl))
 f245:=Tryz.func311.trans (congrArg some (by kernel_rfl))
 f246:=Tryz.func298.trans (congrArg some (by kernel_rfl))
 f247:=Tryz.func310.trans (congrArg some (by kernel_rfl))
 f279:=Tryz.func338.trans (congrArg some (by kernel_rfl))
 f280:=Tryz.func339.trans (congrArg some (by kernel_rfl))
 f281:=Tryz.func340.trans (congrArg some (by kernel_rfl))
 f282:=Tryz.func341.trans (congrArg some (by kernel_rfl))
 f283:=Tryz.func327.trans (congrArg some (by kernel_rfl))
 f284:=Tryz.func328.trans (congrArg some (by kernel_rfl))
 f285:=Tryz.func329.trans (congrArg some (by kernel_rfl))
 f286:=Tryz.func330.trans (congrArg some (by kernel_rfl))
 f287:=Tryz.func337.trans (congrArg some (by kernel_rfl))
 f316:=Tryz.func356.trans (congrArg some (by kernel_rfl))
 f317:=Tryz.func346.trans (congrArg some (by kernel_rfl))
 f318:=Tryz.func347.trans (congrArg some (by kernel_rfl))
 f319:=Tryz.func348.trans (congrArg some (by kernel_rfl))
 f320:=Tryz.func349.trans (congrArg some (by kernel_rfl))
 f321:=Tryz.func354.trans (congrArg some (by kernel_rfl))
 f322:=Tryz.func355.trans (congrArg some (by kernel_rfl))
 f337:=Tryz.func361.trans (congrArg some (by kernel_rfl))
 f338:=Tryz.func362.trans (congrArg some (by kernel_rfl))
 t0:=Tryz.underlying0
 a0:=Tryz.isAgg0
 z0:=Tryz.sizeOf0
 v0:=Tryz.zeroValue0
 t2:=Tryz.underlying2
 a2:=Tryz.isAgg2
 z2:=Tryz.sizeOf2
 v2:=Tryz.zeroValue2
 t3:=Tryz.underlying3
 a3:=Tryz.isAgg3
 z3:=Tryz.sizeOf3
 v3:=Tryz.zeroValue3
 t4:=Tryz.underlying4
 a4:=Tryz.isAgg4
 z4:=Tryz.sizeOf4
 v4:=Tryz.zeroValue4
 t5:=Tryz.underlying5
 a5:=Tryz.isAgg5
 z5:=Tryz.sizeOf5
 v5:=Tryz.zeroValue5
 t9:=Tryz.underlying9
 a9:=Tryz.isAgg9
 z9:=Tryz.sizeOf9
 v9:=Tryz.zeroValue9
 t20:=Tryz.underlying20
 a20:=Tryz.isAgg20
 z20:=Tryz.sizeOf20
 v20:=Tryz.zeroValue20
 t21:=Tryz.underlying21
 a21:=Tryz.isAgg21
 z21:=Tryz.sizeOf21
 v21:=Tryz.zeroValue21
 t37:=Tryz.underlying22
 a37:=Tryz.isAgg22
 z37:=Tryz.sizeOf22
 v37:=Tryz.zeroValue22
 t46:=Tryz.underlying248
 a46:=Tryz.isAgg248
 z46:=Tryz.sizeOf248
 v46:=Tryz.zeroValue248
 t51:=Tryz.underlying319
 a51:=Tryz.isAgg319
 z51:=Tryz.sizeOf319
 v51:=Tryz.zeroValue319
 t53:=Tryz.underlying321
 a53:=Tryz.isAgg321
 z53:=Tryz.sizeOf321
 v53:=Tryz.zeroValue321
 t75:=Tryz.underlying265
 a75:=Tryz.isAgg265
 z75:=Tryz.sizeOf265
 v75:=Tryz.zeroValue265
 t85:=Tryz.underlying384
 a85:=Tryz.isAgg384
 z85:=Tryz.sizeOf384
 v85:=Tryz.zeroValue384
 t127:=Tryz.underlying333
 a127:=Tryz.isAgg333
 z127:=Tryz.sizeOf333
 v127:=Tryz.zeroValue333
 t143:=Tryz.underlying457
 a143:=Tryz.isAgg457
 z143:=Tryz.sizeOf457
 v143:=Tryz.zeroValue457
 t145:=Tryz.underlying459
 a145:=Tryz.isAgg459
 z145:=Tryz.sizeOf459
 v145:=Tryz.zeroValue459
 t167:=Tryz.underlying428
 a167:=Tryz.isAgg428
 z167:=Tryz.sizeOf428
 v167:=Tryz.zeroValue428
 t168:=Tryz.underlying431
 a168:=Tryz.isAgg431
 z168:=Tryz.sizeOf431
 v168:=Tryz.zeroValue431
 t171:=Tryz.underlying416
 a171:=Tryz.isAgg416
 z171:=Tryz.sizeOf416
 v171:=Tryz.zeroValue416
 t173:=Tryz.underlying418
 a173:=Tryz.isAgg418
 z173:=Tryz.sizeOf418
 v173:=Tryz.zeroValue418
 t175:=Tryz.underlying429
 a175:=Tryz.isAgg429
 z175:=Tryz.sizeOf429
 v175:=Tryz.zeroValue429
 t210:=Tryz.underlying445
 a210:=Tryz.isAgg445
 z210:=Tryz.sizeOf445
 v210:=Tryz.zeroValue445
 t212:=Tryz.underlying437
 a212:=Tryz.isAgg437
 z212:=Tryz.sizeOf437
 v212:=Tryz.zeroValue437
 t213:=Tryz.underlying438
 a213:=Tryz.isAgg438
 z213:=Tryz.sizeOf438
 t232:=Tryz.underlying460
 a232:=Tryz.isAgg460
 z232:=Tryz.sizeOf460
 v232:=Tryz.zeroValue460
 t233:=Tryz.underlying461
 a233:=Tryz.isAgg461
 z233:=Tryz.sizeOf461
 v233:=Tryz.zeroValue461
 g15:=by kernel_rfl
 g16:=by kernel_rfl
 g17:=by kernel_rfl
 g18:=by kernel_rfl
 g19:=by kernel_rfl
 t80:=Tryz.underlying134
 a80:=Tryz.isAgg134
 z80:=Tryz.sizeOf134
 v80:=Tryz.zeroValue134
 i0:=by kernel_rfl
 i2:=by kernel_rfl
 i3:=by kernel_rfl
 i4:=by kernel_rfl
 i5:=by kernel_rfl
 i9:=by kernel_rfl
 i20:=by kernel_rfl
 i21:=by kernel_rfl
 i37:=by kernel_rfl
 i46:=by kernel_rfl
 i51:=by kernel_rfl
 i53:=by kernel_rfl
 i75:=by kernel_rfl
 i80:=by kernel_rfl
 i85:=by kernel_rfl
 i127:=by kernel_rfl
 i143:=by kernel_rfl
 i145:=by kernel_rfl
 i167:=by kernel_rfl
 i168:=by kernel_rfl
 i171:=by kernel_rfl
 i173:=by kernel_rfl
 i175:=by kernel_rfl
 i210:=by kernel_rfl
 i212:=by kernel_rfl
 i232:=by kernel_rfl
 i233:=by kernel_rfl
 m15:=by kernel_rfl
 m16:=by kernel_rfl
 m17:=by kernel_rfl
 m18:=by kernel_rfl
 m19:=by kernel_rfl
 c0:=by kernel_rfl
 c2:=by kernel_rfl
 c3:=by kernel_rfl
 c4:=by kernel_rfl
 c5:=by kernel_rfl
 c9:=by kernel_rfl
 c20:=by kernel_rfl
 c21:=by kernel_rfl
 c37:=by kernel_rfl
 c46:=by kernel_rfl
 c51:=by kernel_rfl
 c53:=by kernel_rfl
 c75:=by kernel_rfl
 c80:=by kernel_rfl
 c85:=by kernel_rfl
 c127:=by kernel_rfl
 c143:=by kernel_rfl
 c145:=by kernel_rfl
 c167:=by kernel_rfl
 c168:=by kernel_rfl
 c171:=by kernel_rfl
 c173:=by kernel_rfl
 c175:=by kernel_rfl
 c210:=by kernel_rfl
 c212:=by kernel_rfl
 c213:=by kernel_rfl
 c232:=by kernel_rfl
 c233:=by kernel_rfl }
def Tryz.lays145_ren:Go.Shelf.Ren:=⟨fun | 145=>363 | 220=>367 | 219=>314 | 217=>102 | 225=>227 | 224=>226 | 267=>342 | 266=>166 | 314=>359 | n=>n,fun | 9=>9 | 4=>4 | 59=>449 | 3=>3 | 5=>5 | 46=>248 | 146=>420 | 51=>319 | n=>n,fun | 1=>2 | n=>n⟩
theorem Tryz.lays145:Go.Proofs.Lays.n145 Tryz.prog Tryz.lays145_ren:={
 mixed:=by kernel_rfl
 f145:=Tryz.func363.trans (congrArg some (by kernel_rfl))
 f217:=Tryz.func102.trans (congrArg some (by kernel_rfl))
 f219:=Tryz.func314.trans (congrArg some (by kernel_rfl))
 f220:=Tryz.func367.trans (congrArg some (by kernel_rfl))
 f224:=Tryz.func226.trans (congrArg some (by kernel_rfl))
 f225:=Tryz.func227.trans (congrArg some (by kernel_rfl))
 f266:=Tryz.func166.trans (congrArg some (by kernel_rfl))
 f267:=Tryz.func342.trans (congrArg some (by kernel_rfl))
 f314:=Tryz.func359.trans (congrArg some (by kernel_rfl))
 t3:=Tryz.underlying3
 a3:=Tryz.isAgg3
 z3:=Tryz.sizeOf3
 v3:=Tryz.zeroValue3
 t4:=Tryz.underlying4
 a4:=Tryz.isAgg4
 z4:=Tryz.sizeOf4
 v4:=Tryz.zeroValue4
 t5:=Tryz.underlying5
 a5:=Tryz.isAgg5
 z5:=Tryz.sizeOf5
 v5:=Tryz.zeroValue5
 t9:=Tryz.underlying9
 a9:=Tryz.isAgg9
 z9:=Tryz.sizeOf9
 v9:=Tryz.zeroValue9
 t46:=Tryz.underlying248
 a46:=Tryz.isAgg248
 z46:=Tryz.sizeOf248
 v46:=Tryz.zeroValue248
 t51:=Tryz.underlying319
 a51:=Tryz.isAgg319
 z51:=Tryz.sizeOf319
 v51:=Tryz.zeroValue319
 t59:=Tryz.underlying449
 a59:=Tryz.isAgg449
 z59:=Tryz.sizeOf449
 v59:=Tryz.zeroValue449
 t146:=Tryz.underlying420
 a146:=Tryz.isAgg420
 z146:=Tryz.sizeOf420
 v146:=Tryz.zeroValue420
 g1:=by kernel_rfl }
def Tryz.lays190_ren:Go.Shelf.Ren:=⟨fun | 190=>244 | 125=>122 | 258=>284 | 128=>198 | 129=>199 | 302=>315 | 303=>316 | 304=>317 | 305=>318 | 306=>319 | 307=>320 | 308=>321 | 309=>322 | 310=>323 | 333=>343 | 329=>247 | 330=>248 | 334=>344 | 335=>345 | 336=>123 | 344=>360 | n=>n,fun | 31=>27 | 9=>9 | 3=>3 | 46=>248 | 0=>0 | 51=>319 | 53=>321 | 4=>4 | 183=>313 | 182=>312 | 131=>288 | 5=>5 | 218=>358 | 222=>362 | 228=>389 | 229=>390 | n=>n,fun | n=>n⟩
theorem Tryz.lays190:Go.Proofs.Lays.n190 Tryz.prog Tryz.lays190_ren:={
 mixed:=by kernel_rfl
 f125:=Tryz.func122.trans (congrArg some (by kernel_rfl))
 f128:=Tryz.func198.trans (congrArg some (by kernel_rfl))
 f129:=Tryz.func199.trans (congrArg some (by kernel_rfl))
 f190:=Tryz.func244.trans (congrArg some (by kernel_rfl))
 f258:=Tryz.func284.trans (congrArg some (by kernel_rfl))
 f302:=Tryz.func315.trans (congrArg some (by kernel_rfl))
 f303:=Tryz.func316.trans (congrArg some (by kernel_rfl))
 f304:=Tryz.func317.trans (congrArg some (by kernel_rfl))
 f305:=Tryz.func318.trans (congrArg some (by kernel_rfl))
 f306:=Tryz.func319.trans (congrArg some (by kernel_rfl))
 f307:=Tryz.func320.trans (congrArg some (by kernel_rfl))
 f308:=Tryz.func321.trans (congrArg some (by kernel_rfl))
 f309:=Tryz.func322.trans (congrArg some (by kernel_rfl))
 f310:=Tryz.func323.trans (congrArg some (by kernel_rfl))
 f329:=Tryz.func247.trans (congrArg some (by kernel_rfl))
 f330:=Tryz.func248.trans (congrArg some (by kernel_rfl))
 f333:=Tryz.func343.trans (congrArg some (by kernel_rfl))
 f334:=Tryz.func344.trans (congrArg some (by kernel_rfl))
 f335:=Tryz.func345.trans (congrArg some (by kernel_rfl))
 f336:=Tryz.func123.trans (congrArg some (by kernel_rfl))
 f344:=Tryz.func360.trans (congrArg some (by kernel_rfl))
 t0:=Tryz.underlying0
 a0:=Tryz.isAgg0
 z0:=Tryz.sizeOf0
 v0:=Tryz.zeroValue0
 t3:=Tryz.underlying3
 a3:=Tryz.isAgg3
 z3:=Tryz.sizeOf3
 v3:=Tryz.zeroValue3
 t4:=Tryz.underlying4
 a4:=Tryz.isAgg4
 z4:=Tryz.sizeOf4
 v4:=Tryz.zeroValue4
 t5:=Tryz.underlying5
 a5:=Tryz.isAgg5
 z5:=Tryz.sizeOf5
 v5:=Tryz.zeroValue5
 t9:=Tryz.underlying9
 a9:=Tryz.isAgg9
 z9:=Tryz.sizeOf9
 v9:=Tryz.zeroValue9
 t31:=Tryz.underlying27
 a31:=Tryz.isAgg27
 z31:=Tryz.sizeOf27
 v31:=Tryz.zeroValue27
 t46:=Tryz.underlying248
 a46:=Tryz.isAgg248
 z46:=Tryz.sizeOf248
 v46:=Tryz.zeroValue248
 t51:=Tryz.underlying319
 a51:=Tryz.isAgg319
 z51:=Tryz.sizeOf319
 v51:=Tryz.zeroValue319
 t53:=Tryz.underlying321
 a53:=Tryz.isAgg321
 z53:=Tryz.sizeOf321
 v53:=Tryz.zeroValue321
 t131:=Tryz.underlying288
 a131:=Tryz.isAgg288
 z131:=Tryz.sizeOf288
 v131:=Tryz.zeroValue288
 t182:=Tryz.underlying312
 a182:=Tryz.isAgg312
 z182:=Tryz.sizeOf312
 v182:=Tryz.zeroValue312
 t183:=Tryz.underlying313
 a183:=Tryz.isAgg313
 z183:=Tryz.sizeOf313
 v183:=Tryz.zeroValue313
 t218:=Tryz.underlying358
 a218:=Tryz.isAgg358
 z218:=Tryz.sizeOf358
 v218:=Tryz.zeroValue358
 t222:=Tryz.underlying362
 a222:=Tryz.isAgg362
 z222:=Tryz.sizeOf362
 v222:=Tryz.zeroValue362
 t228:=Tryz.underlying389
 a228:=Tryz.isAgg389
 z228:=Tryz.sizeOf389
 v228:=Tryz.zeroValue389
 t229:=Tryz.underlying390
 a229:=Tryz.isAgg390
 z229:=Tryz.sizeOf390
 v229:=Tryz.zeroValue390 }
def Tryz.lays99_ren:Go.Shelf.Ren:=⟨fun | 99=>91 | 206=>137 | n=>n,fun | 9=>9 | 4=>4 | 3=>3 | n=>n,fun | n=>n⟩
theorem Tryz.lays99:Go.Proofs.Lays.n99 Tryz.prog Tryz.lays99_ren:={
 mixed:=by kernel_rfl
 f99:=Tryz.func91.trans (congrArg some (by kernel_rfl))
 f206:=Tryz.func137.trans (congrArg some (by kernel_rfl))
 t3:=Tryz.underlying3
 a3:=Tryz.isAgg3
 z3:=Tryz.sizeOf3
 v3:=Tryz.zeroValue3
 t4:=Tryz.underlying4
 a4:=Tryz.isAgg4
 z4:=Tryz.sizeOf4
 v4:=Tryz.zeroValue4
 t9:=Tryz.underlying9
 a9:=Tryz.isAgg9
 z9:=Tryz.sizeOf9
 v9:=Tryz.zeroValue9 }
def Tryz.lays100_ren:Go.Shelf.Ren:=⟨fun | 100=>184 | 207=>241 | n=>n,fun | 9=>9 | 4=>4 | 3=>3 | n=>n,fun | n=>n⟩
theorem Tryz.lays100:Go.Proofs.Lays.n100 Tryz.prog Tryz.lays100_ren:={
 mixed:=by kernel_rfl
 f100:=Tryz.func184.trans (congrArg some (by kernel_rfl))
 f207:=Tryz.func241.trans (congrArg some (by kernel_rfl))
 t3:=Tryz.underlying3
 a3:=Tryz.isAgg3
 z3:=Tryz.sizeOf3
 v3:=Tryz.zeroValue3
 t4:=Tryz.underlying4
 a4:=Tryz.isAgg4
 z4:=Tryz.sizeOf4
 v4:=Tryz.zeroValue4
 t9:=Tryz.underlying9
 a9:=Tryz.isAgg9
 z9:=Tryz.sizeOf9
 v9:=Tryz.zeroValue9 }
def Tryz.lays146_ren:Go.Shelf.Ren:=⟨fun | 146=>178 | 221=>236 | 268=>279 | 138=>280 | 143=>281 | 195=>312 | 197=>95 | 218=>313 | 219=>314 | 260=>164 | 217=>102 | 225=>227 | 224=>226 | 267=>342 | 266=>166 | 314=>359 | n=>n,fun | 9=>9 | 31=>27 | 3=>3 | 4=>4 | 0=>0 | 105=>220 | 21=>21 | 5=>5 | 46=>248 | 119=>84 | 139=>343 | 138=>342 | 146=>420 | 51=>319 | n=>n,fun | 1=>2 | 3=>0 | 4=>1 | n=>n⟩
theorem Tryz.lays146:Go.Proofs.Lays.n146 Tryz.prog Tryz.lays146_ren:={
 mixed:=by kernel_rfl
 f138:=Tryz.func280.trans (congrArg some (by kernel_rfl))
 f143:=Tryz.func281.trans (congrArg some (by kernel_rfl))
 f146:=Tryz.func178.trans (congrArg some (by kernel_rfl))
 f195:=Tryz.func312.trans (congrArg some (by kernel_rfl))
 f197:=Tryz.func95.trans (congrArg some (by kernel_rfl))
 f217:=Tryz.func102.trans (congrArg some (by kernel_rfl))
 f218:=Tryz.func313.trans (congrArg some (by kernel_rfl))
 f219:=Tryz.func314.trans (congrArg some (by kernel_rfl))
 f221:=Tryz.func236.trans (congrArg some (by kernel_rfl))
 f224:=Tryz.func226.trans (congrArg some (by kernel_rfl))
 f225:=Tryz.func227.trans (congrArg some (by kernel_rfl))
 f260:=Tryz.func164.trans (congrArg some (by kernel_rfl))
 f266:=Tryz.func166.trans (congrArg some (by kernel_rfl))
 f267:=Tryz.func342.trans (congrArg some (by kernel_rfl))
 f268:=Tryz.func279.trans (congrArg some (by kernel_rfl))
 f314:=Tryz.func359.trans (congrArg some (by kernel_rfl))
 t0:=Tryz.underlying0
 a0:=Tryz.isAgg0
 z0:=Tryz.sizeOf0
 v0:=Tryz.zeroValue0
 t3:=Tryz.underlying3
 a3:=Tryz.isAgg3
 z3:=Tryz.sizeOf3
 v3:=Tryz.zeroValue3
 t4:=Tryz.underlying4
 a4:=Tryz.isAgg4
 z4:=Tryz.sizeOf4
 v4:=Tryz.zeroValue4
 t5:=Tryz.underlying5
 a5:=Tryz.isAgg5
 z5:=Tryz.sizeOf5
 v5:=Tryz.zeroValue5
 t9:=Tryz.underlying9
 a9:=Tryz.isAgg9
 z9:=Tryz.sizeOf9
 v9:=Tryz.zeroValue9
 t21:=Tryz.underlying21
 a21:=Tryz.isAgg21
 z21:=Tryz.sizeOf21
 v21:=Tryz.zeroValue21
 t31:=Tryz.underlying27
 a31:=Tryz.isAgg27
 z31:=Tryz.sizeOf27
 v31:=Tryz.zeroValue27
 t46:=Tryz.underlying248
 a46:=Tryz.isAgg248
 z46:=Tryz.sizeOf248
 v46:=Tryz.zeroValue248
 t51:=Tryz.underlying319
 a51:=Tryz.isAgg319
 z51:=Tryz.sizeOf319
 v51:=Tryz.zeroValue319
 t105:=Tryz.underlying220
 a105:=Tryz.isAgg220
 z105:=Tryz.sizeOf220
 v105:=Tryz.zeroValue220
 t119:=Tryz.underlying84
 a119:=Tryz.isAgg84
 z119:=Tryz.sizeOf84
 t138:=Tryz.underlying342
 a138:=Tryz.isAgg342
 z138:=Tryz.sizeOf342
 v138:=Tryz.zeroValue342
 t139:=Tryz.underlying343
 a139:=Tryz.isAgg343
 z139:=Tryz.sizeOf343
 v139:=Tryz.zeroValue343
 t146:=Tryz.underlying420
 a146:=Tryz.isAgg420
 z146:=Tryz.sizeOf420
 v146:=Tryz.zeroValue420
 g1:=by kernel_rfl
 g3:=by kernel_rfl
 g4:=by kernel_rfl }
def Tryz.lays153_ren:Go.Shelf.Ren:=⟨fun | 153=>103 | 152=>165 | 226=>167 | 227=>54 | 228=>94 | 137=>58 | 119=>225 | 224=>226 | 225=>227 | 217=>102 | 266=>166 | n=>n,fun | 9=>9 | 3=>3 | 4=>4 | 5=>5 | 21=>21 | 117=>128 | 116=>127 | 0=>0 | 46=>248 | 124=>131 | n=>n,fun | n=>n⟩
theorem Tryz.lays153:Go.Proofs.Lays.n153 Tryz.prog Tryz.lays153_ren:={
 mixed:=by kernel_rfl
 f119:=Tryz.func225.trans (congrArg some (by kernel_rfl))
 f137:=Tryz.func58.trans (congrArg some (by kernel_rfl))
 f152:=Tryz.func165.trans (congrArg some (by kernel_rfl))
 f153:=Tryz.func103.trans (congrArg some (by kernel_rfl))
 f217:=Tryz.func102.trans (congrArg some (by kernel_rfl))
 f224:=Tryz.func226.trans (congrArg some (by kernel_rfl))
 f225:=Tryz.func227.trans (congrArg some (by kernel_rfl))
 f226:=Tryz.func167.trans (congrArg some (by kernel_rfl))
 f227:=Tryz.func54.trans (congrArg some (by kernel_rfl))
 f228:=Tryz.func94.trans (congrArg some (by kernel_rfl))
 f266:=Tryz.func166.trans (congrArg some (by kernel_rfl))
 t0:=Tryz.underlying0
 a0:=Tryz.isAgg0
 z0:=Tryz.sizeOf0
 v0:=Tryz.zeroValue0
 t3:=Tryz.underlying3
 a3:=Tryz.isAgg3
 z3:=Tryz.sizeOf3
 v3:=Tryz.zeroValue3
 t4:=Tryz.underlying4
 a4:=Tryz.isAgg4
 z4:=Tryz.sizeOf4
 v4:=Tryz.zeroValue4
 t5:=Tryz.underlying5
 a5:=Tryz.isAgg5
 z5:=Tryz.sizeOf5
 v5:=Tryz.zeroValue5
 t9:=Tryz.underlying9
 a9:=Tryz.isAgg9
 z9:=Tryz.sizeOf9
 v9:=Tryz.zeroValue9
 t21:=Tryz.underlying21
 a21:=Tryz.isAgg21
 z21:=Tryz.sizeOf21
 v21:=Tryz.zeroValue21
 t46:=Tryz.underlying248
 a46:=Tryz.isAgg248
 z46:=Tryz.sizeOf248
 v46:=Tryz.zeroValue248
 t116:=Tryz.underlying127
 a116:=Tryz.isAgg127
 z116:=Tryz.sizeOf127
 t117:=Tryz.underlying128
 a117:=Tryz.isAgg128
 z117:=Tryz.sizeOf128
 v117:=Tryz.zeroValue128
 t124:=Tryz.underlying131
 a124:=Tryz.isAgg131
 z124:=Tryz.sizeOf131
 v124:=Tryz.zeroValue131 }
def Tryz.laysNm215_ren:Go.Shelf.Ren:=⟨fun | 15=>42 | n=>n,fun | 22=>30 | 3=>3 | 4=>4 | n=>n,fun | n=>n⟩
theorem Tryz.laysNm215:Go.Proofs.Lays2.n15 Tryz.prog Tryz.laysNm215_ren:={
 mixed:=by kernel_rfl
 f15:=Tryz.func42.trans (congrArg some (by kernel_rfl))
 t3:=Tryz.underlying3
 a3:=Tryz.isAgg3
 z3:=Tryz.sizeOf3
 v3:=Tryz.zeroValue3
 t4:=Tryz.underlying4
 a4:=Tryz.isAgg4
 z4:=Tryz.sizeOf4
 v4:=Tryz.zeroValue4
 t22:=Tryz.underlying30
 a22:=Tryz.isAgg30
 z22:=Tryz.sizeOf30
 v22:=Tryz.zeroValue30
 i3:=by kernel_rfl }
def Tryz.laysNm216_ren:Go.Shelf.Ren:=⟨fun | 16=>76 | n=>n,fun | 24=>27 | 9=>9 | 4=>4 | n=>n,fun | n=>n⟩
theorem Tryz.laysNm216:Go.Proofs.Lays2.n16 Tryz.prog Tryz.laysNm216_ren:={
 mixed:=by kernel_rfl
 f16:=Tryz.func76.trans (congrArg some (by kernel_rfl))
 t4:=Tryz.underlying4
 a4:=Tryz.isAgg4
 z4:=Tryz.sizeOf4
 v4:=Tryz.zeroValue4
 t9:=Tryz.underlying9
 a9:=Tryz.isAgg9
 z9:=Tryz.sizeOf9
 v9:=Tryz.zeroValue9
 t24:=Tryz.underlying27
 a24:=Tryz.isAgg27
 z24:=Tryz.sizeOf27
 v24:=Tryz.zeroValue27
 i9:=by kernel_rfl }
def Tryz.lays187_ren:Go.Shelf.Ren:=⟨fun | 187=>206 | 255=>256 | n=>n,fun | 37=>22 | 5=>5 | 3=>3 | n=>n,fun | n=>n⟩
theorem Tryz.lays187:Go.Proofs.Lays.n187 Tryz.prog Tryz.lays187_ren:={
 mixed:=by kernel_rfl
 f187:=Tryz.func206.trans (congrArg some (by kernel_rfl))
 f255:=Tryz.func256.trans (congrArg some (by kernel_rfl))
 t3:=Tryz.underlying3
 a3:=Tryz.isAgg3
 z3:=Tryz.sizeOf3
 v3:=Tryz.zeroValue3
 t5:=Tryz.underlying5
 a5:=Tryz.isAgg5
 z5:=Tryz.sizeOf5
 v5:=Tryz.zeroValue5
 t37:=Tryz.underlying22
 a37:=Tryz.isAgg22
 z37:=Tryz.sizeOf22
 v37:=Tryz.zeroValue22 }
def Tryz.laysSlK4_ren:Go.Shelf.Ren:=⟨fun | 4=>79 | n=>n,fun | 22=>22 | 4=>4 | 5=>5 | n=>n,fun | n=>n⟩
theorem Tryz.laysSlK4:Go.Proofs.SlLaysK.n4 Tryz.prog Tryz.laysSlK4_ren:={
 mixed:=by kernel_rfl
 f4:=Tryz.func79.trans (congrArg some (by kernel_rfl))
 t4:=Tryz.underlying4
 a4:=Tryz.isAgg4
 z4:=Tryz.sizeOf4
 v4:=Tryz.zeroValue4
 t22:=Tryz.underlying22
 a22:=Tryz.isAgg22
 z22:=Tryz.sizeOf22
 v22:=Tryz.zeroValue22
 t5:=Tryz.underlying5
 i5:=by kernel_rfl }
end Go.Proofs

/-
  What the walks lean on: a slice of bytes in memory, blocks, what outlives other calls.
  No condition.
-/
namespace Go.Proofs.YtefpcacnblaokaaGreatDoor
open Go.RowKit
def Bs (w:World) (p:Option Addr) (xs:List UInt8):Prop:=
 0 < xs.length→∃ b o,p=some ⟨b,o,none⟩∧∀ i,i < xs.length→w.cell? ⟨b,o+i,none⟩=some (.int .u8 (xs.getD i 0).toNat)
theorem Bs.nil (w:World) (p:Option Addr):Bs w p []:=fun h=>absurd h (Nat.lt_irrefl 0)
theorem Bs.below {B:Nat} {w w':World} {p:Option Addr} {xs:List UInt8} (h:Bs w p xs) (hb:Below B w w') (hB:w.heap.size≤B):Bs w' p xs:=by
 intro hl
 obtain ⟨b,o,hp,hc⟩:=h hl
 refine ⟨b,o,hp,fun i hi=>?_⟩
 have hlt:b < w.heap.size:=World.block_lt_of_cell? _ _ (hc i hi)
 rw [hb.cell (p:=⟨b,o+i,none⟩) (by simp;omega)]
 exact hc i hi
theorem Bs.at {w:World} {b o:Nat} {xs:List UInt8} (h:Bs w (some ⟨b,o,none⟩) xs) (i:Nat) (hi:i < xs.length):w.cell? ⟨b,o+i,none⟩=some (.int .u8 (xs.getD i 0).toNat):=by
 obtain ⟨b',o',hp,hc⟩:=h (by omega)
 simp at hp
 obtain ⟨rfl,rfl⟩:=hp
 exact hc i hi
theorem below_new {w w1:World} {o:Obj} (h:Below (w.alloc o).heap.size (w.alloc o) w1):Below w.heap.size w w1:=
 ((Below.refl _ _).alloc (Nat.le_refl _) _).trans (h.mono (by simp))
theorem new_cell {w:World} {b o:Nat} {v:Value} (h:w.cell? ⟨b,o,none⟩=some v):∀ x,(w.alloc x).cell? ⟨b,o,none⟩=some v:=
 fun x=>by rw [World.cell?_alloc_lt _ _ _ (World.block_lt_of_cell? _ _ h)];exact h
theorem new_frozen {w:World} {b o:Nat} {v:Value} (hc:w.cell? ⟨b,o,none⟩=some v) (h:w.frozen? ⟨b,o,none⟩=false):∀ x,(w.alloc x).frozen? ⟨b,o,none⟩=false:=
 fun x=>by rw [World.frozen?_alloc_old _ _ _ (Nat.ne_of_lt (World.block_lt_of_cell? _ _ hc))];exact h
theorem Bs.drew {w:World} {p:Option Addr} {xs:List UInt8} (h:Bs w p xs) (n:Nat):Bs (w.drewN n) p xs:=by
 intro hl
 obtain ⟨b,o,hp,hc⟩:=h hl
 exact ⟨b,o,hp,fun i hi=>hc i hi⟩
def Blk (w:World) (b:Nat) (cs:Array Value) (t:TypeId):Prop:=w.heap[b]?=some (.cells cs t (0,0))
theorem Blk.lt {w:World} {b:Nat} {cs:Array Value} {t:TypeId} (h:Blk w b cs t):b < w.heap.size:=lt_of_block h
theorem Blk.cell {w:World} {b:Nat} {cs:Array Value} {t:TypeId} (h:Blk w b cs t) (i:Nat) {v:Value} (hv:cs[i]?=some v):w.cell? ⟨b,i,none⟩=some v:=by
 unfold Blk at h;simp [World.cell?,h,hv]
theorem Blk.free {w:World} {b:Nat} {cs:Array Value} {t:TypeId} (h:Blk w b cs t) (i:Nat):w.frozen? ⟨b,i,none⟩=false:=by
 unfold Blk at h;simp [World.frozen?,h]
theorem Blk.keep {w w':World} {b:Nat} {cs:Array Value} {t:TypeId} (h:Blk w b cs t) {B:Nat} (hb:Below B w w') (hB:b < B):Blk w' b cs t:=(hb.block b hB).trans h
theorem Blk.new (w:World) (cs:Array Value) (t:TypeId):Blk (w.alloc (.cells cs t)) w.heap.size cs t:=heap_alloc_new w _
theorem Blk.alloc {w:World} {b:Nat} {cs:Array Value} {t:TypeId} (h:Blk w b cs t) (o:Obj):Blk (w.alloc o) b cs t:=(Below.heap_alloc w o b h.lt).trans h
theorem Blk.drew {w:World} {b:Nat} {cs:Array Value} {t:TypeId} (h:Blk w b cs t):Blk w.drew b cs t:=h
theorem Blk.drewN {w:World} {b:Nat} {cs:Array Value} {t:TypeId} (h:Blk w b cs t) (n:Nat):Blk (w.drewN n) b cs t:=h
theorem Blk.set {w:World} {b:Nat} {cs:Array Value} {t:TypeId} (h:Blk w b cs t) (i:Nat) (v:Value):Blk (w.setCell ⟨b,i,none⟩ v) b (cs.setIfInBounds i v) t:=by
 have hlt:=h.lt
 have h':w.heap[b]=.cells cs t (0,0):=by have:=h;unfold Blk at this;simpa [Array.getElem?_eq_getElem hlt] using this
 show (w.heap.modify b _)[b]?=_
 rw [Array.getElem?_eq_getElem (by simpa using hlt),Array.getElem_modify_self,h']
 rfl
theorem Blk.setOther {w:World} {b:Nat} {cs:Array Value} {t:TypeId} (h:Blk w b cs t) {a:Addr} (ha:b≠a.block) (v:Value):Blk (w.setCell a v) b cs t:=
 (Below.heap_setCell w a v b ha).trans h
theorem extract_take (l:List UInt8) (k:Nat):(⟨l.toArray⟩:ByteArray).extract 0 k=⟨(l.take k).toArray⟩:=by
 apply ByteArray.ext;simp [ByteArray.data_extract]
theorem extract_drop (l:List UInt8) (k:Nat):(⟨l.toArray⟩:ByteArray).extract k l.length=⟨(l.drop k).toArray⟩:=by
 apply ByteArray.ext;simp [ByteArray.data_extract]
 exact List.take_of_length_le (by simp)
theorem ret_int {k:IntKind} {a b:Int} (h:a=b):Ending.returned (.int k a)=Ending.returned (.int k b):=by rw [h]
theorem ret_bool {a b:Bool} (h:a=b):Ending.returned (.bool a)=Ending.returned (.bool b):=by rw [h]
theorem u8_beq (a b:UInt8):(a == b)=((a.toNat:Int) == (b.toNat:Int)):=by
 rw [Bool.eq_iff_iff];simp only [beq_iff_eq];constructor
 ·rintro rfl;rfl
 ·intro h;exact UInt8.toNat_inj.1 (by omega)
theorem u8_eq (a b:UInt8):(a=b)=((a.toNat:Int)=(b.toNat:Int)):=by
 apply propext;constructor
 ·rintro rfl;rfl
 ·intro h;exact UInt8.toNat_inj.1 (by omega)
theorem u8_le (a b:UInt8):(a≤b)=((a.toNat:Int)≤(b.toNat:Int)):=by
 apply propext;rw [UInt8.le_iff_toNat_le];omega
theorem u8_lt (a b:UInt8):(a < b)=((a.toNat:Int) < (b.toNat:Int)):=by
 apply propext;rw [UInt8.lt_iff_toNat_lt];omega
theorem u8_or (a b:UInt8):bits .or .u8 (a.toNat:Int) (b.toNat:Int)=((a ||| b).toNat:Int):=by
 rw [Go.u8_or_nat _ _ a.toNat_lt b.toNat_lt,UInt8.toNat_or]
theorem u8_bd (a:UInt8):(0:Int)≤(a.toNat:Int)∧(a.toNat:Int) < 256:=⟨by omega,by have:=a.toNat_lt;omega⟩
structure Kept (S:Nat→Prop) (w w':World):Prop where
 os:w'.os=w.os
 tape:w'.tape=w.tape
 output:w'.output=w.output
 size:w.heap.size≤w'.heap.size
 block:∀ k,k < w.heap.size→¬ S k→w'.heap[k]?=w.heap[k]?
theorem Kept.refl (S:Nat→Prop) (w:World):Kept S w w:=⟨rfl,rfl,rfl,Nat.le_refl _,fun _ _ _=>rfl⟩
theorem Kept.of_below {S:Nat→Prop} {w w':World} (h:Below w.heap.size w w'):Kept S w w':=⟨h.os,h.tape,h.output,h.size,fun k hk _=>h.block k hk⟩
theorem Kept.trans {S:Nat→Prop} {w w' w'':World} (h:Kept S w w') (h2:Kept S w' w''):Kept S w w'':=
 ⟨h2.os.trans h.os,h2.tape.trans h.tape,h2.output.trans h.output,Nat.le_trans h.size h2.size,fun k hk hs=>(h2.block k (Nat.lt_of_lt_of_le hk h.size) hs).trans (h.block k hk hs)⟩
theorem Kept.trans' {S T:Nat→Prop} {w w' w'':World} (h:Kept S w w') (h2:Kept T w' w'') (hT:∀ k,k < w.heap.size→T k→S k):Kept S w w'':=
 ⟨h2.os.trans h.os,h2.tape.trans h.tape,h2.output.trans h.output,Nat.le_trans h.size h2.size,fun k hk hs=>(h2.block k (Nat.lt_of_lt_of_le hk h.size) fun ht=>hs (hT k hk ht)).trans (h.block k hk hs)⟩
theorem Kept.mono {S T:Nat→Prop} {w w':World} (h:Kept S w w') (hT:∀ k,k < w.heap.size→S k→T k):Kept T w w':=
 ⟨h.os,h.tape,h.output,h.size,fun k hk hs=>h.block k hk fun ht=>hs (hT k hk ht)⟩
theorem Kept.alloc {S:Nat→Prop} {w w':World} (h:Kept S w w') (o:Obj):Kept S w (w'.alloc o):=
 h.trans (Kept.of_below ((Below.refl _ _).alloc (Nat.le_refl _) _))
theorem Kept.drew {S:Nat→Prop} {w w':World} (h:Kept S w w'):Kept S w w'.drew:=⟨h.os,h.tape,h.output,h.size,h.block⟩
theorem Kept.below {w w':World} (h:Kept (fun _=>False) w w'):Below w.heap.size w w':=⟨h.os,h.tape,h.output,h.size,fun k hk=>h.block k hk id⟩
theorem Blk.kept {S:Nat→Prop} {w w':World} {b:Nat} {cs:Array Value} {t:TypeId} (h:Blk w b cs t) (hk:Kept S w w') (hS:¬ S b):Blk w' b cs t:=(hk.block b h.lt hS).trans h
theorem Kept.setCell {S:Nat→Prop} {w w':World} (h:Kept S w w') {b:Nat} (hb:S b∨w.heap.size≤b) (i:Nat) (v:Value):Kept S w (w'.setCell ⟨b,i,none⟩ v):=
 ⟨h.os,h.tape,h.output,by simpa [World.setCell] using h.size,fun k hk hs=>(Below.heap_setCell w' ⟨b,i,none⟩ v k (by
  rintro rfl
  rcases hb with hb | hb
  ·exact hs hb
  ·have hb':w.heap.size≤k:=hb
   omega)).trans (h.block k hk hs)⟩
abbrev Bts:=List UInt8
theorem byte_at {s:Bts} {a:Nat} (h:a < s.length):∃ c,s.drop a=c :: s.drop (a+1)∧∀ h,(⟨s.toArray⟩:ByteArray)[a]'h=c:=
 ⟨s[a],by rw [List.drop_eq_getElem_cons h],fun _=>rfl⟩
theorem str_nil (s:Bts):((⟨s.toArray⟩:ByteArray) == ⟨#[]⟩)=s.isEmpty:=by
 cases s with
 | nil=>rfl
 | cons c r=>
  have:((c :: r).toArray == (#[]:Array UInt8))=false:=by
   rw [beq_eq_false_iff_ne]
   intro e
   have:=congrArg Array.size e
   simp at this
  exact this
theorem u8_ne {a b:UInt8} (h:¬ a=b):¬ ((a.toNat:Int)=(b.toNat:Int)):=fun e=>h (UInt8.toNat_inj.1 (by omega))
theorem u8_nat {c:UInt8} {n:Nat} (h:n < 256):((c.toNat:Int)=(n:Int))↔c=UInt8.ofNat n:=by
 constructor
 ·intro e
  apply UInt8.toNat_inj.1
  rw [UInt8.toNat_ofNat_of_lt' h]
  omega
 ·intro e
  rw [e,UInt8.toNat_ofNat_of_lt' h]
theorem u8_lit {c:UInt8} {n:Nat} (h:¬ c=UInt8.ofNat n) (hn:n < 256):¬ ((c.toNat:Int)=(n:Int)):=fun e=>h ((u8_nat hn).1 e)
theorem own_slice {w:World} {B:Nat} {t:TypeId} {size n:Nat} {v:Value} {xs:List Value} (h:w.ownsRow B t size v (n+1) xs):∃ g c,v=.slice (some ⟨g,0,none⟩) (n+1) c:=by
 obtain ⟨h1,⟨-,h2⟩ | ⟨g,cap,cur,e,-⟩⟩:=h
 ·exact absurd h2 (by omega)
 ·exact ⟨g,cap,e⟩
theorem str_ne {s t:Bts} (h:s≠t):((⟨s.toArray⟩:ByteArray) == ⟨t.toArray⟩)=false:=by
 show (s.toArray == t.toArray)=false
 rw [beq_eq_false_iff_ne];intro e
 exact h (by simpa using e)
theorem below_drew2 (w:World):Below w.heap.size w w.drew:=⟨rfl,rfl,rfl,Nat.le_refl _,fun _ _=>rfl⟩
theorem var?_same {P:Program} {g:Nat} {W W':World} {n:String} {cs:Array Value} (h:W'.heap[g]?=W.heap[g]?) (hg:P.globalNamed n=some g) (hv:W.var? P n=some cs):W'.var? P n=some cs:=by
 unfold World.var? at hv ⊢
 simp only [hg,Option.bind_some] at hv ⊢
 rw [h]
 exact hv
theorem below_drew (q:Nat) (w:World):Below q w w.drew:=⟨rfl,rfl,rfl,Nat.le_refl _,fun _ _=>rfl⟩
theorem own_kept {S:Nat→Prop} {w w':World} {B:Nat} {t:TypeId} {size n:Nat} {v:Value} {xs:List Value} (h:w.ownsRow B t size v n xs) (hk:Kept S w w') (hS:∀ k,v.ownBlock=some k→¬ S k):w'.ownsRow B t size v n xs:=by
 obtain ⟨h1,h2 | ⟨g,cap,cur,e,hg,hb,r⟩⟩:=h
 ·exact ⟨h1,.inl h2⟩
 ·exact ⟨h1,.inr ⟨g,cap,cur,e,hg,(hk.block g (lt_of_block hb) (hS g (by rw [e];rfl))).trans hb,r⟩⟩
theorem kept_grown {w w2 w1:World} {o:Option Nat} (h:Kept (fun _=>False) w w2) (hg:w2.grownBy w1 o):Kept (fun k=>o=some k) w w1:=
 ⟨hg.os.trans h.os,hg.tape.trans h.tape,hg.output.trans h.output,Nat.le_trans h.size hg.size,fun k hk hs=>(hg.block k (Nat.lt_of_lt_of_le hk h.size) fun e=>hs e.symm).trans (h.block k hk id)⟩
theorem own_mono {w:World} {B C:Nat} {t:TypeId} {size n:Nat} {v:Value} {xs:List Value} (h:w.ownsRow B t size v n xs) (hBC:C≤B):w.ownsRow C t size v n xs:=by
 obtain ⟨h1,h2 | ⟨g,cap,cur,e,hg,r⟩⟩:=h
 ·exact ⟨h1,.inl h2⟩
 ·exact ⟨h1,.inr ⟨g,cap,cur,e,Nat.le_trans hBC hg,r⟩⟩
theorem below_of_kept {S:Nat→Prop} {B:Nat} {w w':World} (h:Kept S w w') (hS:∀ k,S k→B≤k) (hB:B≤w.heap.size):Below B w w':=
 ⟨h.os,h.tape,h.output,h.size,fun k hk=>h.block k (by omega) fun hs=>by have:=hS k hs;omega⟩
theorem cells_new (w:World) (cs:Array Value) (t:TypeId):∀ j u,cs.toList[j]?=some u→(w.alloc (.cells cs t)).cell? ((⟨w.heap.size,0,none⟩:Addr).add j)=some u:=by
 intro j u hj
 have hj':cs[j]?=some u:=by simpa using hj
 rw [show ((⟨w.heap.size,0,none⟩:Addr).add j)=⟨w.heap.size,j,none⟩ by simp only [Addr.add,Nat.zero_add];split <;> simp_all]
 exact (Blk.new w cs t).cell j hj'
theorem below_drewN (w:World) (k:Nat):Below w.heap.size w (w.drewN k):=⟨rfl,rfl,rfl,Nat.le_refl _,fun _ _=>rfl⟩
def nums (xs:List UInt8):List Int:=xs.map fun c=>(c.toNat:Int)
theorem nums_length (xs:List UInt8):(nums xs).length=xs.length:=by simp [nums]
theorem nums_getD (xs:List UInt8) (i:Nat) (hi:i < xs.length):(nums xs).getD i 0=((xs.getD i 0).toNat:Int):=by
 simp [nums,List.getD_eq_getElem?_getD,List.getElem?_eq_getElem hi]
theorem strOf_nums (xs:List UInt8):strOfNums (nums xs)=⟨xs.toArray⟩:=by
 have h:(nums xs).map (fun n=>UInt8.ofNat n.toNat)=xs:=by
  unfold nums
  rw [List.map_map]
  conv=>rhs;rw [← List.map_id xs]
  apply List.map_congr_left
  intro c _
  simp
 unfold strOfNums
 rw [h]
theorem run_str {w:World} {p:Option Addr} {xs:List UInt8} (h:Bs w p xs) (c:Nat) :
  (convert 22 9 (.slice p xs.length c)).run Tryz.prog w=.ok (.string ⟨xs.toArray⟩) w:=by
 rw [← strOf_nums]
 rcases Nat.eq_zero_or_pos xs.length with hn | hn
 ·obtain rfl:xs=[]:=List.eq_nil_of_length_eq_zero hn
  rw [show (([]:List UInt8).length)=0 from rfl,run_convert_bytes_string w 22 9 5 _ 0 c Tryz.underlying22 Tryz.underlying5 Tryz.underlying9]
  cases p <;> simp [Conv.bytesToString,loadCells]
  all_goals rfl
 ·obtain ⟨b,o,rfl,hc⟩:=h hn
  exact run_convert_bytes_arg (P:=Tryz.prog) w 22 5 Tryz.underlying22 Tryz.underlying5 b o xs.length c (nums xs) (nums_length xs) (fun i hi=>by rw [hc i hi,nums_getD xs i hi]) 9 Tryz.underlying9
theorem bs_one (w:World) (c:UInt8) (T:TypeId):Bs (w.alloc (.cells #[.int .u8 c.toNat] T)) (some ⟨w.heap.size,0,none⟩) [c]:=by
 intro _
 refine ⟨w.heap.size,0,rfl,fun i hi=>?_⟩
 obtain rfl:i=0:=by simpa using hi
 rw [Lib.cell_of_heap (heap_alloc_new w _)]
 rfl
def u8V (c:UInt8):Value:=.int .u8 c.toNat
theorem info_str:(Tryz.prog.info? 9).map (fun i=>(i.zero,i.size,i.bytes))=some (some (.string ⟨#[]⟩),1,16):=by kernel_rfl
theorem info_byte:(Tryz.prog.info? 5).map (fun i=>(i.zero,i.size,i.bytes))=some (some (.int .u8 0),1,1):=by kernel_rfl
end Go.Proofs.YtefpcacnblaokaaGreatDoor

/-
  What the library's variables hold, and that it stays. No condition.
-/
namespace Go.Proofs.YtefpcacnblaokaaGreatDoor
open Go.RowKit Go.Shelf
structure Glo (w:World):Prop where
 syn:∃ tp p,w.var? Tryz.prog "strconv.ErrSyntax"=some #[.iface tp p]
 rng:∃ tp p,w.var? Tryz.prog "strconv.ErrRange"=some #[.iface tp p]
 mx:∃ m,w.cell? ⟨2,0,none⟩=some (.int .i64 m)
 tab:Lib.TabIs Tryz.prog w "internal/strconv.uint64pow10" .u64 Lib.pow10Tab
 big:8≤w.heap.size
theorem gSyn:Tryz.prog.globalNamed "strconv.ErrSyntax"=some 4:=by kernel_rfl
theorem gPow:Tryz.prog.globalNamed "internal/strconv.uint64pow10"=some 3:=by kernel_rfl
theorem gRng:Tryz.prog.globalNamed "strconv.ErrRange"=some 5:=by kernel_rfl
theorem Glo.kept {S:Nat→Prop} {w w':World} (h:Glo w) (hk:Kept S w w') (hS:∀ k,S k→8≤k):Glo w':=by
 obtain ⟨⟨t1,p1,h1⟩,⟨t2,p2,h2⟩,⟨m,h3⟩,h4,h8⟩:=h
 have hb:∀ g,g < 8→w'.heap[g]?=w.heap[g]?:=fun g hg=>hk.block g (by omega) (fun hs=>absurd (hS g hs) (by omega))
 refine ⟨⟨t1,p1,var?_same (hb _ (by decide)) gSyn h1⟩,⟨t2,p2,var?_same (hb _ (by decide)) gRng h2⟩,⟨m, ?_⟩, ?_,Nat.le_trans h8 hk.size⟩
 ·have:=hb 2 (by decide)
  unfold World.cell? at h3 ⊢
  simp only [this]
  exact h3
 ·exact var?_same (hb _ (by decide)) gPow h4
theorem Glo.below {w w':World} (h:Glo w) (hb:Below w.heap.size w w'):Glo w':=h.kept (Kept.of_below (S:=fun _=>False) hb) fun _ h=>h.elim
theorem Glo.from {w0 w':World} (h:Glo w0) (hb:Below w0.heap.size w0 w'):Glo w':=h.below hb
end Go.Proofs.YtefpcacnblaokaaGreatDoor
