/- The kit's contracts of library functions, laid at this program; strings.Split at a separator of one byte. No condition. -/
import Derived.Shelf.Strings.Split
import Derived.Shelf.Strings.OnBuilder
import Derived.Shelf.Strings.SlTrimAscii
import Derived.Shelf.Strings.Search3
import Derived.Shelf.Unicode.ValidAny
import Derived.Shelf.SlicesE.Clone
import Derived.Shelf.Bytes.SlClone
import Derived.Test.YtnnohacnlkdlgaaGreatDoorProg
namespace Go.Proofs
open Go.Shelf Go.RowKit Go.Lib
section
variable {P:Program} {ρ:Ren}
set_option maxHeartbeats 1000000 in
theorem Vri (L:Lays.n146 P ρ) (hi9:(P.info? (ρ.t 9)).map (λi=>(i.zero,i.size,i.bytes))=some (some (.string ByteArray.empty),1,16)) (s:ByteArray) (c:UInt8) (w:World) (hs:s.size < 4294967281) :
  Calls P (ρ.f 146) #[.string s,.string ⟨#[c]⟩] w λe w'=>
   e = .returned (.slice (some ⟨w.heap.size,0,none⟩) (Lib.countB s ⟨#[c]⟩+1) (Lib.countB s ⟨#[c]⟩+1))/\w'=w.alloc (.cells ((Lib.splitB ⟨#[c]⟩ 0 (Lib.countB s ⟨#[c]⟩) s).map Value.string).toArray (ρ.t 9)):=by
 have h1:1<=ByteArray.size ⟨#[c]⟩:=Nat.le_refl 1
 have hle:=Lib.countB_le ⟨#[c]⟩ h1 s.size s (Nat.le_refl _)
 have hlen:=Lib.splitB_all ⟨#[c]⟩ h1 0 _ s rfl
 have hI:∀ (x:ByteArray) (d:Array Value),x.size<=s.size->Calls P (ρ.f 143) #[.string x,.string ⟨#[c]⟩] (w.alloc (.cells d (ρ.t 9))) λe w'=>e = .returned (.int .i64 (Lib.indexB x ⟨#[c]⟩))/\w'=w.alloc (.cells d (ρ.t 9)):=λx d _=>by
  refine (Any.strings_Index_one { L with } x c _).mono λe w' ⟨he,hw⟩=>⟨?_,hw⟩
  rw [he]
  show _=Ending.returned (Value.int .i64 (Lib.index x.data.toList [c]))
  rw [Lib.index_one]
 have hC:Calls P (ρ.f 138) #[.string s,.string ⟨#[c]⟩] w λe w'=>e = .returned (.int .i64 (Lib.countB s ⟨#[c]⟩))/\w'=w:=by
  refine (Any.strings_Count_one { L with } s c w).mono λe w' ⟨he,hw⟩=>⟨?_,hw⟩
  rw [he]
  show _=Ending.returned (Value.int .i64 ((Lib.count s.data.toList [c]:Nat):Int))
  rw [Lib.count_one]
  rfl
 have k:=Any.strings_genSplit_core { L with } hi9 s ⟨#[c]⟩ 0 (-1) (Lib.countB s ⟨#[c]⟩+1) w hs h1 (Nat.zero_le _) hI hC (by decide) (by decide) (by rw [if_pos (by decide)]; omega)
 rw [Nat.add_sub_cancel,hlen] at k
 have e2:Lib.cellsOf (Lib.splitB ⟨#[c]⟩ 0 (Lib.countB s ⟨#[c]⟩) s) (Lib.countB s ⟨#[c]⟩+1)=((Lib.splitB ⟨#[c]⟩ 0 (Lib.countB s ⟨#[c]⟩) s).map Value.string).toArray:=by rw [<- hlen]; exact Lib.cellsOf_full _
 rw [e2] at k
 have t3:=L.t3; have t9:=L.t9; have t31:=L.t31
 have a3:=L.a3; have a9:=L.a9; have a31:=L.a31
 have z3:=L.z3; have v3:=L.v3; have z9:=L.z9; have v9:=L.v9; have z31:=L.z31; have v31:=L.v31
 have e221:∀ args w,(callFunc (ρ.f 221) args).run P w = .ok (.enter (ρ.f 221) args) w:=enters_of L.f221 (by kernel_rfl) rfl
 go_enter L.f146,Body.n146_ntmps ρ
 go_wp2_with (go_at_fn (ρ.f 221); refine k.mono ?_; rintro e w' ⟨rfl,hw⟩; rw [hw])
 go_ret
 exact ⟨rfl,rfl⟩
end
def Tryz.lays146_ren:Go.Shelf.Ren:=⟨λ| 138=>236 | 143=>237 | 146=>76 | 195=>346 | 197=>239 | 217=>401 | 218=>347 | 219=>348 | 221=>137 | 224=>403 | 225=>402 | 260=>349 | 266=>425 | 267=>404 | 268=>235 | 314=>426 | n=>n,λ| 0=>0 | 3=>3 | 4=>4 | 5=>5 | 9=>9 | 21=>21 | 31=>25 | 46=>81 | 51=>31 | 105=>329 | 119=>451 | 138=>453 | 139=>454 | 146=>519 | n=>n,λ| 1=>1 | 3=>2 | 4=>3 | n=>n⟩
theorem Tryz.lays146:Go.Proofs.Lays.n146 Tryz.prog Tryz.lays146_ren:={
 mixed:=by kernel_rfl
 f138:=Tryz.func236.trans (congrArg some (by kernel_rfl))
 f143:=Tryz.func237.trans (congrArg some (by kernel_rfl))
 f146:=Tryz.func76.trans (congrArg some (by kernel_rfl))
 f195:=Tryz.func346.trans (congrArg some (by kernel_rfl))
 f197:=Tryz.func239.trans (congrArg some (by kernel_rfl))
 f217:=Tryz.func401.trans (congrArg some (by kernel_rfl))
 f218:=Tryz.func347.trans (congrArg some (by kernel_rfl))
 f219:=Tryz.func348.trans (congrArg some (by kernel_rfl))
 f221:=Tryz.func137.trans (congrArg some (by kernel_rfl))
 f224:=Tryz.func403.trans (congrArg some (by kernel_rfl))
 f225:=Tryz.func402.trans (congrArg some (by kernel_rfl))
 f260:=Tryz.func349.trans (congrArg some (by kernel_rfl))
 f266:=Tryz.func425.trans (congrArg some (by kernel_rfl))
 f267:=Tryz.func404.trans (congrArg some (by kernel_rfl))
 f268:=Tryz.func235.trans (congrArg some (by kernel_rfl))
 f314:=Tryz.func426.trans (congrArg some (by kernel_rfl))
 t0:=Tryz.underlying0
 a0:=Tryz.isAgg0
 z0:=Tryz.sizeOf0
 v0:=Tryz.zeroValue0
 t3:=Tryz.underlying3
 a3:=Tryz.isAgg3
 z3:=Tryz.sizeOf3
 v3:=Tryz.zeroValue3
 t4:=Tryz.underlying4
 a4:=Tryz.isAgg4
 z4:=Tryz.sizeOf4
 v4:=Tryz.zeroValue4
 t5:=Tryz.underlying5
 a5:=Tryz.isAgg5
 z5:=Tryz.sizeOf5
 v5:=Tryz.zeroValue5
 t9:=Tryz.underlying9
 a9:=Tryz.isAgg9
 z9:=Tryz.sizeOf9
 v9:=Tryz.zeroValue9
 t21:=Tryz.underlying21
 a21:=Tryz.isAgg21
 z21:=Tryz.sizeOf21
 v21:=Tryz.zeroValue21
 t31:=Tryz.underlying25
 a31:=Tryz.isAgg25
 z31:=Tryz.sizeOf25
 v31:=Tryz.zeroValue25
 t46:=Tryz.underlying81
 a46:=Tryz.isAgg81
 z46:=Tryz.sizeOf81
 v46:=Tryz.zeroValue81
 t51:=Tryz.underlying31
 a51:=Tryz.isAgg31
 z51:=Tryz.sizeOf31
 v51:=Tryz.zeroValue31
 t105:=Tryz.underlying329
 a105:=Tryz.isAgg329
 z105:=Tryz.sizeOf329
 v105:=Tryz.zeroValue329
 t119:=Tryz.underlying451
 a119:=Tryz.isAgg451
 z119:=Tryz.sizeOf451
 t138:=Tryz.underlying453
 a138:=Tryz.isAgg453
 z138:=Tryz.sizeOf453
 v138:=Tryz.zeroValue453
 t139:=Tryz.underlying454
 a139:=Tryz.isAgg454
 z139:=Tryz.sizeOf454
 v139:=Tryz.zeroValue454
 t146:=Tryz.underlying519
 a146:=Tryz.isAgg519
 z146:=Tryz.sizeOf519
 v146:=Tryz.zeroValue519
 g1:=by kernel_rfl
 g3:=by kernel_rfl
 g4:=by kernel_rfl }
def Tryz.lays160_ren:Go.Shelf.Ren:=⟨λ| 119=>406 | 120=>351 | 137=>405 | 151=>240 | 152=>350 | 160=>77 | 197=>239 | 217=>401 | 224=>403 | 225=>402 | 227=>140 | 228=>238 | 231=>138 | 232=>139 | 233=>141 | 234=>142 | 235=>143 | 236=>144 | 260=>349 | 266=>425 | 271=>241 | n=>n,λ| 0=>0 | 3=>3 | 4=>4 | 5=>5 | 9=>9 | 21=>21 | 46=>81 | 105=>329 | 116=>245 | 117=>246 | 119=>451 | 124=>249 | 138=>453 | 139=>454 | n=>n,λ| 3=>2 | 4=>3 | n=>n⟩
theorem Tryz.lays160:Go.Proofs.Lays.n160 Tryz.prog Tryz.lays160_ren:={
 mixed:=by kernel_rfl
 f119:=Tryz.func406.trans (congrArg some (by kernel_rfl))
 f120:=Tryz.func351.trans (congrArg some (by kernel_rfl))
 f137:=Tryz.func405.trans (congrArg some (by kernel_rfl))
 f151:=Tryz.func240.trans (congrArg some (by kernel_rfl))
 f152:=Tryz.func350.trans (congrArg some (by kernel_rfl))
 f160:=Tryz.func77.trans (congrArg some (by kernel_rfl))
 f197:=Tryz.func239.trans (congrArg some (by kernel_rfl))
 f217:=Tryz.func401.trans (congrArg some (by kernel_rfl))
 f224:=Tryz.func403.trans (congrArg some (by kernel_rfl))
 f225:=Tryz.func402.trans (congrArg some (by kernel_rfl))
 f227:=Tryz.func140.trans (congrArg some (by kernel_rfl))
 f228:=Tryz.func238.trans (congrArg some (by kernel_rfl))
 f231:=Tryz.func138.trans (congrArg some (by kernel_rfl))
 f232:=Tryz.func139.trans (congrArg some (by kernel_rfl))
 f233:=Tryz.func141.trans (congrArg some (by kernel_rfl))
 f234:=Tryz.func142.trans (congrArg some (by kernel_rfl))
 f235:=Tryz.func143.trans (congrArg some (by kernel_rfl))
 f236:=Tryz.func144.trans (congrArg some (by kernel_rfl))
 f260:=Tryz.func349.trans (congrArg some (by kernel_rfl))
 f266:=Tryz.func425.trans (congrArg some (by kernel_rfl))
 f271:=Tryz.func241.trans (congrArg some (by kernel_rfl))
 t0:=Tryz.underlying0
 a0:=Tryz.isAgg0
 z0:=Tryz.sizeOf0
 v0:=Tryz.zeroValue0
 t3:=Tryz.underlying3
 a3:=Tryz.isAgg3
 z3:=Tryz.sizeOf3
 v3:=Tryz.zeroValue3
 t4:=Tryz.underlying4
 a4:=Tryz.isAgg4
 z4:=Tryz.sizeOf4
 v4:=Tryz.zeroValue4
 t5:=Tryz.underlying5
 a5:=Tryz.isAgg5
 z5:=Tryz.sizeOf5
 v5:=Tryz.zeroValue5
 t9:=Tryz.underlying9
 a9:=Tryz.isAgg9
 z9:=Tryz.sizeOf9
 v9:=Tryz.zeroValue9
 t21:=Tryz.underlying21
 a21:=Tryz.isAgg21
 z21:=Tryz.sizeOf21
 v21:=Tryz.zeroValue21
 t46:=Tryz.underlying81
 a46:=Tryz.isAgg81
 z46:=Tryz.sizeOf81
 v46:=Tryz.zeroValue81
 t105:=Tryz.underlying329
 a105:=Tryz.isAgg329
 z105:=Tryz.sizeOf329
 v105:=Tryz.zeroValue329
 t116:=Tryz.underlying245
 a116:=Tryz.isAgg245
 z116:=Tryz.sizeOf245
 t117:=Tryz.underlying246
 a117:=Tryz.isAgg246
 z117:=Tryz.sizeOf246
 v117:=Tryz.zeroValue246
 t119:=Tryz.underlying451
 a119:=Tryz.isAgg451
 z119:=Tryz.sizeOf451
 t124:=Tryz.underlying249
 a124:=Tryz.isAgg249
 z124:=Tryz.sizeOf249
 v124:=Tryz.zeroValue249
 t138:=Tryz.underlying453
 a138:=Tryz.isAgg453
 z138:=Tryz.sizeOf453
 v138:=Tryz.zeroValue453
 t139:=Tryz.underlying454
 a139:=Tryz.isAgg454
 z139:=Tryz.sizeOf454
 v139:=Tryz.zeroValue454
 g3:=by kernel_rfl
 g4:=by kernel_rfl }
def Tryz.lays156_ren:Go.Shelf.Ren:=⟨λ| 156=>30 | 165=>73 | 166=>74 | 169=>75 | 240=>135 | 241=>136 | 276=>233 | 277=>234 | n=>n,λ| 5=>5 | 80=>175 | 0=>0 | 3=>3 | 4=>4 | 9=>9 | 20=>20 | 31=>25 | 37=>32 | 70=>167 | 72=>169 | 75=>172 | 76=>173 | 127=>241 | 164=>324 | n=>n,λn=>n⟩
theorem Tryz.lays156:Go.Proofs.Lays.n156 Tryz.prog Tryz.lays156_ren:={
 mixed:=by kernel_rfl
 f156:=Tryz.func30.trans (congrArg some (by kernel_rfl))
 f165:=Tryz.func73.trans (congrArg some (by kernel_rfl))
 f166:=Tryz.func74.trans (congrArg some (by kernel_rfl))
 f169:=Tryz.func75.trans (congrArg some (by kernel_rfl))
 f240:=Tryz.func135.trans (congrArg some (by kernel_rfl))
 f241:=Tryz.func136.trans (congrArg some (by kernel_rfl))
 f276:=Tryz.func233.trans (congrArg some (by kernel_rfl))
 f277:=Tryz.func234.trans (congrArg some (by kernel_rfl))
 t0:=Tryz.underlying0
 a0:=Tryz.isAgg0
 z0:=Tryz.sizeOf0
 v0:=Tryz.zeroValue0
 t3:=Tryz.underlying3
 a3:=Tryz.isAgg3
 z3:=Tryz.sizeOf3
 v3:=Tryz.zeroValue3
 t4:=Tryz.underlying4
 a4:=Tryz.isAgg4
 z4:=Tryz.sizeOf4
 v4:=Tryz.zeroValue4
 t9:=Tryz.underlying9
 a9:=Tryz.isAgg9
 z9:=Tryz.sizeOf9
 v9:=Tryz.zeroValue9
 t20:=Tryz.underlying20
 a20:=Tryz.isAgg20
 z20:=Tryz.sizeOf20
 v20:=Tryz.zeroValue20
 t31:=Tryz.underlying25
 a31:=Tryz.isAgg25
 z31:=Tryz.sizeOf25
 v31:=Tryz.zeroValue25
 t37:=Tryz.underlying32
 a37:=Tryz.isAgg32
 z37:=Tryz.sizeOf32
 v37:=Tryz.zeroValue32
 t70:=Tryz.underlying167
 a70:=Tryz.isAgg167
 z70:=Tryz.sizeOf167
 v70:=Tryz.zeroValue167
 t72:=Tryz.underlying169
 a72:=Tryz.isAgg169
 z72:=Tryz.sizeOf169
 v72:=Tryz.zeroValue169
 t75:=Tryz.underlying172
 a75:=Tryz.isAgg172
 z75:=Tryz.sizeOf172
 v75:=Tryz.zeroValue172
 t76:=Tryz.underlying173
 a76:=Tryz.isAgg173
 z76:=Tryz.sizeOf173
 v76:=Tryz.zeroValue173
 t127:=Tryz.underlying241
 a127:=Tryz.isAgg241
 z127:=Tryz.sizeOf241
 v127:=Tryz.zeroValue241
 t164:=Tryz.underlying324
 a164:=Tryz.isAgg324
 z164:=Tryz.sizeOf324
 v164:=Tryz.zeroValue324 }
theorem Tryz.bx:Builder.Extra Tryz.prog Tryz.lays156_ren:={
 sizeBuilder:=by kernel_rfl
 liesBuilder:=by kernel_rfl
 t5:=Tryz.underlying5
 a5:=Tryz.isAgg5
 z5:=Tryz.sizeOf5
 v5:=Tryz.zeroValue5
 infoByte:=by kernel_rfl
 cellsByte:=by kernel_rfl
 sizeByte:=by kernel_rfl
 neB5:=by decide }
set_option maxRecDepth 100000
def Tryz.lays219_ren:Go.Shelf.Ren:=⟨λ| 217=>401 | 219=>348 | 224=>403 | 225=>402 | 266=>425 | 267=>404 | 314=>426 | n=>n,λ| 3=>3 | 4=>4 | 5=>5 | 9=>9 | 46=>81 | 51=>31 | 146=>519 | n=>n,λ| 1=>1 | n=>n⟩
theorem Tryz.lays219:Go.Proofs.Lays.n219 Tryz.prog Tryz.lays219_ren:={
 mixed:=by kernel_rfl
 f217:=Tryz.func401.trans (congrArg some (by kernel_rfl))
 f219:=Tryz.func348.trans (congrArg some (by kernel_rfl))
 f224:=Tryz.func403.trans (congrArg some (by kernel_rfl))
 f225:=Tryz.func402.trans (congrArg some (by kernel_rfl))
 f266:=Tryz.func425.trans (congrArg some (by kernel_rfl))
 f267:=Tryz.func404.trans (congrArg some (by kernel_rfl))
 f314:=Tryz.func426.trans (congrArg some (by kernel_rfl))
 t3:=Tryz.underlying3
 a3:=Tryz.isAgg3
 z3:=Tryz.sizeOf3
 v3:=Tryz.zeroValue3
 t4:=Tryz.underlying4
 a4:=Tryz.isAgg4
 z4:=Tryz.sizeOf4
 v4:=Tryz.zeroValue4
 t5:=Tryz.underlying5
 a5:=Tryz.isAgg5
 z5:=Tryz.sizeOf5
 v5:=Tryz.zeroValue5
 t9:=Tryz.underlying9
 a9:=Tryz.isAgg9
 z9:=Tryz.sizeOf9
 v9:=Tryz.zeroValue9
 t46:=Tryz.underlying81
 a46:=Tryz.isAgg81
 z46:=Tryz.sizeOf81
 v46:=Tryz.zeroValue81
 t51:=Tryz.underlying31
 a51:=Tryz.isAgg31
 z51:=Tryz.sizeOf31
 v51:=Tryz.zeroValue31
 t146:=Tryz.underlying519
 a146:=Tryz.isAgg519
 z146:=Tryz.sizeOf519
 v146:=Tryz.zeroValue519
 g1:=by kernel_rfl }
def Tryz.lays196_ren:Go.Shelf.Ren:=⟨λ| 196=>251 | 259=>359 | n=>n,λ| 0=>0 | 3=>3 | 4=>4 | 5=>5 | 9=>9 | 12=>12 | 46=>81 | 53=>22 | 119=>451 | 138=>453 | 139=>454 | n=>n,λ| 3=>2 | 4=>3 | n=>n⟩
theorem Tryz.lays196:Go.Proofs.Lays.n196 Tryz.prog Tryz.lays196_ren:={
 mixed:=by kernel_rfl
 f196:=Tryz.func251.trans (congrArg some (by kernel_rfl))
 f259:=Tryz.func359.trans (congrArg some (by kernel_rfl))
 t0:=Tryz.underlying0
 a0:=Tryz.isAgg0
 z0:=Tryz.sizeOf0
 v0:=Tryz.zeroValue0
 t3:=Tryz.underlying3
 a3:=Tryz.isAgg3
 z3:=Tryz.sizeOf3
 v3:=Tryz.zeroValue3
 t4:=Tryz.underlying4
 a4:=Tryz.isAgg4
 z4:=Tryz.sizeOf4
 v4:=Tryz.zeroValue4
 t5:=Tryz.underlying5
 a5:=Tryz.isAgg5
 z5:=Tryz.sizeOf5
 v5:=Tryz.zeroValue5
 t9:=Tryz.underlying9
 a9:=Tryz.isAgg9
 z9:=Tryz.sizeOf9
 v9:=Tryz.zeroValue9
 t12:=Tryz.underlying12
 a12:=Tryz.isAgg12
 z12:=Tryz.sizeOf12
 v12:=Tryz.zeroValue12
 t46:=Tryz.underlying81
 a46:=Tryz.isAgg81
 z46:=Tryz.sizeOf81
 v46:=Tryz.zeroValue81
 t53:=Tryz.underlying22
 a53:=Tryz.isAgg22
 z53:=Tryz.sizeOf22
 v53:=Tryz.zeroValue22
 t119:=Tryz.underlying451
 a119:=Tryz.isAgg451
 z119:=Tryz.sizeOf451
 t138:=Tryz.underlying453
 a138:=Tryz.isAgg453
 z138:=Tryz.sizeOf453
 v138:=Tryz.zeroValue453
 t139:=Tryz.underlying454
 a139:=Tryz.isAgg454
 z139:=Tryz.sizeOf454
 v139:=Tryz.zeroValue454
 g3:=by kernel_rfl
 g4:=by kernel_rfl }
def Tryz.laysCl_ren:Go.Shelf.Ren:=⟨λ| 41=>392 | n=>n,λ| 4=>4 | 22=>192 | 23=>279 | n=>n,λn=>n⟩
theorem Tryz.laysCl:Go.Proofs.SlLaysE0.n41 Tryz.prog Tryz.laysCl_ren:={
 mixed:=by kernel_rfl
 f41:=⟨Tryz.f392.name,by kernel_rfl,Tryz.func392.trans (congrArg some (by kernel_rfl))⟩
 t4:=Tryz.underlying4
 a4:=Tryz.isAgg4
 z4:=Tryz.sizeOf4
 v4:=Tryz.zeroValue4
 t22:=Tryz.underlying192
 a22:=Tryz.isAgg192
 z22:=Tryz.sizeOf192
 v22:=Tryz.zeroValue192
}
def Tryz.laysCs_ren:Go.Shelf.Ren:=⟨λ| 41=>15 | n=>n,λ| 4=>4 | 22=>25 | 23=>9 | n=>n,λn=>n⟩
theorem Tryz.laysCs:Go.Proofs.SlLaysE0.n41 Tryz.prog Tryz.laysCs_ren:={
 mixed:=by kernel_rfl
 f41:=⟨Tryz.f15.name,by kernel_rfl,Tryz.func15.trans (congrArg some (by kernel_rfl))⟩
 t4:=Tryz.underlying4
 a4:=Tryz.isAgg4
 z4:=Tryz.sizeOf4
 v4:=Tryz.zeroValue4
 t22:=Tryz.underlying25
 a22:=Tryz.isAgg25
 z22:=Tryz.sizeOf25
 v22:=Tryz.zeroValue25
}
def Tryz.laysClone_ren:Go.Shelf.Ren:=⟨λ| 4=>38 | n=>n,λ| 4=>4 | 22=>32 | 5=>5 | n=>n,λn=>n⟩
theorem Tryz.laysClone:Go.Proofs.SlLaysK.n4 Tryz.prog Tryz.laysClone_ren:={
 mixed:=by kernel_rfl
 f4:=Tryz.func38.trans (congrArg some (by kernel_rfl))
 t4:=Tryz.underlying4
 a4:=Tryz.isAgg4
 z4:=Tryz.sizeOf4
 v4:=Tryz.zeroValue4
 t22:=Tryz.underlying32
 a22:=Tryz.isAgg32
 z22:=Tryz.sizeOf32
 v22:=Tryz.zeroValue32
 t5:=Tryz.underlying5
 i5:=by kernel_rfl }
def Tryz.lays167_ren:Go.Shelf.Ren:=⟨λ| 167=>246 | 240=>135 | 276=>233 | n=>n,λ| 5=>5 | 80=>175 | 0=>0 | 4=>4 | 9=>9 | 20=>20 | 37=>32 | 70=>167 | 72=>169 | 75=>172 | 164=>324 | n=>n,λn=>n⟩
theorem Tryz.lays167:Go.Proofs.Lays.n167 Tryz.prog Tryz.lays167_ren:={
 mixed:=by kernel_rfl
 f167:=Tryz.func246.trans (congrArg some (by kernel_rfl))
 f240:=Tryz.func135.trans (congrArg some (by kernel_rfl))
 f276:=Tryz.func233.trans (congrArg some (by kernel_rfl))
 t0:=Tryz.underlying0
 a0:=Tryz.isAgg0
 z0:=Tryz.sizeOf0
 v0:=Tryz.zeroValue0
 t4:=Tryz.underlying4
 a4:=Tryz.isAgg4
 z4:=Tryz.sizeOf4
 v4:=Tryz.zeroValue4
 t5:=Tryz.underlying5
 a5:=Tryz.isAgg5
 z5:=Tryz.sizeOf5
 v5:=Tryz.zeroValue5
 t9:=Tryz.underlying9
 a9:=Tryz.isAgg9
 z9:=Tryz.sizeOf9
 v9:=Tryz.zeroValue9
 t20:=Tryz.underlying20
 a20:=Tryz.isAgg20
 z20:=Tryz.sizeOf20
 v20:=Tryz.zeroValue20
 t37:=Tryz.underlying32
 a37:=Tryz.isAgg32
 z37:=Tryz.sizeOf32
 v37:=Tryz.zeroValue32
 t70:=Tryz.underlying167
 a70:=Tryz.isAgg167
 z70:=Tryz.sizeOf167
 v70:=Tryz.zeroValue167
 t72:=Tryz.underlying169
 a72:=Tryz.isAgg169
 z72:=Tryz.sizeOf169
 v72:=Tryz.zeroValue169
 t75:=Tryz.underlying172
 a75:=Tryz.isAgg172
 z75:=Tryz.sizeOf172
 v75:=Tryz.zeroValue172
 t164:=Tryz.underlying324
 a164:=Tryz.isAgg324
 z164:=Tryz.sizeOf324
 v164:=Tryz.zeroValue324 }
def Tryz.lays169_ren:Go.Shelf.Ren:=⟨λ| 169=>75 | n=>n,λ| 5=>5 | 80=>175 | 0=>0 | 3=>3 | 9=>9 | 37=>32 | 70=>167 | 72=>169 | 127=>241 | n=>n,λn=>n⟩
theorem Tryz.lays169:Go.Proofs.Lays.n169 Tryz.prog Tryz.lays169_ren:={
 mixed:=by kernel_rfl
 f169:=Tryz.func75.trans (congrArg some (by kernel_rfl))
 t0:=Tryz.underlying0
 a0:=Tryz.isAgg0
 z0:=Tryz.sizeOf0
 v0:=Tryz.zeroValue0
 t3:=Tryz.underlying3
 a3:=Tryz.isAgg3
 z3:=Tryz.sizeOf3
 v3:=Tryz.zeroValue3
 t9:=Tryz.underlying9
 a9:=Tryz.isAgg9
 z9:=Tryz.sizeOf9
 v9:=Tryz.zeroValue9
 t37:=Tryz.underlying32
 a37:=Tryz.isAgg32
 z37:=Tryz.sizeOf32
 v37:=Tryz.zeroValue32
 t70:=Tryz.underlying167
 a70:=Tryz.isAgg167
 z70:=Tryz.sizeOf167
 v70:=Tryz.zeroValue167
 t72:=Tryz.underlying169
 a72:=Tryz.isAgg169
 z72:=Tryz.sizeOf169
 v72:=Tryz.zeroValue169
 t127:=Tryz.underlying241
 a127:=Tryz.isAgg241
 z127:=Tryz.sizeOf241
 v127:=Tryz.zeroValue241 }
theorem Tryz.bx7:Builder.Extra Tryz.prog Tryz.lays167_ren:={ Tryz.bx with }
theorem Tryz.bx9:Builder.Extra Tryz.prog Tryz.lays169_ren:={ Tryz.bx with }
end Go.Proofs
