/- The functions of the program, as plain functions, and that the program computes them. Written by a program. -/
import Derived.Test.YtnnohacnlkdlgaaGreatDoorFns4
set_option linter.unusedVariables false
set_option maxRecDepth 100000
namespace Go.Proofs.YtnnohacnlkdlgaaGreatDoor
open Go Go.Abs
open Go.IntKind renaming wrap → Qa
open _root_.Sum renaming inr → Qb, inl → Qc, elim → Qd
def Zar (a0 a1:Jae):O1 Bool:=
 bif decide (a0.kind=a1.kind) then bif decide (a0.rP=a1.rP) then bif decide (a0.jad=a1.jad) then bif decide (a0.user=a1.user) then bif decide (a0.name=a1.name) then (Zca a0.list a1.list).bind λr1=>bif r1.2.1 then bif decide (a0.jl=a1.jl) then bif decide (a0.jw=a1.jw) then bif a0.jp==a1.jp then bif decide (a0.jo=a1.jo) then bif a0.jab==a1.jab then rt (decide (a0.jk=a1.jk)) else rt false else rt false else rt false else rt false else rt false else rt false else rt false else rt false else rt false else rt false else rt false
def c294:=ct c293 19 [qbf,qbf] [qd] (u2 Zar)
theorem o294:EO c294:=sz o293 Tryz.func19
def Zbc (a0 a1:Jc):O1 Bool:=
 (Zbm a0.jba a1.jba).bind λr1=>bif r1.2.1 then bif decide (a0.jah=a1.jah) then bif decide (a0.jao=a1.jao) then bif decide (a0.jt=a1.jt) then (Zbx a0.ju a1.ju).bind λr2=>bif r2.2.1 then (Zar a0.jh a1.jh).bind λr3=>bif r3.2.1 then bif decide (a0.data=a1.data) then bif a0.jo==a1.jo then bif decide (a0.jbx=a1.jbx) then bif decide (a0.jau=a1.jau) then bif decide (a0.pin=a1.pin) then bif decide (a0.js=a1.js) then bif a0.jbq==a1.jbq then rt (decide (a0.jag=a1.jag)) else rt false else rt false else rt false else rt false else rt false else rt false else rt false else rt false else rt false else rt false else rt false else rt false else rt false
def c295:=ct c294 9 [qbs,qbs] [qd] (u2 Zbc)
theorem o295:EO c295:=sz o294 Tryz.func9
def Zbh_L2b (y0:BitVec 64) (y1:List Jb) (y2 y3 y4 y5 y6:Int):Option (((BitVec 64) × (List (Jb)) × Int × Int × Int × Int × Int × Unit)⊕((Bool × Unit) ⊕ ((BitVec 64) × (List (Jb)) × Int × Int × Int × Unit))):=
 (getI y1 y4).bind λx2=>bif decide (y6 < x2.jb.length) then (getI y1 y4).bind λx3=>(getI x3.jb y6).bind λx4=>let v5:Int:=bif decide (500 < (x4.length:Int)) then 500 else (x4.length:Int);let v6:=Qa .i64 (y5+Qa .i64 (v5+1));bif decide (500 < v6) then Zdy.bind λr7=>some (Qb (Qc (r7.2.1,()))) else some (Qc (y0,y1,y2,y3,y4,v6,Qa .i64 (y6+1),())) else some (Qb (Qb (y0,y1,y2,y3,y4,())))
def Zbh_L2:=Yi7 Zbh_L2b
def Zbh_L0b (y0:BitVec 64) (y1:List Jb) (y2 y3 y4:Int):Option (((BitVec 64) × (List (Jb)) × Int × Int × Int × Unit)⊕((Bool × Unit) ⊕ ((BitVec 64) × (List (Jb)) × Int × Int × Unit))):=
 bif decide (y4 < y1.length) then (Zbh_L2 (y0,y1,y2,y3,y4,0,0,())).bind (Qd (λz2=>some (Qb (Qc (z2.1,())))) (λz3=>some (Qc (z3.1,z3.2.1,z3.2.2.1,z3.2.2.2.1,Qa .i64 (z3.2.2.2.2.1+1),())))) else some (Qb (Qb (y0,y1,y2,y3,())))
def Zbh_L0:=Yi5 Zbh_L0b
def Zbh_L4b (y0:BitVec 64) (y1:List Jb) (y2:Int) (y3:List Jb) (y4:Int):Option (((BitVec 64) × (List (Jb)) × Int × (List (Jb)) × Int × Unit)⊕((BitVec 64) × (List (Jb)) × (List (Jb)) × Unit)):=
 (Zid y2 70).bind λr7=>bif decide (y4 < r7.2.1) then let v8:List Jb:=[{jb:=[[99,111,109]]}];bif small (y3.length+(v8:List Jb).length) 32 then some (Qc (y0,y1,y2,y3++v8,Qa .i64 (y4+1),())) else none else some (Qb (y0,y1,y3,()))
def Zbh_L4:=Yi5 Zbh_L4b
def Zbh_L6b (y0:BitVec 64) (y1:List (List Jb)) (y2 y3:Int):Option (((BitVec 64) × (List (List Jb)) × Int × Int × Unit)⊕((Bool × Unit) ⊕ (Unit))):=
 bif decide (y3 < y2) then bif decide (0<=y3)&&decide (y3 < y1.length) then y1[y3.toNat]?.bind λx10=>(Zkt y0 x10).bind λr11=>(Zhe y0 x10).bind λr12=>bif !(decide (r11.2.2.1=r12.2.2.1)) then some (Qb (Qc (false,()))) else (Zbc r11.2.1 r12.2.1).bind λr13=>bif !r13.2.1 then some (Qb (Qc (false,()))) else some (Qc (y0,y1,y2,Qa .i64 (y3+1),())) else none else some (Qb (Qb ()))
def Zbh_L6:=Yi4 Zbh_L6b
def Zbh (a0:BitVec 64) (a1:List Jb) (a2 a3:Int):O1 Bool:=
 bif decide (70 < (a1.length:Int)) then Zdy.bind λr1=>rt r1.2.1 else (Zbh_L0 (a0,a1,a2,a3,0,())).bind (Qd (λz4=>rt z4.1) (λz5=>(Zfh z5.2.2.1).bind λr6=>(Zbh_L4 (z5.1,z5.2.1,z5.2.2.2.1,r6.2.1,0,())).bind λz9=>(Zbh_L6 (z9.1,[z9.2.1,z9.2.2.1],2,0,())).bind (Qd (λz14=>rt z14.1) (λz15=>Zdy.bind λr16=>rt r16.2.1))))
def S_Zbh:FSpec T:=⟨[.f (.v .u64),.f (.v (.rs 9)),.f (.v (.int .i64)),.f (.v (.int .i64))],[(.v .bool)],λx=>Zbh x.1 x.2.1 x.2.2.1 x.2.2.2.1⟩
def s_Zbh_L2:LSpec T:=⟨[(0,qf),(1,qz),(2,qb),(3,qb),(9,qb),(10,qb),(11,qb)],[(.ret,[(8,qn)]),(.exit 2,[(0,qf),(1,qz),(2,qb),(3,qb),(9,qb)])],Zbh_L2,[]⟩
def s_Zbh_L0:LSpec T:=⟨[(0,qf),(1,qz),(2,qb),(3,qb),(9,qb)],[(.ret,[(8,qn)]),(.exit 0,[(0,qf),(1,qz),(2,qb),(3,qb)])],Zbh_L0,[]⟩
def s_Zbh_L4:LSpec T:=⟨[(0,qf),(1,qz),(3,qb),(12,qbz),(13,qb)],[(.exit 4,[(0,qf),(1,qz),(12,qbz)])],Zbh_L4,[]⟩
def s_Zbh_L6:LSpec T:=⟨[(0,qf),(71,(.f (.own 48))),(72,qb),(73,qb)],[(.ret,[(8,qn)]),(.exit 6,[])],Zbh_L6,[]⟩
def A_Zbh:Loc2 T:=lcA [(2,s_Zbh_L2),(0,s_Zbh_L0),(4,s_Zbh_L4),(6,s_Zbh_L6)] [] []
theorem Vee:LoopOk Tryz.prog (mE c295) Tryz.f3.ntmps (kqOf S_Zbh.ps 0) (loopAt 2 (bodyOf Tryz.f3)) s_Zbh_L2:=
 lpC hmix o295 A_Zbh Vaa 2 (st:=λy=>Zbh_L2b y.1 y.2.1 y.2.2.1 y.2.2.2.1 y.2.2.2.2.1 y.2.2.2.2.2.1 y.2.2.2.2.2.2.1) (λ_=>rfl) (by kernel_rfl) (by kernel_rfl) λx=>by kernel_rfl
theorem Vf0:LoopOk Tryz.prog (mE c295) Tryz.f3.ntmps (kqOf S_Zbh.ps 0) (loopAt 0 (bodyOf Tryz.f3)) s_Zbh_L0:=
 lpC hmix o295 A_Zbh (Vab rfl Vee Vaa) 0 (st:=λy=>Zbh_L0b y.1 y.2.1 y.2.2.1 y.2.2.2.1 y.2.2.2.2.1) (λ_=>rfl) (by kernel_rfl) (by kernel_rfl) λx=>by kernel_rfl
theorem Vje:LoopOk Tryz.prog (mE c295) Tryz.f3.ntmps (kqOf S_Zbh.ps 0) (loopAt 4 (bodyOf Tryz.f3)) s_Zbh_L4:=
 lpC hmix o295 A_Zbh (Vab rfl Vee (Vab rfl Vf0 Vaa)) 4 (st:=λy=>Zbh_L4b y.1 y.2.1 y.2.2.1 y.2.2.2.1 y.2.2.2.2.1) (λ_=>rfl) (by kernel_rfl) (by kernel_rfl) λx=>by kernel_rfl
theorem Vn8:LoopOk Tryz.prog (mE c295) Tryz.f3.ntmps (kqOf S_Zbh.ps 0) (loopAt 6 (bodyOf Tryz.f3)) s_Zbh_L6:=
 lpC hmix o295 A_Zbh (Vab rfl Vee (Vab rfl Vf0 (Vab rfl Vje Vaa))) 6 (st:=λy=>Zbh_L6b y.1 y.2.1 y.2.2.1 y.2.2.2.1) (λ_=>rfl) (by kernel_rfl) (by kernel_rfl) λx=>by kernel_rfl
theorem Vyu:SoundT Tryz.prog cd gdn 3 S_Zbh:=
 sndC hmix o295 A_Zbh Tryz.func3 (Vab rfl Vee (Vab rfl Vf0 (Vab rfl Vje (Vab rfl Vn8 Vaa)))) (by kernel_rfl) (by kernel_rfl) λx=>by kernel_rfl
def ClientNew_dom (a0:(BitVec 64)) (a1:(List (Jb))) (a2:Int) (a3:Int):Prop:=ArgD cd [.u64,(.rs 9),(.int .i64),(.int .i64)] (a0,a1,a2,a3,())
end Go.Proofs.YtnnohacnlkdlgaaGreatDoor
