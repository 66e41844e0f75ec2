/- The functions of the program, as plain functions, and that the program computes them. Written by a program. -/
import Derived.Test.YtnnohacnlkdlgaaGreatDoorFns1
import Derived.Test.YtnnohacnlkdlgaaGreatDoorClG
set_option linter.unusedVariables false
set_option maxRecDepth 100000
namespace Go.Proofs.YtnnohacnlkdlgaaGreatDoor
open Go Go.Abs
open Go.IntKind renaming wrap → Qa, bits → Qg
open _root_.Sum renaming inl → Qb, inr → Qc, elim → Qk
open _root_.BitVec renaming ofInt → Qd, setWidth → Qh
open _root_.UInt8 renaming ofBitVec → Qf
open _root_.List renaming take → Qi, set → Ql, drop → Qm, replicate → Qo
open _root_.Nat renaming ble → Qj
open _root_.Int renaming fdiv → Qn
def c24:List (Ct T):=⟨125,none,S_passkeyref7_NewFlashF,false⟩::c23
theorem o24:EnvOk Tryz.prog (mE c24):=eCons Vch o23
def c25:List (Ct T):=⟨399,none,S_passkeyref7_changeF,false⟩::c24
theorem o25:EnvOk Tryz.prog (mE c25):=eCons Vc4 o24
def c26:List (Ct T):=⟨218,none,S_passkeyref7_MountF,false⟩::c25
theorem o26:EnvOk Tryz.prog (mE c26):=eCons Vc7 o25
def Zhz_L0b (y0:List UInt8) (y1 y2:Int):Option (((List UInt8) × Int × Int × Unit)⊕((Bool × Unit) ⊕ (Unit))):=
 bif decide (y2 < y1) then (getI y0 y2).bind λx1=>bif decide ((97:UInt8).toBitVec.toNat<=x1.toBitVec.toNat) then bif decide (x1.toBitVec.toNat<=(122:UInt8).toBitVec.toNat) then bif decide (x1.toBitVec=(45:UInt8).toBitVec) then bif decide (0 < y2) then some (Qb (y0,y1,Qa .i64 (y2+1),())) else some (Qb (y0,y1,Qa .i64 (y2+1),())) else some (Qb (y0,y1,Qa .i64 (y2+1),())) else bif decide ((48:UInt8).toBitVec.toNat<=x1.toBitVec.toNat) then bif decide (x1.toBitVec=(45:UInt8).toBitVec) then bif decide (0 < y2) then bif !(decide (x1.toBitVec.toNat<=(57:UInt8).toBitVec.toNat)) then bif !(decide (y2 < Qa .i64 ((y0.length:Int) - 1))) then some (Qc (Qb (false,()))) else some (Qb (y0,y1,Qa .i64 (y2+1),())) else some (Qb (y0,y1,Qa .i64 (y2+1),())) else bif !(decide (x1.toBitVec.toNat<=(57:UInt8).toBitVec.toNat)) then some (Qc (Qb (false,()))) else some (Qb (y0,y1,Qa .i64 (y2+1),())) else bif !(decide (x1.toBitVec.toNat<=(57:UInt8).toBitVec.toNat)) then some (Qc (Qb (false,()))) else some (Qb (y0,y1,Qa .i64 (y2+1),())) else bif decide (x1.toBitVec=(45:UInt8).toBitVec) then bif decide (0 < y2) then bif !(decide (y2 < Qa .i64 ((y0.length:Int) - 1))) then some (Qc (Qb (false,()))) else some (Qb (y0,y1,Qa .i64 (y2+1),())) else some (Qc (Qb (false,()))) else some (Qc (Qb (false,()))) else bif decide ((48:UInt8).toBitVec.toNat<=x1.toBitVec.toNat) then bif decide (x1.toBitVec=(45:UInt8).toBitVec) then bif decide (0 < y2) then bif !(decide (x1.toBitVec.toNat<=(57:UInt8).toBitVec.toNat)) then bif !(decide (y2 < Qa .i64 ((y0.length:Int) - 1))) then some (Qc (Qb (false,()))) else some (Qb (y0,y1,Qa .i64 (y2+1),())) else some (Qb (y0,y1,Qa .i64 (y2+1),())) else bif !(decide (x1.toBitVec.toNat<=(57:UInt8).toBitVec.toNat)) then some (Qc (Qb (false,()))) else some (Qb (y0,y1,Qa .i64 (y2+1),())) else bif !(decide (x1.toBitVec.toNat<=(57:UInt8).toBitVec.toNat)) then some (Qc (Qb (false,()))) else some (Qb (y0,y1,Qa .i64 (y2+1),())) else bif decide (x1.toBitVec=(45:UInt8).toBitVec) then bif decide (0 < y2) then bif !(decide (y2 < Qa .i64 ((y0.length:Int) - 1))) then some (Qc (Qb (false,()))) else some (Qb (y0,y1,Qa .i64 (y2+1),())) else some (Qc (Qb (false,()))) else some (Qc (Qb (false,()))) else some (Qc (Qc ()))
def Zhz_L0:=Yi3 Zhz_L0b
def Zhz (a0:List UInt8):O1 Bool:=
 bif decide ((a0.length:Int) < 1) then rt false else bif decide (63 < (a0.length:Int)) then rt false else (Zhz_L0 (a0,(a0.length:Int),(0:Int),())).bind (Qk (λz2=>rt z2.1) (λz3=>rt true))
def S_Zhz:FSpec T:=⟨[qh],[qd],λx=>Zhz x.1⟩
def s_Zhz_L0:LSpec T:=⟨[(0,qh),(16,qb),(17,qb)],[(.ret,[(2,qn)]),(.exit 0,[])],Zhz_L0,[]⟩
def A_Zhz:Loc2 T:=lcA [(0,s_Zhz_L0)] [] []
theorem Voo:LoopOk Tryz.prog (mE c26) Tryz.f29.ntmps (kqOf S_Zhz.ps 0) (loopAt 0 (bodyOf Tryz.f29)) s_Zhz_L0:=
 lpC hmix o26 A_Zhz Vaa 0 (st:=λy=>Zhz_L0b y.1 y.2.1 y.2.2.1) (λ_=>rfl) (by kernel_rfl) (by kernel_rfl) λx=>by kernel_rfl
theorem Vvq:SoundT Tryz.prog cd gdn 29 S_Zhz:=
 sndC hmix o26 A_Zhz Tryz.func29 (Vab rfl Voo Vaa) (by kernel_rfl) (by kernel_rfl) λx=>by kernel_rfl
def c27:List (Ct T):=⟨29,none,S_Zhz,true⟩::c26
theorem o27:EnvOk Tryz.prog (mE c27):=eCons Vvq o26
def c28:List (Ct T):=⟨76,none,S_Zji,false⟩::c27
theorem o28:EnvOk Tryz.prog (mE c28):=eCons Vob o27
def c29:List (Ct T):=⟨77,none,S_Zjx,true⟩::c28
theorem o29:EnvOk Tryz.prog (mE c29):=eCons Vvi o28
def Ziz_L0b (y0 y1:List (List UInt8)) (y2 y3:Int):Option (((List (List UInt8)) × (List (List UInt8)) × Int × Int × Unit)⊕((Int × Unit) ⊕ ((List (List UInt8)) × Unit))):=
 bif decide (y3 < y2) then (getI y1 y3).bind λx2=>(Zhz x2).bind λr3=>bif !r3.2.1 then some (Qc (Qb (2,()))) else some (Qb (y0,y1,y2,Qa .i64 (y3+1),())) else some (Qc (Qc (y0,())))
def Ziz_L0:=Yi4 Ziz_L0b
def Ziz (a0:List UInt8):O1 Int:=
 bif decide (100 < (a0.length:Int)) then rt 8 else (Zji a0 ([46]:List UInt8)).bind λr1=>(Ziz_L0 (r1.2.1,r1.2.1,(r1.2.1.length:Int),(0:Int),())).bind (Qk (λz4=>rt z4.1) (λz5=>(getI z5.1 (Qa .i64 ((z5.1.length:Int) - 1))).bind λx6=>(Zjx x6 ([48,49,50,51,52,53,54,55,56,57]:List UInt8)).bind λr7=>bif decide (r7.2.1=([]:List UInt8)) then rt 2 else rt 0))
def S_Ziz:FSpec T:=⟨[qh],[qa],λx=>Ziz x.1⟩
def E_Ziz:Env T:=⟨tab.find,cd,globs,flc,λf ds=>match f with
  | 29=>some S_Zhz
  | 76=>some S_Zji
  | 77=>some S_Zjx
  | _=>none,λf=>match f with
  | 29=>true
  | 77=>true
  | _=>false⟩
def A_Ziz:Loc2 T:=⟨λid=>match id with
  | 0=>some ⟨[(3,.f (.v (.rs 2))),(11,.f (.v (.rs 2))),(12,.f (.v (.int .i64))),(13,.f (.v (.int .i64)))],[(.ret,[(2,.f (.v (.int .i64)))]),(.exit 0,[(3,.f (.v (.rs 2)))])],Ziz_L0,[]⟩
  | _=>none,λr=>match r with
  | _=>none,λr=>match r with
  | _=>false⟩
theorem Vop (y0:(List (List UInt8))) (y1:(List (List UInt8))) (y2:Int) (y3:Int):run E_Ziz A_Ziz (loopAt 0 (Tryz.f31.body.getD .skip)) (layC cd [(3,.f (.v (.rs 2))),(11,.f (.v (.rs 2))),(12,.f (.v (.int .i64))),(13,.f (.v (.int .i64)))] [] (y0,y1,y2,y3,())) (roundK cd [(3,.f (.v (.rs 2))),(11,.f (.v (.rs 2))),(12,.f (.v (.int .i64))),(13,.f (.v (.int .i64)))] [] [(.ret,[(2,.f (.v (.int .i64)))]),(.exit 0,[(3,.f (.v (.rs 2)))])])=Ziz_L0b y0 y1 y2 y3:=by kernel_rfl
theorem Vyz (x:tySs T S_Ziz.ps):run E_Ziz A_Ziz (Tryz.f31.body.getD .skip) (enterT E_Ziz.C S_Ziz.ps x) (retK E_Ziz Tryz.f31.results.toList S_Ziz.ps S_Ziz.rs)=S_Ziz.fn x:=by kernel_rfl
theorem Voq:EnvOk Tryz.prog E_Ziz:=envOk (E:=E_Ziz) cd_ok tys fl_ok λf ds S h=>by
  dsimp only [E_Ziz] at h
  split at h
  ·cases h; exact Vvq
  ·cases h; exact Vob
  ·cases h; exact Vvi
  ·cases h
theorem Vor:LoopOk Tryz.prog E_Ziz Tryz.f31.ntmps (kqOf S_Ziz.ps 0) (loopAt 0 (Tryz.f31.body.getD .skip)) ⟨[(3,.f (.v (.rs 2))),(11,.f (.v (.rs 2))),(12,.f (.v (.int .i64))),(13,.f (.v (.int .i64)))],[(.ret,[(2,.f (.v (.int .i64)))]),(.exit 0,[(3,.f (.v (.rs 2)))])],Ziz_L0,[]⟩:=
 Vdr (A:=A_Ziz) (done:=[]) (c0:=(Tryz.f31.body.getD .skip)) hmix Voq Vaa rounds (by kernel_rfl) (by kernel_rfl) (λx=>Vop x.1 x.2.1 x.2.2.1 x.2.2.2.1) (λ_=>rfl)
theorem Vvr:SoundT Tryz.prog cd gdn 31 S_Ziz:=
 Vbe (E:=E_Ziz) (A:=A_Ziz) (done:=[0]) (c:=(Tryz.f31.body.getD .skip)) (S:=S_Ziz) (fn:=Tryz.f31) hmix Voq Tryz.func31 rfl (by kernel_rfl) (by kernel_rfl) (Vab rfl Vor Vaa) (by kernel_rfl) (by kernel_rfl) Vyz
def c30:List (Ct T):=⟨31,none,S_Ziz,true⟩::c29
theorem o30:EnvOk Tryz.prog (mE c30):=eCons Vvr o29
def c31:List (Ct T):=⟨30,none,S_Zjw,true⟩::c30
theorem o31:EnvOk Tryz.prog (mE c31):=eCons Vyw o30
def Zhy_L0b (y0:Jb×Unit) (y1:List (List UInt8)) (y2 y3:Int):Option (((Jb × Unit) × (List (List UInt8)) × Int × Int × Unit)⊕(((List UInt8) × Int × Unit) ⊕ ((Jb × Unit) × Unit))):=
 bif decide (y3 < y2) then (getI y1 y3).bind λx1=>(Zhz x1).bind λr2=>bif !r2.2.1 then some (Qc (Qb ([],4,()))) else some (Qb ((y0.1,()),y1,y2,Qa .i64 (y3+1),())) else some (Qc (Qc ((y0.1,()),())))
def Zhy_L0:=Yi4 Zhy_L0b
def Zhy (a0:Jb):O2 (List UInt8) Int:=
 bif decide (100 < (a0.jb.length:Int)) then ru [] 4 else bif a0.jaq then bif a0.jy then ru [] 4 else bif a0.jy then bif decide ((a0.jb.length:Int) < 2) then ru [] 4 else (Zhy_L0 ((a0,()),a0.jb,(a0.jb.length:Int),(0:Int),())).bind (Qk (λz3=>ru z3.1 z3.2.1) (λz4=>(Zjw z4.1.1.jb ([46]:List UInt8)).bind λr5=>(Ziz r5.2.1).bind λr6=>bif !(decide (r6.2.1=0)) then ru [] 4 else bif z4.1.1.jaq then bif Qj (([42,46]:List UInt8).length+r5.2.1.length) 9223372036854775807 then ru (([42,46]:List UInt8)++r5.2.1) 0 else none else bif z4.1.1.jy then bif Qj (([33]:List UInt8).length+r5.2.1.length) 9223372036854775807 then ru (([33]:List UInt8)++r5.2.1) 0 else none else ru r5.2.1 0)) else (Zhy_L0 ((a0,()),a0.jb,(a0.jb.length:Int),(0:Int),())).bind (Qk (λz7=>ru z7.1 z7.2.1) (λz8=>(Zjw z8.1.1.jb ([46]:List UInt8)).bind λr9=>(Ziz r9.2.1).bind λr10=>bif !(decide (r10.2.1=0)) then ru [] 4 else bif z8.1.1.jaq then bif Qj (([42,46]:List UInt8).length+r9.2.1.length) 9223372036854775807 then ru (([42,46]:List UInt8)++r9.2.1) 0 else none else bif z8.1.1.jy then bif Qj (([33]:List UInt8).length+r9.2.1.length) 9223372036854775807 then ru (([33]:List UInt8)++r9.2.1) 0 else none else ru r9.2.1 0)) else bif a0.jy then bif decide ((a0.jb.length:Int) < 2) then ru [] 4 else (Zhy_L0 ((a0,()),a0.jb,(a0.jb.length:Int),(0:Int),())).bind (Qk (λz11=>ru z11.1 z11.2.1) (λz12=>(Zjw z12.1.1.jb ([46]:List UInt8)).bind λr13=>(Ziz r13.2.1).bind λr14=>bif !(decide (r14.2.1=0)) then ru [] 4 else bif z12.1.1.jaq then bif Qj (([42,46]:List UInt8).length+r13.2.1.length) 9223372036854775807 then ru (([42,46]:List UInt8)++r13.2.1) 0 else none else bif z12.1.1.jy then bif Qj (([33]:List UInt8).length+r13.2.1.length) 9223372036854775807 then ru (([33]:List UInt8)++r13.2.1) 0 else none else ru r13.2.1 0)) else (Zhy_L0 ((a0,()),a0.jb,(a0.jb.length:Int),(0:Int),())).bind (Qk (λz15=>ru z15.1 z15.2.1) (λz16=>(Zjw z16.1.1.jb ([46]:List UInt8)).bind λr17=>(Ziz r17.2.1).bind λr18=>bif !(decide (r18.2.1=0)) then ru [] 4 else bif z16.1.1.jaq then bif Qj (([42,46]:List UInt8).length+r17.2.1.length) 9223372036854775807 then ru (([42,46]:List UInt8)++r17.2.1) 0 else none else bif z16.1.1.jy then bif Qj (([33]:List UInt8).length+r17.2.1.length) 9223372036854775807 then ru (([33]:List UInt8)++r17.2.1) 0 else none else ru r17.2.1 0))
def S_Zhy:FSpec T:=⟨[(.f qa6)],[qaf,qa],λx=>Zhy x.1⟩
def s_Zhy_L0:LSpec T:=⟨[(1,(.ptr [qa6])),(30,qad),(31,qb),(32,qb)],[(.ret,[(2,qh),(3,qb)]),(.exit 0,[(1,(.ptr [qa6]))])],Zhy_L0,[]⟩
def A_Zhy:Loc2 T:=lcA [(0,s_Zhy_L0)] [] []
theorem Vos:LoopOk Tryz.prog (mE c31) Tryz.f14.ntmps (kqOf S_Zhy.ps 0) (loopAt 0 (bodyOf Tryz.f14)) s_Zhy_L0:=
 lpC hmix o31 A_Zhy Vaa 0 (st:=λy=>Zhy_L0b y.1 y.2.1 y.2.2.1 y.2.2.2.1) (λ_=>rfl) (by kernel_rfl) (by kernel_rfl) λx=>by kernel_rfl
theorem Vvs:SoundT Tryz.prog cd gdn 14 S_Zhy:=
 sndC hmix o31 A_Zhy Tryz.func14 (Vab rfl Vos Vaa) (by kernel_rfl) (by kernel_rfl) λx=>by kernel_rfl
def c32:List (Ct T):=⟨14,none,S_Zhy,true⟩::c31
theorem o32:EnvOk Tryz.prog (mE c32):=eCons Vvs o31
def c33:List (Ct T):=⟨15,none,S_Zjh,false⟩::c32
theorem o33:EnvOk Tryz.prog (mE c33):=eCons Vvj o32
def Zkt_L0b (y0:BitVec 64) (y1:Jc×Unit) (y2 y3:List Jb) (y4 y5:Int):Option (((BitVec 64) × (Jc × Unit) × (List (Jb)) × (List (Jb)) × Int × Int × Unit)⊕(((Jc × Unit) × Int × Unit) ⊕ ((BitVec 64) × (Jc × Unit) × (List (Jb)) × Unit))):=
 bif decide (y5 < y4) then (getI y3 y5).bind λx2=>(Zhy x2).bind λr3=>bif !(decide (r3.2.2.1=0)) then some (Qc (Qb (({},()),r3.2.2.1,()))) else (Zjh x2.jb).bind λr4=>let v5:List Jb:=[{x2 with jb:=r4.2.1}];bif small (y2.length+(v5:List Jb).length) 32 then some (Qb (y0,(y1.1,()),y2++v5,y3,y4,Qa .i64 (y5+1),())) else none else some (Qc (Qc (y0,(y1.1,()),y2,())))
def Zkt_L0:=Yi6 Zkt_L0b
def Zkt (a0:BitVec 64) (a1:List Jb):O2 Jc Int:=
 bif decide (64 < (a1.length:Int)) then some ((),{},8,()) else bif decide ((0:Int)<=0)&&(decide (0<=(a1.length:Int))&&decide (32*(a1.length:Int)<=281474976710656/\(a1.length:Int)<=9223372036854775807)) then let v1:=Qo 0 ({}:Jb);(Zkt_L0 (a0,(({}:Jc),()),v1,a1,(a1.length:Int),(0:Int),())).bind (Qk (λz6=>ru z6.1.1 z6.2.1) (λz7=>ru {jba:=z7.2.2.1,jah:=z7.1} 0)) else none
def S_Zkt:FSpec T:=⟨[qf,qz],[qp,qa],λx=>Zkt x.1 x.2.1⟩
def E_Zkt:Env T:=⟨tab.find,cd,globs,flc,λf ds=>match f with
  | 14=>some S_Zhy
  | 15=>some S_Zjh
  | _=>none,λf=>match f with
  | 14=>true
  | _=>false⟩
def A_Zkt:Loc2 T:=⟨λid=>match id with
  | 0=>some ⟨[(0,.f (.v .u64)),(4,.ptr [(.v (.agg 10))]),(6,.f (.own 9)),(18,.f (.v (.rs 9))),(19,.f (.v (.int .i64))),(20,.f (.v (.int .i64)))],[(.ret,[(4,.ptr [(.v (.agg 10))]),(5,.f (.v (.int .i64)))]),(.exit 0,[(0,.f (.v .u64)),(4,.ptr [(.v (.agg 10))]),(6,.f (.own 9))])],Zkt_L0,[]⟩
  | _=>none,λr=>match r with
  | _=>none,λr=>match r with
  | _=>false⟩
theorem Vot (y0:(BitVec 64)) (y1:(Jc×Unit)) (y2:(List (Jb))) (y3:(List (Jb))) (y4:Int) (y5:Int):run E_Zkt A_Zkt (loopAt 0 (Tryz.f7.body.getD .skip)) (layC cd [(0,.f (.v .u64)),(4,.ptr [(.v (.agg 10))]),(6,.f (.own 9)),(18,.f (.v (.rs 9))),(19,.f (.v (.int .i64))),(20,.f (.v (.int .i64)))] [] (y0,y1,y2,y3,y4,y5,())) (roundK cd [(0,.f (.v .u64)),(4,.ptr [(.v (.agg 10))]),(6,.f (.own 9)),(18,.f (.v (.rs 9))),(19,.f (.v (.int .i64))),(20,.f (.v (.int .i64)))] [] [(.ret,[(4,.ptr [(.v (.agg 10))]),(5,.f (.v (.int .i64)))]),(.exit 0,[(0,.f (.v .u64)),(4,.ptr [(.v (.agg 10))]),(6,.f (.own 9))])])=Zkt_L0b y0 y1 y2 y3 y4 y5:=by kernel_rfl
theorem Vy0 (x:tySs T S_Zkt.ps):run E_Zkt A_Zkt (Tryz.f7.body.getD .skip) (enterT E_Zkt.C S_Zkt.ps x) (retK E_Zkt Tryz.f7.results.toList S_Zkt.ps S_Zkt.rs)=S_Zkt.fn x:=by kernel_rfl
theorem Vou:EnvOk Tryz.prog E_Zkt:=envOk (E:=E_Zkt) cd_ok tys fl_ok λf ds S h=>by
  dsimp only [E_Zkt] at h
  split at h
  ·cases h; exact Vvs
  ·cases h; exact Vvj
  ·cases h
theorem Vov:LoopOk Tryz.prog E_Zkt Tryz.f7.ntmps (kqOf S_Zkt.ps 0) (loopAt 0 (Tryz.f7.body.getD .skip)) ⟨[(0,.f (.v .u64)),(4,.ptr [(.v (.agg 10))]),(6,.f (.own 9)),(18,.f (.v (.rs 9))),(19,.f (.v (.int .i64))),(20,.f (.v (.int .i64)))],[(.ret,[(4,.ptr [(.v (.agg 10))]),(5,.f (.v (.int .i64)))]),(.exit 0,[(0,.f (.v .u64)),(4,.ptr [(.v (.agg 10))]),(6,.f (.own 9))])],Zkt_L0,[]⟩:=
 Vdr (A:=A_Zkt) (done:=[]) (c0:=(Tryz.f7.body.getD .skip)) hmix Vou Vaa rounds (by kernel_rfl) (by kernel_rfl) (λx=>Vot x.1 x.2.1 x.2.2.1 x.2.2.2.1 x.2.2.2.2.1 x.2.2.2.2.2.1) (λ_=>rfl)
theorem Vy1:SoundT Tryz.prog cd gdn 7 S_Zkt:=
 Vbe (E:=E_Zkt) (A:=A_Zkt) (done:=[0]) (c:=(Tryz.f7.body.getD .skip)) (S:=S_Zkt) (fn:=Tryz.f7) hmix Vou Tryz.func7 rfl (by kernel_rfl) (by kernel_rfl) (Vab rfl Vov Vaa) (by kernel_rfl) (by kernel_rfl) Vy0
def c34:List (Ct T):=⟨7,none,S_Zkt,false⟩::c33
theorem o34:EnvOk Tryz.prog (mE c34):=eCons Vy1 o33
def Zid (a0 a1:Int):O1 Int:=
 bif decide (Qd 64 a1=0) then none else let v1:=Qa .i64 ((Qd 64 a0%Qd 64 a1).toNat:Int);rt v1
def c35:=ct c34 6 [qb,qb] [qa] (u2 Zid)
theorem o35:EO c35:=sz o34 Tryz.func6
def Zcz (a0:Int):O1 Jab:=
 let v1:=Qa .i64 ((Qd (Qg .i64) a0&&&Qd (Qg .i64) 3).toNat:Int);let v2:=Qa .i64 ((Qd (Qg .i64) (Qn a0 (2 ^ min 2 (Qg .i64)))&&&Qd (Qg .i64) 255).toNat:Int);let v3:List Int:=[2048,1024,512,640];let v4:=Qa .i64 ((Qd (Qg .i64) (Qn a0 (2 ^ min 4 (Qg .i64)))&&&Qd (Qg .i64) 3).toNat:Int);bif decide (0<=v4)&&decide (v4 < 4) then v3[v4.toNat]?.bind λx5=>let v6:=Qa .i64 ((Qd (Qg .i64) (Qn a0 (2 ^ min 6 (Qg .i64)))&&&Qd (Qg .i64) 1).toNat:Int);let v7:=Qa .i64 ((Qd (Qg .i64) (Qn a0 (2 ^ min 7 (Qg .i64)))&&&Qd (Qg .i64) 1).toNat:Int);let v8:=Qa .i64 ((Qd (Qg .i64) (Qn a0 (2 ^ min 8 (Qg .i64)))&&&Qd (Qg .i64) 1).toNat:Int);let v9:List UInt8:=[111,110,101];let v10:List UInt8:=[116,119,111];let v11:=Qa .i64 ((Qd (Qg .i64) (Qn a0 (2 ^ min 9 (Qg .i64)))&&&Qd (Qg .i64) 1).toNat:Int);bif decide (0<=Qa .i64 (1+v11))&&decide (Qa .i64 (1+v11)<=2) then bif decide ((Qa .i64 (1+v11)).toNat<=([v9,v10]).length) then rt ⟨Qd 64 v1,Qd 64 v2+1#64,x5,decide (v6=1),77#64,2,v7,Qa .i64 (2+v8),Qi (Qa .i64 (1+v11)).toNat [v9,v10]⟩ else none else none else none
def c36:=cf c35 68 [qb] [qb2] (u1 Zcz)
theorem o36:EO c36:=sz o35 Tryz.func68
def Zgu_L0b (y0:Jab×Unit) (y1:Jd×Unit) (y2:Int):Option (((Jab × Unit) × (Jd × Unit) × Int × Unit)⊕(((Jd × Unit) × Int × Unit) ⊕ ((Jab × Unit) × (Jd × Unit) × Unit))):=
 bif decide (y2 < y0.1.jf.length) then (getI y0.1.jf y2).bind λx2=>bif decide (512 < (x2.length:Int)) then some (Qc (Qb (({},()),8,()))) else some (Qb ((y0.1,()),(y1.1,()),Qa .i64 (y2+1),())) else some (Qc (Qc ((y0.1,()),(y1.1,()),())))
def Zgu_L0:=Yi3 Zgu_L0b
def Zgu (a0:Jab):O2 Jd Int:=
 bif decide (a0.ja < 512) then some ((),{},9,()) else bif decide (8192 < a0.ja) then some ((),{},9,()) else bif decide (a0.jaj < 0) then some ((),{},9,()) else bif decide (4 < a0.jaj) then some ((),{},9,()) else bif decide (a0.jam < 0) then some ((),{},9,()) else bif decide (a0.jay < a0.jam) then some ((),{},9,()) else let v1:=Qa .i64 (1*2 ^ min (Qd 64 a0.jaj).toNat (Qg .i64));bif decide (v1 < a0.jay) then some ((),{},9,()) else bif decide (3 < (a0.jf.length:Int)) then some ((),{},8,()) else (Zgu_L0 ((a0,()),({},()),0,())).bind (Qk (λz3=>ru z3.1.1 z3.2.1) (λz4=>(passkeyref7_NewFlashF z4.1.1.ja 2).bind λr5=>ru {jg:=z4.1.1,jq:=⟨{jae:=r5.2.1},[]⟩} 0))
def c37:=cf c36 67 [(.f qb2)] [qr,qa] (u1 Zgu)
def s_Zgu_L0:LSpec T:=⟨[(1,(.ptr [qb2])),(2,qg),(4,qb)],[(.ret,[(2,qg),(3,qb)]),(.exit 0,[(1,(.ptr [qb2])),(2,qg)])],Zgu_L0,[]⟩
def A_Zgu:Loc2 T:=lcA [(0,s_Zgu_L0)] [] []
theorem Vow:LO c37 Tryz.f67 0 s_Zgu_L0:=lx o36 A_Zgu dn (λ_=>rfl)
theorem o37:EO c37:=sx o36 A_Zgu Tryz.func67 (dc rfl Vow dn)
def Zhn (a0:Jo) (a1 a2 a3:Int):O1 Int:=
 (Zak a0).bind λr1=>bif !(decide (r1.2.1=0)) then rt r1.2.1 else bif decide (a1 < 0) then rt 9 else bif decide (a0.ja=0) then none else let v2:=Qa .i64 (Int.tdiv (a0.bytes.length:Int) a0.ja);bif decide (v2<=a1) then rt 9 else bif decide (a2 < 0) then rt 9 else bif decide (a3 < 0) then rt 9 else bif decide (a0.ja < a2) then rt 9 else bif decide (Qa .i64 (a0.ja - a2) < a3) then rt 9 else rt 0
def c38:=ct c37 398 [qbm,qb,qb,qb] [qa] (u4 Zhn)
theorem o38:EO c38:=sz o37 Tryz.func398
def Zga (a0:Jo) (a1 a2:Int):Option (Unit×Jo×Int×Int×Unit):=
 (Zhn a0 a1 0 0).bind λr1=>bif !(decide (r1.2.1=0)) then some ((),{},0,r1.2.1,()) else (passkeyref7_changeF a0 (Qa .i64 (a1*a0.ja)) a0.ja [] a2).bind λr2=>some ((),r2.2.1,r2.2.2.1,r2.2.2.2.1,())
def c39:=cf c38 338 [qbm,qb,qb] [qac,qa,qa] (u3 Zga)
theorem o39:EO c39:=sz o38 Tryz.func338
def Zdq (a0:Jo) (a1 a2:Int) (a3:List UInt8) (a4:Int):Option (Unit×Jo×Int×Int×Unit):=
 (Zhn a0 a1 a2 (a3.length:Int)).bind λr1=>bif !(decide (r1.2.1=0)) then some ((),{},0,r1.2.1,()) else let v2:=Qa .i64 (Qa .i64 (a1*a0.ja)+a2);(passkeyref7_changeF a0 v2 (a3.length:Int) a3 a4).bind λr3=>some ((),r3.2.1,r3.2.2.1,r3.2.2.2.1,())
def c40:=cf c39 339 [qbm,qb,qb,qe,qb] [qac,qa,qa] (u5 Zdq)
theorem o40:EO c40:=sz o39 Tryz.func339
def Zex (a0:Jo) (a1:Int):Option (Unit×Jn×Int×Int×Unit):=
 (Zak a0).bind λr1=>bif !(decide (r1.2.1=0)) then none else bif decide (a0.bytes.length < Qa .i64 (2*a0.ja)) then none else (Zga a0 0 a1).bind λr2=>(bif decide (r2.2.2.2.1=0) then (Zga r2.2.1 1 r2.2.2.1).bind λr3=>some (r3.2.2.1,(r3.2.1,()),(({}:Jn),()),r3.2.2.2.1,()) else some (r2.2.2.1,(r2.2.1,()),(({}:Jn),()),r2.2.2.2.1,())).bind λj4=>(bif decide (j4.2.2.2.1=0) then (Zfa 1).bind λr5=>(Zdq j4.2.1.1 0 0 r5.2.1 j4.1).bind λr6=>some (r6.2.2.1,(r6.2.1,()),(j4.2.2.1.1,()),r6.2.2.2.1,()) else some (j4.1,(j4.2.1.1,()),(j4.2.2.1.1,()),j4.2.2.2.1,())).bind λj7=>bif !(decide (j7.2.2.2.1=0)) then none else (passkeyref7_MountF j7.2.1.1).bind λr8=>some ((),r8.2.1,j7.1,0,())
def c41:=cf c40 219 [qbm,qb] [qak,qa,qa] (u2 Zex)
theorem o41:EO c41:=sx o40 (lcA [] [(9,[(1,qb),(2,qbu),(4,qbo),(8,qb)],true),(11,[(1,qb),(2,qbu),(4,qbo),(8,qb)],true)] [10]) Tryz.func219 dn
def Zcd (a0 a1:Jo):O1 Bool:=
 bif decide (a0.ja=a1.ja) then rt (decide (a0.bytes=a1.bytes)) else rt false
def c42:=ct c41 424 [qbm,qbm] [qd] (u2 Zcd)
theorem o42:EO c42:=sz o41 Tryz.func424
def Zbd (a0 a1:Jn):O1 Bool:=
 (Zcd a0.jae a1.jae).bind λr1=>bif r1.2.1 then bif decide (a0.jbr=a1.jbr) then bif decide (a0.jak=a1.jak) then bif decide (a0.tail=a1.tail) then rt (a0.jbd==a1.jbd) else rt false else rt false else rt false else rt false
def c43:=ct c42 400 [(.f qak),(.f qak)] [qd] (u2 Zbd)
theorem o43:EO c43:=sz o42 Tryz.func400
def Zdp (a0:Jn):O1 Bool:=
 (passkeyref7_MountF a0.jae).bind λr1=>bif decide (r1.2.2.1=0) then (Zbd a0 r1.2.1).bind λr2=>rt r2.2.1 else rt false
def c44:=ct c43 343 [(.f qak)] [qd] (u1 Zdp)
theorem o44:EO c44:=sz o43 Tryz.func343
def Zdr (a0:Jn):O1 (List (List UInt8)):=
 (Zdp a0).bind λr1=>bif !r1.2.1 then rt [] else (Zho a0.jae a0.jbr a0.jak).bind λr2=>rt r2.2.1
def c45:=cf c44 341 [(.f qak)] [qbg] (u1 Zdr)
theorem o45:EO c45:=sz o44 Tryz.func341
def Zgd_L0b (y0:List UInt8) (y1:List Ji):Option (((List (UInt8)) × (List (Ji)) × Unit)⊕(((List (Ji)) × Bool × Unit) ⊕ ((List (Ji)) × Unit))):=
 bif decide (0 < (y0.length:Int)) then bif decide ((y0.length:Int) < 3) then some (Qc (Qb ([],false,()))) else (getI y0 (1:Int)).bind λx1=>let v2:=Qa .i64 ((x1.toBitVec.toNat:Int)*2 ^ min 8 (Qg .i64));(getI y0 (2:Int)).bind λx3=>let v4:=Qa .i64 ((Qd (Qg .i64) v2 ||| Qd (Qg .i64) (x3.toBitVec.toNat:Int)).toNat:Int);bif decide (Qa .i64 ((y0.length:Int) - 3) < v4) then some (Qc (Qb ([],false,()))) else (getI y0 (1:Int)).bind λx5=>let v6:=Qa .i64 ((x5.toBitVec.toNat:Int)*2 ^ min 8 (Qg .i64));(getI y0 (2:Int)).bind λx7=>let v8:=Qa .i64 ((Qd (Qg .i64) v6 ||| Qd (Qg .i64) (x7.toBitVec.toNat:Int)).toNat:Int);(getI y0 (0:Int)).bind λx9=>bif decide (0<=Qa .i64 (3+v8))&&decide (Qa .i64 (3+v8)<=y0.length) then bif decide (3<=((Qa .i64 (3+v8)).toNat:Int)) then let v10:=Qm 3 (Qi (Qa .i64 (3+v8)).toNat y0);bif small v10.length 1 then let v11:List Ji:=[⟨(x9.toBitVec.toNat:Int),v10⟩];bif small (y1.length+(v11:List Ji).length) 32 then bif decide (0<=Qa .i64 (3+v8))&&decide (Qa .i64 (3+v8)<=y0.length) then some (Qb (Qm (Qa .i64 (3+v8)).toNat y0,y1++v11,())) else none else none else none else none else none else some (Qc (Qc (y1,())))
def Zgd_L0:=Yi2 Zgd_L0b
def Zgd (a0:List UInt8):O2 (List Ji) Bool:=
 (Zgd_L0 (a0,[],())).bind (Qk (λz12=>ru z12.1 z12.2.1) (λz13=>ru z13.1 true))
def c46:=cf c45 342 [qe] [(.own 13),qd] (u1 Zgd)
def s_Zgd_L0:LSpec T:=⟨[(0,qe),(4,qaw)],[(.ret,[(2,qaw),(3,qn)]),(.exit 0,[(4,qaw)])],Zgd_L0,[]⟩
def A_Zgd:Loc2 T:=lcA [(0,s_Zgd_L0)] [] [6]
theorem Vox:LO c46 Tryz.f342 0 s_Zgd_L0:=lx o45 A_Zgd dn (λ_=>rfl)
theorem o46:EO c46:=sx o45 A_Zgd Tryz.func342 (dc rfl Vox dn)
def Zhm_L2b (y0 y1:List Ji) (y2:Int) (y3:List Ji) (y4:Bool) (y5:Int):Option (((List (Ji)) × (List (Ji)) × Int × (List (Ji)) × Bool × Int × Unit)⊕((List (Ji)) × Int × (List (Ji)) × Bool × Unit)):=
 bif decide (y5 < y0.length) then (bif !y4 then (getI y0 y5).bind λx2=>(getI y1 y2).bind λx3=>bif decide (x3.key<=x2.key) then (getI y1 y2).bind λx4=>bif small (y3.length+([x4]).length) 32 then some (y0,y1,y2,y3++[x4],true,y5,()) else none else some (y0,y1,y2,y3,y4,y5,()) else some (y0,y1,y2,y3,y4,y5,())).bind λj5=>(getI j5.1 j5.2.2.2.2.2.1).bind λx6=>(getI j5.2.1 j5.2.2.1).bind λx7=>bif !(decide (x6.key=x7.key)) then (getI j5.1 j5.2.2.2.2.2.1).bind λx8=>bif small (j5.2.2.2.1.length+([x8]).length) 32 then some (Qb (j5.1,j5.2.1,j5.2.2.1,j5.2.2.2.1++[x8],j5.2.2.2.2.1,Qa .i64 (j5.2.2.2.2.2.1+1),())) else none else some (Qb (j5.1,j5.2.1,j5.2.2.1,j5.2.2.2.1,j5.2.2.2.2.1,Qa .i64 (j5.2.2.2.2.2.1+1),())) else some (Qc (y1,y2,y3,y4,()))
def Zhm_L2:=Yi6 Zhm_L2b
def Zhm_L0b (y0 y1:List Ji) (y2:Int):Option (((List (Ji)) × (List (Ji)) × Int × Unit)⊕((List (Ji)) × Unit)):=
 bif decide (y2 < y1.length) then (getI y1 y2).bind λx1=>(Zhm_L2 (y0,y1,y2,[],decide ((x1.value.length:Int)=0),0,())).bind λz2=>bif !z2.2.2.2.1 then (getI z2.1 z2.2.1).bind λx3=>bif small (z2.2.2.1.length+([x3]).length) 32 then some (Qb (z2.2.2.1++[x3],z2.1,Qa .i64 (z2.2.1+1),())) else none else some (Qb (z2.2.2.1,z2.1,Qa .i64 (z2.2.1+1),())) else some (Qc (y0,()))
def Zhm_L0:=Yi3 Zhm_L0b
def Zhm (a0 a1:List Ji):O1 (List Ji):=
 (Zhm_L0 (a0,a1,0,())).bind λz4=>rt z4.1
def c47:=cf c46 228 [qo,qo] [(.v (.rs 13))] (u2 Zhm)
def s_Zhm_L2:LSpec T:=⟨[(0,qo),(1,qo),(5,qb),(6,qaw),(7,qn),(8,qb)],[(.exit 2,[(1,qo),(5,qb),(6,qaw),(7,qn)])],Zhm_L2,[]⟩
def s_Zhm_L0:LSpec T:=⟨[(0,qo),(1,qo),(5,qb)],[(.exit 0,[(0,qo)])],Zhm_L0,[]⟩
def A_Zhm:Loc2 T:=lcA [(2,s_Zhm_L2),(0,s_Zhm_L0)] [(11,[(0,qo),(1,qo),(5,qb),(6,qaw),(7,qn),(8,qb)],true)] []
theorem Vji:LO c47 Tryz.f228 2 s_Zhm_L2:=lx o46 A_Zhm dn (λ_=>rfl)
theorem Voy:LO c47 Tryz.f228 0 s_Zhm_L0:=lx o46 A_Zhm (dc rfl Vji dn) (λ_=>rfl)
theorem o47:EO c47:=sx o46 A_Zhm Tryz.func228 (dc rfl Vji (dc rfl Voy dn))
def Zey_L0b (y0:List Ji) (y1:List (List UInt8)) (y2:Int):Option (((List (Ji)) × (List (List UInt8)) × Int × Unit)⊕((List (Ji)) × Unit)):=
 bif decide (y2 < y1.length) then bif decide (0<=y2)&&decide (y2 < y1.length) then y1[y2.toNat]?.bind λx5=>(Zgd x5).bind λr6=>bif r6.2.2.1 then (Zhm y0 r6.2.1).bind λr7=>some (Qb (r7.2.1,y1,Qa .i64 (y2+1),())) else some (Qb (y0,y1,Qa .i64 (y2+1),())) else none else some (Qc (y0,()))
def Zey_L0:=Yi3 Zey_L0b
def Zey (a0:Jn):O1 (List Ji):=
 (Zdr a0).bind λr1=>(Zey_L0 ([],r1.2.1,0,())).bind λz8=>rt z8.1
def c48:=cf c47 221 [(.f qak)] [(.v (.rs 13))] (u1 Zey)
def s_Zey_L0:LSpec T:=⟨[(3,qo),(4,(.f qbg)),(5,qb)],[(.exit 0,[(3,qo)])],Zey_L0,[]⟩
def A_Zey:Loc2 T:=lcA [(0,s_Zey_L0)] [] []
theorem Voz:LO c48 Tryz.f221 0 s_Zey_L0:=lx o47 A_Zey dn (λ_=>rfl)
theorem o48:EO c48:=sx o47 A_Zey Tryz.func221 (dc rfl Voz dn)
def Zhj (a0:Jo) (a1:Int):Option (Unit×Js×Int×Int×Unit):=
 (passkeyref7_MountF a0).bind λr1=>(bif decide (r1.2.2.1=11) then (Zex a0 a1).bind λr2=>some (r2.2.2.1,(({}:Js),()),(r2.2.1,()),r2.2.2.2.1,()) else some (a1,(({}:Js),()),(r1.2.1,()),r1.2.2.1,())).bind λj3=>bif !(decide (j3.2.2.2.1=0)) then none else (Zey j3.2.2.1.1).bind λr4=>bif j3.2.2.1.1.jbd then none else some ((),⟨j3.2.2.1.1,r4.2.1⟩,j3.1,0,())
def c49:=cf c48 126 [qbm,qb] [qbd,qa,qa] (u2 Zhj)
theorem o49:EO c49:=sx o48 (lcA [] [(4,[(1,qb),(4,qy),(7,qbo),(8,qb)],true)] [8]) Tryz.func126 dn
def Zil_L0b (y0:Int) (y1:Js×Unit) (y2:Int):Option ((Int × (Js × Unit) × Int × Unit)⊕(((List (UInt8)) × Unit) ⊕ (Unit))):=
 bif decide (y2 < y1.1.jat.length) then (getI y1.1.jat y2).bind λx1=>bif decide (x1.key=y0) then (getI y1.1.jat y2).bind λx2=>bif small x2.value.length 1 then some (Qc (Qb (x2.value,()))) else none else some (Qb (y0,(y1.1,()),Qa .i64 (y2+1),())) else some (Qc (Qc ()))
def Zil_L0:=Yi3 Zil_L0b
def Zil (a0:Js) (a1:Int):O1 (List UInt8):=
 (Zil_L0 (a1,(a0,()),0,())).bind (Qk (λz3=>rt z3.1) (λz4=>rt []))
def c50:=cf c49 129 [(.f qbd),qb] [qj] (u2 Zil)
def s_Zil_L0:LSpec T:=⟨[(1,qb),(2,qy),(5,qb)],[(.ret,[(4,qam)]),(.exit 0,[])],Zil_L0,[]⟩
def A_Zil:Loc2 T:=lcA [(0,s_Zil_L0)] [] []
theorem Vo0:LO c50 Tryz.f129 0 s_Zil_L0:=lx o49 A_Zil dn (λ_=>rfl)
theorem o50:EO c50:=sx o49 A_Zil Tryz.func129 (dc rfl Vo0 dn)
def Zee_L0b (y0:Int) (y1:List UInt8) (y2:Int):Option ((Int × (List (UInt8)) × Int × Unit)⊕(Int × Unit)):=
 bif decide (y2 < y1.length) then bif decide (0<=y2)&&decide (y2 < y1.length) then y1[y2.toNat]?.bind λx2=>let v3:=Qa .i64 ((Qd (Qg .i64) (Qa .i64 (y0*2 ^ min 8 (Qg .i64))) ||| Qd (Qg .i64) (x2.toBitVec.toNat:Int)).toNat:Int);some (Qb (v3,y1,Qa .i64 (y2+1),())) else none else some (Qc (y0,()))
def Zee_L0:=Yi3 Zee_L0b
def Zee (a0:Js):O1 Int:=
 (Zil a0 2).bind λr1=>(Zee_L0 (0,r1.2.1,0,())).bind λz4=>rt z4.1
def c51:=ct c50 128 [(.f qbd)] [qa] (u1 Zee)
def s_Zee_L0:LSpec T:=⟨[(3,qb),(4,qam),(5,qb)],[(.exit 0,[(3,qb)])],Zee_L0,[]⟩
def A_Zee:Loc2 T:=lcA [(0,s_Zee_L0)] [] []
theorem Vo1:LO c51 Tryz.f128 0 s_Zee_L0:=lx o50 A_Zee dn (λ_=>rfl)
theorem o51:EO c51:=sx o50 A_Zee Tryz.func128 (dc rfl Vo1 dn)
def Zeh (a0:BitVec 64) (a1:List UInt8) (a2:Int):O1 (BitVec 64):=
 bif small (a1.length+([0]:List UInt8).length) 1 then (passkeyref1_WordsF [Qd 64 a2]).bind λr1=>bif small ((a1++[0]).length+(r1.2.1:List UInt8).length) 1 then let v2:=a1++[0]++r1.2.1;(Zig a0 4 v2).bind λr3=>rt r3.2.1 else none else none
def c52:=ct c51 224 [qf,qh,qb] [qt] (u3 Zeh)
theorem o52:EO c52:=sz o51 Tryz.func224
def Zdj (a0:Jd) (a1:Int):O1 (List UInt8):=
 (Zeh a0.jg.jah [109,97,115,116,101,114] a1).bind λr1=>(passkeyref1_WordsF [r1.2.1]).bind λr2=>rt r2.2.1
def c53:=cf c52 130 [qbc,qb] [qj] (u2 Zdj)
theorem o53:EO c53:=sz o52 Tryz.func130
def Zea (a0:Jv):O1 Bool:=
 bif decide (0<=a0.jca) then bif decide (a0.jca<=a0.next) then bif decide (a0.next<=a0.to_) then rt (decide (a0.to_<=16)) else rt false else rt false else rt false
def c54:=ct c53 225 [(.f qbv)] [qd] (u1 Zea)
theorem o54:EO c54:=sz o53 Tryz.func225
def Zan (a0:Jv):O1 (List UInt8):=
 (Zea a0).bind λr1=>bif !r1.2.1 then rt [] else (passkeyref1_WordsF [a0.tag]).bind λr2=>let v3:List UInt8:=[Qf (Qd 8 a0.jca),Qf (Qd 8 a0.to_),Qf (Qd 8 a0.next)];bif small (r2.2.1.length+(v3:List UInt8).length) 1 then rt (r2.2.1++v3) else none
def c55:=cf c54 131 [(.f qbv)] [qj] (u1 Zan)
theorem o55:EO c55:=sx o54 (lcA [] [] [3]) Tryz.func131 dn
def Zce_L0b (y0 y1:List Ji) (y2:Int):Option (((List (Ji)) × (List (Ji)) × Int × Unit)⊕((Bool × Unit) ⊕ (Unit))):=
 bif decide (y2 < y0.length) then (getI y0 y2).bind λx1=>(getI y1 y2).bind λx2=>bif !(decide (x1.key=x2.key)) then some (Qc (Qb (false,()))) else (getI y0 y2).bind λx3=>(getI y1 y2).bind λx4=>bif !(decide (x3.value=x4.value)) then some (Qc (Qb (false,()))) else some (Qb (y0,y1,Qa .i64 (y2+1),())) else some (Qc (Qc ()))
def Zce_L0:=Yi3 Zce_L0b
def Zce (a0 a1:List Ji):O1 Bool:=
 bif !(decide ((a0.length:Int)=(a1.length:Int))) then rt false else (Zce_L0 (a0,a1,0,())).bind (Qk (λz5=>rt z5.1) (λz6=>rt true))
def c56:=ct c55 345 [qo,qo] [qd] (u2 Zce)
def s_Zce_L0:LSpec T:=⟨[(0,qo),(1,qo),(5,qb)],[(.ret,[(4,qn)]),(.exit 0,[])],Zce_L0,[]⟩
def A_Zce:Loc2 T:=lcA [(0,s_Zce_L0)] [] []
theorem Vo2:LO c56 Tryz.f345 0 s_Zce_L0:=lx o55 A_Zce dn (λ_=>rfl)
theorem o56:EO c56:=sx o55 A_Zce Tryz.func345 (dc rfl Vo2 dn)
def Zas (a0:Js):O1 Bool:=
 (Zdp a0.jj).bind λr1=>bif r1.2.1 then (Zey a0.jj).bind λr2=>(Zce a0.jat r2.2.1).bind λr3=>rt r3.2.1 else rt false
def c57:=ct c56 226 [(.f qbd)] [qd] (u1 Zas)
theorem o57:EO c57:=sx o56 (lcA [] [] [1]) Tryz.func226 dn
def Zhl_L0b (y0:List Ji) (y1 y2:Int):Option (((List (Ji)) × Int × Int × Unit)⊕(Int × Unit)):=
 bif decide (y2 < y0.length) then (getI y0 y2).bind λx1=>let v2:=Qa .i64 (y1+Qa .i64 (3+(x1.value.length:Int)));some (Qb (y0,v2,Qa .i64 (y2+1),())) else some (Qc (y1,()))
def Zhl_L0:=Yi3 Zhl_L0b
def Zhl (a0:List Ji):O1 Int:=
 (Zhl_L0 (a0,0,0,())).bind λz3=>rt z3.1
def c58:=ct c57 227 [qo] [qa] (u1 Zhl)
def s_Zhl_L0:LSpec T:=⟨[(0,qo),(3,qb),(4,qb)],[(.exit 0,[(3,qb)])],Zhl_L0,[]⟩
def A_Zhl:Loc2 T:=lcA [(0,s_Zhl_L0)] [] []
theorem Vo3:LO c58 Tryz.f227 0 s_Zhl_L0:=lx o57 A_Zhl dn (λ_=>rfl)
theorem o58:EO c58:=sx o57 A_Zhl Tryz.func227 (dc rfl Vo3 dn)
def Zhk (a0:Jn):O1 Int:=
 (Zdp a0).bind λr1=>bif !r1.2.1 then rt 0 else bif a0.jbd then rt 0 else let v2:=Qa .i64 (Qa .i64 (a0.jae.ja - a0.tail) - 10);let v3:Int:=bif decide ((bif decide (v2 < 256) then v2 else (256:Int)) < 0) then 0 else bif decide (v2 < 256) then v2 else 256;rt v3
def c59:=ct c58 229 [(.f qak)] [qa] (u1 Zhk)
theorem o59:EO c59:=sz o58 Tryz.func229
def Zfb_L0b (y0:List Ji) (y1:List UInt8) (y2:Int):Option (((List (Ji)) × (List (UInt8)) × Int × Unit)⊕((List (UInt8)) × Unit)):=
 bif decide (y2 < y0.length) then (getI y0 y2).bind λx1=>(getI y0 y2).bind λx2=>let v3:=Qn (x2.value.length:Int) (2 ^ min 8 (Qg .i64));(getI y0 y2).bind λx4=>let v5:List UInt8:=[Qf (Qd 8 x1.key),Qf (Qd 8 v3),Qf (Qd 8 (x4.value.length:Int))];bif small (y1.length+(v5:List UInt8).length) 1 then (getI y0 y2).bind λx6=>bif small ((y1++v5).length+(x6.value:List UInt8).length) 1 then some (Qb (y0,y1++v5++x6.value,Qa .i64 (y2+1),())) else none else none else some (Qc (y1,()))
def Zfb_L0:=Yi3 Zfb_L0b
def Zfb (a0:List Ji):O1 (List UInt8):=
 (Zfb_L0 (a0,[],0,())).bind λz7=>rt z7.1
def c60:=cf c59 231 [qo] [qj] (u1 Zfb)
def s_Zfb_L0:LSpec T:=⟨[(0,qo),(3,qam),(4,qb)],[(.exit 0,[(3,qam)])],Zfb_L0,[]⟩
def A_Zfb:Loc2 T:=lcA [(0,s_Zfb_L0)] [] []
theorem Vo4:LO c60 Tryz.f231 0 s_Zfb_L0:=lx o59 A_Zfb dn (λ_=>rfl)
theorem o60:EO c60:=sx o59 A_Zfb Tryz.func231 (dc rfl Vo4 dn)
def Zew (a0:Jn) (a1:List UInt8) (a2:Int):Option (Unit×Jn×Int×Int×Unit):=
 (Zdp a0).bind λr1=>bif !r1.2.1 then none else bif decide ((a1.length:Int) < 1) then none else bif decide (256 < (a1.length:Int)) then none else bif a0.jbd then none else (Zhk a0).bind λr2=>bif decide (r2.2.1 < a1.length) then none else (Zgc a0.jak a1).bind λr3=>(Zdq a0.jae a0.jbr a0.tail r3.2.1 a2).bind λr4=>bif !(decide (r4.2.2.2.1=0)) then none else let v5:=Qa .i64 (Qa .i64 (a0.tail+10)+(a1.length:Int));some ((),{a0 with jae:=r4.2.1,tail:=v5},r4.2.2.1,0,())
def c61:=cf c60 230 [(.f qak),qe,qb] [qak,qa,qa] (u3 Zew)
theorem o61:EO c61:=sx o60 (lcA [] [] [9]) Tryz.func230 dn
def Zim_L2b (y0:List Ji) (y1:Int) (y2 y3:Js×Unit) (y4 y5:Int):Option (((List (Ji)) × Int × (Js × Unit) × (Js × Unit) × Int × Int × Unit)⊕((List (Ji)) × Int × (Js × Unit) × (Js × Unit) × Int × Unit)):=
 bif decide (y5 < y4) then (getI y0 y5).bind λx4=>(getI y0 y4).bind λx5=>bif decide (x4.key=x5.key) then none else some (Qb (y0,y1,(y2.1,()),(y3.1,()),y4,Qa .i64 (y5+1),())) else some (Qc (y0,y1,(y2.1,()),(y3.1,()),y4,()))
def Zim_L2:=Yi6 Zim_L2b
def Zim_L0b (y0:List Ji) (y1:Int) (y2 y3:Js×Unit) (y4:Int):Option (((List (Ji)) × Int × (Js × Unit) × (Js × Unit) × Int × Unit)⊕((List (Ji)) × Int × (Js × Unit) × (Js × Unit) × Unit)):=
 bif decide (y4 < y0.length) then (getI y0 y4).bind λx2=>bif decide (x2.key < 0) then none else (getI y0 y4).bind λx3=>bif decide (255 < x3.key) then none else (Zim_L2 (y0,y1,(y2.1,()),(y3.1,()),y4,0,())).bind λz4=>some (Qb (z4.1,z4.2.1,(z4.2.2.1.1,()),(z4.2.2.2.1.1,()),Qa .i64 (z4.2.2.2.2.1+1),())) else some (Qc (y0,y1,(y2.1,()),(y3.1,()),()))
def Zim_L0:=Yi5 Zim_L0b
def Zim (a0:Js) (a1:List Ji) (a2:Int):Option (Unit×Js×Int×Int×Unit):=
 (Zas a0).bind λr1=>bif !r1.2.1 then none else bif decide ((a1.length:Int)=0) then none else (Zim_L0 (a1,a2,(a0,()),({},()),0,())).bind λz5=>(Zhl z5.1).bind λr6=>bif decide (256 < r6.2.1) then none else (Zhm z5.2.2.1.1.jat z5.1).bind λr7=>let v8:=Qa .i64 (16+Qa .i64 (10*(r7.2.1.length:Int)));(Zhl r7.2.1).bind λr9=>bif decide (z5.2.2.1.1.jj.jae.ja < Qa .i64 (v8+r9.2.1)) then none else ((Zhl z5.1).bind λr10=>(Zhk z5.2.2.1.1.jj).bind λr11=>bif decide (r10.2.1<=r11.2.1) then (Zfb z5.1).bind λr12=>(Zew z5.2.2.1.1.jj r12.2.1 z5.2.1).bind λr13=>some (r13.2.2.1,(z5.2.2.2.1.1,()),(r13.2.1,()),r13.2.2.2.1,()) else none).bind λj14=>bif !(decide (j14.2.2.2.1=0)) then none else (Zey j14.2.2.1.1).bind λr15=>some ((),⟨j14.2.2.1.1,r15.2.1⟩,j14.1,0,())
def c62:=cf c61 132 [(.f qbd),qo,qb] [qbd,qa,qa] (u3 Zim)
def s_Zim_L2:LSpec T:=⟨[(1,qo),(2,qb),(3,qy),(6,qy),(9,qb),(10,qb)],[(.exit 2,[(1,qo),(2,qb),(3,qy),(6,qy),(9,qb)])],Zim_L2,[]⟩
def s_Zim_L0:LSpec T:=⟨[(1,qo),(2,qb),(3,qy),(6,qy),(9,qb)],[(.exit 0,[(1,qo),(2,qb),(3,qy),(6,qy)])],Zim_L0,[]⟩
def A_Zim:Loc2 T:=lcA [(2,s_Zim_L2),(0,s_Zim_L0)] [(24,[(2,qb),(6,qy),(12,qbo),(13,qb)],true)] [22,23,26]
theorem Vjj:LO c62 Tryz.f132 2 s_Zim_L2:=lx o61 A_Zim dn (λ_=>rfl)
theorem Vo5:LO c62 Tryz.f132 0 s_Zim_L0:=lx o61 A_Zim (dc rfl Vjj dn) (λ_=>rfl)
theorem o62:EO c62:=sx o61 A_Zim Tryz.func132 (dc rfl Vjj (dc rfl Vo5 dn))
def Zdh (a0:Jd):O1 (BitVec 64):=
 (Zil a0.jq 1).bind λr1=>(Zha r1.2.1).bind λr2=>rt r2.2.1
def c63:=ct c62 232 [qbc] [qt] (u1 Zdh)
theorem o63:EO c63:=sz o62 Tryz.func232
def Zfo (a0:Jd):O2 Jd (BitVec 64):=
 (Zdh a0).bind λr1=>(Zee a0.jq).bind λr2=>let v3:=Qa .i64 (r2.2.1*2 ^ min 20 (Qg .i64));let v4:=Qa .i64 ((Qd (Qg .i64) a0.jao&&&Qd (Qg .i64) 1048575).toNat:Int);(Zeh r1.2.1 [100,114,97,119] (Qa .i64 (v3+v4))).bind λr5=>ru {a0 with jao:=Qa .i64 (a0.jao+1)} r5.2.1
def c64:=cf c63 133 [qbc] [qr,qt] (u1 Zfo)
theorem o64:EO c64:=sz o63 Tryz.func133
def Zau (a0:BitVec 64):O1 Jal:=
 rt {jau:=a0}
def c65:=ct c64 134 [qf] [(.v (.agg 17))] (u1 Zau)
theorem o65:EO c65:=sz o64 Tryz.func134
def Zfn (a0:Jd) (a1 a2:Int):Option (Unit×Jd×Int×Int×Unit):=
 bif a0.on then some ((),a0,0,18,()) else bif decide (a1 < 0) then some ((),a0,0,9,()) else bif decide (1099511627776 < a1) then some ((),a0,0,9,()) else (Zhj a0.jq.jj.jae a2).bind λr1=>bif !(decide (r1.2.2.2.1=0)) then none else (Zee r1.2.1).bind λr2=>bif decide (r2.2.1=4294967295) then some ((),a0,0,13,()) else (Zil r1.2.1 1).bind λr3=>(bif decide ((r3.2.1.length:Int)=0) then let v4:=Qa .i64 (Qa .i64 (r2.2.1+1)*2 ^ min 20 (Qg .i64));(Zdj a0 v4).bind λr5=>let v6:List Ji:=[⟨1,r5.2.1⟩];bif small v6.length 32 then some (a1,r1.2.2.1,(a0,()),(({}:Jd),()),(r1.2.1,()),Qa .i64 (r2.2.1+1),v6,decide ((r3.2.1.length:Int)=0),()) else none else some (a1,r1.2.2.1,(a0,()),(({}:Jd),()),(r1.2.1,()),Qa .i64 (r2.2.1+1),[],decide ((r3.2.1.length:Int)=0),())).bind λj7=>let v8:=Qf (Qd 8 (Qn j7.2.2.2.2.2.1 (2 ^ min 24 (Qg .i64))));let v9:=Qf (Qd 8 (Qn j7.2.2.2.2.2.1 (2 ^ min 16 (Qg .i64))));let v10:=Qf (Qd 8 (Qn j7.2.2.2.2.2.1 (2 ^ min 8 (Qg .i64))));let v11:List UInt8:=[v8,v9,v10,Qf (Qd 8 j7.2.2.2.2.2.1)];bif small (j7.2.2.2.2.2.2.1.length+([⟨2,v11⟩]:List Ji).length) 32 then let v12:=j7.2.2.2.2.2.2.1++[⟨2,v11⟩];(bif j7.2.2.2.2.2.2.2.1 then (Zan ⟨0#64,j7.2.2.1.1.jg.jam,j7.2.2.1.1.jg.jay,j7.2.2.1.1.jg.jam⟩).bind λr13=>bif small (v12.length+([⟨16,r13.2.1⟩]:List Ji).length) 32 then let v14:=v12++[⟨16,r13.2.1⟩];some (j7.1,j7.2.1,(j7.2.2.1.1,()),(j7.2.2.2.1.1,()),(j7.2.2.2.2.1.1,()),v14,()) else none else some (j7.1,j7.2.1,(j7.2.2.1.1,()),(j7.2.2.2.1.1,()),(j7.2.2.2.2.1.1,()),v12,())).bind λj15=>(Zim j15.2.2.2.2.1.1 j15.2.2.2.2.2.1 j15.2.1).bind λr16=>bif !(decide (r16.2.2.2.1=0)) then none else let v17:Int:=bif decide (j15.2.2.1.1.now < j15.1) then j15.1 else j15.2.2.1.1.now;(Zfo ⟨j15.2.2.1.1.jg,r16.2.1,true,v17,v17,0,0,{},{}⟩).bind λr18=>(Zau r18.2.2.1).bind λr19=>some ((),{r18.2.1 with js:=r19.2.1},r16.2.2.1,0,()) else none
def c66:=cf c65 69 [qbc,qb,qb] [qr,qa,qa] (u3 Zfn)
theorem o66:EO c66:=sx o65 (lcA [] [(16,[(1,qb),(2,qb),(3,qg),(6,qg),(9,qy),(11,qb),(12,qaw),(13,qn)],true),(20,[(1,qb),(2,qb),(3,qg),(6,qg),(9,qy),(12,qaw)],true)] []) Tryz.func69 dn
def Zfg (a0:Int):O1 Jag:=
 (Zcz a0).bind λr1=>(Zgu r1.2.1).bind λr2=>let v3:=Qa .i64 ((Qd (Qg .i64) a0&&&Qd (Qg .i64) 7).toNat:Int);(Zfn r2.2.1 v3 (-1)).bind λr4=>rt ⟨r4.2.1,[]⟩
def c67:=cf c66 25 [qb] [(.v (.agg 18))] (u1 Zfg)
theorem o67:EO c67:=sz o66 Tryz.func25
def Zcj (a0 a1:Int) (a2:Bool):O1 Jk:=
 bif a2 then (Zid a0 1024).bind λr1=>let v2:=Qa .i64 ((Qd (Qg .i64) r1.2.1&&&~~~(Qd (Qg .i64) 48)).toNat:Int);(Zid a1 4096).bind λr3=>none else (Zid a0 1024).bind λr4=>let v5:=Qa .i64 ((Qd (Qg .i64) r4.2.1&&&~~~(Qd (Qg .i64) 48)).toNat:Int);(Zfg v5).bind λr6=>rt {je:=r6.2.1.je}
def c68:=cf c67 11 [qb,qb,qn] [qbk] (u3 Zcj)
theorem o68:EO c68:=sz o67 Tryz.func11
def Zfi:O1 Jaa:=
 rt ⟨true,[101,120,97,109,112,108,101,46,99,111,109],443⟩
def c69:=ct c68 12 [] [qa3] λx=>Zfi 
theorem o69:EO c69:=sz o68 Tryz.func12
def Zdx (a0:Bool):O1 Int:=
 bif a0 then rt 443 else rt 80
def c70:=ct c69 145 [qn] [qa] (u1 Zdx)
theorem o70:EO c70:=sz o69 Tryz.func145
def Zje (a0:Jaa):O2 (List UInt8) Int:=
 (Ziz a0.jbl).bind λr1=>bif !(decide (r1.2.1=0)) then ru [] r1.2.1 else bif decide (a0.ju < 1) then ru [] 9 else bif decide (65535 < a0.ju) then ru [] 9 else bif Qj (([104,116,116,112,58,47,47]:List UInt8).length+a0.jbl.length) 9223372036854775807 then (bif a0.jbt then bif Qj (([104,116,116,112,115,58,47,47]:List UInt8).length+a0.jbl.length) 9223372036854775807 then let v2:=([104,116,116,112,115,58,47,47]:List UInt8)++a0.jbl;some ((a0,()),v2,()) else none else some ((a0,()),([104,116,116,112,58,47,47]:List UInt8)++a0.jbl,())).bind λj3=>(Zdx j3.1.1.jbt).bind λr4=>bif !(decide (j3.1.1.ju=r4.2.1)) then none else ru j3.2.1 0 else none
def c71:=ct c70 81 [(.f qa3)] [qaf,qa] (u1 Zje)
theorem o71:EO c71:=sx o70 (lcA [] [(9,[(1,(.ptr [qa3])),(5,qh)],true)] []) Tryz.func81 dn
def Zcg (a0 a1:List UInt8):O1 Bool:=
 bif decide ((a1.length:Int)<=(a0.length:Int)) then bif decide (0<=(a1.length:Int))&&decide ((a1.length:Int)<=(a0.length:Int)) then rt (decide (Qi (a1.length:Int).toNat a0=a1)) else none else rt false
def c72:=ct c71 411 [qh,qh] [qd] (u2 Zcg)
theorem o72:EO c72:=sz o71 Tryz.func411
def Zcf (a0 a1:List UInt8):O2 (List UInt8) Bool:=
 (Zcg a0 a1).bind λr1=>bif !r1.2.1 then ru a0 false else bif decide (0<=(a1.length:Int))&&decide ((a1.length:Int)<=(a0.length:Int)) then ru (Qm (a1.length:Int).toNat a0) true else none
def c73:=ct c72 353 [qh,qh] [qaf,qd] (u2 Zcf)
theorem o73:EO c73:=sz o72 Tryz.func353
def Zge (a0 a1:List UInt8):O2 (List UInt8) Bool:=
 (Zcf a0 a1).bind λr1=>ru r1.2.1 r1.2.2.1
def c74:=ct c73 243 [qh,qh] [qaf,qd] (u2 Zge)
theorem o74:EO c74:=sz o73 Tryz.func243
def c75:List (Ct T):=⟨348,none,S_Zgf,true⟩::c74
theorem o75:EnvOk Tryz.prog (mE c75):=eCons Vyx o74
def Zin (a0 a1:List UInt8):Option (Unit×List UInt8×List UInt8×Bool×Unit):=
 (Zgf a0 a1).bind λr1=>bif decide (0<=r1.2.1) then bif decide (0<=r1.2.1)&&decide (r1.2.1<=a0.length) then bif decide (0<=Qa .i64 (r1.2.1+(a1.length:Int)))&&decide (Qa .i64 (r1.2.1+(a1.length:Int))<=a0.length) then let v2:=Qm (Qa .i64 (r1.2.1+(a1.length:Int))).toNat a0;some ((),Qi r1.2.1.toNat a0,v2,true,()) else none else none else some ((),a0,[],false,())
def c76:=ct c75 354 [qh,qh] [qaf,qaf,qd] (u2 Zin)
theorem o76:EO c76:=sz o75 Tryz.func354
def Zko (a0 a1:List UInt8):Option (Unit×List UInt8×List UInt8×Bool×Unit):=
 (Zin a0 a1).bind λr1=>some ((),r1.2.1,r1.2.2.1,r1.2.2.2.1,())
def c77:=ct c76 244 [qh,qh] [qaf,qaf,qd] (u2 Zko)
theorem o77:EO c77:=sz o76 Tryz.func244
def Zjr (a0:List UInt8):O2 Jaa Int:=
 (Zge a0 ([104,116,116,112,115,58,47,47]:List UInt8)).bind λr1=>(bif !r1.2.2.1 then (Zge a0 ([104,116,116,112,58,47,47]:List UInt8)).bind λr2=>bif !r2.2.2.1 then (ru ({}:Jaa) (2:Int)).bind λq=>some (Qc q) else some (Qb ((({}:Jaa),()),r2.2.1,r1.2.2.1,())) else some (Qb ((({}:Jaa),()),r1.2.1,r1.2.2.1,()))).bind (Qk (λj3=>(Zko j3.2.1 ([58]:List UInt8)).bind λr4=>(Ziz r4.2.1).bind λr5=>bif !(decide (r5.2.1=0)) then some ((),{},r5.2.1,()) else (Zdx j3.2.2.1).bind λr6=>bif r4.2.2.2.1 then none else ru ⟨j3.2.2.1,r4.2.1,r6.2.1⟩ 0) some)
def c78:=ct c77 147 [qh] [qa3,qa] (u1 Zjr)
theorem o78:EO c78:=sx o77 (lcA [] [(7,[(2,(.ptr [qa3])),(4,qh),(5,qn)],false)] []) Tryz.func147 dn
def c79:List (Ct T):=⟨148,none,S_Zbo,true⟩::c78
theorem o79:EnvOk Tryz.prog (mE c79):=eCons Vyy o78
def Zff (a0:Jaf):O2 (List UInt8) Int:=
 let v1:List UInt8:=[112,97,115,115,107,101,121,46,99,114,101,97,116,101];(bif decide (a0.kind=1) then some (Qb ((a0,()),v1,())) else bif decide (a0.kind=2) then let v2:List UInt8:=[112,97,115,115,107,101,121,46,103,101,116];some (Qb ((a0,()),v2,())) else (ru ([]:List UInt8) (3:Int)).bind λq=>some (Qc q)).bind (Qk (λj3=>bif decide ((j3.1.1.jad.length:Int) < 1) then ru [] 9 else bif decide (64 < (j3.1.1.jad.length:Int)) then ru [] 9 else (Zjr j3.1.1.jaw).bind λr4=>bif !(decide (r4.2.2.1=0)) then ru [] r4.2.2.1 else bif !(decide (j3.1.1.top=([]:List UInt8))) then bif !j3.1.1.jbz then ru [] 4 else bif Qj (([123,34,116,121,112,101,34,58,34]:List UInt8).length+j3.2.1.length) 9223372036854775807 then let v5:=([123,34,116,121,112,101,34,58,34]:List UInt8)++j3.2.1;bif Qj (v5.length+([34,44,34,99,104,97,108,108,101,110,103,101,34,58,34]:List UInt8).length) 9223372036854775807 then let v6:=v5++[34,44,34,99,104,97,108,108,101,110,103,101,34,58,34];(Zbo j3.1.1.jad).bind λr7=>bif Qj (v6.length+r7.2.1.length) 9223372036854775807 then bif Qj ((v6++r7.2.1).length+([34,44,34,111,114,105,103,105,110,34,58,34]:List UInt8).length) 9223372036854775807 then let v8:=v6++r7.2.1++[34,44,34,111,114,105,103,105,110,34,58,34];bif Qj (v8.length+j3.1.1.jaw.length) 9223372036854775807 then bif !j3.1.1.jbz then bif Qj ((v8++j3.1.1.jaw).length+([34,44,34,99,114,111,115,115,79,114,105,103,105,110,34,58,102,97,108,115,101,125]:List UInt8).length) 9223372036854775807 then let v9:=v8++j3.1.1.jaw++[34,44,34,99,114,111,115,115,79,114,105,103,105,110,34,58,102,97,108,115,101,125];ru v9 0 else none else (Zjr j3.1.1.top).bind λr10=>bif !(decide (r10.2.2.1=0)) then ru [] r10.2.2.1 else bif Qj ((v8++j3.1.1.jaw).length+([34,44,34,99,114,111,115,115,79,114,105,103,105,110,34,58,116,114,117,101,44,34,116,111,112,79,114,105,103,105,110,34,58,34]:List UInt8).length) 9223372036854775807 then let v11:=v8++j3.1.1.jaw++[34,44,34,99,114,111,115,115,79,114,105,103,105,110,34,58,116,114,117,101,44,34,116,111,112,79,114,105,103,105,110,34,58,34];bif Qj (v11.length+j3.1.1.top.length) 9223372036854775807 then bif Qj ((v11++j3.1.1.top).length+([34,125]:List UInt8).length) 9223372036854775807 then ru (v11++j3.1.1.top++[34,125]) 0 else none else none else none else none else none else none else none else none else bif Qj (([123,34,116,121,112,101,34,58,34]:List UInt8).length+j3.2.1.length) 9223372036854775807 then let v12:=([123,34,116,121,112,101,34,58,34]:List UInt8)++j3.2.1;bif Qj (v12.length+([34,44,34,99,104,97,108,108,101,110,103,101,34,58,34]:List UInt8).length) 9223372036854775807 then let v13:=v12++[34,44,34,99,104,97,108,108,101,110,103,101,34,58,34];(Zbo j3.1.1.jad).bind λr14=>bif Qj (v13.length+r14.2.1.length) 9223372036854775807 then bif Qj ((v13++r14.2.1).length+([34,44,34,111,114,105,103,105,110,34,58,34]:List UInt8).length) 9223372036854775807 then let v15:=v13++r14.2.1++[34,44,34,111,114,105,103,105,110,34,58,34];bif Qj (v15.length+j3.1.1.jaw.length) 9223372036854775807 then bif !j3.1.1.jbz then bif Qj ((v15++j3.1.1.jaw).length+([34,44,34,99,114,111,115,115,79,114,105,103,105,110,34,58,102,97,108,115,101,125]:List UInt8).length) 9223372036854775807 then let v16:=v15++j3.1.1.jaw++[34,44,34,99,114,111,115,115,79,114,105,103,105,110,34,58,102,97,108,115,101,125];ru v16 0 else none else (Zjr j3.1.1.top).bind λr17=>bif !(decide (r17.2.2.1=0)) then ru [] r17.2.2.1 else bif Qj ((v15++j3.1.1.jaw).length+([34,44,34,99,114,111,115,115,79,114,105,103,105,110,34,58,116,114,117,101,44,34,116,111,112,79,114,105,103,105,110,34,58,34]:List UInt8).length) 9223372036854775807 then let v18:=v15++j3.1.1.jaw++[34,44,34,99,114,111,115,115,79,114,105,103,105,110,34,58,116,114,117,101,44,34,116,111,112,79,114,105,103,105,110,34,58,34];bif Qj (v18.length+j3.1.1.top.length) 9223372036854775807 then bif Qj ((v18++j3.1.1.top).length+([34,125]:List UInt8).length) 9223372036854775807 then ru (v18++j3.1.1.top++[34,125]) 0 else none else none else none else none else none else none else none else none) some)
def c80:=ct c79 82 [(.f (.v (.agg 23)))] [qaf,qa] (u1 Zff)
theorem o80:EO c80:=sx o79 (lcA [] [(7,[(1,(.ptr [(.v (.agg 23))])),(4,qh)],false)] []) Tryz.func82 dn
def Zkj (a0:List UInt8):O1 (List (List UInt8)):=
 (Ziz a0).bind λr1=>bif !(decide (r1.2.1=0)) then rt [] else (Zji a0 ([46]:List UInt8)).bind λr2=>rt r2.2.1
def S_Zkj:FSpec T:=⟨[qh],[(.own 2)],λx=>Zkj x.1⟩
def E_Zkj:Env T:=⟨tab.find,cd,globs,flc,λf ds=>match f with
  | 31=>some S_Ziz
  | 76=>some S_Zji
  | _=>none,λf=>match f with
  | 31=>true
  | _=>false⟩
def A_Zkj:Loc2 T:=⟨λid=>match id with
  | _=>none,λr=>match r with
  | _=>none,λr=>match r with
  | _=>false⟩
theorem Vy2 (x:tySs T S_Zkj.ps):run E_Zkj A_Zkj (Tryz.f150.body.getD .skip) (enterT E_Zkj.C S_Zkj.ps x) (retK E_Zkj Tryz.f150.results.toList S_Zkj.ps S_Zkj.rs)=S_Zkj.fn x:=by kernel_rfl
theorem Vxf:EnvOk Tryz.prog E_Zkj:=envOk (E:=E_Zkj) cd_ok tys fl_ok λf ds S h=>by
  dsimp only [E_Zkj] at h
  split at h
  ·cases h; exact Vvr
  ·cases h; exact Vob
  ·cases h
theorem Vy3:SoundT Tryz.prog cd gdn 150 S_Zkj:=
 Vbe (E:=E_Zkj) (A:=A_Zkj) (done:=[]) (c:=(Tryz.f150.body.getD .skip)) (S:=S_Zkj) (fn:=Tryz.f150) hmix Vxf Tryz.func150 rfl (by kernel_rfl) (by kernel_rfl) Vaa (by kernel_rfl) (by kernel_rfl) Vy2
def c81:List (Ct T):=⟨150,none,S_Zkj,false⟩::c80
theorem o81:EnvOk Tryz.prog (mE c81):=eCons Vy3 o80
def Zai_L0b (y0 y1:List (List UInt8)) (y2 y3:Int):Option (((List (List UInt8)) × (List (List UInt8)) × Int × Int × Unit)⊕((Bool × Unit) ⊕ (Unit))):=
 bif decide (y3 < y2) then (getI y0 y3).bind λx1=>(getI y1 y3).bind λx2=>bif !(decide (x1=x2)) then some (Qc (Qb (false,()))) else some (Qb (y0,y1,y2,Qa .i64 (y3+1),())) else some (Qc (Qc ()))
def Zai_L0:=Yi4 Zai_L0b
def Zai (a0 a1:List (List UInt8)):O1 Bool:=
 bif !(decide ((a0.length:Int)=(a1.length:Int))) then rt false else (Zai_L0 (a0,a1,(a0.length:Int),0,())).bind (Qk (λz3=>rt z3.1) (λz4=>rt true))
def c82:=ct c81 355 [qad,qad] [qd] (u2 Zai)
def s_Zai_L0:LSpec T:=⟨[(0,qad),(1,qad),(12,qb),(13,qb)],[(.ret,[(4,qn)]),(.exit 0,[])],Zai_L0,[]⟩
def A_Zai:Loc2 T:=lcA [(0,s_Zai_L0)] [] []
theorem Vo6:LO c82 Tryz.f355 0 s_Zai_L0:=lx o81 A_Zai dn (λ_=>rfl)
theorem o82:EO c82:=sx o81 A_Zai Tryz.func355 (dc rfl Vo6 dn)
def Zlc (a0 a1:List (List UInt8)):O1 Bool:=
 bif decide ((a1.length:Int)<=(a0.length:Int)) then let v1:=Qa .i64 ((a0.length:Int) - (a1.length:Int));bif decide (0<=v1)&&decide (v1<=a0.length) then (Zai (Qm v1.toNat a0) a1).bind λr2=>rt r2.2.1 else none else rt false
def c83:=ct c82 247 [qad,qad] [qd] (u2 Zlc)
theorem o83:EO c83:=sz o82 Tryz.func247
def Zkl (a0 a1:List UInt8):O1 Bool:=
 (Ziz a0).bind λr1=>bif !(decide (r1.2.1=0)) then rt false else (Ziz a1).bind λr2=>bif !(decide (r2.2.1=0)) then rt false else (Zkj a0).bind λr3=>(Zkj a1).bind λr4=>(Zlc r3.2.1 r4.2.1).bind λr5=>rt r5.2.1
def c84:=ct c83 149 [qh,qh] [qd] (u2 Zkl)
theorem o84:EO c84:=sz o83 Tryz.func149
def Zjp (a0:Jb) (a1:List (List UInt8)):O1 Bool:=
 (Zhy a0).bind λr1=>bif !(decide (r1.2.2.1=0)) then rt false else (Zlc a1 a0.jb).bind λr2=>bif !r2.2.1 then rt false else bif !a0.jaq then rt true else rt (decide ((a0.jb.length:Int) < (a1.length:Int)))
def c85:=ct c84 248 [(.f qa6),qad] [qd] (u2 Zjp)
theorem o85:EO c85:=sz o84 Tryz.func248
def Zkk_L0b (y0:List (List UInt8)) (y1 y2:Int) (y3:List Jb) (y4 y5:Int):Option (((List (List UInt8)) × Int × Int × (List (Jb)) × Int × Int × Unit)⊕(Int × Int × Unit)):=
 bif decide (y5 < y4) then (getI y3 y5).bind λx3=>(Zjp x3 y0).bind λr4=>bif !r4.2.1 then some (Qb (y0,y1,y2,y3,y4,Qa .i64 (y5+1),())) else bif x3.jy then let v5:Int:=bif decide (y2 < x3.jb.length) then (x3.jb.length:Int) else y2;some (Qb (y0,y1,v5,y3,y4,Qa .i64 (y5+1),())) else bif x3.jaq then let v6:Int:=bif decide (y1 < Qa .i64 ((x3.jb.length:Int)+1)) then Qa .i64 ((x3.jb.length:Int)+1) else y1;some (Qb (y0,v6,y2,y3,y4,Qa .i64 (y5+1),())) else let v7:Int:=bif decide (y1 < x3.jb.length) then (x3.jb.length:Int) else y1;some (Qb (y0,v7,y2,y3,y4,Qa .i64 (y5+1),())) else some (Qc (y1,y2,()))
def Zkk_L0:=Yi6 Zkk_L0b
def Zkk (a0:List Jb) (a1:List UInt8):O1 Int:=
 (Zkj a1).bind λr1=>bif decide ((r1.2.1.length:Int)=0) then rt 0 else let v2:Int:=bif decide (64 < (a0.length:Int)) then 64 else (a0.length:Int);bif decide (0<=v2)&&decide (v2<=a0.length) then (Zkk_L0 (r1.2.1,(1:Int),(0:Int),Qi v2.toNat a0,((Qi v2.toNat a0).length:Int),(0:Int),())).bind λz8=>bif decide (0 < z8.2.1) then rt (Qa .i64 (z8.2.1 - 1)) else rt z8.1 else none
def c86:=ct c85 151 [qz,qh] [qa] (u2 Zkk)
def s_Zkk_L0:LSpec T:=⟨[(5,qby),(6,qb),(7,qb),(19,qz),(20,qb),(21,qb)],[(.exit 0,[(6,qb),(7,qb)])],Zkk_L0,[]⟩
def A_Zkk:Loc2 T:=lcA [(0,s_Zkk_L0)] [] []
theorem Vo7:LO c86 Tryz.f151 0 s_Zkk_L0:=lx o85 A_Zkk dn (λ_=>rfl)
theorem o86:EO c86:=sx o85 A_Zkk Tryz.func151 (dc rfl Vo7 dn)
def Zit (a0:List Jb) (a1:Jaa) (a2:List UInt8):O1 Int:=
 (Ziz a1.jbl).bind λr1=>bif !(decide (r1.2.1=0)) then rt r1.2.1 else (Ziz a2).bind λr2=>bif !(decide (r2.2.1=0)) then rt r2.2.1 else bif decide (a2=([108,111,99,97,108,104,111,115,116]:List UInt8)) then bif decide (a1.jbl=([108,111,99,97,108,104,111,115,116]:List UInt8)) then rt 0 else bif a1.jbt then (Zkl a1.jbl a2).bind λr3=>bif r3.2.1 then (Zkj a2).bind λr4=>(Zkk a0 a1.jbl).bind λr5=>bif decide (r5.2.1 < r4.2.1.length) then rt 0 else rt 34 else rt 34 else rt 34 else bif a1.jbt then (Zkl a1.jbl a2).bind λr6=>bif r6.2.1 then (Zkj a2).bind λr7=>(Zkk a0 a1.jbl).bind λr8=>bif decide (r8.2.1 < r7.2.1.length) then rt 0 else rt 34 else rt 34 else rt 34
def c87:=ct c86 83 [qz,(.f qa3),qh] [qa] (u3 Zit)
theorem o87:EO c87:=sx o86 (lcA [] [] [9]) Tryz.func83 dn
def Zfe (a0:Jc) (a1:Int) (a2:Jaa) (a3:Bool) (a4:List UInt8) (a5:Jae):O2 (List UInt8) Int:=
 bif decide (a1 < 0) then ru [] 9 else bif decide (1099511627776 < a1) then ru [] 9 else (Zje a2).bind λr1=>bif !(decide (r1.2.2.1=0)) then ru [] r1.2.2.1 else (Zff (⟨a5.kind,a5.jad,r1.2.1,a3,a4⟩:Jaf)).bind λr2=>bif !(decide (r2.2.2.1=0)) then ru [] r2.2.2.1 else (Zit a0.jba a2 a5.rP).bind λr3=>bif !(decide (r3.2.1=0)) then ru [] r3.2.1 else bif decide (a5.jo < 0) then ru [] 9 else bif decide (2 < a5.jo) then ru [] 9 else ru r2.2.1 0
def S_Zfe:FSpec T:=⟨[qbs,qb,(.f qa3),qn,qh,qbf],[qaf,qa],λx=>Zfe x.1 x.2.1 x.2.2.1 x.2.2.2.1 x.2.2.2.2.1 x.2.2.2.2.2.1⟩
theorem Vvt:SoundT Tryz.prog cd gdn 37 S_Zfe:=
 sndC hmix o87 (lcA [] [] []) Tryz.func37 Vaa (by kernel_rfl) (by kernel_rfl) λx=>by kernel_rfl
def c88:List (Ct T):=⟨37,none,S_Zfe,true⟩::c87
theorem o88:EnvOk Tryz.prog (mE c88):=eCons Vvt o87
def Zkv (a0:BitVec 64) (a1:Int) (a2:List UInt8):O1 (BitVec 64):=
 (Zkw a0 (1#64+Qd 64 a1) a2).bind λr1=>rt r1.2.1
def c89:=ct c88 152 [qf,qb,qe] [qt] (u3 Zkv)
theorem o89:EO c89:=sz o88 Tryz.func152
def Zix (a0:BitVec 64) (a1:List UInt8) (a2:Int):O1 (BitVec 64):=
 bif small (a1.length+([0]:List UInt8).length) 1 then (Zjo [Qd 64 a2]).bind λr1=>bif small ((a1++[0]).length+(r1.2.1:List UInt8).length) 1 then let v2:=a1++[0]++r1.2.1;(Zkv a0 4 v2).bind λr3=>rt r3.2.1 else none else none
def c90:=ct c89 84 [qf,qh,qb] [qt] (u3 Zix)
theorem o90:EO c90:=sz o89 Tryz.func84
def Zkg (a0:Jc):O2 Jc (BitVec 64):=
 (Zix a0.jah [99,108,105,101,110,116] a0.jao).bind λr1=>ru {a0 with jao:=Qa .i64 (a0.jao+1)} r1.2.1
def S_Zkg:FSpec T:=⟨[qbs],[qp,qt],λx=>Zkg x.1⟩
theorem Vvu:SoundT Tryz.prog cd gdn 39 S_Zkg:=
 sndC hmix o90 (lcA [] [] []) Tryz.func39 Vaa (by kernel_rfl) (by kernel_rfl) λx=>by kernel_rfl
def c91:List (Ct T):=⟨39,none,S_Zkg,false⟩::c90
theorem o91:EnvOk Tryz.prog (mE c91):=eCons Vvu o90
def Zkx (a0:BitVec 32):O1 Jaj:=
 rt ⟨a0,0,-1,[],0⟩
def S_Zkx:FSpec T:=⟨[qan],[qbl],λx=>Zkx x.1⟩
theorem Vvv:SoundT Tryz.prog cd gdn 40 S_Zkx:=
 sndC hmix o91 (lcA [] [] []) Tryz.func40 Vaa (by kernel_rfl) (by kernel_rfl) λx=>by kernel_rfl
def c92:List (Ct T):=⟨40,none,S_Zkx,false⟩::c91
theorem o92:EnvOk Tryz.prog (mE c92):=eCons Vvv o91
def Zju (a0:List UInt8):O1 (List UInt8):=
 bif small (([]:List UInt8).length+(a0:List UInt8).length) 1 then rt (([]:List UInt8)++a0) else none
def c93:=cf c92 85 [qe] [qj] (u1 Zju)
theorem o93:EO c93:=sz o92 Tryz.func85
def Zjs_L0b (y0:BitVec 32) (y1:List Je) (y2:Int) (y3:List UInt8):Option (((BitVec 32) × (List (Je)) × Int × (List (UInt8)) × Unit)⊕((List (Je)) × Unit)):=
 bif decide (0 < (y3.length:Int)) then let v4:Int:=bif decide (59 < (y3.length:Int)) then 59 else (y3.length:Int);bif decide (0<=v4)&&decide (v4<=y3.length) then (Zju (Qi v4.toNat y3)).bind λr5=>let v6:List Je:=[⟨y0,false,0,0,y2,r5.2.1⟩];bif small (y1.length+(v6:List Je).length) 56 then bif decide (0<=v4)&&decide (v4<=y3.length) then some (Qb (y0,y1++v6,Qa .i64 (y2+1),Qm v4.toNat y3,())) else none else none else none else some (Qc (y1,()))
def Zjs_L0:=Yi4 Zjs_L0b
def Zjs (a0:BitVec 32) (a1:Int) (a2:List UInt8):O2 (List Je) Int:=
 bif decide (a1 < 1) then ru [] 9 else bif decide (127 < a1) then ru [] 9 else bif decide (4096 < (a2.length:Int)) then ru [] 8 else let v1:Int:=bif decide (57 < (a2.length:Int)) then 57 else (a2.length:Int);bif decide (0<=v1)&&decide (v1<=a2.length) then (Zju (Qi v1.toNat a2)).bind λr2=>let v3:List Je:=[⟨a0,true,a1,(a2.length:Int),0,r2.2.1⟩];bif decide (0<=v1)&&decide (v1<=a2.length) then (Zjs_L0 (a0,v3,(0:Int),Qm v1.toNat a2,())).bind λz7=>ru z7.1 0 else none else none
def S_Zjs:FSpec T:=⟨[qan,qb,qe],[qa1,qa],λx=>Zjs x.1 x.2.1 x.2.2.1⟩
def s_Zjs_L0:LSpec T:=⟨[(0,qan),(9,(.f qa1)),(10,qb),(11,qe)],[(.exit 0,[(9,(.f qa1))])],Zjs_L0,[]⟩
def A_Zjs:Loc2 T:=lcA [(0,s_Zjs_L0)] [] []
theorem Vo8:LoopOk Tryz.prog (mE c93) Tryz.f41.ntmps (kqOf S_Zjs.ps 0) (loopAt 0 (bodyOf Tryz.f41)) s_Zjs_L0:=
 lpC hmix o93 A_Zjs Vaa 0 (st:=λy=>Zjs_L0b y.1 y.2.1 y.2.2.1 y.2.2.2.1) (λ_=>rfl) (by kernel_rfl) (by kernel_rfl) λx=>by kernel_rfl
theorem Vvw:SoundT Tryz.prog cd gdn 41 S_Zjs:=
 sndC hmix o93 A_Zjs Tryz.func41 (Vab rfl Vo8 Vaa) (by kernel_rfl) (by kernel_rfl) λx=>by kernel_rfl
def c94:List (Ct T):=⟨41,none,S_Zjs,false⟩::c93
theorem o94:EnvOk Tryz.prog (mE c94):=eCons Vvw o93
def c95:List (Ct T):=⟨38,none,S_Zjz,false⟩::c94
theorem o95:EnvOk Tryz.prog (mE c95):=eCons Voc o94
def Zjn_L0b (y0:Int) (y1:Jc×Unit) (y2:Int×List UInt8×List UInt8×List UInt8×List UInt8×List (List UInt8)×Int×Int×Bool×Int×Bool×Int×Unit) (y3:Jc×Unit) (y4:Jp×Unit) (y5:List UInt8) (y6 y7:List (List UInt8)) (y8 y9:Int):Option ((Int × (Jc × Unit) × (Int × (List UInt8) × (List (UInt8)) × (List UInt8) × (List UInt8) × (List (List UInt8)) × Int × Int × Bool × Int × Bool × Int × Unit) × (Jc × Unit) × (Jp × Unit) × (List UInt8) × (List (List UInt8)) × (List (List UInt8)) × Int × Int × Unit)⊕(Int × (Jc × Unit) × (Int × (List UInt8) × (List (UInt8)) × (List UInt8) × (List UInt8) × (List (List UInt8)) × Int × Int × Bool × Int × Bool × Int × Unit) × (Jc × Unit) × (Jp × Unit) × (List UInt8) × (List (List UInt8)) × Unit)):=
 bif decide (y9 < y8) then (getI y7 y9).bind λx4=>(Zjz x4).bind λr5=>bif decide (0<=y9)&&decide (y9 < y6.length) then y6[y9.toNat]?.bind λx6=>some (Qb (y0,(y1.1,()),y2,(y3.1,()),(y4.1,()),y5,Ql y6 y9.toNat r5.2.1,y7,y8,Qa .i64 (y9+1),())) else none else some (Qc (y0,(y1.1,()),y2,(y3.1,()),(y4.1,()),y5,y6,()))
def Zjn_L0:=Yi10 Zjn_L0b
def Zjn (a0:Jc) (a1:Int) (a2:Jaa) (a3:Bool) (a4:List UInt8) (a5:Jae):Option (Unit×Jc×List Je×Jp×Unit):=
 bif !(decide (a0.jt=0)) then some ((),a0,[],⟨true,32,{}⟩,()) else (Zfe a0 a1 a2 a3 a4 a5).bind λr1=>bif !(decide (r1.2.2.1=0)) then some ((),a0,[],⟨true,r1.2.2.1,{}⟩,()) else (Zjz a5.jad).bind λr2=>bif decide (0<=(a5.list.length:Int))&&(decide ((a5.list.length:Int)<=(a5.list.length:Int))&&decide (24*(a5.list.length:Int)<=281474976710656/\(a5.list.length:Int)<=9223372036854775807)) then let v3:=Qo (a5.list.length:Int).toNat [];(Zjn_L0 (a1,(a0,()),(a5.kind,a5.rP,r2.2.1,a5.user,a5.name,a5.list,a5.jl,a5.jw,a5.jp,a5.jo,a5.jab,a5.jk,()),(({}:Jc),()),(({}:Jp),()),r1.2.1,v3,a5.list,(a5.list.length:Int),(0:Int),())).bind λz7=>(Zkg ({z7.2.1.1 with jh:=⟨z7.2.2.1.1,z7.2.2.1.2.1,z7.2.2.1.2.2.1,z7.2.2.1.2.2.2.1,z7.2.2.1.2.2.2.2.1,z7.2.2.2.2.2.2.1,z7.2.2.1.2.2.2.2.2.2.1,z7.2.2.1.2.2.2.2.2.2.2.1,z7.2.2.1.2.2.2.2.2.2.2.2.1,z7.2.2.1.2.2.2.2.2.2.2.2.2.1,z7.2.2.1.2.2.2.2.2.2.2.2.2.2.1,z7.2.2.1.2.2.2.2.2.2.2.2.2.2.2.1⟩,data:=z7.2.2.2.2.2.1,jag:=z7.1}:Jc)).bind λr8=>(Zkx 4294967295#32).bind λr9=>(Zjo [r8.2.2.1]).bind λr10=>(Zjs 4294967295#32 (6:Int) r10.2.1).bind λr11=>some ((),{r8.2.1 with jt:=1,ju:=r9.2.1,jbx:=r8.2.2.1},r11.2.1,{},()) else none
def S_Zjn:FSpec T:=⟨[qbs,qb,(.f qa3),qn,qh,qbf],[qp,qa1,qa7],λx=>Zjn x.1 x.2.1 x.2.2.1 x.2.2.2.1 x.2.2.2.2.1 x.2.2.2.2.2.1⟩
def E_Zjn:Env T:=⟨tab.find,cd,globs,flc,λf ds=>match f with
  | 37=>some S_Zfe
  | 38=>some S_Zjz
  | 39=>some S_Zkg
  | 40=>some S_Zkx
  | 41=>some S_Zjs
  | 42=>some S_Zjo
  | _=>none,λf=>match f with
  | 37=>true
  | _=>false⟩
def A_Zjn:Loc2 T:=⟨λid=>match id with
  | 0=>some ⟨[(1,.f (.v (.int .i64))),(6,.ptr [(.v (.agg 10))]),(11,.ptr [(.v (.int .i64)),(.v .str),(.own 0),(.v .str),(.v .str),(.v (.rs 8)),(.v (.int .i64)),(.v (.int .i64)),(.v .bool),(.v (.int .i64)),(.v .bool),(.v (.int .i64))]),(12,.ptr [(.v (.agg 10))]),(14,.ptr [(.v (.agg 24))]),(15,.f (.v .str)),(17,.f (.own 8)),(51,.f (.v (.rs 8))),(52,.f (.v (.int .i64))),(53,.f (.v (.int .i64)))],[(.exit 0,[(1,.f (.v (.int .i64))),(6,.ptr [(.v (.agg 10))]),(11,.ptr [(.v (.int .i64)),(.v .str),(.own 0),(.v .str),(.v .str),(.v (.rs 8)),(.v (.int .i64)),(.v (.int .i64)),(.v .bool),(.v (.int .i64)),(.v .bool),(.v (.int .i64))]),(12,.ptr [(.v (.agg 10))]),(14,.ptr [(.v (.agg 24))]),(15,.f (.v .str)),(17,.f (.own 8))])],Zjn_L0,[]⟩
  | _=>none,λr=>match r with
  | _=>none,λr=>match r with
  | _=>false⟩
theorem Vo9 (y0:Int) (y1:(Jc×Unit)) (y2:(Int×(List UInt8)×(List (UInt8))×(List UInt8)×(List UInt8)×(List (List UInt8))×Int×Int×Bool×Int×Bool×Int×Unit)) (y3:(Jc×Unit)) (y4:(Jp×Unit)) (y5:(List UInt8)) (y6:(List (List UInt8))) (y7:(List (List UInt8))) (y8:Int) (y9:Int):run E_Zjn A_Zjn (loopAt 0 (Tryz.f20.body.getD .skip)) (layC cd [(1,.f (.v (.int .i64))),(6,.ptr [(.v (.agg 10))]),(11,.ptr [(.v (.int .i64)),(.v .str),(.own 0),(.v .str),(.v .str),(.v (.rs 8)),(.v (.int .i64)),(.v (.int .i64)),(.v .bool),(.v (.int .i64)),(.v .bool),(.v (.int .i64))]),(12,.ptr [(.v (.agg 10))]),(14,.ptr [(.v (.agg 24))]),(15,.f (.v .str)),(17,.f (.own 8)),(51,.f (.v (.rs 8))),(52,.f (.v (.int .i64))),(53,.f (.v (.int .i64)))] [] (y0,y1,y2,y3,y4,y5,y6,y7,y8,y9,())) (roundK cd [(1,.f (.v (.int .i64))),(6,.ptr [(.v (.agg 10))]),(11,.ptr [(.v (.int .i64)),(.v .str),(.own 0),(.v .str),(.v .str),(.v (.rs 8)),(.v (.int .i64)),(.v (.int .i64)),(.v .bool),(.v (.int .i64)),(.v .bool),(.v (.int .i64))]),(12,.ptr [(.v (.agg 10))]),(14,.ptr [(.v (.agg 24))]),(15,.f (.v .str)),(17,.f (.own 8)),(51,.f (.v (.rs 8))),(52,.f (.v (.int .i64))),(53,.f (.v (.int .i64)))] [] [(.exit 0,[(1,.f (.v (.int .i64))),(6,.ptr [(.v (.agg 10))]),(11,.ptr [(.v (.int .i64)),(.v .str),(.own 0),(.v .str),(.v .str),(.v (.rs 8)),(.v (.int .i64)),(.v (.int .i64)),(.v .bool),(.v (.int .i64)),(.v .bool),(.v (.int .i64))]),(12,.ptr [(.v (.agg 10))]),(14,.ptr [(.v (.agg 24))]),(15,.f (.v .str)),(17,.f (.own 8))])])=Zjn_L0b y0 y1 y2 y3 y4 y5 y6 y7 y8 y9:=by kernel_rfl
theorem Vy4 (x:tySs T S_Zjn.ps):run E_Zjn A_Zjn (Tryz.f20.body.getD .skip) (enterT E_Zjn.C S_Zjn.ps x) (retK E_Zjn Tryz.f20.results.toList S_Zjn.ps S_Zjn.rs)=S_Zjn.fn x:=by kernel_rfl
theorem Vpa:EnvOk Tryz.prog E_Zjn:=envOk (E:=E_Zjn) cd_ok tys fl_ok λf ds S h=>by
  dsimp only [E_Zjn] at h
  split at h
  ·cases h; exact Vvt
  ·cases h; exact Voc
  ·cases h; exact Vvu
  ·cases h; exact Vvv
  ·cases h; exact Vvw
  ·cases h; exact Vvm
  ·cases h
theorem Vpb:LoopOk Tryz.prog E_Zjn Tryz.f20.ntmps (kqOf S_Zjn.ps 0) (loopAt 0 (Tryz.f20.body.getD .skip)) ⟨[(1,.f (.v (.int .i64))),(6,.ptr [(.v (.agg 10))]),(11,.ptr [(.v (.int .i64)),(.v .str),(.own 0),(.v .str),(.v .str),(.v (.rs 8)),(.v (.int .i64)),(.v (.int .i64)),(.v .bool),(.v (.int .i64)),(.v .bool),(.v (.int .i64))]),(12,.ptr [(.v (.agg 10))]),(14,.ptr [(.v (.agg 24))]),(15,.f (.v .str)),(17,.f (.own 8)),(51,.f (.v (.rs 8))),(52,.f (.v (.int .i64))),(53,.f (.v (.int .i64)))],[(.exit 0,[(1,.f (.v (.int .i64))),(6,.ptr [(.v (.agg 10))]),(11,.ptr [(.v (.int .i64)),(.v .str),(.own 0),(.v .str),(.v .str),(.v (.rs 8)),(.v (.int .i64)),(.v (.int .i64)),(.v .bool),(.v (.int .i64)),(.v .bool),(.v (.int .i64))]),(12,.ptr [(.v (.agg 10))]),(14,.ptr [(.v (.agg 24))]),(15,.f (.v .str)),(17,.f (.own 8))])],Zjn_L0,[]⟩:=
 Vdr (A:=A_Zjn) (done:=[]) (c0:=(Tryz.f20.body.getD .skip)) hmix Vpa Vaa rounds (by kernel_rfl) (by kernel_rfl) (λx=>Vo9 x.1 x.2.1 x.2.2.1 x.2.2.2.1 x.2.2.2.2.1 x.2.2.2.2.2.1 x.2.2.2.2.2.2.1 x.2.2.2.2.2.2.2.1 x.2.2.2.2.2.2.2.2.1 x.2.2.2.2.2.2.2.2.2.1) (λ_=>rfl)
theorem Vy5:SoundT Tryz.prog cd gdn 20 S_Zjn:=
 Vbe (E:=E_Zjn) (A:=A_Zjn) (done:=[0]) (c:=(Tryz.f20.body.getD .skip)) (S:=S_Zjn) (fn:=Tryz.f20) hmix Vpa Tryz.func20 rfl (by kernel_rfl) (by kernel_rfl) (Vab rfl Vpb Vaa) (by kernel_rfl) (by kernel_rfl) Vy4
def c96:List (Ct T):=⟨20,none,S_Zjn,false⟩::c95
theorem o96:EnvOk Tryz.prog (mE c96):=eCons Vy5 o95
def Zfy (a0:Jz):O1 Jz:=
 rt {jr:=a0.jr}
def c97:=cf c96 99 [(.f qao)] [qao] (u1 Zfy)
theorem o97:EO c97:=sz o96 Tryz.func99
def Zfx (a0:Jz) (a1:Int):O2 Jz Jx:=
 bif decide (a1 < 0) then some ((),a0,{},()) else bif decide (1099511627776 < a1) then some ((),a0,{},()) else bif !(decide (a0.jbg=1)) then some ((),a0,{},()) else bif decide (Qa .i64 (a1 - a0.jag)<=20) then some ((),a0,{},()) else (Zfy a0).bind λr1=>none
def c98:=cf c97 87 [(.f qao),qb] [qao,qaq] (u2 Zfx)
theorem o98:EO c98:=sx o97 (lcA [] [] [3]) Tryz.func87 dn
def Zdl_L1b (y0:Je×Unit) (y1:List UInt8) (y2 y3:Int):Option (((Je × Unit) × (List (UInt8)) × Int × Int × Unit)⊕((List (UInt8)) × Unit)):=
 bif decide (y3 < y0.1.data.length) then (getI y0.1.data y3).bind λx20=>bif decide (0<=Qa .i64 (y2+y3))&&decide (Qa .i64 (y2+y3) < y1.length) then y1[(Qa .i64 (y2+y3)).toNat]?.bind λx21=>let v22:=Ql y1 (Qa .i64 (y2+y3)).toNat x20;some (Qb ((y0.1,()),v22,y2,Qa .i64 (y3+1),())) else none else some (Qc (y1,()))
def Zdl_L1:=Yi4 Zdl_L1b
def Zdl (a0:Je):O2 (List UInt8) Int:=
 (bif a0.first then bif decide (a0.jd < 1) then (ru [] (9:Int)).bind λq=>some (Qc q) else bif decide (127 < a0.jd) then (ru [] (9:Int)).bind λq=>some (Qc q) else bif decide (a0.length < 0) then (ru [] (9:Int)).bind λq=>some (Qc q) else bif decide (65535 < a0.length) then bif decide (65535 < a0.length) then (ru [] (9:Int)).bind λq=>some (Qc q) else bif a0.first then bif !(decide (a0.seq=0)) then bif !(decide (a0.seq=0)) then (ru [] (4:Int)).bind λq=>some (Qc q) else bif a0.first then bif decide (57 < (a0.data.length:Int)) then bif decide (57 < (a0.data.length:Int)) then (ru [] (8:Int)).bind λq=>some (Qc q) else some (Qb ((a0,()),())) else bif !a0.first then bif decide (59 < (a0.data.length:Int)) then (ru [] (8:Int)).bind λq=>some (Qc q) else some (Qb ((a0,()),())) else some (Qb ((a0,()),())) else bif !a0.first then bif decide (59 < (a0.data.length:Int)) then (ru [] (8:Int)).bind λq=>some (Qc q) else some (Qb ((a0,()),())) else some (Qb ((a0,()),())) else bif !a0.first then bif !(decide (a0.jd=0)) then (ru [] (4:Int)).bind λq=>some (Qc q) else bif !(decide (a0.length=0)) then (ru [] (4:Int)).bind λq=>some (Qc q) else bif a0.first then bif decide (57 < (a0.data.length:Int)) then bif decide (57 < (a0.data.length:Int)) then (ru [] (8:Int)).bind λq=>some (Qc q) else some (Qb ((a0,()),())) else bif !a0.first then bif decide (59 < (a0.data.length:Int)) then (ru [] (8:Int)).bind λq=>some (Qc q) else some (Qb ((a0,()),())) else some (Qb ((a0,()),())) else bif !a0.first then bif decide (59 < (a0.data.length:Int)) then (ru [] (8:Int)).bind λq=>some (Qc q) else some (Qb ((a0,()),())) else some (Qb ((a0,()),())) else bif a0.first then bif decide (57 < (a0.data.length:Int)) then bif decide (57 < (a0.data.length:Int)) then (ru [] (8:Int)).bind λq=>some (Qc q) else some (Qb ((a0,()),())) else bif !a0.first then bif decide (59 < (a0.data.length:Int)) then (ru [] (8:Int)).bind λq=>some (Qc q) else some (Qb ((a0,()),())) else some (Qb ((a0,()),())) else bif !a0.first then bif decide (59 < (a0.data.length:Int)) then (ru [] (8:Int)).bind λq=>some (Qc q) else some (Qb ((a0,()),())) else some (Qb ((a0,()),())) else bif !a0.first then bif !(decide (a0.jd=0)) then (ru [] (4:Int)).bind λq=>some (Qc q) else bif !(decide (a0.length=0)) then (ru [] (4:Int)).bind λq=>some (Qc q) else bif a0.first then bif decide (57 < (a0.data.length:Int)) then bif decide (57 < (a0.data.length:Int)) then (ru [] (8:Int)).bind λq=>some (Qc q) else some (Qb ((a0,()),())) else bif !a0.first then bif decide (59 < (a0.data.length:Int)) then (ru [] (8:Int)).bind λq=>some (Qc q) else some (Qb ((a0,()),())) else some (Qb ((a0,()),())) else bif !a0.first then bif decide (59 < (a0.data.length:Int)) then (ru [] (8:Int)).bind λq=>some (Qc q) else some (Qb ((a0,()),())) else some (Qb ((a0,()),())) else bif a0.first then bif decide (57 < (a0.data.length:Int)) then bif decide (57 < (a0.data.length:Int)) then (ru [] (8:Int)).bind λq=>some (Qc q) else some (Qb ((a0,()),())) else bif !a0.first then bif decide (59 < (a0.data.length:Int)) then (ru [] (8:Int)).bind λq=>some (Qc q) else some (Qb ((a0,()),())) else some (Qb ((a0,()),())) else bif !a0.first then bif decide (59 < (a0.data.length:Int)) then (ru [] (8:Int)).bind λq=>some (Qc q) else some (Qb ((a0,()),())) else some (Qb ((a0,()),())) else bif !a0.first then bif decide (a0.seq < 0) then (ru [] (9:Int)).bind λq=>some (Qc q) else bif decide (127 < a0.seq) then (ru [] (9:Int)).bind λq=>some (Qc q) else bif a0.first then bif !(decide (a0.seq=0)) then bif !(decide (a0.seq=0)) then (ru [] (4:Int)).bind λq=>some (Qc q) else bif a0.first then bif decide (57 < (a0.data.length:Int)) then bif decide (57 < (a0.data.length:Int)) then (ru [] (8:Int)).bind λq=>some (Qc q) else some (Qb ((a0,()),())) else bif !a0.first then bif decide (59 < (a0.data.length:Int)) then (ru [] (8:Int)).bind λq=>some (Qc q) else some (Qb ((a0,()),())) else some (Qb ((a0,()),())) else bif !a0.first then bif decide (59 < (a0.data.length:Int)) then (ru [] (8:Int)).bind λq=>some (Qc q) else some (Qb ((a0,()),())) else some (Qb ((a0,()),())) else bif !a0.first then bif !(decide (a0.jd=0)) then (ru [] (4:Int)).bind λq=>some (Qc q) else bif !(decide (a0.length=0)) then (ru [] (4:Int)).bind λq=>some (Qc q) else bif a0.first then bif decide (57 < (a0.data.length:Int)) then bif decide (57 < (a0.data.length:Int)) then (ru [] (8:Int)).bind λq=>some (Qc q) else some (Qb ((a0,()),())) else bif !a0.first then bif decide (59 < (a0.data.length:Int)) then (ru [] (8:Int)).bind λq=>some (Qc q) else some (Qb ((a0,()),())) else some (Qb ((a0,()),())) else bif !a0.first then bif decide (59 < (a0.data.length:Int)) then (ru [] (8:Int)).bind λq=>some (Qc q) else some (Qb ((a0,()),())) else some (Qb ((a0,()),())) else bif a0.first then bif decide (57 < (a0.data.length:Int)) then bif decide (57 < (a0.data.length:Int)) then (ru [] (8:Int)).bind λq=>some (Qc q) else some (Qb ((a0,()),())) else bif !a0.first then bif decide (59 < (a0.data.length:Int)) then (ru [] (8:Int)).bind λq=>some (Qc q) else some (Qb ((a0,()),())) else some (Qb ((a0,()),())) else bif !a0.first then bif decide (59 < (a0.data.length:Int)) then (ru [] (8:Int)).bind λq=>some (Qc q) else some (Qb ((a0,()),())) else some (Qb ((a0,()),())) else bif !a0.first then bif !(decide (a0.jd=0)) then (ru [] (4:Int)).bind λq=>some (Qc q) else bif !(decide (a0.length=0)) then (ru [] (4:Int)).bind λq=>some (Qc q) else bif a0.first then bif decide (57 < (a0.data.length:Int)) then bif decide (57 < (a0.data.length:Int)) then (ru [] (8:Int)).bind λq=>some (Qc q) else some (Qb ((a0,()),())) else bif !a0.first then bif decide (59 < (a0.data.length:Int)) then (ru [] (8:Int)).bind λq=>some (Qc q) else some (Qb ((a0,()),())) else some (Qb ((a0,()),())) else bif !a0.first then bif decide (59 < (a0.data.length:Int)) then (ru [] (8:Int)).bind λq=>some (Qc q) else some (Qb ((a0,()),())) else some (Qb ((a0,()),())) else bif a0.first then bif decide (57 < (a0.data.length:Int)) then bif decide (57 < (a0.data.length:Int)) then (ru [] (8:Int)).bind λq=>some (Qc q) else some (Qb ((a0,()),())) else bif !a0.first then bif decide (59 < (a0.data.length:Int)) then (ru [] (8:Int)).bind λq=>some (Qc q) else some (Qb ((a0,()),())) else some (Qb ((a0,()),())) else bif !a0.first then bif decide (59 < (a0.data.length:Int)) then (ru [] (8:Int)).bind λq=>some (Qc q) else some (Qb ((a0,()),())) else some (Qb ((a0,()),())) else bif a0.first then bif !(decide (a0.seq=0)) then bif !(decide (a0.seq=0)) then (ru [] (4:Int)).bind λq=>some (Qc q) else bif a0.first then bif decide (57 < (a0.data.length:Int)) then bif decide (57 < (a0.data.length:Int)) then (ru [] (8:Int)).bind λq=>some (Qc q) else some (Qb ((a0,()),())) else bif !a0.first then bif decide (59 < (a0.data.length:Int)) then (ru [] (8:Int)).bind λq=>some (Qc q) else some (Qb ((a0,()),())) else some (Qb ((a0,()),())) else bif !a0.first then bif decide (59 < (a0.data.length:Int)) then (ru [] (8:Int)).bind λq=>some (Qc q) else some (Qb ((a0,()),())) else some (Qb ((a0,()),())) else bif !a0.first then bif !(decide (a0.jd=0)) then (ru [] (4:Int)).bind λq=>some (Qc q) else bif !(decide (a0.length=0)) then (ru [] (4:Int)).bind λq=>some (Qc q) else bif a0.first then bif decide (57 < (a0.data.length:Int)) then bif decide (57 < (a0.data.length:Int)) then (ru [] (8:Int)).bind λq=>some (Qc q) else some (Qb ((a0,()),())) else bif !a0.first then bif decide (59 < (a0.data.length:Int)) then (ru [] (8:Int)).bind λq=>some (Qc q) else some (Qb ((a0,()),())) else some (Qb ((a0,()),())) else bif !a0.first then bif decide (59 < (a0.data.length:Int)) then (ru [] (8:Int)).bind λq=>some (Qc q) else some (Qb ((a0,()),())) else some (Qb ((a0,()),())) else bif a0.first then bif decide (57 < (a0.data.length:Int)) then bif decide (57 < (a0.data.length:Int)) then (ru [] (8:Int)).bind λq=>some (Qc q) else some (Qb ((a0,()),())) else bif !a0.first then bif decide (59 < (a0.data.length:Int)) then (ru [] (8:Int)).bind λq=>some (Qc q) else some (Qb ((a0,()),())) else some (Qb ((a0,()),())) else bif !a0.first then bif decide (59 < (a0.data.length:Int)) then (ru [] (8:Int)).bind λq=>some (Qc q) else some (Qb ((a0,()),())) else some (Qb ((a0,()),())) else bif !a0.first then bif !(decide (a0.jd=0)) then (ru [] (4:Int)).bind λq=>some (Qc q) else bif !(decide (a0.length=0)) then (ru [] (4:Int)).bind λq=>some (Qc q) else bif a0.first then bif decide (57 < (a0.data.length:Int)) then bif decide (57 < (a0.data.length:Int)) then (ru [] (8:Int)).bind λq=>some (Qc q) else some (Qb ((a0,()),())) else bif !a0.first then bif decide (59 < (a0.data.length:Int)) then (ru [] (8:Int)).bind λq=>some (Qc q) else some (Qb ((a0,()),())) else some (Qb ((a0,()),())) else bif !a0.first then bif decide (59 < (a0.data.length:Int)) then (ru [] (8:Int)).bind λq=>some (Qc q) else some (Qb ((a0,()),())) else some (Qb ((a0,()),())) else bif a0.first then bif decide (57 < (a0.data.length:Int)) then bif decide (57 < (a0.data.length:Int)) then (ru [] (8:Int)).bind λq=>some (Qc q) else some (Qb ((a0,()),())) else bif !a0.first then bif decide (59 < (a0.data.length:Int)) then (ru [] (8:Int)).bind λq=>some (Qc q) else some (Qb ((a0,()),())) else some (Qb ((a0,()),())) else bif !a0.first then bif decide (59 < (a0.data.length:Int)) then (ru [] (8:Int)).bind λq=>some (Qc q) else some (Qb ((a0,()),())) else some (Qb ((a0,()),())) else bif !a0.first then bif decide (a0.seq < 0) then (ru [] (9:Int)).bind λq=>some (Qc q) else bif decide (127 < a0.seq) then (ru [] (9:Int)).bind λq=>some (Qc q) else bif a0.first then bif !(decide (a0.seq=0)) then bif !(decide (a0.seq=0)) then (ru [] (4:Int)).bind λq=>some (Qc q) else bif a0.first then bif decide (57 < (a0.data.length:Int)) then bif decide (57 < (a0.data.length:Int)) then (ru [] (8:Int)).bind λq=>some (Qc q) else some (Qb ((a0,()),())) else bif !a0.first then bif decide (59 < (a0.data.length:Int)) then (ru [] (8:Int)).bind λq=>some (Qc q) else some (Qb ((a0,()),())) else some (Qb ((a0,()),())) else bif !a0.first then bif decide (59 < (a0.data.length:Int)) then (ru [] (8:Int)).bind λq=>some (Qc q) else some (Qb ((a0,()),())) else some (Qb ((a0,()),())) else bif !a0.first then bif !(decide (a0.jd=0)) then (ru [] (4:Int)).bind λq=>some (Qc q) else bif !(decide (a0.length=0)) then (ru [] (4:Int)).bind λq=>some (Qc q) else bif a0.first then bif decide (57 < (a0.data.length:Int)) then bif decide (57 < (a0.data.length:Int)) then (ru [] (8:Int)).bind λq=>some (Qc q) else some (Qb ((a0,()),())) else bif !a0.first then bif decide (59 < (a0.data.length:Int)) then (ru [] (8:Int)).bind λq=>some (Qc q) else some (Qb ((a0,()),())) else some (Qb ((a0,()),())) else bif !a0.first then bif decide (59 < (a0.data.length:Int)) then (ru [] (8:Int)).bind λq=>some (Qc q) else some (Qb ((a0,()),())) else some (Qb ((a0,()),())) else bif a0.first then bif decide (57 < (a0.data.length:Int)) then bif decide (57 < (a0.data.length:Int)) then (ru [] (8:Int)).bind λq=>some (Qc q) else some (Qb ((a0,()),())) else bif !a0.first then bif decide (59 < (a0.data.length:Int)) then (ru [] (8:Int)).bind λq=>some (Qc q) else some (Qb ((a0,()),())) else some (Qb ((a0,()),())) else bif !a0.first then bif decide (59 < (a0.data.length:Int)) then (ru [] (8:Int)).bind λq=>some (Qc q) else some (Qb ((a0,()),())) else some (Qb ((a0,()),())) else bif !a0.first then bif !(decide (a0.jd=0)) then (ru [] (4:Int)).bind λq=>some (Qc q) else bif !(decide (a0.length=0)) then (ru [] (4:Int)).bind λq=>some (Qc q) else bif a0.first then bif decide (57 < (a0.data.length:Int)) then bif decide (57 < (a0.data.length:Int)) then (ru [] (8:Int)).bind λq=>some (Qc q) else some (Qb ((a0,()),())) else bif !a0.first then bif decide (59 < (a0.data.length:Int)) then (ru [] (8:Int)).bind λq=>some (Qc q) else some (Qb ((a0,()),())) else some (Qb ((a0,()),())) else bif !a0.first then bif decide (59 < (a0.data.length:Int)) then (ru [] (8:Int)).bind λq=>some (Qc q) else some (Qb ((a0,()),())) else some (Qb ((a0,()),())) else bif a0.first then bif decide (57 < (a0.data.length:Int)) then bif decide (57 < (a0.data.length:Int)) then (ru [] (8:Int)).bind λq=>some (Qc q) else some (Qb ((a0,()),())) else bif !a0.first then bif decide (59 < (a0.data.length:Int)) then (ru [] (8:Int)).bind λq=>some (Qc q) else some (Qb ((a0,()),())) else some (Qb ((a0,()),())) else bif !a0.first then bif decide (59 < (a0.data.length:Int)) then (ru [] (8:Int)).bind λq=>some (Qc q) else some (Qb ((a0,()),())) else some (Qb ((a0,()),())) else bif a0.first then bif !(decide (a0.seq=0)) then bif !(decide (a0.seq=0)) then (ru [] (4:Int)).bind λq=>some (Qc q) else bif a0.first then bif decide (57 < (a0.data.length:Int)) then bif decide (57 < (a0.data.length:Int)) then (ru [] (8:Int)).bind λq=>some (Qc q) else some (Qb ((a0,()),())) else bif !a0.first then bif decide (59 < (a0.data.length:Int)) then (ru [] (8:Int)).bind λq=>some (Qc q) else some (Qb ((a0,()),())) else some (Qb ((a0,()),())) else bif !a0.first then bif decide (59 < (a0.data.length:Int)) then (ru [] (8:Int)).bind λq=>some (Qc q) else some (Qb ((a0,()),())) else some (Qb ((a0,()),())) else bif !a0.first then bif !(decide (a0.jd=0)) then (ru [] (4:Int)).bind λq=>some (Qc q) else bif !(decide (a0.length=0)) then (ru [] (4:Int)).bind λq=>some (Qc q) else bif a0.first then bif decide (57 < (a0.data.length:Int)) then bif decide (57 < (a0.data.length:Int)) then (ru [] (8:Int)).bind λq=>some (Qc q) else some (Qb ((a0,()),())) else bif !a0.first then bif decide (59 < (a0.data.length:Int)) then (ru [] (8:Int)).bind λq=>some (Qc q) else some (Qb ((a0,()),())) else some (Qb ((a0,()),())) else bif !a0.first then bif decide (59 < (a0.data.length:Int)) then (ru [] (8:Int)).bind λq=>some (Qc q) else some (Qb ((a0,()),())) else some (Qb ((a0,()),())) else bif a0.first then bif decide (57 < (a0.data.length:Int)) then bif decide (57 < (a0.data.length:Int)) then (ru [] (8:Int)).bind λq=>some (Qc q) else some (Qb ((a0,()),())) else bif !a0.first then bif decide (59 < (a0.data.length:Int)) then (ru [] (8:Int)).bind λq=>some (Qc q) else some (Qb ((a0,()),())) else some (Qb ((a0,()),())) else bif !a0.first then bif decide (59 < (a0.data.length:Int)) then (ru [] (8:Int)).bind λq=>some (Qc q) else some (Qb ((a0,()),())) else some (Qb ((a0,()),())) else bif !a0.first then bif !(decide (a0.jd=0)) then (ru [] (4:Int)).bind λq=>some (Qc q) else bif !(decide (a0.length=0)) then (ru [] (4:Int)).bind λq=>some (Qc q) else bif a0.first then bif decide (57 < (a0.data.length:Int)) then bif decide (57 < (a0.data.length:Int)) then (ru [] (8:Int)).bind λq=>some (Qc q) else some (Qb ((a0,()),())) else bif !a0.first then bif decide (59 < (a0.data.length:Int)) then (ru [] (8:Int)).bind λq=>some (Qc q) else some (Qb ((a0,()),())) else some (Qb ((a0,()),())) else bif !a0.first then bif decide (59 < (a0.data.length:Int)) then (ru [] (8:Int)).bind λq=>some (Qc q) else some (Qb ((a0,()),())) else some (Qb ((a0,()),())) else bif a0.first then bif decide (57 < (a0.data.length:Int)) then bif decide (57 < (a0.data.length:Int)) then (ru [] (8:Int)).bind λq=>some (Qc q) else some (Qb ((a0,()),())) else bif !a0.first then bif decide (59 < (a0.data.length:Int)) then (ru [] (8:Int)).bind λq=>some (Qc q) else some (Qb ((a0,()),())) else some (Qb ((a0,()),())) else bif !a0.first then bif decide (59 < (a0.data.length:Int)) then (ru [] (8:Int)).bind λq=>some (Qc q) else some (Qb ((a0,()),())) else some (Qb ((a0,()),()))).bind (Qk (λj1=>let v2:=Qo 64 (0:UInt8);v2[0]?.bind λx3=>let v4:=Ql v2 0 (Qf (Qh 8 (j1.1.1.jc>>>24)));v4[1]?.bind λx5=>let v6:=Ql v4 1 (Qf (Qh 8 (j1.1.1.jc>>>16)));v6[2]?.bind λx7=>let v8:=Ql v6 2 (Qf (Qh 8 (j1.1.1.jc>>>8)));v8[3]?.bind λx9=>let v10:=Ql v8 3 (Qf (Qh 8 j1.1.1.jc));(bif j1.1.1.first then let v11:=Qf (Qd 8 (Qa .i64 (128+j1.1.1.jd)));let v12:=Qf (Qd 8 (Qn j1.1.1.length (2 ^ min 8 (Qg .i64))));v10[4]?.bind λx13=>(Ql v10 4 v11)[5]?.bind λx14=>(Ql (Ql v10 4 v11) 5 v12)[6]?.bind λx15=>let v16:=Ql (Ql (Ql v10 4 v11) 5 v12) 6 (Qf (Qd 8 j1.1.1.length));some ((j1.1.1,()),v16,(7:Int),()) else v10[4]?.bind λx17=>let v18:=Ql v10 4 (Qf (Qd 8 j1.1.1.seq));some ((j1.1.1,()),v18,(5:Int),())).bind λj19=>(Zdl_L1 ((j19.1.1,()),j19.2.1,j19.2.2.1,0,())).bind λz23=>ru z23.1 0) some)
def c99:=cf c98 88 [qbw] [qj,qa] (u1 Zdl)
def s_Zdl_L1:LSpec T:=⟨[(1,qbp),(4,qam),(5,qb),(6,qb)],[(.exit 1,[(4,qam)])],Zdl_L1,[]⟩
def A_Zdl:Loc2 T:=lcA [(1,s_Zdl_L1)] [(10,[(1,qbp)],false),(17,[(1,qbp),(4,qam),(5,qb)],true)] [11,14]
theorem Vpc:LO c99 Tryz.f88 1 s_Zdl_L1:=lx o98 A_Zdl dn (λ_=>rfl)
theorem o99:EO c99:=sx o98 A_Zdl Tryz.func88 (dc rfl Vpc dn)
def Zdo_L0b (y0:Int) (y1:List UInt8):Option ((Int × (List (UInt8)) × Unit)⊕((List (UInt8)) × Unit)):=
 bif decide (y1.length < y0) then bif small (y1.length+([0]:List UInt8).length) 1 then some (Qb (y0,y1++[0],())) else none else some (Qc (y1,()))
def Zdo_L0:=Yi2 Zdo_L0b
def Zdo (a0:Je):O1 (List UInt8):=
 (bif a0.first then some ((a0,()),(57:Int),()) else some ((a0,()),(59:Int),())).bind λj1=>bif small j1.1.1.data.length 1 then (Zdo_L0 (j1.2.1,j1.1.1.data,())).bind λz2=>rt z2.1 else none
def c100:=cf c99 162 [qbw] [qj] (u1 Zdo)
def s_Zdo_L0:LSpec T:=⟨[(3,qb),(4,qam)],[(.exit 0,[(4,qam)])],Zdo_L0,[]⟩
def A_Zdo:Loc2 T:=lcA [(0,s_Zdo_L0)] [(4,[(1,qbp),(3,qb)],true)] []
theorem Vpd:LO c100 Tryz.f162 0 s_Zdo_L0:=lx o99 A_Zdo dn (λ_=>rfl)
theorem o100:EO c100:=sx o99 A_Zdo Tryz.func162 (dc rfl Vpd dn)
def Zdn (a0:BitVec 32):O1 (List UInt8):=
 let v1:List UInt8:=[Qf (Qh 8 (a0>>>24)),Qf (Qh 8 (a0>>>16)),Qf (Qh 8 (a0>>>8)),Qf (Qh 8 a0)];rt v1
def c101:=cf c100 165 [qan] [qj] (u1 Zdn)
theorem o101:EO c101:=sz o100 Tryz.func165
def Zel_L0b (y0:BitVec 32) (y1:List UInt8) (y2:Int) (y3:List Je) (y4:Int):Option (((BitVec 32) × (List (UInt8)) × Int × (List (Je)) × Int × Unit)⊕((List (Je)) × Unit)):=
 bif decide (y2 < y1.length) then let v3:Int:=bif decide (59 < Qa .i64 ((y1.length:Int) - y2)) then 59 else Qa .i64 ((y1.length:Int) - y2);bif decide (0<=Qa .i64 (y2+v3))&&decide (Qa .i64 (y2+v3)<=y1.length) then bif decide (0<=y2)&&decide (y2<=(Qa .i64 (y2+v3)).toNat) then let v4:=Qm y2.toNat (Qi (Qa .i64 (y2+v3)).toNat y1);bif small v4.length 1 then let v5:List Je:=[⟨y0,false,0,0,y4,v4⟩];bif small (y3.length+(v5:List Je).length) 56 then some (Qb (y0,y1,Qa .i64 (y2+v3),y3++v5,Qa .i64 (y4+1),())) else none else none else none else none else some (Qc (y3,()))
def Zel_L0:=Yi5 Zel_L0b
def Zel (a0:BitVec 32) (a1:Int) (a2:List UInt8):O2 (List Je) Int:=
 bif decide (a1 < 1) then ru [] 9 else bif decide (127 < a1) then ru [] 9 else bif decide (4096 < (a2.length:Int)) then ru [] 8 else let v1:Int:=bif decide (57 < (a2.length:Int)) then 57 else (a2.length:Int);bif decide (0<=v1)&&decide (v1<=a2.length) then bif small (Qi v1.toNat a2).length 1 then let v2:List Je:=[⟨a0,true,a1,(a2.length:Int),0,Qi v1.toNat a2⟩];(Zel_L0 (a0,a2,v1,v2,0,())).bind λz6=>ru z6.1 0 else none else none
def c102:=cf c101 98 [qan,qb,qe] [qa1,qa] (u3 Zel)
def s_Zel_L0:LSpec T:=⟨[(0,qan),(2,qe),(8,qb),(9,(.f qa1)),(10,qb)],[(.exit 0,[(9,(.f qa1))])],Zel_L0,[]⟩
def A_Zel:Loc2 T:=lcA [(0,s_Zel_L0)] [] []
theorem Vpe:LO c102 Tryz.f98 0 s_Zel_L0:=lx o101 A_Zel dn (λ_=>rfl)
theorem o102:EO c102:=sx o101 A_Zel Tryz.func98 (dc rfl Vpe dn)
def Zen (a0:Jx) (a1:BitVec 32) (a2:Int) (a3:List UInt8):O1 Jx:=
 (Zel a1 a2 a3).bind λr1=>bif small a0.jbc.length 56 then bif small (a0.jbc.length+(r1.2.1:List Je).length) 56 then rt {a0 with jbc:=a0.jbc++r1.2.1} else none else none
def c103:=cf c102 164 [(.f qaq),qan,qb,qe] [qaq] (u4 Zen)
theorem o103:EO c103:=sz o102 Tryz.func164
def Zdm (a0:Jz) (a1:Int) (a2:Jx):O2 Jz Jx:=
 bif decide (a0.data.length < a0.length) then ru a0 a2 else bif decide (a0.jd=1) then (Zfy a0).bind λr1=>(Zen a2 a0.jc 1 a0.data).bind λr2=>ru r1.2.1 r2.2.1 else ru ⟨a0.jr,2,a0.jc,a0.jd,0,[],0,a1⟩ ⟨a2.jbc,true,a0.data,a2.jbp⟩
def c104:=cf c103 163 [(.f qao),qb,(.f qaq)] [qao,qaq] (u3 Zdm)
theorem o104:EO c104:=sx o103 (lcA [] [] [2,4,5,6]) Tryz.func163 dn
def Zem (a0:Jz) (a1:Int) (a2:Je) (a3:Jx):O2 Jz Jx:=
 bif !(decide (a0.jbg=0)) then (Zdo a2).bind λr1=>bif decide (a2.jc=4294967295#32) then bif !(decide (a2.jd=6)) then none else bif !(decide (a2.length=8)) then none else bif decide (32<=a0.jr) then none else bif decide (8<=(r1.2.1.length:Int)) then let v2:=Qd 32 (Qa .i64 (a0.jr+1));(Zdn v2).bind λr3=>bif decide (8<=r1.2.1.length)&&small (8+(r3.2.1:List UInt8).length) 1 then (Zen a3 a2.jc 6 (Qi 8 r1.2.1++r3.2.1)).bind λr4=>ru {a0 with jr:=Qa .i64 (a0.jr+1)} r4.2.1 else none else none else bif decide (a2.jc=0#32) then none else bif decide ((Qd 32 a0.jr).toNat < a2.jc.toNat) then none else bif decide (a2.jd=6) then bif !(decide (a2.length=8)) then none else (bif decide (a0.jc=a2.jc) then (Zfy a0).bind λr5=>some ((r5.2.1,()),(({a3 with jbp:=decide (a0.jbg=2)}:Jx),()),(({}:Jz),()),(({}:Jx),()),a2.jc,r1.2.1,()) else some ((a0,()),(a3,()),(({}:Jz),()),(({}:Jx),()),a2.jc,r1.2.1,())).bind λj6=>bif decide (8<=(j6.2.2.2.2.2.1.length:Int)) then (Zdn j6.2.2.2.2.1).bind λr7=>bif decide (8<=j6.2.2.2.2.2.1.length)&&small (8+(r7.2.1:List UInt8).length) 1 then (Zen j6.2.1.1 j6.2.2.2.2.1 6 (Qi 8 j6.2.2.2.2.2.1++r7.2.1)).bind λr8=>ru j6.1.1 r8.2.1 else none else none else bif decide (a2.jd=17) then bif decide (a0.jc=a2.jc) then bif decide (a0.jbg=1) then (Zfy a0).bind λr9=>ru r9.2.1 a3 else ru a0 {a3 with jbp:=decide (a0.jc=a2.jc)} else ru a0 {a3 with jbp:=decide (a0.jc=a2.jc)} else bif decide (a0.jc=a2.jc) then bif decide (a0.jbg=1) then (Zfy a0).bind λr10=>none else bif !(decide (a0.jbg=0)) then none else bif !(decide (a2.jd=1)) then bif !(decide (a2.jd=3)) then none else bif decide (4096 < a2.length) then none else let v11:Int:=bif decide (57 < a2.length) then 57 else a2.length;bif decide (0<=v11)&&decide (v11<=r1.2.1.length) then bif decide (v11.toNat<=r1.2.1.length) then (Zdm ⟨a0.jr,1,a2.jc,a2.jd,a2.length,Qi v11.toNat r1.2.1,0,a1⟩ a1 a3).bind λr12=>ru r12.2.1 r12.2.2.1 else none else none else bif decide (4096 < a2.length) then none else let v13:Int:=bif decide (57 < a2.length) then 57 else a2.length;bif decide (0<=v13)&&decide (v13<=r1.2.1.length) then bif decide (v13.toNat<=r1.2.1.length) then (Zdm ⟨a0.jr,1,a2.jc,a2.jd,a2.length,Qi v13.toNat r1.2.1,0,a1⟩ a1 a3).bind λr14=>ru r14.2.1 r14.2.2.1 else none else none else bif !(decide (a0.jbg=0)) then none else bif !(decide (a2.jd=1)) then bif !(decide (a2.jd=3)) then none else bif decide (4096 < a2.length) then none else let v15:Int:=bif decide (57 < a2.length) then 57 else a2.length;bif decide (0<=v15)&&decide (v15<=r1.2.1.length) then bif decide (v15.toNat<=r1.2.1.length) then (Zdm ⟨a0.jr,1,a2.jc,a2.jd,a2.length,Qi v15.toNat r1.2.1,0,a1⟩ a1 a3).bind λr16=>ru r16.2.1 r16.2.2.1 else none else none else bif decide (4096 < a2.length) then none else let v17:Int:=bif decide (57 < a2.length) then 57 else a2.length;bif decide (0<=v17)&&decide (v17<=r1.2.1.length) then bif decide (v17.toNat<=r1.2.1.length) then (Zdm ⟨a0.jr,1,a2.jc,a2.jd,a2.length,Qi v17.toNat r1.2.1,0,a1⟩ a1 a3).bind λr18=>ru r18.2.1 r18.2.2.1 else none else none else (Zdo a2).bind λr19=>bif decide (a2.jc=4294967295#32) then bif !(decide (a2.jd=6)) then none else bif !(decide (a2.length=8)) then none else bif decide (32<=a0.jr) then none else bif decide (8<=(r19.2.1.length:Int)) then let v20:=Qd 32 (Qa .i64 (a0.jr+1));(Zdn v20).bind λr21=>bif decide (8<=r19.2.1.length)&&small (8+(r21.2.1:List UInt8).length) 1 then (Zen a3 a2.jc 6 (Qi 8 r19.2.1++r21.2.1)).bind λr22=>ru {a0 with jr:=Qa .i64 (a0.jr+1)} r22.2.1 else none else none else bif decide (a2.jc=0#32) then none else bif decide ((Qd 32 a0.jr).toNat < a2.jc.toNat) then none else bif decide (a2.jd=6) then bif !(decide (a2.length=8)) then none else (some ((a0,()),(a3,()),(({}:Jz),()),(({}:Jx),()),a2.jc,r19.2.1,())).bind λj23=>bif decide (8<=(j23.2.2.2.2.2.1.length:Int)) then (Zdn j23.2.2.2.2.1).bind λr24=>bif decide (8<=j23.2.2.2.2.2.1.length)&&small (8+(r24.2.1:List UInt8).length) 1 then (Zen j23.2.1.1 j23.2.2.2.2.1 6 (Qi 8 j23.2.2.2.2.2.1++r24.2.1)).bind λr25=>ru j23.1.1 r25.2.1 else none else none else bif decide (a2.jd=17) then ru a0 {a3 with jbp:=false} else bif !(decide (a0.jbg=0)) then none else bif !(decide (a2.jd=1)) then bif !(decide (a2.jd=3)) then none else bif decide (4096 < a2.length) then none else let v26:Int:=bif decide (57 < a2.length) then 57 else a2.length;bif decide (0<=v26)&&decide (v26<=r19.2.1.length) then bif decide (v26.toNat<=r19.2.1.length) then (Zdm ⟨a0.jr,1,a2.jc,a2.jd,a2.length,Qi v26.toNat r19.2.1,0,a1⟩ a1 a3).bind λr27=>ru r27.2.1 r27.2.2.1 else none else none else bif decide (4096 < a2.length) then none else let v28:Int:=bif decide (57 < a2.length) then 57 else a2.length;bif decide (0<=v28)&&decide (v28<=r19.2.1.length) then bif decide (v28.toNat<=r19.2.1.length) then (Zdm ⟨a0.jr,1,a2.jc,a2.jd,a2.length,Qi v28.toNat r19.2.1,0,a1⟩ a1 a3).bind λr29=>ru r29.2.1 r29.2.2.1 else none else none
def c105:=cf c104 90 [(.f qao),qb,qbw,(.f qaq)] [qao,qaq] (u4 Zem)
theorem o105:EO c105:=sx o104 (lcA [] [(21,[(4,(.ptr [qao])),(7,(.ptr [qaq])),(8,(.ptr [qao])),(9,(.ptr [qaq])),(10,qan),(12,qam)],true)] [6,8,10,12,14,17,21,24,26,28,30,32,34]) Tryz.func90 dn
def Zco (a0:Jz) (a1:Int) (a2:Je):O2 Jz Jx:=
 bif decide (a1 < 0) then some ((),a0,{},()) else bif decide (1099511627776 < a1) then some ((),a0,{},()) else (Zfx a0 a1).bind λr1=>(Zdl a2).bind λr2=>bif !(decide (r2.2.2.1=0)) then ru r1.2.1 r1.2.2.1 else bif !a2.first then none else (Zem r1.2.1 a1 a2 r1.2.2.1).bind λr3=>ru r3.2.1 r3.2.2.1
def c106:=cf c105 44 [(.f qao),qb,qbw] [qao,qaq] (u3 Zco)
theorem o106:EO c106:=sx o105 (lcA [] [] [6]) Tryz.func44 dn
def Zdf (a0 a1 a2:Int):O1 Bool:=
 bif decide (a1<=a0) then rt (decide (a0<=a2)) else rt false
def c107:=ct c106 71 [qb,qb,qb] [qd] (u3 Zdf)
theorem o107:EO c107:=sz o106 Tryz.func71
def Zaz_L1b (y0:List UInt8×Int×List Ja×Unit) (y1:Ja×Unit) (y2 y3:Int) (y4:BitVec 64) (y5:Int):Option ((((List UInt8) × Int × (List (Ja)) × Unit) × (Ja × Unit) × Int × Int × (BitVec 64) × Int × Unit)⊕(((List UInt8) × Int × (List (Ja)) × Unit) × (Ja × Unit) × Int × Int × (BitVec 64) × Unit)):=
 bif decide (y5 < y3) then let v12:=Qa .i64 (Qa .i64 (y0.2.1+1)+y5);(getI y0.1 v12).bind λx13=>some (Qb ((y0.1,y0.2.1,y0.2.2.1,()),(y1.1,()),y2,y3,y4 <<< 8 ||| Qh 64 x13.toBitVec,Qa .i64 (y5+1),())) else some (Qc ((y0.1,y0.2.1,y0.2.2.1,()),(y1.1,()),y2,y3,y4,()))
def Zaz_L1:=Yi6 Zaz_L1b
def Zaz (a0:List UInt8×Int×List Ja×Unit):Option (((List UInt8×Int×List Ja×Unit)×Unit)×Ja×Int×Unit):=
 bif decide (a0.1.length<=a0.2.1) then some (((a0.1,a0.2.1,a0.2.2.1,()),()),{},1,()) else (getI a0.1 a0.2.1).bind λx1=>(bif decide (x1.toBitVec=(244:UInt8).toBitVec) then bif decide (x1.toBitVec=(244:UInt8).toBitVec) then let v2:=Qh 64 (Qf (x1.toBitVec - (244:UInt8).toBitVec)).toBitVec;(some (((a0.1,Qa .i64 (a0.2.1+1),a0.2.2.1,()),()),(⟨7,v2,[]⟩:Ja),(0:Int),())).bind λq=>some (Qc q) else bif decide (x1.toBitVec=(246:UInt8).toBitVec) then (some (((a0.1,Qa .i64 (a0.2.1+1),a0.2.2.1,()),()),({kind:=8}:Ja),(0:Int),())).bind λq=>some (Qc q) else some (Qb ((a0.1,a0.2.1,a0.2.2.1,()),(({}:Ja),()),x1,())) else bif decide (x1.toBitVec=(245:UInt8).toBitVec) then let v3:=Qh 64 (Qf (x1.toBitVec - (244:UInt8).toBitVec)).toBitVec;(some (((a0.1,Qa .i64 (a0.2.1+1),a0.2.2.1,()),()),(⟨7,v3,[]⟩:Ja),(0:Int),())).bind λq=>some (Qc q) else bif decide (x1.toBitVec=(246:UInt8).toBitVec) then (some (((a0.1,Qa .i64 (a0.2.1+1),a0.2.2.1,()),()),({kind:=8}:Ja),(0:Int),())).bind λq=>some (Qc q) else some (Qb ((a0.1,a0.2.1,a0.2.2.1,()),(({}:Ja),()),x1,()))).bind (Qk (λj4=>let v5:=((Qf (j4.2.2.1.toBitVec>>>5)).toBitVec.toNat:Int);let v6:=Qf (j4.2.2.1.toBitVec&&&(31:UInt8).toBitVec);bif decide (5 < v5) then some (((j4.1.1,j4.1.2.1,j4.1.2.2.1,()),()),{},2,()) else bif decide (27 < (v6.toBitVec.toNat:Int)) then some (((j4.1.1,j4.1.2.1,j4.1.2.2.1,()),()),{},2,()) else (bif decide (24<=(v6.toBitVec.toNat:Int)) then let v7:=Qd 64 (Qa .i64 ((v6.toBitVec.toNat:Int) - 24));let v8:=Qa .i64 (1*2 ^ min v7.toNat (Qg .i64));some ((j4.1.1,j4.1.2.1,j4.1.2.2.1,()),(j4.2.1.1,()),v5,(v6.toBitVec.toNat:Int),v8,()) else some ((j4.1.1,j4.1.2.1,j4.1.2.2.1,()),(j4.2.1.1,()),v5,(v6.toBitVec.toNat:Int),(0:Int),())).bind λj9=>let v10:=Qa .i64 (Qa .i64 ((j9.1.1.length:Int) - j9.1.2.1) - 1);bif decide (v10 < j9.2.2.2.2.1) then some (((j9.1.1,j9.1.2.1,j9.1.2.2.1,()),()),{},1,()) else (bif decide (0 < j9.2.2.2.2.1) then some ((j9.1.1,j9.1.2.1,j9.1.2.2.1,()),(j9.2.1.1,()),j9.2.2.1,j9.2.2.2.2.1,0#64,()) else some ((j9.1.1,j9.1.2.1,j9.1.2.2.1,()),(j9.2.1.1,()),j9.2.2.1,j9.2.2.2.2.1,Qd 64 j9.2.2.2.1,())).bind λj11=>(Zaz_L1 ((j11.1.1,j11.1.2.1,j11.1.2.2.1,()),(j11.2.1.1,()),j11.2.2.1,j11.2.2.2.1,j11.2.2.2.2.1,0,())).bind λz14=>let v15:List (BitVec 64):=[0#64,24#64,256#64,0#64,65536#64,0#64,0#64,0#64,4294967296#64];bif decide (0<=z14.2.2.2.1)&&decide (z14.2.2.2.1 < 9) then v15[z14.2.2.2.1.toNat]?.bind λx16=>bif decide (z14.2.2.2.2.1.toNat < x16.toNat) then some (((z14.1.1,z14.1.2.1,z14.1.2.2.1,()),()),{},2,()) else let v17:=Qa .i64 (z14.1.2.1+Qa .i64 (1+z14.2.2.2.1));let v18:List Int:=[1,2,3,4,5,6];bif decide (0<=z14.2.2.1)&&decide (z14.2.2.1 < 6) then v18[z14.2.2.1.toNat]?.bind λx19=>some (((z14.1.1,v17,z14.1.2.2.1,()),()),⟨x19,z14.2.2.2.2.1,[]⟩,0,()) else none else none) some)
def S_Zaz:FSpec T:=⟨[qau],[qv,qa],λx=>Zaz x.1⟩
def s_Zaz_L1:LSpec T:=⟨[(0,qau),(2,qa5),(5,qb),(7,qb),(8,qf),(9,qb)],[(.exit 1,[(0,qau),(2,qa5),(5,qb),(7,qb),(8,qf)])],Zaz_L1,[]⟩
def A_Zaz:Loc2 T:=lcA [(1,s_Zaz_L1)] [(12,[(0,qau),(2,qa5),(4,qav)],false),(18,[(0,qau),(2,qa5),(5,qb),(6,qb),(7,qb)],true),(23,[(0,qau),(2,qa5),(5,qb),(7,qb),(8,qf)],true)] []
theorem Vpf:LoopOk Tryz.prog (mE c107) Tryz.f256.ntmps (kqOf S_Zaz.ps 0) (loopAt 1 (bodyOf Tryz.f256)) s_Zaz_L1:=
 lpC hmix o107 A_Zaz Vaa 1 (st:=λy=>Zaz_L1b y.1 y.2.1 y.2.2.1 y.2.2.2.1 y.2.2.2.2.1 y.2.2.2.2.2.1) (λ_=>rfl) (by kernel_rfl) (by kernel_rfl) λx=>by kernel_rfl
theorem Vvx:SoundT Tryz.prog cd gdn 256 S_Zaz:=
 sndC hmix o107 A_Zaz Tryz.func256 (Vab rfl Vpf Vaa) (by kernel_rfl) (by kernel_rfl) λx=>by kernel_rfl
def c108:List (Ct T):=⟨256,none,S_Zaz,false⟩::c107
theorem o108:EnvOk Tryz.prog (mE c108):=eCons Vvx o107
def Zfv (a0:Int):O1 Bool:=
 bif decide (a0=1) then rt true else bif decide (a0=2) then rt true else rt (decide (a0=4))
def S_Zfv:FSpec T:=⟨[qb],[qd],λx=>Zfv x.1⟩
theorem Vvy:SoundT Tryz.prog cd gdn 257 S_Zfv:=
 sndC hmix o108 (lcA [] [] []) Tryz.func257 Vaa (by kernel_rfl) (by kernel_rfl) λx=>by kernel_rfl
def c109:List (Ct T):=⟨257,none,S_Zfv,true⟩::c108
theorem o109:EnvOk Tryz.prog (mE c109):=eCons Vvy o108
def Zgy (a0:Ja):O1 (List UInt8):=
 (bif decide (a0.kind=7) then let v1:=Qf ((244:UInt8).toBitVec+(Qf (Qh 8 a0.number)).toBitVec);(rt [v1]).bind λq=>some (Qc q) else bif decide (a0.kind=8) then (rt ([246]:List UInt8)).bind λq=>some (Qc q) else bif decide (a0.kind=2) then some (Qb (a0.number,(32:UInt8),())) else bif decide (a0.kind=3) then some (Qb (Qd 64 (a0.data.length:Int),(64:UInt8),())) else bif decide (a0.kind=4) then some (Qb (Qd 64 (a0.data.length:Int),(96:UInt8),())) else bif decide (a0.kind=5) then some (Qb (a0.number,(128:UInt8),())) else bif decide (a0.kind=6) then some (Qb (a0.number,(160:UInt8),())) else some (Qb (a0.number,(0:UInt8),()))).bind (Qk (λj2=>bif decide (j2.1.toNat < (24#64).toNat) then let v3:=Qf (j2.2.1.toBitVec+(Qf (Qh 8 j2.1)).toBitVec);rt [v3] else bif decide (j2.1.toNat < (256#64).toNat) then let v4:List UInt8:=[Qf (j2.2.1.toBitVec+(24:UInt8).toBitVec),Qf (Qh 8 j2.1)];rt v4 else bif decide (j2.1.toNat < (65536#64).toNat) then let v5:List UInt8:=[Qf (j2.2.1.toBitVec+(25:UInt8).toBitVec),Qf (Qh 8 (j2.1>>>8)),Qf (Qh 8 j2.1)];rt v5 else bif decide (j2.1.toNat < (4294967296#64).toNat) then let v6:List UInt8:=[Qf (j2.2.1.toBitVec+(26:UInt8).toBitVec),Qf (Qh 8 (j2.1>>>24)),Qf (Qh 8 (j2.1>>>16)),Qf (Qh 8 (j2.1>>>8)),Qf (Qh 8 j2.1)];rt v6 else let v7:List UInt8:=[Qf (j2.2.1.toBitVec+(27:UInt8).toBitVec)];(passkeyref1_WordsF [j2.1]).bind λr8=>bif small (v7.length+(r8.2.1:List UInt8).length) 1 then rt (v7++r8.2.1) else none) some)
def c110:=cf c109 368 [qb1] [qj] (u1 Zgy)
theorem o110:EO c110:=sx o109 (lcA [] [(18,[(3,qf),(4,qav)],false)] []) Tryz.func368 dn
def Zfs (a0:Ja):O1 (List UInt8):=
 (Zgy a0).bind λr1=>bif Qj (r1.2.1.length+a0.data.length) 9223372036854775807 then rt (r1.2.1++a0.data) else none
def S_Zfs:FSpec T:=⟨[qb1],[qaf],λx=>Zfs x.1⟩
theorem Vpg:SoundT Tryz.prog cd gdn 259 S_Zfs:=
 sndC hmix o110 (lcA [] [] [1]) Tryz.func259 Vaa (by kernel_rfl) (by kernel_rfl) λx=>by kernel_rfl
def c111:List (Ct T):=⟨259,none,S_Zfs,true⟩::c110
theorem o111:EnvOk Tryz.prog (mE c111):=eCons Vpg o110
def Zhb (a0 a1:List UInt8):O1 Bool:=
 bif !(decide ((a0.length:Int)=(a1.length:Int))) then rt (decide ((a0.length:Int) < (a1.length:Int))) else rt (Op.bytesLess a0 a1)
def S_Zhb:FSpec T:=⟨[qh,qh],[qd],λx=>Zhb x.1 x.2.1⟩
theorem Vvz:SoundT Tryz.prog cd gdn 258 S_Zhb:=
 sndC hmix o111 (lcA [] [] []) Tryz.func258 Vaa (by kernel_rfl) (by kernel_rfl) λx=>by kernel_rfl
def c112:List (Ct T):=⟨258,none,S_Zhb,true⟩::c111
theorem o112:EnvOk Tryz.prog (mE c112):=eCons Vvz o111
def c113:List (Ct T):=⟨251,none,S_Zhp,true⟩::c112
theorem o113:EnvOk Tryz.prog (mE c113):=eCons Vvg o112
def Zba_L1b (k_rec:List UInt8×Int×List Ja×Unit->Int->Bool->List UInt8->Option (((List UInt8×Int×List Ja×Unit)×Unit)×Int×Unit)) (y0:List UInt8×Int×List Ja×Unit) (y1:Int) (y2:Ja×Unit) (y3:BitVec 64) (y4:Bool) (y5:List UInt8) (y6:BitVec 64):Option ((List UInt8×Int×List Ja×Unit)×Int×(Ja×Unit)×BitVec 64×Bool×List UInt8×BitVec 64×Unit⊕(List UInt8×Int×List Ja×Unit)×Int×Unit⊕(List UInt8×Int×List Ja×Unit)×Unit):=
 bif y4 then bif decide (y6.toNat < y3.toNat) then bif decide (y2.1.kind=6) then (k_rec (y0.1,y0.2.1,y0.2.2.1,()) (Qa .i64 (y1+1)) true y5).bind λr18=>bif !(decide (r18.2.1=0)) then some (Qc (Qb ((r18.1.1.1,r18.1.1.2.1,r18.1.1.2.2.1,()),r18.2.1,()))) else bif decide (0<=(y0.2.2.1.length:Int))&&decide ((y0.2.2.1.length:Int) < (r18.1.1.2.2.1.length:Int)) then r18.1.1.2.2.1[(y0.2.2.1.length:Int).toNat]?.bind λx19=>(Zfs x19).bind λr20=>(k_rec (r18.1.1.1,r18.1.1.2.1,r18.1.1.2.2.1,()) (Qa .i64 (y1+1)) false ([]:List UInt8)).bind λr21=>bif !(decide (r21.2.1=0)) then some (Qc (Qb ((r21.1.1.1,r21.1.1.2.1,r21.1.1.2.2.1,()),r21.2.1,()))) else some (Qb ((r21.1.1.1,r21.1.1.2.1,r21.1.1.2.2.1,()),y1,(y2.1,()),y3,y4,r20.2.1,y6+1#64,())) else none else (k_rec (y0.1,y0.2.1,y0.2.2.1,()) (Qa .i64 (y1+1)) false ([]:List UInt8)).bind λr22=>bif !(decide (r22.2.1=0)) then some (Qc (Qb ((r22.1.1.1,r22.1.1.2.1,r22.1.1.2.2.1,()),r22.2.1,()))) else some (Qb ((r22.1.1.1,r22.1.1.2.1,r22.1.1.2.2.1,()),y1,(y2.1,()),y3,y4,y5,y6+1#64,())) else some (Qc (Qc ((y0.1,y0.2.1,y0.2.2.1,()),()))) else some (Qc (Qc ((y0.1,y0.2.1,y0.2.2.1,()),())))
def Zba_L1 (k_rec:List UInt8×Int×List Ja×Unit->Int->Bool->List UInt8->Option (((List UInt8×Int×List Ja×Unit)×Unit)×Int×Unit)) (y:(List UInt8×Int×List Ja×Unit)×Int×(Ja×Unit)×BitVec 64×Bool×List UInt8×BitVec 64×Unit):Option ((List UInt8×Int×List Ja×Unit)×Int×Unit⊕(List UInt8×Int×List Ja×Unit)×Unit):=
 iter (λ(y:(List UInt8×Int×List Ja×Unit)×Int×(Ja×Unit)×BitVec 64×Bool×List UInt8×BitVec 64×Unit)=>Zba_L1b k_rec y.1 y.2.1 y.2.2.1 y.2.2.2.1 y.2.2.2.2.1 y.2.2.2.2.2.1 y.2.2.2.2.2.2.1) rounds y
def Zba_R (k_rec:List UInt8×Int×List Ja×Unit->Int->Bool->List UInt8->Option (((List UInt8×Int×List Ja×Unit)×Unit)×Int×Unit)) (a0:List UInt8×Int×List Ja×Unit) (a1:Int) (a2:Bool) (a3:List UInt8):Option (((List UInt8×Int×List Ja×Unit)×Unit)×Int×Unit):=
 (Zaz (a0.1,a0.2.1,a0.2.2.1,())).bind λr1=>bif !(decide (r1.2.2.1=0)) then some (((r1.1.1.1,r1.1.1.2.1,r1.1.1.2.2.1,()),()),r1.2.2.1,()) else (bif decide (r1.2.1.kind=3) then some ((r1.1.1.1,r1.1.1.2.1,r1.1.1.2.2.1,()),a1,a2,a3,(r1.2.1,()),r1.2.1.number,true,()) else some ((r1.1.1.1,r1.1.1.2.1,r1.1.1.2.2.1,()),a1,a2,a3,(r1.2.1,()),r1.2.1.number,decide (r1.2.1.kind=4),())).bind λj2=>(bif decide (j2.2.2.2.2.1.1.kind=5) then some ((j2.1.1,j2.1.2.1,j2.1.2.2.1,()),j2.2.1,j2.2.2.1,j2.2.2.2.1,(j2.2.2.2.2.1.1,()),j2.2.2.2.2.2.1,j2.2.2.2.2.2.2.1,true,()) else some ((j2.1.1,j2.1.2.1,j2.1.2.2.1,()),j2.2.1,j2.2.2.1,j2.2.2.2.1,(j2.2.2.2.2.1.1,()),j2.2.2.2.2.2.1,j2.2.2.2.2.2.2.1,decide (j2.2.2.2.2.1.1.kind=6),())).bind λj3=>bif decide (512<=(j3.1.2.2.1.length:Int)) then some (((j3.1.1,j3.1.2.1,j3.1.2.2.1,()),()),8,()) else (bif j3.2.2.1 then (Zfv j3.2.2.2.2.1.1.kind).bind λr4=>some ((j3.1.1,j3.1.2.1,j3.1.2.2.1,()),j3.2.1,j3.2.2.1,j3.2.2.2.1,(j3.2.2.2.2.1.1,()),j3.2.2.2.2.2.1,j3.2.2.2.2.2.2.1,j3.2.2.2.2.2.2.2.1,!r4.2.1,()) else some ((j3.1.1,j3.1.2.1,j3.1.2.2.1,()),j3.2.1,j3.2.2.1,j3.2.2.2.1,(j3.2.2.2.2.1.1,()),j3.2.2.2.2.2.1,j3.2.2.2.2.2.2.1,j3.2.2.2.2.2.2.2.1,false,())).bind λj5=>bif j5.2.2.2.2.2.2.2.2.1 then some (((j5.1.1,j5.1.2.1,j5.1.2.2.1,()),()),3,()) else bif decide (8 < j5.2.1) then some (((j5.1.1,j5.1.2.1,j5.1.2.2.1,()),()),5,()) else (bif j5.2.2.2.2.2.2.1 then bif decide ((1024#64).toNat < j5.2.2.2.2.2.1.toNat) then some ((j5.1.1,j5.1.2.1,j5.1.2.2.1,()),j5.2.1,j5.2.2.1,j5.2.2.2.1,(j5.2.2.2.2.1.1,()),j5.2.2.2.2.2.1,j5.2.2.2.2.2.2.1,j5.2.2.2.2.2.2.2.1,true,()) else bif j5.2.2.2.2.2.2.2.1 then some ((j5.1.1,j5.1.2.1,j5.1.2.2.1,()),j5.2.1,j5.2.2.1,j5.2.2.2.1,(j5.2.2.2.2.1.1,()),j5.2.2.2.2.2.1,j5.2.2.2.2.2.2.1,j5.2.2.2.2.2.2.2.1,decide ((512#64).toNat < j5.2.2.2.2.2.1.toNat),()) else some ((j5.1.1,j5.1.2.1,j5.1.2.2.1,()),j5.2.1,j5.2.2.1,j5.2.2.2.1,(j5.2.2.2.2.1.1,()),j5.2.2.2.2.2.1,j5.2.2.2.2.2.2.1,j5.2.2.2.2.2.2.2.1,false,()) else bif j5.2.2.2.2.2.2.2.1 then some ((j5.1.1,j5.1.2.1,j5.1.2.2.1,()),j5.2.1,j5.2.2.1,j5.2.2.2.1,(j5.2.2.2.2.1.1,()),j5.2.2.2.2.2.1,j5.2.2.2.2.2.2.1,j5.2.2.2.2.2.2.2.1,decide ((512#64).toNat < j5.2.2.2.2.2.1.toNat),()) else some ((j5.1.1,j5.1.2.1,j5.1.2.2.1,()),j5.2.1,j5.2.2.1,j5.2.2.2.1,(j5.2.2.2.2.1.1,()),j5.2.2.2.2.2.1,j5.2.2.2.2.2.2.1,j5.2.2.2.2.2.2.2.1,false,())).bind λj6=>bif j6.2.2.2.2.2.2.2.2.1 then some (((j6.1.1,j6.1.2.1,j6.1.2.2.1,()),()),8,()) else (bif j6.2.2.2.2.2.2.1 then let v7:=Qd 64 (Qa .i64 ((j6.1.1.length:Int) - j6.1.2.1));some ((j6.1.1,j6.1.2.1,j6.1.2.2.1,()),j6.2.1,j6.2.2.1,j6.2.2.2.1,(j6.2.2.2.2.1.1,()),j6.2.2.2.2.2.1,j6.2.2.2.2.2.2.1,j6.2.2.2.2.2.2.2.1,decide (v7.toNat < j6.2.2.2.2.2.1.toNat),()) else some ((j6.1.1,j6.1.2.1,j6.1.2.2.1,()),j6.2.1,j6.2.2.1,j6.2.2.2.1,(j6.2.2.2.2.1.1,()),j6.2.2.2.2.2.1,j6.2.2.2.2.2.2.1,j6.2.2.2.2.2.2.2.1,false,())).bind λj8=>bif j8.2.2.2.2.2.2.2.2.1 then some (((j8.1.1,j8.1.2.1,j8.1.2.2.1,()),()),1,()) else (bif j8.2.2.2.2.2.2.1 then let v9:=Qa .i64 (j8.1.2.1+Qa .i64 (j8.2.2.2.2.2.1.toNat:Int));bif decide (0<=v9)&&decide (v9<=j8.1.1.length) then bif decide (0<=j8.1.2.1)&&decide (j8.1.2.1<=v9.toNat) then let v10:=Qa .i64 (j8.1.2.1+Qa .i64 (j8.2.2.2.2.2.1.toNat:Int));some ((j8.1.1,v10,j8.1.2.2.1,()),j8.2.1,j8.2.2.1,j8.2.2.2.1,((⟨j8.2.2.2.2.1.1.kind,0#64,Qm j8.1.2.1.toNat (Qi v9.toNat j8.1.1)⟩:Ja),()),j8.2.2.2.2.2.1,j8.2.2.2.2.2.2.2.1,()) else none else none else some ((j8.1.1,j8.1.2.1,j8.1.2.2.1,()),j8.2.1,j8.2.2.1,j8.2.2.2.1,(j8.2.2.2.2.1.1,()),j8.2.2.2.2.2.1,j8.2.2.2.2.2.2.2.1,())).bind λj11=>(bif decide (j11.2.2.2.2.1.1.kind=4) then (Zhp j11.2.2.2.2.1.1.data).bind λr12=>some ((j11.1.1,j11.1.2.1,j11.1.2.2.1,()),j11.2.1,j11.2.2.1,j11.2.2.2.1,(j11.2.2.2.2.1.1,()),j11.2.2.2.2.2.1,j11.2.2.2.2.2.2.1,!r12.2.1,()) else some ((j11.1.1,j11.1.2.1,j11.1.2.2.1,()),j11.2.1,j11.2.2.1,j11.2.2.2.1,(j11.2.2.2.2.1.1,()),j11.2.2.2.2.2.1,j11.2.2.2.2.2.2.1,false,())).bind λj13=>bif j13.2.2.2.2.2.2.2.1 then some (((j13.1.1,j13.1.2.1,j13.1.2.2.1,()),()),6,()) else (bif j13.2.2.1 then bif !(decide (j13.2.2.2.1=([]:List UInt8))) then (Zfs j13.2.2.2.2.1.1).bind λr14=>(Zhb j13.2.2.2.1 r14.2.1).bind λr15=>some ((j13.1.1,j13.1.2.1,j13.1.2.2.1,()),j13.2.1,(j13.2.2.2.2.1.1,()),j13.2.2.2.2.2.1,j13.2.2.2.2.2.2.1,!r15.2.1,()) else some ((j13.1.1,j13.1.2.1,j13.1.2.2.1,()),j13.2.1,(j13.2.2.2.2.1.1,()),j13.2.2.2.2.2.1,j13.2.2.2.2.2.2.1,false,()) else some ((j13.1.1,j13.1.2.1,j13.1.2.2.1,()),j13.2.1,(j13.2.2.2.2.1.1,()),j13.2.2.2.2.2.1,j13.2.2.2.2.2.2.1,false,())).bind λj16=>bif j16.2.2.2.2.2.1 then some (((j16.1.1,j16.1.2.1,j16.1.2.2.1,()),()),7,()) else bif small (j16.1.2.2.1.length+([j16.2.2.1.1]).length) 32 then let v17:=j16.1.2.2.1++[j16.2.2.1.1];(Zba_L1 k_rec ((j16.1.1,j16.1.2.1,v17,()),j16.2.1,(j16.2.2.1.1,()),j16.2.2.2.1,j16.2.2.2.2.1,[],0#64,())).bind (Qk (λz23=>some (((z23.1.1,z23.1.2.1,z23.1.2.2.1,()),()),z23.2.1,())) (λz24=>some (((z24.1.1,z24.1.2.1,z24.1.2.2.1,()),()),0,()))) else none
abbrev ps_Zba:List Slot:=[qau,qb,qn,qh]
abbrev rs_Zba:List Fld:=[qa]
def E_Zba (k_rec:((List UInt8)×Int×(List (Ja))×Unit)->Int->Bool->(List UInt8)->Option Ybq):Env T:=⟨tab.find,cd,globs,flc,λf ds=>match f with
  | 166=>some ⟨ps_Zba,rs_Zba,λx=>k_rec x.1 x.2.1 x.2.2.1 x.2.2.2.1⟩
  | 251=>some S_Zhp
  | 256=>some S_Zaz
  | 257=>some S_Zfv
  | 258=>some S_Zhb
  | 259=>some S_Zfs
  | _=>none,λf=>match f with
  | 251=>true
  | 257=>true
  | 258=>true
  | 259=>true
  | _=>false⟩
def A_Zba (k_rec:((List UInt8)×Int×(List (Ja))×Unit)->Int->Bool->(List UInt8)->Option Ybq):Loc2 T:=⟨λid=>match id with
  | 1=>some ⟨[(0,.ptr [(.v .str),(.v (.int .i64)),(.own 1)]),(1,.f (.v (.int .i64))),(9,.ptr [(.v (.agg 1))]),(11,.f (.v .u64)),(13,.f (.v .bool)),(14,.f (.v .str)),(15,.f (.v .u64))],[(.ret,[(0,.ptr [(.v .str),(.v (.int .i64)),(.own 1)]),(8,.f (.v (.int .i64)))]),(.exit 1,[(0,.ptr [(.v .str),(.v (.int .i64)),(.own 1)])])],Zba_L1 k_rec,[]⟩
  | _=>none,λr=>match r with
  | 6=>some ([(0,.ptr [(.v .str),(.v (.int .i64)),(.own 1)]),(1,.f (.v (.int .i64))),(2,.f (.v .bool)),(3,.f (.v .str)),(9,.ptr [(.v (.agg 1))]),(11,.f (.v .u64)),(12,.f (.v .bool))],true)
  | 7=>some ([(0,.ptr [(.v .str),(.v (.int .i64)),(.own 1)]),(1,.f (.v (.int .i64))),(2,.f (.v .bool)),(3,.f (.v .str)),(9,.ptr [(.v (.agg 1))]),(11,.f (.v .u64)),(12,.f (.v .bool)),(13,.f (.v .bool))],true)
  | 10=>some ([(0,.ptr [(.v .str),(.v (.int .i64)),(.own 1)]),(1,.f (.v (.int .i64))),(2,.f (.v .bool)),(3,.f (.v .str)),(9,.ptr [(.v (.agg 1))]),(11,.f (.v .u64)),(12,.f (.v .bool)),(13,.f (.v .bool)),(52,.f (.v .bool))],true)
  | 14=>some ([(0,.ptr [(.v .str),(.v (.int .i64)),(.own 1)]),(1,.f (.v (.int .i64))),(2,.f (.v .bool)),(3,.f (.v .str)),(9,.ptr [(.v (.agg 1))]),(11,.f (.v .u64)),(12,.f (.v .bool)),(13,.f (.v .bool)),(63,.f (.v .bool))],true)
  | 16=>some ([(0,.ptr [(.v .str),(.v (.int .i64)),(.own 1)]),(1,.f (.v (.int .i64))),(2,.f (.v .bool)),(3,.f (.v .str)),(9,.ptr [(.v (.agg 1))]),(11,.f (.v .u64)),(12,.f (.v .bool)),(13,.f (.v .bool)),(76,.f (.v .bool))],true)
  | 20=>some ([(0,.ptr [(.v .str),(.v (.int .i64)),(.own 1)]),(1,.f (.v (.int .i64))),(2,.f (.v .bool)),(3,.f (.v .str)),(9,.ptr [(.v (.agg 1))]),(11,.f (.v .u64)),(13,.f (.v .bool))],true)
  | 21=>some ([(0,.ptr [(.v .str),(.v (.int .i64)),(.own 1)]),(1,.f (.v (.int .i64))),(2,.f (.v .bool)),(3,.f (.v .str)),(9,.ptr [(.v (.agg 1))]),(11,.f (.v .u64)),(13,.f (.v .bool)),(129,.f (.v .bool))],true)
  | 23=>some ([(0,.ptr [(.v .str),(.v (.int .i64)),(.own 1)]),(1,.f (.v (.int .i64))),(9,.ptr [(.v (.agg 1))]),(11,.f (.v .u64)),(13,.f (.v .bool)),(141,.f (.v .bool))],true)
  | _=>none,λr=>match r with
  | 18=>true
  | 24=>true
  | _=>false⟩
theorem Vph (k_rec:((List UInt8)×Int×(List (Ja))×Unit)->Int->Bool->(List UInt8)->Option Ybq) (y0:((List UInt8)×Int×(List (Ja))×Unit)) (y1:Int) (y2:(Ja×Unit)) (y3:(BitVec 64)) (y4:Bool) (y5:(List UInt8)) (y6:(BitVec 64)):run (E_Zba k_rec) (A_Zba k_rec) (loopAt 1 (Tryz.f166.body.getD .skip)) (layC cd [(0,.ptr [(.v .str),(.v (.int .i64)),(.own 1)]),(1,.f (.v (.int .i64))),(9,.ptr [(.v (.agg 1))]),(11,.f (.v .u64)),(13,.f (.v .bool)),(14,.f (.v .str)),(15,.f (.v .u64))] [] (y0,y1,y2,y3,y4,y5,y6,())) (roundK cd [(0,.ptr [(.v .str),(.v (.int .i64)),(.own 1)]),(1,.f (.v (.int .i64))),(9,.ptr [(.v (.agg 1))]),(11,.f (.v .u64)),(13,.f (.v .bool)),(14,.f (.v .str)),(15,.f (.v .u64))] [] [(.ret,[(0,.ptr [(.v .str),(.v (.int .i64)),(.own 1)]),(8,.f (.v (.int .i64)))]),(.exit 1,[(0,.ptr [(.v .str),(.v (.int .i64)),(.own 1)])])])=Zba_L1b k_rec y0 y1 y2 y3 y4 y5 y6:=by kernel_rfl
theorem Vxg (k_rec:((List UInt8)×Int×(List (Ja))×Unit)->Int->Bool->(List UInt8)->Option Ybq) (x:tySs T ps_Zba):run (E_Zba k_rec) (A_Zba k_rec) (Tryz.f166.body.getD .skip) (enterT (E_Zba k_rec).C ps_Zba x) (retK (E_Zba k_rec) Tryz.f166.results.toList ps_Zba rs_Zba)=Zba_R k_rec x.1 x.2.1 x.2.2.1 x.2.2.2.1:=by kernel_rfl
def Zba_n:Nat->((List UInt8)×Int×(List (Ja))×Unit)->Int->Bool->(List UInt8)->Option Ybq
 | 0=>λ_ _ _ _=>none
 | n+1=>Zba_R (Zba_n n)
def Zba (a0:((List UInt8)×Int×(List (Ja))×Unit)) (a1:Int) (a2:Bool) (a3:(List UInt8)):=Zba_n 12 a0 a1 a2 a3
def S_Zba:FSpec T:=⟨ps_Zba,rs_Zba,λx=>Zba x.1 x.2.1 x.2.2.1 x.2.2.2.1⟩
theorem Vpi (k_rec:((List UInt8)×Int×(List (Ja))×Unit)->Int->Bool->(List UInt8)->Option Ybq) (hk:SoundT Tryz.prog cd gdn 166 ⟨ps_Zba,rs_Zba,λx=>k_rec x.1 x.2.1 x.2.2.1 x.2.2.2.1⟩):EnvOk Tryz.prog (E_Zba k_rec):=envOk (E:=(E_Zba k_rec)) cd_ok tys fl_ok λf ds S h=>by
  dsimp only [E_Zba] at h
  split at h
  ·cases h; exact hk
  ·cases h; exact Vvg
  ·cases h; exact Vvx
  ·cases h; exact Vvy
  ·cases h; exact Vvz
  ·cases h; exact Vpg
  ·cases h
theorem Vpj (k_rec:((List UInt8)×Int×(List (Ja))×Unit)->Int->Bool->(List UInt8)->Option Ybq) (hk:SoundT Tryz.prog cd gdn 166 ⟨ps_Zba,rs_Zba,λx=>k_rec x.1 x.2.1 x.2.2.1 x.2.2.2.1⟩):LoopOk Tryz.prog (E_Zba k_rec) Tryz.f166.ntmps (kqOf ps_Zba 0) (loopAt 1 (Tryz.f166.body.getD .skip)) ⟨[(0,.ptr [(.v .str),(.v (.int .i64)),(.own 1)]),(1,.f (.v (.int .i64))),(9,.ptr [(.v (.agg 1))]),(11,.f (.v .u64)),(13,.f (.v .bool)),(14,.f (.v .str)),(15,.f (.v .u64))],[(.ret,[(0,.ptr [(.v .str),(.v (.int .i64)),(.own 1)]),(8,.f (.v (.int .i64)))]),(.exit 1,[(0,.ptr [(.v .str),(.v (.int .i64)),(.own 1)])])],Zba_L1 k_rec,[]⟩:=
 Vdr (A:=(A_Zba k_rec)) (done:=[]) (c0:=(Tryz.f166.body.getD .skip)) hmix (Vpi k_rec hk) Vaa rounds (by kernel_rfl) (by kernel_rfl) (λx=>Vph k_rec x.1 x.2.1 x.2.2.1 x.2.2.2.1 x.2.2.2.2.1 x.2.2.2.2.2.1 x.2.2.2.2.2.2.1) (λ_=>rfl)
theorem Vk1:∀ n:Nat,SoundT Tryz.prog cd gdn 166 ⟨ps_Zba,rs_Zba,λx=>Zba_n n x.1 x.2.1 x.2.2.1 x.2.2.2.1⟩
 | 0=>Ve9 ⟨_,Tryz.func166,by kernel_rfl,by kernel_rfl⟩
 | n+1=>Vbe (E:=E_Zba (Zba_n n)) (A:=A_Zba (Zba_n n)) (done:=[1]) (c:=(Tryz.f166.body.getD .skip)) (S:=⟨ps_Zba,rs_Zba,λx=>Zba_n (n+1) x.1 x.2.1 x.2.2.1 x.2.2.2.1⟩) (fn:=Tryz.f166) hmix (Vpi _ (Vk1 n)) Tryz.func166 rfl (by kernel_rfl) (by kernel_rfl) (Vab rfl (Vpj _ (Vk1 n)) Vaa) (by kernel_rfl) (by kernel_rfl) (Vxg (Zba_n n))
theorem Vy6:SoundT Tryz.prog cd gdn 166 S_Zba:=Vk1 12
def c114:List (Ct T):=⟨166,none,S_Zba,false⟩::c113
theorem o114:EnvOk Tryz.prog (mE c114):=eCons Vy6 o113
def Zeg (a0:List UInt8):Option (Unit×List Ja×Int×Int×Unit):=
 (Zba (a0,0,[],()) 0 false []).bind λr1=>bif !(decide (r1.2.1=0)) then some ((),[],0,r1.2.1,()) else some ((),r1.1.1.2.2.1,r1.1.1.2.1,0,())
def c115:=cf c114 91 [qe] [qw,qa,qa] (u1 Zeg)
theorem o115:EO c115:=sz o114 Tryz.func91
def Zek (a0 a1 a2:Int):O1 Bool:=
 bif decide (a1<=a0) then rt (decide (a0<=a2)) else rt false
def c116:=ct c115 442 [qb,qb,qb] [qd] (u3 Zek)
theorem o116:EO c116:=sz o115 Tryz.func442
def Zfu (a0:Ja) (a1 a2:Int) (a3:Bool) (a4:List UInt8):O1 Int:=
 (bif decide (a0.kind=3) then some (a1,a2,a3,a4,(a0,()),true,()) else some (a1,a2,a3,a4,(a0,()),decide (a0.kind=4),())).bind λj1=>(bif decide (j1.2.2.2.2.1.1.kind=5) then some (j1.1,j1.2.1,j1.2.2.1,j1.2.2.2.1,(j1.2.2.2.2.1.1,()),j1.2.2.2.2.2.1,true,()) else some (j1.1,j1.2.1,j1.2.2.1,j1.2.2.2.1,(j1.2.2.2.2.1.1,()),j1.2.2.2.2.2.1,decide (j1.2.2.2.2.1.1.kind=6),())).bind λj2=>bif decide (512<=j2.1) then rt 8 else ((Zek j2.2.2.2.2.1.1.kind 1 8).bind λr3=>bif !r3.2.1 then some (j2.2.1,j2.2.2.1,j2.2.2.2.1,(j2.2.2.2.2.1.1,()),j2.2.2.2.2.2.1,j2.2.2.2.2.2.2.1,true,()) else bif j2.2.2.1 then (Zfv j2.2.2.2.2.1.1.kind).bind λr4=>some (j2.2.1,j2.2.2.1,j2.2.2.2.1,(j2.2.2.2.2.1.1,()),j2.2.2.2.2.2.1,j2.2.2.2.2.2.2.1,!r4.2.1,()) else some (j2.2.1,j2.2.2.1,j2.2.2.2.1,(j2.2.2.2.2.1.1,()),j2.2.2.2.2.2.1,j2.2.2.2.2.2.2.1,false,())).bind λj5=>bif j5.2.2.2.2.2.2.1 then rt 3 else bif decide (8 < j5.1) then rt 5 else (bif j5.2.2.2.2.1 then bif !(decide (j5.2.2.2.1.1.number=0#64)) then some (j5.2.1,j5.2.2.1,(j5.2.2.2.1.1,()),j5.2.2.2.2.2.1,true,()) else bif decide (j5.2.2.2.1.1.kind=7) then bif decide ((1#64).toNat < j5.2.2.2.1.1.number.toNat) then some (j5.2.1,j5.2.2.1,(j5.2.2.2.1.1,()),j5.2.2.2.2.2.1,true,()) else bif !j5.2.2.2.2.1 then some (j5.2.1,j5.2.2.1,(j5.2.2.2.1.1,()),j5.2.2.2.2.2.1,!(decide (j5.2.2.2.1.1.data=([]:List UInt8))),()) else some (j5.2.1,j5.2.2.1,(j5.2.2.2.1.1,()),j5.2.2.2.2.2.1,false,()) else bif !j5.2.2.2.2.1 then some (j5.2.1,j5.2.2.1,(j5.2.2.2.1.1,()),j5.2.2.2.2.2.1,!(decide (j5.2.2.2.1.1.data=([]:List UInt8))),()) else some (j5.2.1,j5.2.2.1,(j5.2.2.2.1.1,()),j5.2.2.2.2.2.1,false,()) else bif decide (j5.2.2.2.1.1.kind=8) then bif !(decide (j5.2.2.2.1.1.number=0#64)) then some (j5.2.1,j5.2.2.1,(j5.2.2.2.1.1,()),j5.2.2.2.2.2.1,true,()) else bif decide (j5.2.2.2.1.1.kind=7) then bif decide ((1#64).toNat < j5.2.2.2.1.1.number.toNat) then some (j5.2.1,j5.2.2.1,(j5.2.2.2.1.1,()),j5.2.2.2.2.2.1,true,()) else bif !j5.2.2.2.2.1 then some (j5.2.1,j5.2.2.1,(j5.2.2.2.1.1,()),j5.2.2.2.2.2.1,!(decide (j5.2.2.2.1.1.data=([]:List UInt8))),()) else some (j5.2.1,j5.2.2.1,(j5.2.2.2.1.1,()),j5.2.2.2.2.2.1,false,()) else bif !j5.2.2.2.2.1 then some (j5.2.1,j5.2.2.1,(j5.2.2.2.1.1,()),j5.2.2.2.2.2.1,!(decide (j5.2.2.2.1.1.data=([]:List UInt8))),()) else some (j5.2.1,j5.2.2.1,(j5.2.2.2.1.1,()),j5.2.2.2.2.2.1,false,()) else bif decide (j5.2.2.2.1.1.kind=7) then bif decide ((1#64).toNat < j5.2.2.2.1.1.number.toNat) then some (j5.2.1,j5.2.2.1,(j5.2.2.2.1.1,()),j5.2.2.2.2.2.1,true,()) else bif !j5.2.2.2.2.1 then some (j5.2.1,j5.2.2.1,(j5.2.2.2.1.1,()),j5.2.2.2.2.2.1,!(decide (j5.2.2.2.1.1.data=([]:List UInt8))),()) else some (j5.2.1,j5.2.2.1,(j5.2.2.2.1.1,()),j5.2.2.2.2.2.1,false,()) else bif !j5.2.2.2.2.1 then some (j5.2.1,j5.2.2.1,(j5.2.2.2.1.1,()),j5.2.2.2.2.2.1,!(decide (j5.2.2.2.1.1.data=([]:List UInt8))),()) else some (j5.2.1,j5.2.2.1,(j5.2.2.2.1.1,()),j5.2.2.2.2.2.1,false,())).bind λj6=>bif j6.2.2.2.2.1 then rt 4 else (bif decide (1024 < (j6.2.2.1.1.data.length:Int)) then some (j6.1,j6.2.1,(j6.2.2.1.1,()),true,()) else bif j6.2.2.2.1 then some (j6.1,j6.2.1,(j6.2.2.1.1,()),decide ((512#64).toNat < j6.2.2.1.1.number.toNat),()) else some (j6.1,j6.2.1,(j6.2.2.1.1,()),false,())).bind λj7=>bif j7.2.2.2.1 then rt 8 else (bif decide (j7.2.2.1.1.kind=4) then (Zhp j7.2.2.1.1.data).bind λr8=>some (j7.1,j7.2.1,(j7.2.2.1.1,()),!r8.2.1,()) else some (j7.1,j7.2.1,(j7.2.2.1.1,()),false,())).bind λj9=>bif j9.2.2.2.1 then rt 6 else (bif j9.1 then bif !(decide (j9.2.1=([]:List UInt8))) then (Zfs j9.2.2.1.1).bind λr10=>(Zhb j9.2.1 r10.2.1).bind λr11=>some (!r11.2.1,()) else some (false,()) else some (false,())).bind λj12=>bif j12.1 then rt 7 else rt 0
def S_Zfu:FSpec T:=⟨[qb1,qb,qb,qn,qh],[qa],λx=>Zfu x.1 x.2.1 x.2.2.1 x.2.2.2.1 x.2.2.2.2.1⟩
theorem Vv0:SoundT Tryz.prog cd gdn 418 S_Zfu:=
 sndC hmix o116 (lcA [] [(2,[(1,.f (.v (.int .i64))),(2,.f (.v (.int .i64))),(3,.f (.v .bool)),(4,.f (.v .str)),(5,.ptr [(.v (.agg 1))]),(11,.f (.v .bool))],true),(3,[(1,.f (.v (.int .i64))),(2,.f (.v (.int .i64))),(3,.f (.v .bool)),(4,.f (.v .str)),(5,.ptr [(.v (.agg 1))]),(11,.f (.v .bool)),(12,.f (.v .bool))],true),(6,[(2,.f (.v (.int .i64))),(3,.f (.v .bool)),(4,.f (.v .str)),(5,.ptr [(.v (.agg 1))]),(11,.f (.v .bool)),(12,.f (.v .bool)),(32,.f (.v .bool))],true),(10,[(3,.f (.v .bool)),(4,.f (.v .str)),(5,.ptr [(.v (.agg 1))]),(12,.f (.v .bool)),(49,.f (.v .bool))],true),(12,[(3,.f (.v .bool)),(4,.f (.v .str)),(5,.ptr [(.v (.agg 1))]),(80,.f (.v .bool))],true),(14,[(3,.f (.v .bool)),(4,.f (.v .str)),(5,.ptr [(.v (.agg 1))]),(93,.f (.v .bool))],true),(16,[(103,.f (.v .bool))],true)] []) Tryz.func418 Vaa (by kernel_rfl) (by kernel_rfl) λx=>by kernel_rfl
def c117:List (Ct T):=⟨418,none,S_Zfu,true⟩::c116
theorem o117:EnvOk Tryz.prog (mE c117):=eCons Vv0 o116
def Zhd_L0b (k_rec:List Ja->Int->Int->Bool->List UInt8->O2 Int Int) (y0:List Ja) (y1:Int) (y2:Ja×Unit) (y3:Int) (y4:List UInt8) (y5:BitVec 64):Option (List Ja×Int×(Ja×Unit)×Int×List UInt8×BitVec 64×Unit⊕Int×Int×Unit⊕Int×Unit):=
 bif decide (y5.toNat < y2.1.number.toNat) then bif decide (y2.1.kind=5) then (bif decide (y2.1.kind=6) then (k_rec y0 y3 (Qa .i64 (y1+1)) true y4).bind λr3=>bif !(decide (r3.2.2.1=0)) then (some (Qc (Qb (r3.2.1,r3.2.2.1,())))).bind λq=>some (Qc q) else (getI y0 y3).bind λx4=>(Zfs x4).bind λr5=>some (Qb (y0,y1,(y2.1,()),r3.2.1,r5.2.1,y5,())) else some (Qb (y0,y1,(y2.1,()),y3,y4,y5,()))).bind (Qk (λj6=>(k_rec j6.1 j6.2.2.2.1 (Qa .i64 (j6.2.1+1)) false ([]:List UInt8)).bind λr7=>bif !(decide (r7.2.2.1=0)) then some (Qc (Qb (r7.2.1,r7.2.2.1,()))) else some (Qb (j6.1,j6.2.1,(j6.2.2.1.1,()),r7.2.1,j6.2.2.2.2.1,j6.2.2.2.2.2.1+1#64,()))) some) else bif decide (y2.1.kind=6) then (bif decide (y2.1.kind=6) then (k_rec y0 y3 (Qa .i64 (y1+1)) true y4).bind λr8=>bif !(decide (r8.2.2.1=0)) then (some (Qc (Qb (r8.2.1,r8.2.2.1,())))).bind λq=>some (Qc q) else (getI y0 y3).bind λx9=>(Zfs x9).bind λr10=>some (Qb (y0,y1,(y2.1,()),r8.2.1,r10.2.1,y5,())) else some (Qb (y0,y1,(y2.1,()),y3,y4,y5,()))).bind (Qk (λj11=>(k_rec j11.1 j11.2.2.2.1 (Qa .i64 (j11.2.1+1)) false ([]:List UInt8)).bind λr12=>bif !(decide (r12.2.2.1=0)) then some (Qc (Qb (r12.2.1,r12.2.2.1,()))) else some (Qb (j11.1,j11.2.1,(j11.2.2.1.1,()),r12.2.1,j11.2.2.2.2.1,j11.2.2.2.2.2.1+1#64,()))) some) else some (Qc (Qc (y3,()))) else some (Qc (Qc (y3,())))
def Zhd_L0 (k_rec:List Ja->Int->Int->Bool->List UInt8->O2 Int Int) (y:List Ja×Int×(Ja×Unit)×Int×List UInt8×BitVec 64×Unit):Option (Int×Int×Unit⊕Int×Unit):=
 iter (λ(y:List Ja×Int×(Ja×Unit)×Int×List UInt8×BitVec 64×Unit)=>Zhd_L0b k_rec y.1 y.2.1 y.2.2.1 y.2.2.2.1 y.2.2.2.2.1 y.2.2.2.2.2.1) rounds y
def Zhd_R (k_rec:List Ja->Int->Int->Bool->List UInt8->O2 Int Int) (a0:List Ja) (a1 a2:Int) (a3:Bool) (a4:List UInt8):O2 Int Int:=
 bif decide (a0.length<=a1) then ru a1 1 else (getI a0 a1).bind λx1=>(Zfu x1 a1 a2 a3 a4).bind λr2=>bif !(decide (r2.2.1=0)) then ru a1 r2.2.1 else (Zhd_L0 k_rec (a0,a2,(x1,()),Qa .i64 (a1+1),[],0#64,())).bind (Qk (λz13=>ru z13.1 z13.2.1) (λz14=>ru z14.1 0))
abbrev ps_Zhd:List Slot:=[ql,qb,qb,qn,qh]
abbrev rs_Zhd:List Fld:=[qa,qa]
def E_Zhd (k_rec:(List (Ja))->Int->Int->Bool->(List UInt8)->Option ((Unit)×(Int×Int×Unit))):Env T:=⟨tab.find,cd,globs,flc,λf ds=>match f with
  | 259=>some S_Zfs
  | 369=>some ⟨ps_Zhd,rs_Zhd,λx=>k_rec x.1 x.2.1 x.2.2.1 x.2.2.2.1 x.2.2.2.2.1⟩
  | 418=>some S_Zfu
  | _=>none,λf=>match f with
  | 259=>true
  | 369=>true
  | 418=>true
  | _=>false⟩
def A_Zhd (k_rec:(List (Ja))->Int->Int->Bool->(List UInt8)->Option ((Unit)×(Int×Int×Unit))):Loc2 T:=⟨λid=>match id with
  | 0=>some ⟨[(0,.f (.v (.rs 1))),(2,.f (.v (.int .i64))),(12,.ptr [(.v (.agg 1))]),(14,.f (.v (.int .i64))),(15,.f (.v .str)),(16,.f (.v .u64))],[(.ret,[(10,.f (.v (.int .i64))),(11,.f (.v (.int .i64)))]),(.exit 0,[(14,.f (.v (.int .i64)))])],Zhd_L0 k_rec,[]⟩
  | _=>none,λr=>match r with
  | 19=>some ([(0,.f (.v (.rs 1))),(2,.f (.v (.int .i64))),(12,.ptr [(.v (.agg 1))]),(14,.f (.v (.int .i64))),(15,.f (.v .str)),(16,.f (.v .u64))],false)
  | _=>none,λr=>match r with
  | _=>false⟩
theorem Vpk (k_rec:(List (Ja))->Int->Int->Bool->(List UInt8)->Option ((Unit)×(Int×Int×Unit))) (y0:(List (Ja))) (y1:Int) (y2:(Ja×Unit)) (y3:Int) (y4:(List UInt8)) (y5:(BitVec 64)):run (E_Zhd k_rec) (A_Zhd k_rec) (loopAt 0 (Tryz.f369.body.getD .skip)) (layC cd [(0,.f (.v (.rs 1))),(2,.f (.v (.int .i64))),(12,.ptr [(.v (.agg 1))]),(14,.f (.v (.int .i64))),(15,.f (.v .str)),(16,.f (.v .u64))] [] (y0,y1,y2,y3,y4,y5,())) (roundK cd [(0,.f (.v (.rs 1))),(2,.f (.v (.int .i64))),(12,.ptr [(.v (.agg 1))]),(14,.f (.v (.int .i64))),(15,.f (.v .str)),(16,.f (.v .u64))] [] [(.ret,[(10,.f (.v (.int .i64))),(11,.f (.v (.int .i64)))]),(.exit 0,[(14,.f (.v (.int .i64)))])])=Zhd_L0b k_rec y0 y1 y2 y3 y4 y5:=by kernel_rfl
theorem Vxh (k_rec:(List (Ja))->Int->Int->Bool->(List UInt8)->Option ((Unit)×(Int×Int×Unit))) (x:tySs T ps_Zhd):run (E_Zhd k_rec) (A_Zhd k_rec) (Tryz.f369.body.getD .skip) (enterT (E_Zhd k_rec).C ps_Zhd x) (retK (E_Zhd k_rec) Tryz.f369.results.toList ps_Zhd rs_Zhd)=Zhd_R k_rec x.1 x.2.1 x.2.2.1 x.2.2.2.1 x.2.2.2.2.1:=by kernel_rfl
def Zhd_n:Nat->(List (Ja))->Int->Int->Bool->(List UInt8)->Option ((Unit)×(Int×Int×Unit))
 | 0=>λ_ _ _ _ _=>none
 | n+1=>Zhd_R (Zhd_n n)
def Zhd (a0:(List (Ja))) (a1:Int) (a2:Int) (a3:Bool) (a4:(List UInt8)):=Zhd_n 12 a0 a1 a2 a3 a4
def S_Zhd:FSpec T:=⟨ps_Zhd,rs_Zhd,λx=>Zhd x.1 x.2.1 x.2.2.1 x.2.2.2.1 x.2.2.2.2.1⟩
theorem Vpl (k_rec:(List (Ja))->Int->Int->Bool->(List UInt8)->Option ((Unit)×(Int×Int×Unit))) (hk:SoundT Tryz.prog cd gdn 369 ⟨ps_Zhd,rs_Zhd,λx=>k_rec x.1 x.2.1 x.2.2.1 x.2.2.2.1 x.2.2.2.2.1⟩):EnvOk Tryz.prog (E_Zhd k_rec):=envOk (E:=(E_Zhd k_rec)) cd_ok tys fl_ok λf ds S h=>by
  dsimp only [E_Zhd] at h
  split at h
  ·cases h; exact Vpg
  ·cases h; exact hk
  ·cases h; exact Vv0
  ·cases h
theorem Vpm (k_rec:(List (Ja))->Int->Int->Bool->(List UInt8)->Option ((Unit)×(Int×Int×Unit))) (hk:SoundT Tryz.prog cd gdn 369 ⟨ps_Zhd,rs_Zhd,λx=>k_rec x.1 x.2.1 x.2.2.1 x.2.2.2.1 x.2.2.2.2.1⟩):LoopOk Tryz.prog (E_Zhd k_rec) Tryz.f369.ntmps (kqOf ps_Zhd 0) (loopAt 0 (Tryz.f369.body.getD .skip)) ⟨[(0,.f (.v (.rs 1))),(2,.f (.v (.int .i64))),(12,.ptr [(.v (.agg 1))]),(14,.f (.v (.int .i64))),(15,.f (.v .str)),(16,.f (.v .u64))],[(.ret,[(10,.f (.v (.int .i64))),(11,.f (.v (.int .i64)))]),(.exit 0,[(14,.f (.v (.int .i64)))])],Zhd_L0 k_rec,[]⟩:=
 Vdr (A:=(A_Zhd k_rec)) (done:=[]) (c0:=(Tryz.f369.body.getD .skip)) hmix (Vpl k_rec hk) Vaa rounds (by kernel_rfl) (by kernel_rfl) (λx=>Vpk k_rec x.1 x.2.1 x.2.2.1 x.2.2.2.1 x.2.2.2.2.1 x.2.2.2.2.2.1) (λ_=>rfl)
theorem Vk2:∀ n:Nat,SoundT Tryz.prog cd gdn 369 ⟨ps_Zhd,rs_Zhd,λx=>Zhd_n n x.1 x.2.1 x.2.2.1 x.2.2.2.1 x.2.2.2.2.1⟩
 | 0=>Ve9 ⟨_,Tryz.func369,by kernel_rfl,by kernel_rfl⟩
 | n+1=>Vbe (E:=E_Zhd (Zhd_n n)) (A:=A_Zhd (Zhd_n n)) (done:=[0]) (c:=(Tryz.f369.body.getD .skip)) (S:=⟨ps_Zhd,rs_Zhd,λx=>Zhd_n (n+1) x.1 x.2.1 x.2.2.1 x.2.2.2.1 x.2.2.2.2.1⟩) (fn:=Tryz.f369) hmix (Vpl _ (Vk2 n)) Tryz.func369 rfl (by kernel_rfl) (by kernel_rfl) (Vab rfl (Vpm _ (Vk2 n)) Vaa) (by kernel_rfl) (by kernel_rfl) (Vxh (Zhd_n n))
theorem Vy7:SoundT Tryz.prog cd gdn 369 S_Zhd:=Vk2 12
def c118:List (Ct T):=⟨369,none,S_Zhd,true⟩::c117
theorem o118:EnvOk Tryz.prog (mE c118):=eCons Vy7 o117
def Zcn (a0:List Ja):O1 Int:=
 (Zhd a0 0 0 false []).bind λr1=>bif !(decide (r1.2.2.1=0)) then rt r1.2.2.1 else bif decide (r1.2.1 < a0.length) then rt 2 else rt 0
def c119:=ct c118 260 [ql] [qa] (u1 Zcn)
theorem o119:EO c119:=sz o118 Tryz.func260
def Zgz_L0b (y0:List Ja) (y1:Int) (y2:BitVec 64):Option (((List (Ja)) × Int × (BitVec 64) × Unit)⊕((Int × Bool × Unit) ⊕ (Int × Unit))):=
 bif decide ((0#64).toNat < y2.toNat) then bif decide (y0.length<=y1) then some (Qc (Qb (0,false,()))) else (getI y0 y1).bind λx1=>bif decide (x1.kind=5) then bif decide ((512#64).toNat < x1.number.toNat) then some (Qc (Qb (0,false,()))) else (bif decide (x1.kind=5) then some (y0,y1,y2 - 1#64+x1.number,(x1,()),()) else some (y0,y1,y2 - 1#64,(x1,()),())).bind λj2=>bif decide (j2.2.2.2.1.1.kind=6) then some (Qb (j2.1,Qa .i64 (j2.2.1+1),j2.2.2.1+2#64*j2.2.2.2.1.1.number,())) else some (Qb (j2.1,Qa .i64 (j2.2.1+1),j2.2.2.1,())) else bif decide (x1.kind=6) then bif decide ((512#64).toNat < x1.number.toNat) then some (Qc (Qb (0,false,()))) else (bif decide (x1.kind=5) then some (y0,y1,y2 - 1#64+x1.number,(x1,()),()) else some (y0,y1,y2 - 1#64,(x1,()),())).bind λj3=>bif decide (j3.2.2.2.1.1.kind=6) then some (Qb (j3.1,Qa .i64 (j3.2.1+1),j3.2.2.1+2#64*j3.2.2.2.1.1.number,())) else some (Qb (j3.1,Qa .i64 (j3.2.1+1),j3.2.2.1,())) else (bif decide (x1.kind=5) then some (y0,y1,y2 - 1#64+x1.number,(x1,()),()) else some (y0,y1,y2 - 1#64,(x1,()),())).bind λj4=>bif decide (j4.2.2.2.1.1.kind=6) then some (Qb (j4.1,Qa .i64 (j4.2.1+1),j4.2.2.1+2#64*j4.2.2.2.1.1.number,())) else some (Qb (j4.1,Qa .i64 (j4.2.1+1),j4.2.2.1,())) else some (Qc (Qc (y1,())))
def Zgz_L0:=Yi3 Zgz_L0b
def Zgz (a0:List Ja) (a1:Int):O2 Int Bool:=
 bif decide (a1 < 0) then ru 0 false else bif decide (a0.length<=a1) then ru 0 false else (Zgz_L0 (a0,a1,1#64,())).bind (Qk (λz5=>ru z5.1 z5.2.1) (λz6=>ru z6.1 true))
def c120:=ct c119 261 [ql,qb] [qa,qd] (u2 Zgz)
def s_Zgz_L0:LSpec T:=⟨[(0,ql),(1,qb),(6,qf)],[(.ret,[(4,qb),(5,qn)]),(.exit 0,[(1,qb)])],Zgz_L0,[]⟩
def A_Zgz:Loc2 T:=lcA [(0,s_Zgz_L0)] [(14,[(0,ql),(1,qb),(6,qf),(7,qa5)],true)] []
theorem Vpn:LO c120 Tryz.f261 0 s_Zgz_L0:=lx o119 A_Zgz dn (λ_=>rfl)
theorem o120:EO c120:=sx o119 A_Zgz Tryz.func261 (dc rfl Vpn dn)
def Zej_L0b (y0:List Ja) (y1:BitVec 64) (y2:Int) (y3:BitVec 64):Option (((List (Ja)) × (BitVec 64) × Int × (BitVec 64) × Unit)⊕(((List (Ja)) × Bool × Unit) ⊕ (Unit))):=
 (getI y0 (0:Int)).bind λx3=>bif decide (y3.toNat < x3.number.toNat) then (Zgz y0 y2).bind λr4=>(Zgz y0 r4.2.1).bind λr5=>(getI y0 y2).bind λx6=>bif decide (x6.kind=1) then (getI y0 y2).bind λx7=>bif decide (x7.number=y1) then bif decide (0<=r5.2.1)&&decide (r5.2.1<=y0.length) then bif decide (0<=r4.2.1)&&decide (r4.2.1<=r5.2.1.toNat) then let v8:=Qm r4.2.1.toNat (Qi r5.2.1.toNat y0);bif small v8.length 32 then some (Qc (Qb (v8,true,()))) else none else none else none else some (Qb (y0,y1,r5.2.1,y3+1#64,())) else some (Qb (y0,y1,r5.2.1,y3+1#64,())) else some (Qc (Qc ()))
def Zej_L0:=Yi4 Zej_L0b
def Zej (a0:List Ja) (a1:BitVec 64):O2 (List Ja) Bool:=
 (Zcn a0).bind λr1=>bif !(decide (r1.2.1=0)) then ru [] false else (getI a0 (0:Int)).bind λx2=>bif !(decide (x2.kind=6)) then ru [] false else (Zej_L0 (a0,a1,1,0#64,())).bind (Qk (λz9=>ru z9.1 z9.2.1) (λz10=>ru [] false))
def c121:=cf c120 167 [ql,qf] [qw,qd] (u2 Zej)
def s_Zej_L0:LSpec T:=⟨[(0,ql),(1,qf),(6,qb),(7,qf)],[(.ret,[(4,qbh),(5,qn)]),(.exit 0,[])],Zej_L0,[]⟩
def A_Zej:Loc2 T:=lcA [(0,s_Zej_L0)] [] []
theorem Vpo:LO c121 Tryz.f167 0 s_Zej_L0:=lx o120 A_Zej dn (λ_=>rfl)
theorem o121:EO c121:=sx o120 A_Zej Tryz.func167 (dc rfl Vpo dn)
def Zdb_L0b (y0:List Ja) (y1:List (List UInt8)) (y2:Int):Option (((List (Ja)) × (List (List UInt8)) × Int × Unit)⊕((List (List UInt8)) × Unit)):=
 bif decide (y2 < y0.length) then bif decide (0<=y2)&&decide (y2 < y0.length) then y0[y2.toNat]?.bind λx2=>bif small (y1.length+([x2.data]).length) 24 then some (Qb (y0,y1++[x2.data],Qa .i64 (y2+1),())) else none else none else some (Qc (y1,()))
def Zdb_L0:=Yi3 Zdb_L0b
def Zdb (a0:List Ja) (a1:Int):O1 (List (List UInt8)):=
 (Zej a0 (Qd 64 a1)).bind λr1=>(Zdb_L0 (r1.2.1,[],1,())).bind λz3=>rt z3.1
def c122:=cf c121 92 [ql,qb] [qbg] (u2 Zdb)
def s_Zdb_L0:LSpec T:=⟨[(5,qbh),(7,(.f qbg)),(8,qb)],[(.exit 0,[(7,(.f qbg))])],Zdb_L0,[]⟩
def A_Zdb:Loc2 T:=lcA [(0,s_Zdb_L0)] [] []
theorem Vpp:LO c122 Tryz.f92 0 s_Zdb_L0:=lx o121 A_Zdb dn (λ_=>rfl)
theorem o122:EO c122:=sx o121 A_Zdb Tryz.func92 (dc rfl Vpp dn)
def Zgs (a0:List Ja) (a1:Int):Option (Unit×BitVec 64×List UInt8×Bool×Unit):=
 (Zej a0 (Qd 64 a1)).bind λr1=>bif !r1.2.2.1 then some ((),0#64,[],false,()) else bif decide (0 < (r1.2.1.length:Int)) then r1.2.1[0]?.bind λx2=>bif decide (0 < (r1.2.1.length:Int)) then r1.2.1[0]?.bind λx3=>some ((),x2.number,x3.data,true,()) else none else none
def c123:=ct c122 93 [ql,qb] [qt,qaf,qd] (u2 Zgs)
theorem o123:EO c123:=sz o122 Tryz.func93
def Zeb (a0:BitVec 64):O1 Int:=
 let v1:BitVec 64:=bif decide ((1048576#64).toNat < a0.toNat) then 1048576#64 else a0;rt (Qa .i64 (v1.toNat:Int))
def c124:=ct c123 94 [qf] [qa] (u1 Zeb)
theorem o124:EO c124:=sz o123 Tryz.func94
def Zif_L0b (y0:Int) (y1:List Int) (y2:Int):Option ((Int × (List (Int)) × Int × Unit)⊕((Bool × Unit) ⊕ (Unit))):=
 bif decide (y2 < y1.length) then (getI y1 y2).bind λx1=>bif decide (x1=y0) then some (Qc (Qb (true,()))) else some (Qb (y0,y1,Qa .i64 (y2+1),())) else some (Qc (Qc ()))
def Zif_L0:=Yi3 Zif_L0b
def Zif (a0:Int) (a1:List Int):O1 Bool:=
 (Zif_L0 (a0,a1,0,())).bind (Qk (λz2=>rt z2.1) (λz3=>rt false))
def S_Zif:FSpec T:=⟨[qb,qbx],[qd],λx=>Zif x.1 x.2.1⟩
def s_Zif_L0:LSpec T:=⟨[(0,qb),(1,qbx),(5,qb)],[(.ret,[(4,qn)]),(.exit 0,[])],Zif_L0,[]⟩
def A_Zif:Loc2 T:=lcA [(0,s_Zif_L0)] [] []
theorem Vpq:LoopOk Tryz.prog (mE c124) Tryz.f370.ntmps (kqOf S_Zif.ps 0) (loopAt 0 (bodyOf Tryz.f370)) s_Zif_L0:=
 lpC hmix o124 A_Zif Vaa 0 (st:=λy=>Zif_L0b y.1 y.2.1 y.2.2.1) (λ_=>rfl) (by kernel_rfl) (by kernel_rfl) λx=>by kernel_rfl
theorem Vv1:SoundT Tryz.prog cd gdn 370 S_Zif:=
 sndC hmix o124 A_Zif Tryz.func370 (Vab rfl Vpq Vaa) (by kernel_rfl) (by kernel_rfl) λx=>by kernel_rfl
def c125:List (Ct T):=⟨370,none,S_Zif,true⟩::c124
theorem o125:EnvOk Tryz.prog (mE c125):=eCons Vv1 o124
def ZfmG (k_Zif:Int->List Int->O1 Bool) (a0:Int):O1 Jak:=
 let v1:List Int:=[2,3,11,12,13,14];(k_Zif a0 v1).bind λr2=>(k_Zif a0 ([2,3]:List Int)).bind λr3=>bif r3.2.1 then let v4:List Int:=[7,8,9,13,14];(k_Zif a0 v4).bind λr5=>(k_Zif a0 ([7,8,14]:List Int)).bind λr6=>(k_Zif a0 ([8,9]:List Int)).bind λr7=>(k_Zif a0 ([12,13]:List Int)).bind λr8=>rt ⟨false,true,decide (a0=2),decide (a0=2),r3.2.1,decide (a0=2),decide (a0=2),r3.2.1,decide (a0=2),decide (a0=3),r3.2.1,decide (a0=2),decide (a0=2),r2.2.1,r5.2.1,r6.2.1,r7.2.1,decide (a0=9),r8.2.1,decide (a0=13)⟩ else let v9:List Int:=[7,8,9,13,14];(k_Zif a0 v9).bind λr10=>(k_Zif a0 ([7,8,14]:List Int)).bind λr11=>(k_Zif a0 ([8,9]:List Int)).bind λr12=>(k_Zif a0 ([12,13]:List Int)).bind λr13=>rt ⟨false,decide (a0=9),decide (a0=2),decide (a0=2),r3.2.1,decide (a0=2),decide (a0=2),r3.2.1,decide (a0=2),decide (a0=3),r3.2.1,decide (a0=2),decide (a0=2),r2.2.1,r10.2.1,r11.2.1,r12.2.1,decide (a0=9),r13.2.1,decide (a0=13)⟩
def Zfm (a0:Int):O1 Jak:=
 ZfmG Zif a0
def S_Zfm:FSpec T:=⟨[qb],[(.v (.agg 30))],λx=>Zfm x.1⟩
def EG_Zfm (k_Zif:Int->(List (Int))->Option ((Unit)×(Bool×Unit))):Env T:=⟨tab.find,cd,globs,flc,λf ds=>match f with
  | 370=>some ⟨S_Zif.ps,S_Zif.rs,λx=>k_Zif x.1 x.2.1⟩
  | _=>none,λf=>match f with
  | 370=>true
  | _=>false⟩
def E_Zfm:Env T:=⟨tab.find,cd,globs,flc,λf ds=>match f with
  | 370=>some S_Zif
  | _=>none,λf=>match f with
  | 370=>true
  | _=>false⟩
def A_Zfm:Loc2 T:=⟨λid=>match id with
  | _=>none,λr=>match r with
  | _=>none,λr=>match r with
  | _=>false⟩
def AG_Zfm (k_Zif:Int->(List (Int))->Option ((Unit)×(Bool×Unit))):Loc2 T:=⟨λid=>match id with
  | _=>none,λr=>match r with
  | _=>none,λr=>match r with
  | _=>false⟩
theorem Vxi (k_Zif:Int->(List (Int))->Option ((Unit)×(Bool×Unit))) (x:tySs T S_Zfm.ps):run (EG_Zfm k_Zif) (AG_Zfm k_Zif) (Tryz.f262.body.getD .skip) (enterT (EG_Zfm k_Zif).C S_Zfm.ps x) (retK (EG_Zfm k_Zif) Tryz.f262.results.toList S_Zfm.ps S_Zfm.rs)=ZfmG k_Zif x.1:=by kernel_rfl
theorem Vy8 (x:tySs T S_Zfm.ps):run E_Zfm A_Zfm (Tryz.f262.body.getD .skip) (enterT E_Zfm.C S_Zfm.ps x) (retK E_Zfm Tryz.f262.results.toList S_Zfm.ps S_Zfm.rs)=S_Zfm.fn x:=Vxi Zif x
theorem Vxj:EnvOk Tryz.prog E_Zfm:=envOk (E:=E_Zfm) cd_ok tys fl_ok λf ds S h=>by
  dsimp only [E_Zfm] at h
  split at h
  ·cases h; exact Vv1
  ·cases h
theorem Vy9:SoundT Tryz.prog cd gdn 262 S_Zfm:=
 Vbe (E:=E_Zfm) (A:=A_Zfm) (done:=[]) (c:=(Tryz.f262.body.getD .skip)) (S:=S_Zfm) (fn:=Tryz.f262) hmix Vxj Tryz.func262 rfl (by kernel_rfl) (by kernel_rfl) Vaa (by kernel_rfl) (by kernel_rfl) Vy8
def c126:List (Ct T):=⟨262,none,S_Zfm,true⟩::c125
theorem o126:EnvOk Tryz.prog (mE c126):=eCons Vy9 o125
def Zde (a0:BitVec 64):O1 Ja:=
 rt ⟨1,a0,[]⟩
def c127:=ct c126 263 [qf] [qv] (u1 Zde)
theorem o127:EO c127:=sz o126 Tryz.func263
def Zfl (a0:List UInt8):O1 Ja:=
 rt ⟨4,0#64,a0⟩
def c128:=ct c127 264 [qh] [qv] (u1 Zfl)
theorem o128:EO c128:=sz o127 Tryz.func264
def Zfj (a0:List UInt8):O1 Ja:=
 rt ⟨3,0#64,a0⟩
def c129:=ct c128 265 [qh] [qv] (u1 Zfj)
theorem o129:EO c129:=sz o128 Tryz.func265
def Zcl (a0:Bool):O1 Ja:=
 bif a0 then rt ⟨7,1#64,[]⟩ else rt {kind:=7}
def c130:=ct c129 266 [qn] [qv] (u1 Zcl)
theorem o130:EO c130:=sz o129 Tryz.func266
end Go.Proofs.YtnnohacnlkdlgaaGreatDoor
