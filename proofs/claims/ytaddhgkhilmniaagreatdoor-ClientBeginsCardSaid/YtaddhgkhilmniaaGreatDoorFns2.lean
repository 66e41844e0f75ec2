/- The functions of the program, as plain functions, and that the program computes them. Written by a program. -/
import Derived.Test.YtaddhgkhilmniaaGreatDoorFns1
import Derived.Test.YtaddhgkhilmniaaGreatDoorClG
set_option linter.unusedVariables false
set_option maxRecDepth 100000
namespace Go.Proofs.YtaddhgkhilmniaaGreatDoor
open Go Go.Abs
open Go.IntKind renaming wrap → Qa, bits → Qg
open _root_.Sum renaming inl → Qb, inr → Qc, elim → Qk
open _root_.BitVec renaming ofInt → Qd, setWidth → Qh
open _root_.UInt8 renaming ofBitVec → Qf
open _root_.List renaming take → Qi, set → Ql, drop → Qm, replicate → Qo
open _root_.Nat renaming ble → Qj
open _root_.Int renaming fdiv → Qn
def c24:List (Ct T):=⟨166,none,S_passkeyref7_NewFlashF,false⟩::c23
theorem o24:EnvOk Tryz.prog (mE c24):=eCons Vcw o23
def c25:List (Ct T):=⟨435,none,S_passkeyref7_changeF,false⟩::c24
theorem o25:EnvOk Tryz.prog (mE c25):=eCons Vdg o24
def c26:List (Ct T):=⟨258,none,S_passkeyref7_MountF,false⟩::c25
theorem o26:EnvOk Tryz.prog (mE c26):=eCons Vdm o25
def Zjd_L0b (y0:List UInt8) (y1 y2:Int):Option (((List UInt8) × Int × Int × Unit)⊕((Bool × Unit) ⊕ (Unit))):=
 bif decide (y2 < y1) then (getI y0 y2).bind λx1=>bif decide ((97:UInt8).toBitVec.toNat<=x1.toBitVec.toNat) then bif decide (x1.toBitVec.toNat<=(122:UInt8).toBitVec.toNat) then bif decide (x1.toBitVec=(45:UInt8).toBitVec) then bif decide (0 < y2) then some (Qb (y0,y1,Qa .i64 (y2+1),())) else some (Qb (y0,y1,Qa .i64 (y2+1),())) else some (Qb (y0,y1,Qa .i64 (y2+1),())) else bif decide ((48:UInt8).toBitVec.toNat<=x1.toBitVec.toNat) then bif decide (x1.toBitVec=(45:UInt8).toBitVec) then bif decide (0 < y2) then bif !(decide (x1.toBitVec.toNat<=(57:UInt8).toBitVec.toNat)) then bif !(decide (y2 < Qa .i64 ((y0.length:Int) - 1))) then some (Qc (Qb (false,()))) else some (Qb (y0,y1,Qa .i64 (y2+1),())) else some (Qb (y0,y1,Qa .i64 (y2+1),())) else bif !(decide (x1.toBitVec.toNat<=(57:UInt8).toBitVec.toNat)) then some (Qc (Qb (false,()))) else some (Qb (y0,y1,Qa .i64 (y2+1),())) else bif !(decide (x1.toBitVec.toNat<=(57:UInt8).toBitVec.toNat)) then some (Qc (Qb (false,()))) else some (Qb (y0,y1,Qa .i64 (y2+1),())) else bif decide (x1.toBitVec=(45:UInt8).toBitVec) then bif decide (0 < y2) then bif !(decide (y2 < Qa .i64 ((y0.length:Int) - 1))) then some (Qc (Qb (false,()))) else some (Qb (y0,y1,Qa .i64 (y2+1),())) else some (Qc (Qb (false,()))) else some (Qc (Qb (false,()))) else bif decide ((48:UInt8).toBitVec.toNat<=x1.toBitVec.toNat) then bif decide (x1.toBitVec=(45:UInt8).toBitVec) then bif decide (0 < y2) then bif !(decide (x1.toBitVec.toNat<=(57:UInt8).toBitVec.toNat)) then bif !(decide (y2 < Qa .i64 ((y0.length:Int) - 1))) then some (Qc (Qb (false,()))) else some (Qb (y0,y1,Qa .i64 (y2+1),())) else some (Qb (y0,y1,Qa .i64 (y2+1),())) else bif !(decide (x1.toBitVec.toNat<=(57:UInt8).toBitVec.toNat)) then some (Qc (Qb (false,()))) else some (Qb (y0,y1,Qa .i64 (y2+1),())) else bif !(decide (x1.toBitVec.toNat<=(57:UInt8).toBitVec.toNat)) then some (Qc (Qb (false,()))) else some (Qb (y0,y1,Qa .i64 (y2+1),())) else bif decide (x1.toBitVec=(45:UInt8).toBitVec) then bif decide (0 < y2) then bif !(decide (y2 < Qa .i64 ((y0.length:Int) - 1))) then some (Qc (Qb (false,()))) else some (Qb (y0,y1,Qa .i64 (y2+1),())) else some (Qc (Qb (false,()))) else some (Qc (Qb (false,()))) else some (Qc (Qc ()))
def Zjd_L0:=Yi3 Zjd_L0b
def Zjd (a0:List UInt8):O1 Bool:=
 bif decide ((a0.length:Int) < 1) then rt false else bif decide (63 < (a0.length:Int)) then rt false else (Zjd_L0 (a0,(a0.length:Int),(0:Int),())).bind (Qk (λz2=>rt z2.1) (λz3=>rt true))
def S_Zjd:FSpec T:=⟨[qg],[qd],λx=>Zjd x.1⟩
def s_Zjd_L0:LSpec T:=⟨[(0,qg),(16,qb),(17,qb)],[(.ret,[(2,qm)]),(.exit 0,[])],Zjd_L0,[]⟩
def A_Zjd:Loc2 T:=lcA [(0,s_Zjd_L0)] [] []
theorem Vqy:LoopOk Tryz.prog (mE c26) Tryz.f55.ntmps (kqOf S_Zjd.ps 0) (loopAt 0 (bodyOf Tryz.f55)) s_Zjd_L0:=
 lpC hmix o26 A_Zjd Vaa 0 (st:=λy=>Zjd_L0b y.1 y.2.1 y.2.2.1) (λ_=>rfl) (by kernel_rfl) (by kernel_rfl) λx=>by kernel_rfl
theorem Vx7:SoundT Tryz.prog cd gdn 55 S_Zjd:=
 sndC hmix o26 A_Zjd Tryz.func55 (Vah rfl Vqy Vaa) (by kernel_rfl) (by kernel_rfl) λx=>by kernel_rfl
def c27:List (Ct T):=⟨55,none,S_Zjd,true⟩::c26
theorem o27:EnvOk Tryz.prog (mE c27):=eCons Vx7 o26
def c28:List (Ct T):=⟨113,none,S_Zkn,false⟩::c27
theorem o28:EnvOk Tryz.prog (mE c28):=eCons Vql o27
def c29:List (Ct T):=⟨114,none,S_Zld,true⟩::c28
theorem o29:EnvOk Tryz.prog (mE c29):=eCons Vxz o28
def Zke_L0b (y0 y1:List (List UInt8)) (y2 y3:Int):Option (((List (List UInt8)) × (List (List UInt8)) × Int × Int × Unit)⊕((Int × Unit) ⊕ ((List (List UInt8)) × Unit))):=
 bif decide (y3 < y2) then (getI y1 y3).bind λx2=>(Zjd x2).bind λr3=>bif !r3.2.1 then some (Qc (Qb (2,()))) else some (Qb (y0,y1,y2,Qa .i64 (y3+1),())) else some (Qc (Qc (y0,())))
def Zke_L0:=Yi4 Zke_L0b
def Zke (a0:List UInt8):O1 Int:=
 bif decide (100 < (a0.length:Int)) then rt 8 else (Zkn a0 ([46]:List UInt8)).bind λr1=>(Zke_L0 (r1.2.1,r1.2.1,(r1.2.1.length:Int),(0:Int),())).bind (Qk (λz4=>rt z4.1) (λz5=>(getI z5.1 (Qa .i64 ((z5.1.length:Int) - 1))).bind λx6=>(Zld x6 ([48,49,50,51,52,53,54,55,56,57]:List UInt8)).bind λr7=>bif decide (r7.2.1=([]:List UInt8)) then rt 2 else rt 0))
def S_Zke:FSpec T:=⟨[qg],[qa],λx=>Zke x.1⟩
def E_Zke:Env T:=⟨tab.find,cd,globs,flc,λf ds=>match f with
  | 55=>some S_Zjd
  | 113=>some S_Zkn
  | 114=>some S_Zld
  | _=>none,λf=>match f with
  | 55=>true
  | 114=>true
  | _=>false⟩
def A_Zke:Loc2 T:=⟨λid=>match id with
  | 0=>some ⟨[(3,.f (.v (.rs 2))),(11,.f (.v (.rs 2))),(12,.f (.v (.int .i64))),(13,.f (.v (.int .i64)))],[(.ret,[(2,.f (.v (.int .i64)))]),(.exit 0,[(3,.f (.v (.rs 2)))])],Zke_L0,[]⟩
  | _=>none,λr=>match r with
  | _=>none,λr=>match r with
  | _=>false⟩
theorem Vqz (y0:(List (List UInt8))) (y1:(List (List UInt8))) (y2:Int) (y3:Int):run E_Zke A_Zke (loopAt 0 (Tryz.f57.body.getD .skip)) (layC cd [(3,.f (.v (.rs 2))),(11,.f (.v (.rs 2))),(12,.f (.v (.int .i64))),(13,.f (.v (.int .i64)))] [] (y0,y1,y2,y3,())) (roundK cd [(3,.f (.v (.rs 2))),(11,.f (.v (.rs 2))),(12,.f (.v (.int .i64))),(13,.f (.v (.int .i64)))] [] [(.ret,[(2,.f (.v (.int .i64)))]),(.exit 0,[(3,.f (.v (.rs 2)))])])=Zke_L0b y0 y1 y2 y3:=by kernel_rfl
theorem Vbza (x:tySs T S_Zke.ps):run E_Zke A_Zke (Tryz.f57.body.getD .skip) (enterT E_Zke.C S_Zke.ps x) (retK E_Zke Tryz.f57.results.toList S_Zke.ps S_Zke.rs)=S_Zke.fn x:=by kernel_rfl
theorem Vq0:EnvOk Tryz.prog E_Zke:=envOk (E:=E_Zke) cd_ok tys fl_ok λf ds S h=>by
  dsimp only [E_Zke] at h;split at h
  ·cases h; exact Vx7
  ·cases h; exact Vql
  ·cases h; exact Vxz
  ·cases h
theorem Vq1:LoopOk Tryz.prog E_Zke Tryz.f57.ntmps (kqOf S_Zke.ps 0) (loopAt 0 (Tryz.f57.body.getD .skip)) ⟨[(3,.f (.v (.rs 2))),(11,.f (.v (.rs 2))),(12,.f (.v (.int .i64))),(13,.f (.v (.int .i64)))],[(.ret,[(2,.f (.v (.int .i64)))]),(.exit 0,[(3,.f (.v (.rs 2)))])],Zke_L0,[]⟩:=
 Vd5 (A:=A_Zke) (done:=[]) (c0:=(Tryz.f57.body.getD .skip)) hmix Vq0 Vaa rounds (by kernel_rfl) (by kernel_rfl) (λx=>Vqz x.1 x.2.1 x.2.2.1 x.2.2.2.1) (λ_=>rfl)
theorem Vx8:SoundT Tryz.prog cd gdn 57 S_Zke:=
 Vbi (E:=E_Zke) (A:=A_Zke) (done:=[0]) (c:=(Tryz.f57.body.getD .skip)) (S:=S_Zke) (fn:=Tryz.f57) hmix Vq0 Tryz.func57 rfl (by kernel_rfl) (by kernel_rfl) (Vah rfl Vq1 Vaa) (by kernel_rfl) (by kernel_rfl) Vbza
def c30:List (Ct T):=⟨57,none,S_Zke,true⟩::c29
theorem o30:EnvOk Tryz.prog (mE c30):=eCons Vx8 o29
def c31:List (Ct T):=⟨56,none,S_Zlc,true⟩::c30
theorem o31:EnvOk Tryz.prog (mE c31):=eCons Vbua o30
def Zjc_L0b (y0:Jc×Unit) (y1:List (List UInt8)) (y2 y3:Int):Option (((Jc × Unit) × (List (List UInt8)) × Int × Int × Unit)⊕(((List UInt8) × Int × Unit) ⊕ ((Jc × Unit) × Unit))):=
 bif decide (y3 < y2) then (getI y1 y3).bind λx1=>(Zjd x1).bind λr2=>bif !r2.2.1 then some (Qc (Qb ([],4,()))) else some (Qb ((y0.1,()),y1,y2,Qa .i64 (y3+1),())) else some (Qc (Qc ((y0.1,()),())))
def Zjc_L0:=Yi4 Zjc_L0b
def Zjc (a0:Jc):O2 (List UInt8) Int:=
 bif decide (100 < (a0.jd.length:Int)) then ru [] 4 else bif a0.jaj then bif a0.jv then ru [] 4 else bif a0.jv then bif decide ((a0.jd.length:Int) < 2) then ru [] 4 else (Zjc_L0 ((a0,()),a0.jd,(a0.jd.length:Int),(0:Int),())).bind (Qk (λz3=>ru z3.1 z3.2.1) (λz4=>(Zlc z4.1.1.jd ([46]:List UInt8)).bind λr5=>(Zke r5.2.1).bind λr6=>bif !(decide (r6.2.1=0)) then ru [] 4 else bif z4.1.1.jaj then bif Qj (([42,46]:List UInt8).length+r5.2.1.length) 9223372036854775807 then ru (([42,46]:List UInt8)++r5.2.1) 0 else none else bif z4.1.1.jv then bif Qj (([33]:List UInt8).length+r5.2.1.length) 9223372036854775807 then ru (([33]:List UInt8)++r5.2.1) 0 else none else ru r5.2.1 0)) else (Zjc_L0 ((a0,()),a0.jd,(a0.jd.length:Int),(0:Int),())).bind (Qk (λz7=>ru z7.1 z7.2.1) (λz8=>(Zlc z8.1.1.jd ([46]:List UInt8)).bind λr9=>(Zke r9.2.1).bind λr10=>bif !(decide (r10.2.1=0)) then ru [] 4 else bif z8.1.1.jaj then bif Qj (([42,46]:List UInt8).length+r9.2.1.length) 9223372036854775807 then ru (([42,46]:List UInt8)++r9.2.1) 0 else none else bif z8.1.1.jv then bif Qj (([33]:List UInt8).length+r9.2.1.length) 9223372036854775807 then ru (([33]:List UInt8)++r9.2.1) 0 else none else ru r9.2.1 0)) else bif a0.jv then bif decide ((a0.jd.length:Int) < 2) then ru [] 4 else (Zjc_L0 ((a0,()),a0.jd,(a0.jd.length:Int),(0:Int),())).bind (Qk (λz11=>ru z11.1 z11.2.1) (λz12=>(Zlc z12.1.1.jd ([46]:List UInt8)).bind λr13=>(Zke r13.2.1).bind λr14=>bif !(decide (r14.2.1=0)) then ru [] 4 else bif z12.1.1.jaj then bif Qj (([42,46]:List UInt8).length+r13.2.1.length) 9223372036854775807 then ru (([42,46]:List UInt8)++r13.2.1) 0 else none else bif z12.1.1.jv then bif Qj (([33]:List UInt8).length+r13.2.1.length) 9223372036854775807 then ru (([33]:List UInt8)++r13.2.1) 0 else none else ru r13.2.1 0)) else (Zjc_L0 ((a0,()),a0.jd,(a0.jd.length:Int),(0:Int),())).bind (Qk (λz15=>ru z15.1 z15.2.1) (λz16=>(Zlc z16.1.1.jd ([46]:List UInt8)).bind λr17=>(Zke r17.2.1).bind λr18=>bif !(decide (r18.2.1=0)) then ru [] 4 else bif z16.1.1.jaj then bif Qj (([42,46]:List UInt8).length+r17.2.1.length) 9223372036854775807 then ru (([42,46]:List UInt8)++r17.2.1) 0 else none else bif z16.1.1.jv then bif Qj (([33]:List UInt8).length+r17.2.1.length) 9223372036854775807 then ru (([33]:List UInt8)++r17.2.1) 0 else none else ru r17.2.1 0))
def S_Zjc:FSpec T:=⟨[(.f qaz)],[qs,qa],λx=>Zjc x.1⟩
def s_Zjc_L0:LSpec T:=⟨[(1,qb6),(30,qy),(31,qb),(32,qb)],[(.ret,[(2,qg),(3,qb)]),(.exit 0,[(1,qb6)])],Zjc_L0,[]⟩
def A_Zjc:Loc2 T:=lcA [(0,s_Zjc_L0)] [] []
theorem Vq2:LoopOk Tryz.prog (mE c31) Tryz.f23.ntmps (kqOf S_Zjc.ps 0) (loopAt 0 (bodyOf Tryz.f23)) s_Zjc_L0:=
 lpC hmix o31 A_Zjc Vaa 0 (st:=λy=>Zjc_L0b y.1 y.2.1 y.2.2.1 y.2.2.2.1) (λ_=>rfl) (by kernel_rfl) (by kernel_rfl) λx=>by kernel_rfl
theorem Vx9:SoundT Tryz.prog cd gdn 23 S_Zjc:=
 sndC hmix o31 A_Zjc Tryz.func23 (Vah rfl Vq2 Vaa) (by kernel_rfl) (by kernel_rfl) λx=>by kernel_rfl
def c32:List (Ct T):=⟨23,none,S_Zjc,true⟩::c31
theorem o32:EnvOk Tryz.prog (mE c32):=eCons Vx9 o31
def c33:List (Ct T):=⟨24,none,S_Zkm,false⟩::c32
theorem o33:EnvOk Tryz.prog (mE c33):=eCons Vx0 o32
def Zlz_L0b (y0:BitVec 64) (y1:Jb×Unit) (y2 y3:List Jc) (y4 y5:Int):Option (((BitVec 64) × (Jb × Unit) × (List (Jc)) × (List (Jc)) × Int × Int × Unit)⊕(((Jb × Unit) × Int × Unit) ⊕ ((BitVec 64) × (Jb × Unit) × (List (Jc)) × Unit))):=
 bif decide (y5 < y4) then (getI y3 y5).bind λx2=>(Zjc x2).bind λr3=>bif !(decide (r3.2.2.1=0)) then some (Qc (Qb (({},()),r3.2.2.1,()))) else (Zkm x2.jd).bind λr4=>let v5:List Jc:=[{x2 with jd:=r4.2.1}];bif small (y2.length+(v5:List Jc).length) 32 then some (Qb (y0,(y1.1,()),y2++v5,y3,y4,Qa .i64 (y5+1),())) else none else some (Qc (Qc (y0,(y1.1,()),y2,())))
def Zlz_L0:=Yi6 Zlz_L0b
def Zlz (a0:BitVec 64) (a1:List Jc):O2 Jb Int:=
 bif decide (64 < (a1.length:Int)) then some ((),{},8,()) else bif decide ((0:Int)<=0)&&(decide (0<=(a1.length:Int))&&decide (32*(a1.length:Int)<=281474976710656/\(a1.length:Int)<=9223372036854775807)) then let v1:=Qo 0 ({}:Jc);(Zlz_L0 (a0,(({}:Jb),()),v1,a1,(a1.length:Int),(0:Int),())).bind (Qk (λz6=>ru z6.1.1 z6.2.1) (λz7=>ru {jah:=z7.2.2.1,jak:=z7.1} 0)) else none
def S_Zlz:FSpec T:=⟨[qf,qah],[ql,qa],λx=>Zlz x.1 x.2.1⟩
def E_Zlz:Env T:=⟨tab.find,cd,globs,flc,λf ds=>match f with
  | 23=>some S_Zjc
  | 24=>some S_Zkm
  | _=>none,λf=>match f with
  | 23=>true
  | _=>false⟩
def A_Zlz:Loc2 T:=⟨λid=>match id with
  | 0=>some ⟨[(0,.f (.v .u64)),(4,.ptr [(.v (.agg 13))]),(6,.f (.own 12)),(18,.f (.v (.rs 12))),(19,.f (.v (.int .i64))),(20,.f (.v (.int .i64)))],[(.ret,[(4,.ptr [(.v (.agg 13))]),(5,.f (.v (.int .i64)))]),(.exit 0,[(0,.f (.v .u64)),(4,.ptr [(.v (.agg 13))]),(6,.f (.own 12))])],Zlz_L0,[]⟩
  | _=>none,λr=>match r with
  | _=>none,λr=>match r with
  | _=>false⟩
theorem Vq3 (y0:(BitVec 64)) (y1:(Jb×Unit)) (y2:(List (Jc))) (y3:(List (Jc))) (y4:Int) (y5:Int):run E_Zlz A_Zlz (loopAt 0 (Tryz.f8.body.getD .skip)) (layC cd [(0,.f (.v .u64)),(4,.ptr [(.v (.agg 13))]),(6,.f (.own 12)),(18,.f (.v (.rs 12))),(19,.f (.v (.int .i64))),(20,.f (.v (.int .i64)))] [] (y0,y1,y2,y3,y4,y5,())) (roundK cd [(0,.f (.v .u64)),(4,.ptr [(.v (.agg 13))]),(6,.f (.own 12)),(18,.f (.v (.rs 12))),(19,.f (.v (.int .i64))),(20,.f (.v (.int .i64)))] [] [(.ret,[(4,.ptr [(.v (.agg 13))]),(5,.f (.v (.int .i64)))]),(.exit 0,[(0,.f (.v .u64)),(4,.ptr [(.v (.agg 13))]),(6,.f (.own 12))])])=Zlz_L0b y0 y1 y2 y3 y4 y5:=by kernel_rfl
theorem Vb0a (x:tySs T S_Zlz.ps):run E_Zlz A_Zlz (Tryz.f8.body.getD .skip) (enterT E_Zlz.C S_Zlz.ps x) (retK E_Zlz Tryz.f8.results.toList S_Zlz.ps S_Zlz.rs)=S_Zlz.fn x:=by kernel_rfl
theorem Vq4:EnvOk Tryz.prog E_Zlz:=envOk (E:=E_Zlz) cd_ok tys fl_ok λf ds S h=>by
  dsimp only [E_Zlz] at h;split at h
  ·cases h; exact Vx9
  ·cases h; exact Vx0
  ·cases h
theorem Vq5:LoopOk Tryz.prog E_Zlz Tryz.f8.ntmps (kqOf S_Zlz.ps 0) (loopAt 0 (Tryz.f8.body.getD .skip)) ⟨[(0,.f (.v .u64)),(4,.ptr [(.v (.agg 13))]),(6,.f (.own 12)),(18,.f (.v (.rs 12))),(19,.f (.v (.int .i64))),(20,.f (.v (.int .i64)))],[(.ret,[(4,.ptr [(.v (.agg 13))]),(5,.f (.v (.int .i64)))]),(.exit 0,[(0,.f (.v .u64)),(4,.ptr [(.v (.agg 13))]),(6,.f (.own 12))])],Zlz_L0,[]⟩:=
 Vd5 (A:=A_Zlz) (done:=[]) (c0:=(Tryz.f8.body.getD .skip)) hmix Vq4 Vaa rounds (by kernel_rfl) (by kernel_rfl) (λx=>Vq3 x.1 x.2.1 x.2.2.1 x.2.2.2.1 x.2.2.2.2.1 x.2.2.2.2.2.1) (λ_=>rfl)
theorem Vb1a:SoundT Tryz.prog cd gdn 8 S_Zlz:=
 Vbi (E:=E_Zlz) (A:=A_Zlz) (done:=[0]) (c:=(Tryz.f8.body.getD .skip)) (S:=S_Zlz) (fn:=Tryz.f8) hmix Vq4 Tryz.func8 rfl (by kernel_rfl) (by kernel_rfl) (Vah rfl Vq5 Vaa) (by kernel_rfl) (by kernel_rfl) Vb0a
def c34:List (Ct T):=⟨8,none,S_Zlz,false⟩::c33
theorem o34:EnvOk Tryz.prog (mE c34):=eCons Vb1a o33
def Zjh (a0 a1:Int):O1 Int:=
 bif decide (Qd 64 a1=0) then none else let v1:=Qa .i64 ((Qd 64 a0%Qd 64 a1).toNat:Int);rt v1
def c35:=ct c34 22 [qb,qb] [qa] (u2 Zjh)
theorem o35:EO c35:=sz o34 Tryz.func22
def Zdp (a0:Int):O1 Jad:=
 let v1:=Qa .i64 ((Qd (Qg .i64) a0&&&Qd (Qg .i64) 3).toNat:Int);let v2:=Qa .i64 ((Qd (Qg .i64) (Qn a0 (2 ^ min 2 (Qg .i64)))&&&Qd (Qg .i64) 255).toNat:Int);let v3:List Int:=[2048,1024,512,640];let v4:=Qa .i64 ((Qd (Qg .i64) (Qn a0 (2 ^ min 4 (Qg .i64)))&&&Qd (Qg .i64) 3).toNat:Int);bif decide (0<=v4)&&decide (v4 < 4) then v3[v4.toNat]?.bind λx5=>let v6:=Qa .i64 ((Qd (Qg .i64) (Qn a0 (2 ^ min 6 (Qg .i64)))&&&Qd (Qg .i64) 1).toNat:Int);let v7:=Qa .i64 ((Qd (Qg .i64) (Qn a0 (2 ^ min 7 (Qg .i64)))&&&Qd (Qg .i64) 1).toNat:Int);let v8:=Qa .i64 ((Qd (Qg .i64) (Qn a0 (2 ^ min 8 (Qg .i64)))&&&Qd (Qg .i64) 1).toNat:Int);let v9:List UInt8:=[111,110,101];let v10:List UInt8:=[116,119,111];let v11:=Qa .i64 ((Qd (Qg .i64) (Qn a0 (2 ^ min 9 (Qg .i64)))&&&Qd (Qg .i64) 1).toNat:Int);bif decide (0<=Qa .i64 (1+v11))&&decide (Qa .i64 (1+v11)<=2) then bif decide ((Qa .i64 (1+v11)).toNat<=([v9,v10]).length) then rt ⟨Qd 64 v1,Qd 64 v2+1#64,x5,decide (v6=1),77#64,2,v7,Qa .i64 (2+v8),Qi (Qa .i64 (1+v11)).toNat [v9,v10]⟩ else none else none else none
def c36:=cf c35 105 [qb] [qb8] (u1 Zdp)
theorem o36:EO c36:=sz o35 Tryz.func105
def Zhy_L0b (y0:Jad×Unit) (y1:Jd×Unit) (y2:Int):Option (((Jad × Unit) × (Jd × Unit) × Int × Unit)⊕(((Jd × Unit) × Int × Unit) ⊕ ((Jad × Unit) × (Jd × Unit) × Unit))):=
 bif decide (y2 < y0.1.jh.length) then (getI y0.1.jh y2).bind λx2=>bif decide (512 < (x2.length:Int)) then some (Qc (Qb (({},()),8,()))) else some (Qb ((y0.1,()),(y1.1,()),Qa .i64 (y2+1),())) else some (Qc (Qc ((y0.1,()),(y1.1,()),())))
def Zhy_L0:=Yi3 Zhy_L0b
def Zhy (a0:Jad):O2 Jd Int:=
 bif decide (a0.jc < 512) then some ((),{},9,()) else bif decide (8192 < a0.jc) then some ((),{},9,()) else bif decide (a0.jaq < 0) then some ((),{},9,()) else bif decide (4 < a0.jaq) then some ((),{},9,()) else bif decide (a0.jat < 0) then some ((),{},9,()) else bif decide (a0.jbf < a0.jat) then some ((),{},9,()) else let v1:=Qa .i64 (1*2 ^ min (Qd 64 a0.jaq).toNat (Qg .i64));bif decide (v1 < a0.jbf) then some ((),{},9,()) else bif decide (3 < (a0.jh.length:Int)) then some ((),{},8,()) else (Zhy_L0 ((a0,()),({},()),0,())).bind (Qk (λz3=>ru z3.1.1 z3.2.1) (λz4=>(passkeyref7_NewFlashF z4.1.1.jc 2).bind λr5=>ru {jj:=z4.1.1,jx:=⟨{jao:=r5.2.1},[]⟩} 0))
def c37:=cf c36 104 [(.f qb8)] [qr,qa] (u1 Zhy)
def s_Zhy_L0:LSpec T:=⟨[(1,(.ptr [qb8])),(2,qh),(4,qb)],[(.ret,[(2,qh),(3,qb)]),(.exit 0,[(1,(.ptr [qb8])),(2,qh)])],Zhy_L0,[]⟩
def A_Zhy:Loc2 T:=lcA [(0,s_Zhy_L0)] [] []
theorem Vq6:LO c37 Tryz.f104 0 s_Zhy_L0:=lx o36 A_Zhy dn (λ_=>rfl)
theorem o37:EO c37:=sx o36 A_Zhy Tryz.func104 (dc rfl Vq6 dn)
def Zir (a0:Js) (a1 a2 a3:Int):O1 Int:=
 (Zan a0).bind λr1=>bif !(decide (r1.2.1=0)) then rt r1.2.1 else bif decide (a1 < 0) then rt 9 else bif decide (a0.jc=0) then none else let v2:=Qa .i64 (Int.tdiv (a0.bytes.length:Int) a0.jc);bif decide (v2<=a1) then rt 9 else bif decide (a2 < 0) then rt 9 else bif decide (a3 < 0) then rt 9 else bif decide (a0.jc < a2) then rt 9 else bif decide (Qa .i64 (a0.jc - a2) < a3) then rt 9 else rt 0
def c38:=ct c37 434 [qbs,qb,qb,qb] [qa] (u4 Zir)
theorem o38:EO c38:=sz o37 Tryz.func434
def Zhb (a0:Js) (a1 a2:Int):Option (Unit×Js×Int×Int×Unit):=
 (Zir a0 a1 0 0).bind λr1=>bif !(decide (r1.2.1=0)) then some ((),{},0,r1.2.1,()) else (passkeyref7_changeF a0 (Qa .i64 (a1*a0.jc)) a0.jc [] a2).bind λr2=>some ((),r2.2.1,r2.2.2.1,r2.2.2.2.1,())
def c39:=cf c38 375 [qbs,qb,qb] [qag,qa,qa] (u3 Zhb)
theorem o39:EO c39:=sz o38 Tryz.func375
def Zel (a0:Js) (a1 a2:Int) (a3:List UInt8) (a4:Int):Option (Unit×Js×Int×Int×Unit):=
 (Zir a0 a1 a2 (a3.length:Int)).bind λr1=>bif !(decide (r1.2.1=0)) then some ((),{},0,r1.2.1,()) else let v2:=Qa .i64 (Qa .i64 (a1*a0.jc)+a2);(passkeyref7_changeF a0 v2 (a3.length:Int) a3 a4).bind λr3=>some ((),r3.2.1,r3.2.2.1,r3.2.2.2.1,())
def c40:=cf c39 376 [qbs,qb,qb,qe,qb] [qag,qa,qa] (u5 Zel)
theorem o40:EO c40:=sz o39 Tryz.func376
def Zfv (a0:Js) (a1:Int):Option (Unit×Jq×Int×Int×Unit):=
 (Zan a0).bind λr1=>bif !(decide (r1.2.1=0)) then none else bif decide (a0.bytes.length < Qa .i64 (2*a0.jc)) then none else (Zhb a0 0 a1).bind λr2=>(bif decide (r2.2.2.2.1=0) then (Zhb r2.2.1 1 r2.2.2.1).bind λr3=>some (r3.2.2.1,(r3.2.1,()),(({}:Jq),()),r3.2.2.2.1,()) else some (r2.2.2.1,(r2.2.1,()),(({}:Jq),()),r2.2.2.2.1,())).bind λj4=>(bif decide (j4.2.2.2.1=0) then (Zfy 1).bind λr5=>(Zel j4.2.1.1 0 0 r5.2.1 j4.1).bind λr6=>some (r6.2.2.1,(r6.2.1,()),(j4.2.2.1.1,()),r6.2.2.2.1,()) else some (j4.1,(j4.2.1.1,()),(j4.2.2.1.1,()),j4.2.2.2.1,())).bind λj7=>bif !(decide (j7.2.2.2.1=0)) then none else (passkeyref7_MountF j7.2.1.1).bind λr8=>some ((),r8.2.1,j7.1,0,())
def c41:=cf c40 259 [qbs,qb] [qam,qa,qa] (u2 Zfv)
theorem o41:EO c41:=sx o40 (lcA [] [(9,[(1,qb),(2,qb2),(4,qbv),(8,qb)],true),(11,[(1,qb),(2,qb2),(4,qbv),(8,qb)],true)] [10]) Tryz.func259 dn
def Zcr (a0 a1:Js):O1 Bool:=
 bif decide (a0.jc=a1.jc) then rt (decide (a0.bytes=a1.bytes)) else rt false
def c42:=ct c41 459 [qbs,qbs] [qd] (u2 Zcr)
theorem o42:EO c42:=sz o41 Tryz.func459
def Zbo (a0 a1:Jq):O1 Bool:=
 (Zcr a0.jao a1.jao).bind λr1=>bif r1.2.1 then bif decide (a0.jbs=a1.jbs) then bif decide (a0.jar=a1.jar) then bif decide (a0.tail=a1.tail) then rt (a0.jbh==a1.jbh) else rt false else rt false else rt false else rt false
def c43:=ct c42 436 [(.f qam),(.f qam)] [qd] (u2 Zbo)
theorem o43:EO c43:=sz o42 Tryz.func436
def Zek (a0:Jq):O1 Bool:=
 (passkeyref7_MountF a0.jao).bind λr1=>bif decide (r1.2.2.1=0) then (Zbo a0 r1.2.1).bind λr2=>rt r2.2.1 else rt false
def c44:=ct c43 380 [(.f qam)] [qd] (u1 Zek)
theorem o44:EO c44:=sz o43 Tryz.func380
def Zem (a0:Jq):O1 (List (List UInt8)):=
 (Zek a0).bind λr1=>bif !r1.2.1 then rt [] else (Zis a0.jao a0.jbs a0.jar).bind λr2=>rt r2.2.1
def c45:=cf c44 378 [(.f qam)] [qbg] (u1 Zem)
theorem o45:EO c45:=sz o44 Tryz.func378
def Zhe_L0b (y0:List UInt8) (y1:List Jj):Option (((List (UInt8)) × (List (Jj)) × Unit)⊕(((List (Jj)) × Bool × Unit) ⊕ ((List (Jj)) × Unit))):=
 bif decide (0 < (y0.length:Int)) then bif decide ((y0.length:Int) < 3) then some (Qc (Qb ([],false,()))) else (getI y0 (1:Int)).bind λx1=>let v2:=Qa .i64 ((x1.toBitVec.toNat:Int)*2 ^ min 8 (Qg .i64));(getI y0 (2:Int)).bind λx3=>let v4:=Qa .i64 ((Qd (Qg .i64) v2 ||| Qd (Qg .i64) (x3.toBitVec.toNat:Int)).toNat:Int);bif decide (Qa .i64 ((y0.length:Int) - 3) < v4) then some (Qc (Qb ([],false,()))) else (getI y0 (1:Int)).bind λx5=>let v6:=Qa .i64 ((x5.toBitVec.toNat:Int)*2 ^ min 8 (Qg .i64));(getI y0 (2:Int)).bind λx7=>let v8:=Qa .i64 ((Qd (Qg .i64) v6 ||| Qd (Qg .i64) (x7.toBitVec.toNat:Int)).toNat:Int);(getI y0 (0:Int)).bind λx9=>bif decide (0<=Qa .i64 (3+v8))&&decide (Qa .i64 (3+v8)<=y0.length) then bif decide (3<=((Qa .i64 (3+v8)).toNat:Int)) then let v10:=Qm 3 (Qi (Qa .i64 (3+v8)).toNat y0);bif small v10.length 1 then let v11:List Jj:=[⟨(x9.toBitVec.toNat:Int),v10⟩];bif small (y1.length+(v11:List Jj).length) 32 then bif decide (0<=Qa .i64 (3+v8))&&decide (Qa .i64 (3+v8)<=y0.length) then some (Qb (Qm (Qa .i64 (3+v8)).toNat y0,y1++v11,())) else none else none else none else none else none else some (Qc (Qc (y1,())))
def Zhe_L0:=Yi2 Zhe_L0b
def Zhe (a0:List UInt8):O2 (List Jj) Bool:=
 (Zhe_L0 (a0,[],())).bind (Qk (λz12=>ru z12.1 z12.2.1) (λz13=>ru z13.1 true))
def c46:=cf c45 379 [qe] [(.own 15),qd] (u1 Zhe)
def s_Zhe_L0:LSpec T:=⟨[(0,qe),(4,qa1)],[(.ret,[(2,qa1),(3,qm)]),(.exit 0,[(4,qa1)])],Zhe_L0,[]⟩
def A_Zhe:Loc2 T:=lcA [(0,s_Zhe_L0)] [] [6]
theorem Vq7:LO c46 Tryz.f379 0 s_Zhe_L0:=lx o45 A_Zhe dn (λ_=>rfl)
theorem o46:EO c46:=sx o45 A_Zhe Tryz.func379 (dc rfl Vq7 dn)
def Ziq_L2b (y0 y1:List Jj) (y2:Int) (y3:List Jj) (y4:Bool) (y5:Int):Option (((List (Jj)) × (List (Jj)) × Int × (List (Jj)) × Bool × Int × Unit)⊕((List (Jj)) × Int × (List (Jj)) × Bool × Unit)):=
 bif decide (y5 < y0.length) then (bif !y4 then (getI y0 y5).bind λx2=>(getI y1 y2).bind λx3=>bif decide (x3.key<=x2.key) then (getI y1 y2).bind λx4=>bif small (y3.length+([x4]).length) 32 then some (y0,y1,y2,y3++[x4],true,y5,()) else none else some (y0,y1,y2,y3,y4,y5,()) else some (y0,y1,y2,y3,y4,y5,())).bind λj5=>(getI j5.1 j5.2.2.2.2.2.1).bind λx6=>(getI j5.2.1 j5.2.2.1).bind λx7=>bif !(decide (x6.key=x7.key)) then (getI j5.1 j5.2.2.2.2.2.1).bind λx8=>bif small (j5.2.2.2.1.length+([x8]).length) 32 then some (Qb (j5.1,j5.2.1,j5.2.2.1,j5.2.2.2.1++[x8],j5.2.2.2.2.1,Qa .i64 (j5.2.2.2.2.2.1+1),())) else none else some (Qb (j5.1,j5.2.1,j5.2.2.1,j5.2.2.2.1,j5.2.2.2.2.1,Qa .i64 (j5.2.2.2.2.2.1+1),())) else some (Qc (y1,y2,y3,y4,()))
def Ziq_L2:=Yi6 Ziq_L2b
def Ziq_L0b (y0 y1:List Jj) (y2:Int):Option (((List (Jj)) × (List (Jj)) × Int × Unit)⊕((List (Jj)) × Unit)):=
 bif decide (y2 < y1.length) then (getI y1 y2).bind λx1=>(Ziq_L2 (y0,y1,y2,[],decide ((x1.value.length:Int)=0),0,())).bind λz2=>bif !z2.2.2.2.1 then (getI z2.1 z2.2.1).bind λx3=>bif small (z2.2.2.1.length+([x3]).length) 32 then some (Qb (z2.2.2.1++[x3],z2.1,Qa .i64 (z2.2.1+1),())) else none else some (Qb (z2.2.2.1,z2.1,Qa .i64 (z2.2.1+1),())) else some (Qc (y0,()))
def Ziq_L0:=Yi3 Ziq_L0b
def Ziq (a0 a1:List Jj):O1 (List Jj):=
 (Ziq_L0 (a0,a1,0,())).bind λz4=>rt z4.1
def c47:=cf c46 267 [qp,qp] [(.v (.rs 15))] (u2 Ziq)
def s_Ziq_L2:LSpec T:=⟨[(0,qp),(1,qp),(5,qb),(6,qa1),(7,qm),(8,qb)],[(.exit 2,[(1,qp),(5,qb),(6,qa1),(7,qm)])],Ziq_L2,[]⟩
def s_Ziq_L0:LSpec T:=⟨[(0,qp),(1,qp),(5,qb)],[(.exit 0,[(0,qp)])],Ziq_L0,[]⟩
def A_Ziq:Loc2 T:=lcA [(2,s_Ziq_L2),(0,s_Ziq_L0)] [(11,[(0,qp),(1,qp),(5,qb),(6,qa1),(7,qm),(8,qb)],true)] []
theorem Vko:LO c47 Tryz.f267 2 s_Ziq_L2:=lx o46 A_Ziq dn (λ_=>rfl)
theorem Vq8:LO c47 Tryz.f267 0 s_Ziq_L0:=lx o46 A_Ziq (dc rfl Vko dn) (λ_=>rfl)
theorem o47:EO c47:=sx o46 A_Ziq Tryz.func267 (dc rfl Vko (dc rfl Vq8 dn))
def Zfw_L0b (y0:List Jj) (y1:List (List UInt8)) (y2:Int):Option (((List (Jj)) × (List (List UInt8)) × Int × Unit)⊕((List (Jj)) × Unit)):=
 bif decide (y2 < y1.length) then bif decide (0<=y2)&&decide (y2 < y1.length) then y1[y2.toNat]?.bind λx5=>(Zhe x5).bind λr6=>bif r6.2.2.1 then (Ziq y0 r6.2.1).bind λr7=>some (Qb (r7.2.1,y1,Qa .i64 (y2+1),())) else some (Qb (y0,y1,Qa .i64 (y2+1),())) else none else some (Qc (y0,()))
def Zfw_L0:=Yi3 Zfw_L0b
def Zfw (a0:Jq):O1 (List Jj):=
 (Zem a0).bind λr1=>(Zfw_L0 ([],r1.2.1,0,())).bind λz8=>rt z8.1
def c48:=cf c47 261 [(.f qam)] [(.v (.rs 15))] (u1 Zfw)
def s_Zfw_L0:LSpec T:=⟨[(3,qp),(4,(.f qbg)),(5,qb)],[(.exit 0,[(3,qp)])],Zfw_L0,[]⟩
def A_Zfw:Loc2 T:=lcA [(0,s_Zfw_L0)] [] []
theorem Vq9:LO c48 Tryz.f261 0 s_Zfw_L0:=lx o47 A_Zfw dn (λ_=>rfl)
theorem o48:EO c48:=sx o47 A_Zfw Tryz.func261 (dc rfl Vq9 dn)
def Zin (a0:Js) (a1:Int):Option (Unit×Jv×Int×Int×Unit):=
 (passkeyref7_MountF a0).bind λr1=>(bif decide (r1.2.2.1=11) then (Zfv a0 a1).bind λr2=>some (r2.2.2.1,(({}:Jv),()),(r2.2.1,()),r2.2.2.2.1,()) else some (a1,(({}:Jv),()),(r1.2.1,()),r1.2.2.1,())).bind λj3=>bif !(decide (j3.2.2.2.1=0)) then none else (Zfw j3.2.2.1.1).bind λr4=>bif j3.2.2.1.1.jbh then none else some ((),⟨j3.2.2.1.1,r4.2.1⟩,j3.1,0,())
def c49:=cf c48 167 [qbs,qb] [qbj,qa,qa] (u2 Zin)
theorem o49:EO c49:=sx o48 (lcA [] [(4,[(1,qb),(4,qaa),(7,qbv),(8,qb)],true)] [8]) Tryz.func167 dn
def Zjq_L0b (y0:Int) (y1:Jv×Unit) (y2:Int):Option ((Int × (Jv × Unit) × Int × Unit)⊕(((List (UInt8)) × Unit) ⊕ (Unit))):=
 bif decide (y2 < y1.1.jaz.length) then (getI y1.1.jaz y2).bind λx1=>bif decide (x1.key=y0) then (getI y1.1.jaz y2).bind λx2=>bif small x2.value.length 1 then some (Qc (Qb (x2.value,()))) else none else some (Qb (y0,(y1.1,()),Qa .i64 (y2+1),())) else some (Qc (Qc ()))
def Zjq_L0:=Yi3 Zjq_L0b
def Zjq (a0:Jv) (a1:Int):O1 (List UInt8):=
 (Zjq_L0 (a1,(a0,()),0,())).bind (Qk (λz3=>rt z3.1) (λz4=>rt []))
def c50:=cf c49 170 [(.f qbj),qb] [qj] (u2 Zjq)
def s_Zjq_L0:LSpec T:=⟨[(1,qb),(2,qaa),(5,qb)],[(.ret,[(4,qao)]),(.exit 0,[])],Zjq_L0,[]⟩
def A_Zjq:Loc2 T:=lcA [(0,s_Zjq_L0)] [] []
theorem Vra:LO c50 Tryz.f170 0 s_Zjq_L0:=lx o49 A_Zjq dn (λ_=>rfl)
theorem o50:EO c50:=sx o49 A_Zjq Tryz.func170 (dc rfl Vra dn)
def Zfa_L0b (y0:Int) (y1:List UInt8) (y2:Int):Option ((Int × (List (UInt8)) × Int × Unit)⊕(Int × Unit)):=
 bif decide (y2 < y1.length) then bif decide (0<=y2)&&decide (y2 < y1.length) then y1[y2.toNat]?.bind λx2=>let v3:=Qa .i64 ((Qd (Qg .i64) (Qa .i64 (y0*2 ^ min 8 (Qg .i64))) ||| Qd (Qg .i64) (x2.toBitVec.toNat:Int)).toNat:Int);some (Qb (v3,y1,Qa .i64 (y2+1),())) else none else some (Qc (y0,()))
def Zfa_L0:=Yi3 Zfa_L0b
def Zfa (a0:Jv):O1 Int:=
 (Zjq a0 2).bind λr1=>(Zfa_L0 (0,r1.2.1,0,())).bind λz4=>rt z4.1
def c51:=ct c50 169 [(.f qbj)] [qa] (u1 Zfa)
def s_Zfa_L0:LSpec T:=⟨[(3,qb),(4,qao),(5,qb)],[(.exit 0,[(3,qb)])],Zfa_L0,[]⟩
def A_Zfa:Loc2 T:=lcA [(0,s_Zfa_L0)] [] []
theorem Vrb:LO c51 Tryz.f169 0 s_Zfa_L0:=lx o50 A_Zfa dn (λ_=>rfl)
theorem o51:EO c51:=sx o50 A_Zfa Tryz.func169 (dc rfl Vrb dn)
def Zfd (a0:BitVec 64) (a1:List UInt8) (a2:Int):O1 (BitVec 64):=
 bif small (a1.length+([0]:List UInt8).length) 1 then (passkeyref1_WordsF [Qd 64 a2]).bind λr1=>bif small ((a1++[0]).length+(r1.2.1:List UInt8).length) 1 then let v2:=a1++[0]++r1.2.1;(Zjl a0 4 v2).bind λr3=>rt r3.2.1 else none else none
def c52:=ct c51 76 [qf,qg,qb] [qu] (u3 Zfd)
theorem o52:EO c52:=sz o51 Tryz.func76
def Zdz (a0:Jd) (a1:Int):O1 (List UInt8):=
 (Zfd a0.jj.jak [109,97,115,116,101,114] a1).bind λr1=>(passkeyref1_WordsF [r1.2.1]).bind λr2=>rt r2.2.1
def c53:=cf c52 171 [qbi,qb] [qj] (u2 Zdz)
theorem o53:EO c53:=sz o52 Tryz.func171
def Zew (a0:Jz):O1 Bool:=
 bif decide (0<=a0.jcc) then bif decide (a0.jcc<=a0.next) then bif decide (a0.next<=a0.to_) then rt (decide (a0.to_<=16)) else rt false else rt false else rt false
def c54:=ct c53 264 [(.f qb3)] [qd] (u1 Zew)
theorem o54:EO c54:=sz o53 Tryz.func264
def Zar (a0:Jz):O1 (List UInt8):=
 (Zew a0).bind λr1=>bif !r1.2.1 then rt [] else (passkeyref1_WordsF [a0.tag]).bind λr2=>let v3:List UInt8:=[Qf (Qd 8 a0.jcc),Qf (Qd 8 a0.to_),Qf (Qd 8 a0.next)];bif small (r2.2.1.length+(v3:List UInt8).length) 1 then rt (r2.2.1++v3) else none
def c55:=cf c54 172 [(.f qb3)] [qj] (u1 Zar)
theorem o55:EO c55:=sx o54 (lcA [] [] [3]) Tryz.func172 dn
def Zcs_L0b (y0 y1:List Jj) (y2:Int):Option (((List (Jj)) × (List (Jj)) × Int × Unit)⊕((Bool × Unit) ⊕ (Unit))):=
 bif decide (y2 < y0.length) then (getI y0 y2).bind λx1=>(getI y1 y2).bind λx2=>bif !(decide (x1.key=x2.key)) then some (Qc (Qb (false,()))) else (getI y0 y2).bind λx3=>(getI y1 y2).bind λx4=>bif !(decide (x3.value=x4.value)) then some (Qc (Qb (false,()))) else some (Qb (y0,y1,Qa .i64 (y2+1),())) else some (Qc (Qc ()))
def Zcs_L0:=Yi3 Zcs_L0b
def Zcs (a0 a1:List Jj):O1 Bool:=
 bif !(decide ((a0.length:Int)=(a1.length:Int))) then rt false else (Zcs_L0 (a0,a1,0,())).bind (Qk (λz5=>rt z5.1) (λz6=>rt true))
def c56:=ct c55 382 [qp,qp] [qd] (u2 Zcs)
def s_Zcs_L0:LSpec T:=⟨[(0,qp),(1,qp),(5,qb)],[(.ret,[(4,qm)]),(.exit 0,[])],Zcs_L0,[]⟩
def A_Zcs:Loc2 T:=lcA [(0,s_Zcs_L0)] [] []
theorem Vrc:LO c56 Tryz.f382 0 s_Zcs_L0:=lx o55 A_Zcs dn (λ_=>rfl)
theorem o56:EO c56:=sx o55 A_Zcs Tryz.func382 (dc rfl Vrc dn)
def Zaz (a0:Jv):O1 Bool:=
 (Zek a0.jl).bind λr1=>bif r1.2.1 then (Zfw a0.jl).bind λr2=>(Zcs a0.jaz r2.2.1).bind λr3=>rt r3.2.1 else rt false
def c57:=ct c56 265 [(.f qbj)] [qd] (u1 Zaz)
theorem o57:EO c57:=sx o56 (lcA [] [] [1]) Tryz.func265 dn
def Zip_L0b (y0:List Jj) (y1 y2:Int):Option (((List (Jj)) × Int × Int × Unit)⊕(Int × Unit)):=
 bif decide (y2 < y0.length) then (getI y0 y2).bind λx1=>let v2:=Qa .i64 (y1+Qa .i64 (3+(x1.value.length:Int)));some (Qb (y0,v2,Qa .i64 (y2+1),())) else some (Qc (y1,()))
def Zip_L0:=Yi3 Zip_L0b
def Zip (a0:List Jj):O1 Int:=
 (Zip_L0 (a0,0,0,())).bind λz3=>rt z3.1
def c58:=ct c57 266 [qp] [qa] (u1 Zip)
def s_Zip_L0:LSpec T:=⟨[(0,qp),(3,qb),(4,qb)],[(.exit 0,[(3,qb)])],Zip_L0,[]⟩
def A_Zip:Loc2 T:=lcA [(0,s_Zip_L0)] [] []
theorem Vrd:LO c58 Tryz.f266 0 s_Zip_L0:=lx o57 A_Zip dn (λ_=>rfl)
theorem o58:EO c58:=sx o57 A_Zip Tryz.func266 (dc rfl Vrd dn)
def Zio (a0:Jq):O1 Int:=
 (Zek a0).bind λr1=>bif !r1.2.1 then rt 0 else bif a0.jbh then rt 0 else let v2:=Qa .i64 (Qa .i64 (a0.jao.jc - a0.tail) - 10);let v3:Int:=bif decide ((bif decide (v2 < 256) then v2 else (256:Int)) < 0) then 0 else bif decide (v2 < 256) then v2 else 256;rt v3
def c59:=ct c58 268 [(.f qam)] [qa] (u1 Zio)
theorem o59:EO c59:=sz o58 Tryz.func268
def Zfz_L0b (y0:List Jj) (y1:List UInt8) (y2:Int):Option (((List (Jj)) × (List (UInt8)) × Int × Unit)⊕((List (UInt8)) × Unit)):=
 bif decide (y2 < y0.length) then (getI y0 y2).bind λx1=>(getI y0 y2).bind λx2=>let v3:=Qn (x2.value.length:Int) (2 ^ min 8 (Qg .i64));(getI y0 y2).bind λx4=>let v5:List UInt8:=[Qf (Qd 8 x1.key),Qf (Qd 8 v3),Qf (Qd 8 (x4.value.length:Int))];bif small (y1.length+(v5:List UInt8).length) 1 then (getI y0 y2).bind λx6=>bif small ((y1++v5).length+(x6.value:List UInt8).length) 1 then some (Qb (y0,y1++v5++x6.value,Qa .i64 (y2+1),())) else none else none else some (Qc (y1,()))
def Zfz_L0:=Yi3 Zfz_L0b
def Zfz (a0:List Jj):O1 (List UInt8):=
 (Zfz_L0 (a0,[],0,())).bind λz7=>rt z7.1
def c60:=cf c59 270 [qp] [qj] (u1 Zfz)
def s_Zfz_L0:LSpec T:=⟨[(0,qp),(3,qao),(4,qb)],[(.exit 0,[(3,qao)])],Zfz_L0,[]⟩
def A_Zfz:Loc2 T:=lcA [(0,s_Zfz_L0)] [] []
theorem Vre:LO c60 Tryz.f270 0 s_Zfz_L0:=lx o59 A_Zfz dn (λ_=>rfl)
theorem o60:EO c60:=sx o59 A_Zfz Tryz.func270 (dc rfl Vre dn)
def Zfu (a0:Jq) (a1:List UInt8) (a2:Int):Option (Unit×Jq×Int×Int×Unit):=
 (Zek a0).bind λr1=>bif !r1.2.1 then none else bif decide ((a1.length:Int) < 1) then none else bif decide (256 < (a1.length:Int)) then none else bif a0.jbh then none else (Zio a0).bind λr2=>bif decide (r2.2.1 < a1.length) then none else (Zhd a0.jar a1).bind λr3=>(Zel a0.jao a0.jbs a0.tail r3.2.1 a2).bind λr4=>bif !(decide (r4.2.2.2.1=0)) then none else let v5:=Qa .i64 (Qa .i64 (a0.tail+10)+(a1.length:Int));some ((),{a0 with jao:=r4.2.1,tail:=v5},r4.2.2.1,0,())
def c61:=cf c60 269 [(.f qam),qe,qb] [qam,qa,qa] (u3 Zfu)
theorem o61:EO c61:=sx o60 (lcA [] [] [9]) Tryz.func269 dn
def Zjr_L2b (y0:List Jj) (y1:Int) (y2 y3:Jv×Unit) (y4 y5:Int):Option (((List (Jj)) × Int × (Jv × Unit) × (Jv × Unit) × Int × Int × Unit)⊕((List (Jj)) × Int × (Jv × Unit) × (Jv × Unit) × Int × Unit)):=
 bif decide (y5 < y4) then (getI y0 y5).bind λx4=>(getI y0 y4).bind λx5=>bif decide (x4.key=x5.key) then none else some (Qb (y0,y1,(y2.1,()),(y3.1,()),y4,Qa .i64 (y5+1),())) else some (Qc (y0,y1,(y2.1,()),(y3.1,()),y4,()))
def Zjr_L2:=Yi6 Zjr_L2b
def Zjr_L0b (y0:List Jj) (y1:Int) (y2 y3:Jv×Unit) (y4:Int):Option (((List (Jj)) × Int × (Jv × Unit) × (Jv × Unit) × Int × Unit)⊕((List (Jj)) × Int × (Jv × Unit) × (Jv × Unit) × Unit)):=
 bif decide (y4 < y0.length) then (getI y0 y4).bind λx2=>bif decide (x2.key < 0) then none else (getI y0 y4).bind λx3=>bif decide (255 < x3.key) then none else (Zjr_L2 (y0,y1,(y2.1,()),(y3.1,()),y4,0,())).bind λz4=>some (Qb (z4.1,z4.2.1,(z4.2.2.1.1,()),(z4.2.2.2.1.1,()),Qa .i64 (z4.2.2.2.2.1+1),())) else some (Qc (y0,y1,(y2.1,()),(y3.1,()),()))
def Zjr_L0:=Yi5 Zjr_L0b
def Zjr (a0:Jv) (a1:List Jj) (a2:Int):Option (Unit×Jv×Int×Int×Unit):=
 (Zaz a0).bind λr1=>bif !r1.2.1 then none else bif decide ((a1.length:Int)=0) then none else (Zjr_L0 (a1,a2,(a0,()),({},()),0,())).bind λz5=>(Zip z5.1).bind λr6=>bif decide (256 < r6.2.1) then none else (Ziq z5.2.2.1.1.jaz z5.1).bind λr7=>let v8:=Qa .i64 (16+Qa .i64 (10*(r7.2.1.length:Int)));(Zip r7.2.1).bind λr9=>bif decide (z5.2.2.1.1.jl.jao.jc < Qa .i64 (v8+r9.2.1)) then none else ((Zip z5.1).bind λr10=>(Zio z5.2.2.1.1.jl).bind λr11=>bif decide (r10.2.1<=r11.2.1) then (Zfz z5.1).bind λr12=>(Zfu z5.2.2.1.1.jl r12.2.1 z5.2.1).bind λr13=>some (r13.2.2.1,(z5.2.2.2.1.1,()),(r13.2.1,()),r13.2.2.2.1,()) else none).bind λj14=>bif !(decide (j14.2.2.2.1=0)) then none else (Zfw j14.2.2.1.1).bind λr15=>some ((),⟨j14.2.2.1.1,r15.2.1⟩,j14.1,0,())
def c62:=cf c61 173 [(.f qbj),qp,qb] [qbj,qa,qa] (u3 Zjr)
def s_Zjr_L2:LSpec T:=⟨[(1,qp),(2,qb),(3,qaa),(6,qaa),(9,qb),(10,qb)],[(.exit 2,[(1,qp),(2,qb),(3,qaa),(6,qaa),(9,qb)])],Zjr_L2,[]⟩
def s_Zjr_L0:LSpec T:=⟨[(1,qp),(2,qb),(3,qaa),(6,qaa),(9,qb)],[(.exit 0,[(1,qp),(2,qb),(3,qaa),(6,qaa)])],Zjr_L0,[]⟩
def A_Zjr:Loc2 T:=lcA [(2,s_Zjr_L2),(0,s_Zjr_L0)] [(24,[(2,qb),(6,qaa),(12,qbv),(13,qb)],true)] [22,23,26]
theorem Vkp:LO c62 Tryz.f173 2 s_Zjr_L2:=lx o61 A_Zjr dn (λ_=>rfl)
theorem Vrf:LO c62 Tryz.f173 0 s_Zjr_L0:=lx o61 A_Zjr (dc rfl Vkp dn) (λ_=>rfl)
theorem o62:EO c62:=sx o61 A_Zjr Tryz.func173 (dc rfl Vkp (dc rfl Vrf dn))
def Zdx (a0:Jd):O1 (BitVec 64):=
 (Zjq a0.jx 1).bind λr1=>(Zie r1.2.1).bind λr2=>rt r2.2.1
def c63:=ct c62 271 [qbi] [qu] (u1 Zdx)
theorem o63:EO c63:=sz o62 Tryz.func271
def Zgn (a0:Jd):O2 Jd (BitVec 64):=
 (Zdx a0).bind λr1=>(Zfa a0.jx).bind λr2=>let v3:=Qa .i64 (r2.2.1*2 ^ min 20 (Qg .i64));let v4:=Qa .i64 ((Qd (Qg .i64) a0.jaa&&&Qd (Qg .i64) 1048575).toNat:Int);(Zfd r1.2.1 [100,114,97,119] (Qa .i64 (v3+v4))).bind λr5=>ru {a0 with jaa:=Qa .i64 (a0.jaa+1)} r5.2.1
def c64:=cf c63 174 [qbi] [qr,qu] (u1 Zgn)
theorem o64:EO c64:=sz o63 Tryz.func174
def Zbb (a0:BitVec 64):O1 Jam:=
 rt {jbc:=a0}
def c65:=ct c64 175 [qf] [(.v (.agg 19))] (u1 Zbb)
theorem o65:EO c65:=sz o64 Tryz.func175
def Zgm (a0:Jd) (a1 a2:Int):Option (Unit×Jd×Int×Int×Unit):=
 bif a0.on then some ((),a0,0,18,()) else bif decide (a1 < 0) then some ((),a0,0,9,()) else bif decide (1099511627776 < a1) then some ((),a0,0,9,()) else (Zin a0.jx.jl.jao a2).bind λr1=>bif !(decide (r1.2.2.2.1=0)) then none else (Zfa r1.2.1).bind λr2=>bif decide (r2.2.1=4294967295) then some ((),a0,0,13,()) else (Zjq r1.2.1 1).bind λr3=>(bif decide ((r3.2.1.length:Int)=0) then let v4:=Qa .i64 (Qa .i64 (r2.2.1+1)*2 ^ min 20 (Qg .i64));(Zdz a0 v4).bind λr5=>let v6:List Jj:=[⟨1,r5.2.1⟩];bif small v6.length 32 then some (a1,r1.2.2.1,(a0,()),(({}:Jd),()),(r1.2.1,()),Qa .i64 (r2.2.1+1),v6,decide ((r3.2.1.length:Int)=0),()) else none else some (a1,r1.2.2.1,(a0,()),(({}:Jd),()),(r1.2.1,()),Qa .i64 (r2.2.1+1),[],decide ((r3.2.1.length:Int)=0),())).bind λj7=>let v8:=Qf (Qd 8 (Qn j7.2.2.2.2.2.1 (2 ^ min 24 (Qg .i64))));let v9:=Qf (Qd 8 (Qn j7.2.2.2.2.2.1 (2 ^ min 16 (Qg .i64))));let v10:=Qf (Qd 8 (Qn j7.2.2.2.2.2.1 (2 ^ min 8 (Qg .i64))));let v11:List UInt8:=[v8,v9,v10,Qf (Qd 8 j7.2.2.2.2.2.1)];bif small (j7.2.2.2.2.2.2.1.length+([⟨2,v11⟩]:List Jj).length) 32 then let v12:=j7.2.2.2.2.2.2.1++[⟨2,v11⟩];(bif j7.2.2.2.2.2.2.2.1 then (Zar ⟨0#64,j7.2.2.1.1.jj.jat,j7.2.2.1.1.jj.jbf,j7.2.2.1.1.jj.jat⟩).bind λr13=>bif small (v12.length+([⟨16,r13.2.1⟩]:List Jj).length) 32 then let v14:=v12++[⟨16,r13.2.1⟩];some (j7.1,j7.2.1,(j7.2.2.1.1,()),(j7.2.2.2.1.1,()),(j7.2.2.2.2.1.1,()),v14,()) else none else some (j7.1,j7.2.1,(j7.2.2.1.1,()),(j7.2.2.2.1.1,()),(j7.2.2.2.2.1.1,()),v12,())).bind λj15=>(Zjr j15.2.2.2.2.1.1 j15.2.2.2.2.2.1 j15.2.1).bind λr16=>bif !(decide (r16.2.2.2.1=0)) then none else let v17:Int:=bif decide (j15.2.2.1.1.now < j15.1) then j15.1 else j15.2.2.1.1.now;(Zgn ⟨j15.2.2.1.1.jj,r16.2.1,true,v17,v17,0,0,{},{}⟩).bind λr18=>(Zbb r18.2.2.1).bind λr19=>some ((),{r18.2.1 with jac:=r19.2.1},r16.2.2.1,0,()) else none
def c66:=cf c65 106 [qbi,qb,qb] [qr,qa,qa] (u3 Zgm)
theorem o66:EO c66:=sx o65 (lcA [] [(16,[(1,qb),(2,qb),(3,qh),(6,qh),(9,qaa),(11,qb),(12,qa1),(13,qm)],true),(20,[(1,qb),(2,qb),(3,qh),(6,qh),(9,qaa),(12,qa1)],true)] []) Tryz.func106 dn
def Zge (a0:Int):O1 Jai:=
 (Zdp a0).bind λr1=>(Zhy r1.2.1).bind λr2=>let v3:=Qa .i64 ((Qd (Qg .i64) a0&&&Qd (Qg .i64) 7).toNat:Int);(Zgm r2.2.1 v3 (-1)).bind λr4=>rt ⟨r4.2.1,[]⟩
def c67:=cf c66 51 [qb] [(.v (.agg 20))] (u1 Zge)
theorem o67:EO c67:=sz o66 Tryz.func51
def Zcx (a0 a1:Int) (a2:Bool):O1 Jn:=
 bif a2 then (Zjh a0 1024).bind λr1=>let v2:=Qa .i64 ((Qd (Qg .i64) r1.2.1&&&~~~(Qd (Qg .i64) 48)).toNat:Int);(Zjh a1 4096).bind λr3=>none else (Zjh a0 1024).bind λr4=>let v5:=Qa .i64 ((Qd (Qg .i64) r4.2.1&&&~~~(Qd (Qg .i64) 48)).toNat:Int);(Zge v5).bind λr6=>rt {jg:=r6.2.1.jg}
def c68:=cf c67 19 [qb,qb,qm] [qbr] (u3 Zcx)
theorem o68:EO c68:=sz o67 Tryz.func19
def Zgh:O1 Jf:=
 rt ⟨true,[101,120,97,109,112,108,101,46,99,111,109],443⟩
def c69:=ct c68 20 [] [qad] λx=>Zgh 
theorem o69:EO c69:=sz o68 Tryz.func20
def Zes (a0:Bool):O1 Int:=
 bif a0 then rt 443 else rt 80
def c70:=ct c69 118 [qm] [qa] (u1 Zes)
theorem o70:EO c70:=sz o69 Tryz.func118
def c71:List (Ct T):=⟨119,none,S_Zlb,true⟩::c70
theorem o71:EnvOk Tryz.prog (mE c71):=eCons Vbwa o70
def Zkj (a0:Jf):O2 (List UInt8) Int:=
 (Zke a0.ju).bind λr1=>bif !(decide (r1.2.1=0)) then ru [] r1.2.1 else bif decide (a0.ji < 1) then ru [] 9 else bif decide (65535 < a0.ji) then ru [] 9 else bif Qj (([104,116,116,112,58,47,47]:List UInt8).length+a0.ju.length) 9223372036854775807 then (bif a0.jp then bif Qj (([104,116,116,112,115,58,47,47]:List UInt8).length+a0.ju.length) 9223372036854775807 then let v2:=([104,116,116,112,115,58,47,47]:List UInt8)++a0.ju;some ((a0,()),v2,()) else none else some ((a0,()),([104,116,116,112,58,47,47]:List UInt8)++a0.ju,())).bind λj3=>(Zes j3.1.1.jp).bind λr4=>bif !(decide (j3.1.1.ji=r4.2.1)) then (Zlb j3.1.1.ji).bind λr5=>bif Qj (([58]:List UInt8).length+r5.2.1.length) 9223372036854775807 then bif Qj (j3.2.1.length+(([58]:List UInt8)++r5.2.1).length) 9223372036854775807 then ru (j3.2.1++(([58]:List UInt8)++r5.2.1)) 0 else none else none else ru j3.2.1 0 else none
def c72:=ct c71 62 [(.f qad)] [qs,qa] (u1 Zkj)
theorem o72:EO c72:=sx o71 (lcA [] [(9,[(1,qa7),(5,qg)],true)] []) Tryz.func62 dn
def Zcu (a0 a1:List UInt8):O1 Bool:=
 bif decide ((a1.length:Int)<=(a0.length:Int)) then bif decide (0<=(a1.length:Int))&&decide ((a1.length:Int)<=(a0.length:Int)) then rt (decide (Qi (a1.length:Int).toNat a0=a1)) else none else rt false
def c73:=ct c72 394 [qg,qg] [qd] (u2 Zcu)
theorem o73:EO c73:=sz o72 Tryz.func394
def Zct (a0 a1:List UInt8):O2 (List UInt8) Bool:=
 (Zcu a0 a1).bind λr1=>bif !r1.2.1 then ru a0 false else bif decide (0<=(a1.length:Int))&&decide ((a1.length:Int)<=(a0.length:Int)) then ru (Qm (a1.length:Int).toNat a0) true else none
def c74:=ct c73 283 [qg,qg] [qs,qd] (u2 Zct)
theorem o74:EO c74:=sz o73 Tryz.func283
def Zhf (a0 a1:List UInt8):O2 (List UInt8) Bool:=
 (Zct a0 a1).bind λr1=>ru r1.2.1 r1.2.2.1
def c75:=ct c74 188 [qg,qg] [qs,qd] (u2 Zhf)
theorem o75:EO c75:=sz o74 Tryz.func188
def c76:List (Ct T):=⟨385,none,S_Zhg,true⟩::c75
theorem o76:EnvOk Tryz.prog (mE c76):=eCons Vbxa o75
def Zjs (a0 a1:List UInt8):Option (Unit×List UInt8×List UInt8×Bool×Unit):=
 (Zhg a0 a1).bind λr1=>bif decide (0<=r1.2.1) then bif decide (0<=r1.2.1)&&decide (r1.2.1<=a0.length) then bif decide (0<=Qa .i64 (r1.2.1+(a1.length:Int)))&&decide (Qa .i64 (r1.2.1+(a1.length:Int))<=a0.length) then let v2:=Qm (Qa .i64 (r1.2.1+(a1.length:Int))).toNat a0;some ((),Qi r1.2.1.toNat a0,v2,true,()) else none else none else some ((),a0,[],false,())
def c77:=ct c76 284 [qg,qg] [qs,qs,qd] (u2 Zjs)
theorem o77:EO c77:=sz o76 Tryz.func284
def Zlu (a0 a1:List UInt8):Option (Unit×List UInt8×List UInt8×Bool×Unit):=
 (Zjs a0 a1).bind λr1=>some ((),r1.2.1,r1.2.2.1,r1.2.2.2.1,())
def c78:=ct c77 189 [qg,qg] [qs,qs,qd] (u2 Zlu)
theorem o78:EO c78:=sz o77 Tryz.func189
def Zhr_L0b (y0:List UInt8) (y1 y2 y3:Int):Option (((List UInt8) × Int × Int × Int × Unit)⊕((Int × Bool × Unit) ⊕ (Int × Unit))):=
 bif decide (y3 < y2) then (getI y0 y3).bind λx2=>bif decide (x2.toBitVec.toNat < (48:UInt8).toBitVec.toNat) then some (Qc (Qb (0,false,()))) else bif decide ((57:UInt8).toBitVec.toNat < x2.toBitVec.toNat) then some (Qc (Qb (0,false,()))) else let v3:=((Qf (x2.toBitVec - (48:UInt8).toBitVec)).toBitVec.toNat:Int);let v4:=Qa .i64 (Qa .i64 (10*y1)+v3);some (Qb (y0,v4,y2,Qa .i64 (y3+1),())) else some (Qc (Qc (y1,())))
def Zhr_L0:=Yi4 Zhr_L0b
def Zhr (a0:List UInt8):O2 Int Bool:=
 bif decide ((a0.length:Int) < 1) then ru 0 false else bif decide (5 < (a0.length:Int)) then ru 0 false else (getI a0 (0:Int)).bind λx1=>bif decide (x1.toBitVec=(48:UInt8).toBitVec) then ru 0 false else (Zhr_L0 (a0,(0:Int),(a0.length:Int),(0:Int),())).bind (Qk (λz5=>ru z5.1 z5.2.1) (λz6=>ru z6.1 (decide (z6.1<=65535))))
def c79:=ct c78 190 [qg] [qa,qd] (u1 Zhr)
def s_Zhr_L0:LSpec T:=⟨[(0,qg),(4,qb),(21,qb),(22,qb)],[(.ret,[(2,qb),(3,qm)]),(.exit 0,[(4,qb)])],Zhr_L0,[]⟩
def A_Zhr:Loc2 T:=lcA [(0,s_Zhr_L0)] [] []
theorem Vrg:LO c79 Tryz.f190 0 s_Zhr_L0:=lx o78 A_Zhr dn (λ_=>rfl)
theorem o79:EO c79:=sx o78 A_Zhr Tryz.func190 (dc rfl Vrg dn)
def Zkw (a0:List UInt8):O2 Jf Int:=
 (Zhf a0 ([104,116,116,112,115,58,47,47]:List UInt8)).bind λr1=>(bif !r1.2.2.1 then (Zhf a0 ([104,116,116,112,58,47,47]:List UInt8)).bind λr2=>bif !r2.2.2.1 then (ru ({}:Jf) (2:Int)).bind λq=>some (Qc q) else some (Qb ((({}:Jf),()),r2.2.1,r1.2.2.1,())) else some (Qb ((({}:Jf),()),r1.2.1,r1.2.2.1,()))).bind (Qk (λj3=>(Zlu j3.2.1 ([58]:List UInt8)).bind λr4=>(Zke r4.2.1).bind λr5=>bif !(decide (r5.2.1=0)) then some ((),{},r5.2.1,()) else (Zes j3.2.2.1).bind λr6=>bif r4.2.2.2.1 then (Zhr r4.2.2.1).bind λr7=>bif !r7.2.2.1 then some ((),{},2,()) else bif decide (r7.2.1=r6.2.1) then some ((),{},2,()) else ru ⟨j3.2.2.1,r4.2.1,r7.2.1⟩ 0 else ru ⟨j3.2.2.1,r4.2.1,r6.2.1⟩ 0) some)
def c80:=ct c79 120 [qg] [qad,qa] (u1 Zkw)
theorem o80:EO c80:=sx o79 (lcA [] [(7,[(2,qa7),(4,qg),(5,qm)],false)] []) Tryz.func120 dn
def c81:List (Ct T):=⟨121,none,S_Zcb,true⟩::c80
theorem o81:EnvOk Tryz.prog (mE c81):=eCons Vbya o80
def Zgd (a0:Jae):O2 (List UInt8) Int:=
 let v1:List UInt8:=[112,97,115,115,107,101,121,46,99,114,101,97,116,101];(bif decide (a0.kind=1) then some (Qb ((a0,()),v1,())) else bif decide (a0.kind=2) then let v2:List UInt8:=[112,97,115,115,107,101,121,46,103,101,116];some (Qb ((a0,()),v2,())) else (ru ([]:List UInt8) (3:Int)).bind λq=>some (Qc q)).bind (Qk (λj3=>bif decide ((j3.1.1.jt.length:Int) < 1) then ru [] 9 else bif decide (64 < (j3.1.1.jt.length:Int)) then ru [] 9 else (Zkw j3.1.1.jau).bind λr4=>bif !(decide (r4.2.2.1=0)) then ru [] r4.2.2.1 else bif !(decide (j3.1.1.top=([]:List UInt8))) then bif !j3.1.1.jbz then ru [] 4 else bif Qj (([123,34,116,121,112,101,34,58,34]:List UInt8).length+j3.2.1.length) 9223372036854775807 then let v5:=([123,34,116,121,112,101,34,58,34]:List UInt8)++j3.2.1;bif Qj (v5.length+([34,44,34,99,104,97,108,108,101,110,103,101,34,58,34]:List UInt8).length) 9223372036854775807 then let v6:=v5++[34,44,34,99,104,97,108,108,101,110,103,101,34,58,34];(Zcb j3.1.1.jt).bind λr7=>bif Qj (v6.length+r7.2.1.length) 9223372036854775807 then bif Qj ((v6++r7.2.1).length+([34,44,34,111,114,105,103,105,110,34,58,34]:List UInt8).length) 9223372036854775807 then let v8:=v6++r7.2.1++[34,44,34,111,114,105,103,105,110,34,58,34];bif Qj (v8.length+j3.1.1.jau.length) 9223372036854775807 then bif !j3.1.1.jbz then bif Qj ((v8++j3.1.1.jau).length+([34,44,34,99,114,111,115,115,79,114,105,103,105,110,34,58,102,97,108,115,101,125]:List UInt8).length) 9223372036854775807 then let v9:=v8++j3.1.1.jau++[34,44,34,99,114,111,115,115,79,114,105,103,105,110,34,58,102,97,108,115,101,125];ru v9 0 else none else (Zkw j3.1.1.top).bind λr10=>bif !(decide (r10.2.2.1=0)) then ru [] r10.2.2.1 else bif Qj ((v8++j3.1.1.jau).length+([34,44,34,99,114,111,115,115,79,114,105,103,105,110,34,58,116,114,117,101,44,34,116,111,112,79,114,105,103,105,110,34,58,34]:List UInt8).length) 9223372036854775807 then let v11:=v8++j3.1.1.jau++[34,44,34,99,114,111,115,115,79,114,105,103,105,110,34,58,116,114,117,101,44,34,116,111,112,79,114,105,103,105,110,34,58,34];bif Qj (v11.length+j3.1.1.top.length) 9223372036854775807 then bif Qj ((v11++j3.1.1.top).length+([34,125]:List UInt8).length) 9223372036854775807 then ru (v11++j3.1.1.top++[34,125]) 0 else none else none else none else none else none else none else none else none else bif Qj (([123,34,116,121,112,101,34,58,34]:List UInt8).length+j3.2.1.length) 9223372036854775807 then let v12:=([123,34,116,121,112,101,34,58,34]:List UInt8)++j3.2.1;bif Qj (v12.length+([34,44,34,99,104,97,108,108,101,110,103,101,34,58,34]:List UInt8).length) 9223372036854775807 then let v13:=v12++[34,44,34,99,104,97,108,108,101,110,103,101,34,58,34];(Zcb j3.1.1.jt).bind λr14=>bif Qj (v13.length+r14.2.1.length) 9223372036854775807 then bif Qj ((v13++r14.2.1).length+([34,44,34,111,114,105,103,105,110,34,58,34]:List UInt8).length) 9223372036854775807 then let v15:=v13++r14.2.1++[34,44,34,111,114,105,103,105,110,34,58,34];bif Qj (v15.length+j3.1.1.jau.length) 9223372036854775807 then bif !j3.1.1.jbz then bif Qj ((v15++j3.1.1.jau).length+([34,44,34,99,114,111,115,115,79,114,105,103,105,110,34,58,102,97,108,115,101,125]:List UInt8).length) 9223372036854775807 then let v16:=v15++j3.1.1.jau++[34,44,34,99,114,111,115,115,79,114,105,103,105,110,34,58,102,97,108,115,101,125];ru v16 0 else none else (Zkw j3.1.1.top).bind λr17=>bif !(decide (r17.2.2.1=0)) then ru [] r17.2.2.1 else bif Qj ((v15++j3.1.1.jau).length+([34,44,34,99,114,111,115,115,79,114,105,103,105,110,34,58,116,114,117,101,44,34,116,111,112,79,114,105,103,105,110,34,58,34]:List UInt8).length) 9223372036854775807 then let v18:=v15++j3.1.1.jau++[34,44,34,99,114,111,115,115,79,114,105,103,105,110,34,58,116,114,117,101,44,34,116,111,112,79,114,105,103,105,110,34,58,34];bif Qj (v18.length+j3.1.1.top.length) 9223372036854775807 then bif Qj ((v18++j3.1.1.top).length+([34,125]:List UInt8).length) 9223372036854775807 then ru (v18++j3.1.1.top++[34,125]) 0 else none else none else none else none else none else none else none else none) some)
def c82:=ct c81 63 [(.f (.v (.agg 23)))] [qs,qa] (u1 Zgd)
theorem o82:EO c82:=sx o81 (lcA [] [(7,[(1,(.ptr [(.v (.agg 23))])),(4,qg)],false)] []) Tryz.func63 dn
def Zlp (a0:List UInt8):O1 (List (List UInt8)):=
 (Zke a0).bind λr1=>bif !(decide (r1.2.1=0)) then rt [] else (Zkn a0 ([46]:List UInt8)).bind λr2=>rt r2.2.1
def S_Zlp:FSpec T:=⟨[qg],[(.own 2)],λx=>Zlp x.1⟩
def E_Zlp:Env T:=⟨tab.find,cd,globs,flc,λf ds=>match f with
  | 57=>some S_Zke
  | 113=>some S_Zkn
  | _=>none,λf=>match f with
  | 57=>true
  | _=>false⟩
def A_Zlp:Loc2 T:=⟨λid=>match id with
  | _=>none,λr=>match r with
  | _=>none,λr=>match r with
  | _=>false⟩
theorem Vb2a (x:tySs T S_Zlp.ps):run E_Zlp A_Zlp (Tryz.f123.body.getD .skip) (enterT E_Zlp.C S_Zlp.ps x) (retK E_Zlp Tryz.f123.results.toList S_Zlp.ps S_Zlp.rs)=S_Zlp.fn x:=by kernel_rfl
theorem Vz3:EnvOk Tryz.prog E_Zlp:=envOk (E:=E_Zlp) cd_ok tys fl_ok λf ds S h=>by
  dsimp only [E_Zlp] at h;split at h
  ·cases h; exact Vx8
  ·cases h; exact Vql
  ·cases h
theorem Vb3a:SoundT Tryz.prog cd gdn 123 S_Zlp:=
 Vbi (E:=E_Zlp) (A:=A_Zlp) (done:=[]) (c:=(Tryz.f123.body.getD .skip)) (S:=S_Zlp) (fn:=Tryz.f123) hmix Vz3 Tryz.func123 rfl (by kernel_rfl) (by kernel_rfl) Vaa (by kernel_rfl) (by kernel_rfl) Vb2a
def c83:List (Ct T):=⟨123,none,S_Zlp,false⟩::c82
theorem o83:EnvOk Tryz.prog (mE c83):=eCons Vb3a o82
def Zai_L0b (y0 y1:List (List UInt8)) (y2 y3:Int):Option (((List (List UInt8)) × (List (List UInt8)) × Int × Int × Unit)⊕((Bool × Unit) ⊕ (Unit))):=
 bif decide (y3 < y2) then (getI y0 y3).bind λx1=>(getI y1 y3).bind λx2=>bif !(decide (x1=x2)) then some (Qc (Qb (false,()))) else some (Qb (y0,y1,y2,Qa .i64 (y3+1),())) else some (Qc (Qc ()))
def Zai_L0:=Yi4 Zai_L0b
def Zai (a0 a1:List (List UInt8)):O1 Bool:=
 bif !(decide ((a0.length:Int)=(a1.length:Int))) then rt false else (Zai_L0 (a0,a1,(a0.length:Int),0,())).bind (Qk (λz3=>rt z3.1) (λz4=>rt true))
def c84:=ct c83 285 [qy,qy] [qd] (u2 Zai)
def s_Zai_L0:LSpec T:=⟨[(0,qy),(1,qy),(12,qb),(13,qb)],[(.ret,[(4,qm)]),(.exit 0,[])],Zai_L0,[]⟩
def A_Zai:Loc2 T:=lcA [(0,s_Zai_L0)] [] []
theorem Vrh:LO c84 Tryz.f285 0 s_Zai_L0:=lx o83 A_Zai dn (λ_=>rfl)
theorem o84:EO c84:=sx o83 A_Zai Tryz.func285 (dc rfl Vrh dn)
def Zmi (a0 a1:List (List UInt8)):O1 Bool:=
 bif decide ((a1.length:Int)<=(a0.length:Int)) then let v1:=Qa .i64 ((a0.length:Int) - (a1.length:Int));bif decide (0<=v1)&&decide (v1<=a0.length) then (Zai (Qm v1.toNat a0) a1).bind λr2=>rt r2.2.1 else none else rt false
def c85:=ct c84 192 [qy,qy] [qd] (u2 Zmi)
theorem o85:EO c85:=sz o84 Tryz.func192
def Zlr (a0 a1:List UInt8):O1 Bool:=
 (Zke a0).bind λr1=>bif !(decide (r1.2.1=0)) then rt false else (Zke a1).bind λr2=>bif !(decide (r2.2.1=0)) then rt false else (Zlp a0).bind λr3=>(Zlp a1).bind λr4=>(Zmi r3.2.1 r4.2.1).bind λr5=>rt r5.2.1
def c86:=ct c85 122 [qg,qg] [qd] (u2 Zlr)
theorem o86:EO c86:=sz o85 Tryz.func122
def Zku (a0:Jc) (a1:List (List UInt8)):O1 Bool:=
 (Zjc a0).bind λr1=>bif !(decide (r1.2.2.1=0)) then rt false else (Zmi a1 a0.jd).bind λr2=>bif !r2.2.1 then rt false else bif !a0.jaj then rt true else rt (decide ((a0.jd.length:Int) < (a1.length:Int)))
def c87:=ct c86 193 [(.f qaz),qy] [qd] (u2 Zku)
theorem o87:EO c87:=sz o86 Tryz.func193
def Zlq_L0b (y0:List (List UInt8)) (y1 y2:Int) (y3:List Jc) (y4 y5:Int):Option (((List (List UInt8)) × Int × Int × (List (Jc)) × Int × Int × Unit)⊕(Int × Int × Unit)):=
 bif decide (y5 < y4) then (getI y3 y5).bind λx3=>(Zku x3 y0).bind λr4=>bif !r4.2.1 then some (Qb (y0,y1,y2,y3,y4,Qa .i64 (y5+1),())) else bif x3.jv then let v5:Int:=bif decide (y2 < x3.jd.length) then (x3.jd.length:Int) else y2;some (Qb (y0,y1,v5,y3,y4,Qa .i64 (y5+1),())) else bif x3.jaj then let v6:Int:=bif decide (y1 < Qa .i64 ((x3.jd.length:Int)+1)) then Qa .i64 ((x3.jd.length:Int)+1) else y1;some (Qb (y0,v6,y2,y3,y4,Qa .i64 (y5+1),())) else let v7:Int:=bif decide (y1 < x3.jd.length) then (x3.jd.length:Int) else y1;some (Qb (y0,v7,y2,y3,y4,Qa .i64 (y5+1),())) else some (Qc (y1,y2,()))
def Zlq_L0:=Yi6 Zlq_L0b
def Zlq (a0:List Jc) (a1:List UInt8):O1 Int:=
 (Zlp a1).bind λr1=>bif decide ((r1.2.1.length:Int)=0) then rt 0 else let v2:Int:=bif decide (64 < (a0.length:Int)) then 64 else (a0.length:Int);bif decide (0<=v2)&&decide (v2<=a0.length) then (Zlq_L0 (r1.2.1,(1:Int),(0:Int),Qi v2.toNat a0,((Qi v2.toNat a0).length:Int),(0:Int),())).bind λz8=>bif decide (0 < z8.2.1) then rt (Qa .i64 (z8.2.1 - 1)) else rt z8.1 else none
def c88:=ct c87 124 [qah,qg] [qa] (u2 Zlq)
def s_Zlq_L0:LSpec T:=⟨[(5,qbm),(6,qb),(7,qb),(19,qah),(20,qb),(21,qb)],[(.exit 0,[(6,qb),(7,qb)])],Zlq_L0,[]⟩
def A_Zlq:Loc2 T:=lcA [(0,s_Zlq_L0)] [] []
theorem Vri:LO c88 Tryz.f124 0 s_Zlq_L0:=lx o87 A_Zlq dn (λ_=>rfl)
theorem o88:EO c88:=sx o87 A_Zlq Tryz.func124 (dc rfl Vri dn)
def Zjy (a0:List Jc) (a1:Jf) (a2:List UInt8):O1 Int:=
 (Zke a1.ju).bind λr1=>bif !(decide (r1.2.1=0)) then rt r1.2.1 else (Zke a2).bind λr2=>bif !(decide (r2.2.1=0)) then rt r2.2.1 else bif decide (a2=([108,111,99,97,108,104,111,115,116]:List UInt8)) then bif decide (a1.ju=([108,111,99,97,108,104,111,115,116]:List UInt8)) then rt 0 else bif a1.jp then (Zlr a1.ju a2).bind λr3=>bif r3.2.1 then (Zlp a2).bind λr4=>(Zlq a0 a1.ju).bind λr5=>bif decide (r5.2.1 < r4.2.1.length) then rt 0 else rt 34 else rt 34 else rt 34 else bif a1.jp then (Zlr a1.ju a2).bind λr6=>bif r6.2.1 then (Zlp a2).bind λr7=>(Zlq a0 a1.ju).bind λr8=>bif decide (r8.2.1 < r7.2.1.length) then rt 0 else rt 34 else rt 34 else rt 34
def c89:=ct c88 64 [qah,(.f qad),qg] [qa] (u3 Zjy)
theorem o89:EO c89:=sx o88 (lcA [] [] [9]) Tryz.func64 dn
def Zgc (a0:Jb) (a1:Int) (a2:Jf) (a3:Bool) (a4:List UInt8) (a5:Jr):O2 (List UInt8) Int:=
 bif decide (a1 < 0) then ru [] 9 else bif decide (1099511627776 < a1) then ru [] 9 else (Zkj a2).bind λr1=>bif !(decide (r1.2.2.1=0)) then ru [] r1.2.2.1 else (Zgd (⟨a5.kind,a5.jt,r1.2.1,a3,a4⟩:Jae)).bind λr2=>bif !(decide (r2.2.2.1=0)) then ru [] r2.2.2.1 else (Zjy a0.jah a2 a5.rP).bind λr3=>bif !(decide (r3.2.1=0)) then ru [] r3.2.1 else bif decide (a5.jo < 0) then ru [] 9 else bif decide (2 < a5.jo) then ru [] 9 else ru r2.2.1 0
def S_Zgc:FSpec T:=⟨qbh,[qs,qa],λx=>Zgc x.1 x.2.1 x.2.2.1 x.2.2.2.1 x.2.2.2.2.1 x.2.2.2.2.2.1⟩
theorem Vya:SoundT Tryz.prog cd gdn 29 S_Zgc:=
 sndC hmix o89 (lcA [] [] []) Tryz.func29 Vaa (by kernel_rfl) (by kernel_rfl) λx=>by kernel_rfl
def c90:List (Ct T):=⟨29,none,S_Zgc,true⟩::c89
theorem o90:EnvOk Tryz.prog (mE c90):=eCons Vya o89
def Zmb (a0:BitVec 64) (a1:Int) (a2:List UInt8):O1 (BitVec 64):=
 (Zmc a0 (1#64+Qd 64 a1) a2).bind λr1=>rt r1.2.1
def c91:=ct c90 125 [qf,qb,qe] [qu] (u3 Zmb)
theorem o91:EO c91:=sz o90 Tryz.func125
def Zkc (a0:BitVec 64) (a1:List UInt8) (a2:Int):O1 (BitVec 64):=
 bif small (a1.length+([0]:List UInt8).length) 1 then (Zkt [Qd 64 a2]).bind λr1=>bif small ((a1++[0]).length+(r1.2.1:List UInt8).length) 1 then let v2:=a1++[0]++r1.2.1;(Zmb a0 4 v2).bind λr3=>rt r3.2.1 else none else none
def c92:=ct c91 65 [qf,qg,qb] [qu] (u3 Zkc)
theorem o92:EO c92:=sz o91 Tryz.func65
def Zlm (a0:Jb):O2 Jb (BitVec 64):=
 (Zkc a0.jak [99,108,105,101,110,116] a0.jaa).bind λr1=>ru {a0 with jaa:=Qa .i64 (a0.jaa+1)} r1.2.1
def S_Zlm:FSpec T:=⟨[qb4],[ql,qu],λx=>Zlm x.1⟩
theorem Vyb:SoundT Tryz.prog cd gdn 31 S_Zlm:=
 sndC hmix o92 (lcA [] [] []) Tryz.func31 Vaa (by kernel_rfl) (by kernel_rfl) λx=>by kernel_rfl
def c93:List (Ct T):=⟨31,none,S_Zlm,false⟩::c92
theorem o93:EnvOk Tryz.prog (mE c93):=eCons Vyb o92
def Zmd (a0:BitVec 32):O1 Jaj:=
 rt ⟨a0,0,-1,[],0⟩
def S_Zmd:FSpec T:=⟨[qal],[qbk],λx=>Zmd x.1⟩
theorem Vyc:SoundT Tryz.prog cd gdn 32 S_Zmd:=
 sndC hmix o93 (lcA [] [] []) Tryz.func32 Vaa (by kernel_rfl) (by kernel_rfl) λx=>by kernel_rfl
def c94:List (Ct T):=⟨32,none,S_Zmd,false⟩::c93
theorem o94:EnvOk Tryz.prog (mE c94):=eCons Vyc o93
def Zkz (a0:List UInt8):O1 (List UInt8):=
 bif small (([]:List UInt8).length+(a0:List UInt8).length) 1 then rt (([]:List UInt8)++a0) else none
def c95:=cf c94 66 [qe] [qj] (u1 Zkz)
theorem o95:EO c95:=sz o94 Tryz.func66
def Zkx_L0b (y0:BitVec 32) (y1:List Je) (y2:Int) (y3:List UInt8):Option (((BitVec 32) × (List (Je)) × Int × (List (UInt8)) × Unit)⊕((List (Je)) × Unit)):=
 bif decide (0 < (y3.length:Int)) then let v4:Int:=bif decide (59 < (y3.length:Int)) then 59 else (y3.length:Int);bif decide (0<=v4)&&decide (v4<=y3.length) then (Zkz (Qi v4.toNat y3)).bind λr5=>let v6:List Je:=[⟨y0,false,0,0,y2,r5.2.1⟩];bif small (y1.length+(v6:List Je).length) 56 then bif decide (0<=v4)&&decide (v4<=y3.length) then some (Qb (y0,y1++v6,Qa .i64 (y2+1),Qm v4.toNat y3,())) else none else none else none else some (Qc (y1,()))
def Zkx_L0:=Yi4 Zkx_L0b
def Zkx (a0:BitVec 32) (a1:Int) (a2:List UInt8):O2 (List Je) Int:=
 bif decide (a1 < 1) then ru [] 9 else bif decide (127 < a1) then ru [] 9 else bif decide (4096 < (a2.length:Int)) then ru [] 8 else let v1:Int:=bif decide (57 < (a2.length:Int)) then 57 else (a2.length:Int);bif decide (0<=v1)&&decide (v1<=a2.length) then (Zkz (Qi v1.toNat a2)).bind λr2=>let v3:List Je:=[⟨a0,true,a1,(a2.length:Int),0,r2.2.1⟩];bif decide (0<=v1)&&decide (v1<=a2.length) then (Zkx_L0 (a0,v3,(0:Int),Qm v1.toNat a2,())).bind λz7=>ru z7.1 0 else none else none
def S_Zkx:FSpec T:=⟨[qal,qb,qe],[qax,qa],λx=>Zkx x.1 x.2.1 x.2.2.1⟩
def s_Zkx_L0:LSpec T:=⟨[(0,qal),(9,(.f qax)),(10,qb),(11,qe)],[(.exit 0,[(9,(.f qax))])],Zkx_L0,[]⟩
def A_Zkx:Loc2 T:=lcA [(0,s_Zkx_L0)] [] []
theorem Vrj:LoopOk Tryz.prog (mE c95) Tryz.f33.ntmps (kqOf S_Zkx.ps 0) (loopAt 0 (bodyOf Tryz.f33)) s_Zkx_L0:=
 lpC hmix o95 A_Zkx Vaa 0 (st:=λy=>Zkx_L0b y.1 y.2.1 y.2.2.1 y.2.2.2.1) (λ_=>rfl) (by kernel_rfl) (by kernel_rfl) λx=>by kernel_rfl
theorem Vyd:SoundT Tryz.prog cd gdn 33 S_Zkx:=
 sndC hmix o95 A_Zkx Tryz.func33 (Vah rfl Vrj Vaa) (by kernel_rfl) (by kernel_rfl) λx=>by kernel_rfl
def c96:List (Ct T):=⟨33,none,S_Zkx,false⟩::c95
theorem o96:EnvOk Tryz.prog (mE c96):=eCons Vyd o95
def c97:List (Ct T):=⟨30,none,S_Zlf,false⟩::c96
theorem o97:EnvOk Tryz.prog (mE c97):=eCons Vqm o96
def Zks_L0b (y0:Int) (y1:Jb×Unit) (y2:Int×List UInt8×List UInt8×List UInt8×List UInt8×List (List UInt8)×Int×Int×Bool×Int×Bool×Int×Unit) (y3:Jb×Unit) (y4:Jp×Unit) (y5:List UInt8) (y6 y7:List (List UInt8)) (y8 y9:Int):Option ((Int × (Jb × Unit) × Ybq × (Jb × Unit) × (Jp × Unit) × (List UInt8) × (List (List UInt8)) × (List (List UInt8)) × Int × Int × Unit)⊕(Int × (Jb × Unit) × Ybq × (Jb × Unit) × (Jp × Unit) × (List UInt8) × (List (List UInt8)) × Unit)):=
 bif decide (y9 < y8) then (getI y7 y9).bind λx4=>(Zlf x4).bind λr5=>bif decide (0<=y9)&&decide (y9 < y6.length) then y6[y9.toNat]?.bind λx6=>some (Qb (y0,(y1.1,()),y2,(y3.1,()),(y4.1,()),y5,Ql y6 y9.toNat r5.2.1,y7,y8,Qa .i64 (y9+1),())) else none else some (Qc (y0,(y1.1,()),y2,(y3.1,()),(y4.1,()),y5,y6,()))
def Zks_L0:=Yi10 Zks_L0b
def Zks (a0:Jb) (a1:Int) (a2:Jf) (a3:Bool) (a4:List UInt8) (a5:Jr):Option (Unit×Jb×List Je×Jp×Unit):=
 bif !(decide (a0.jy=0)) then some ((),a0,[],⟨true,32,{}⟩,()) else (Zgc a0 a1 a2 a3 a4 a5).bind λr1=>bif !(decide (r1.2.2.1=0)) then some ((),a0,[],⟨true,r1.2.2.1,{}⟩,()) else (Zlf a5.jt).bind λr2=>bif decide (0<=(a5.list.length:Int))&&(decide ((a5.list.length:Int)<=(a5.list.length:Int))&&decide (24*(a5.list.length:Int)<=281474976710656/\(a5.list.length:Int)<=9223372036854775807)) then let v3:=Qo (a5.list.length:Int).toNat [];(Zks_L0 (a1,(a0,()),(a5.kind,a5.rP,r2.2.1,a5.user,a5.name,a5.list,a5.jr,a5.jag,a5.jw,a5.jo,a5.jal,a5.jm,()),(({}:Jb),()),(({}:Jp),()),r1.2.1,v3,a5.list,(a5.list.length:Int),(0:Int),())).bind λz7=>(Zlm ({z7.2.1.1 with js:=⟨z7.2.2.1.1,z7.2.2.1.2.1,z7.2.2.1.2.2.1,z7.2.2.1.2.2.2.1,z7.2.2.1.2.2.2.2.1,z7.2.2.2.2.2.2.1,z7.2.2.1.2.2.2.2.2.2.1,z7.2.2.1.2.2.2.2.2.2.2.1,z7.2.2.1.2.2.2.2.2.2.2.2.1,z7.2.2.1.2.2.2.2.2.2.2.2.2.1,z7.2.2.1.2.2.2.2.2.2.2.2.2.2.1,z7.2.2.1.2.2.2.2.2.2.2.2.2.2.2.1⟩,data:=z7.2.2.2.2.2.1,jam:=z7.1}:Jb)).bind λr8=>(Zmd 4294967295#32).bind λr9=>(Zkt [r8.2.2.1]).bind λr10=>(Zkx 4294967295#32 (6:Int) r10.2.1).bind λr11=>some ((),{r8.2.1 with jy:=1,ji:=r9.2.1,jbw:=r8.2.2.1},r11.2.1,{},()) else none
def S_Zks:FSpec T:=⟨qbh,[ql,qax,qab],λx=>Zks x.1 x.2.1 x.2.2.1 x.2.2.2.1 x.2.2.2.2.1 x.2.2.2.2.2.1⟩
def E_Zks:Env T:=⟨tab.find,cd,globs,flc,λf ds=>match f with
  | 29=>some S_Zgc
  | 30=>some S_Zlf
  | 31=>some S_Zlm
  | 32=>some S_Zmd
  | 33=>some S_Zkx
  | 34=>some S_Zkt
  | _=>none,λf=>match f with
  | 29=>true
  | _=>false⟩
def A_Zks:Loc2 T:=⟨λid=>match id with
  | 0=>some ⟨[(1,.f (.v (.int .i64))),(6,.ptr [(.v (.agg 13))]),(11,.ptr [(.v (.int .i64)),(.v .str),(.own 0),(.v .str),(.v .str),(.v (.rs 8)),(.v (.int .i64)),(.v (.int .i64)),(.v .bool),(.v (.int .i64)),(.v .bool),(.v (.int .i64))]),(12,.ptr [(.v (.agg 13))]),(14,.ptr [(.v (.agg 24))]),(15,.f (.v .str)),(17,.f (.own 8)),(51,.f (.v (.rs 8))),(52,.f (.v (.int .i64))),(53,.f (.v (.int .i64)))],[(.exit 0,[(1,.f (.v (.int .i64))),(6,.ptr [(.v (.agg 13))]),(11,.ptr [(.v (.int .i64)),(.v .str),(.own 0),(.v .str),(.v .str),(.v (.rs 8)),(.v (.int .i64)),(.v (.int .i64)),(.v .bool),(.v (.int .i64)),(.v .bool),(.v (.int .i64))]),(12,.ptr [(.v (.agg 13))]),(14,.ptr [(.v (.agg 24))]),(15,.f (.v .str)),(17,.f (.own 8))])],Zks_L0,[]⟩
  | _=>none,λr=>match r with
  | _=>none,λr=>match r with
  | _=>false⟩
theorem Vrk (y0:Int) (y1:(Jb×Unit)) (y2:Ybq) (y3:(Jb×Unit)) (y4:(Jp×Unit)) (y5:(List UInt8)) (y6:(List (List UInt8))) (y7:(List (List UInt8))) (y8:Int) (y9:Int):run E_Zks A_Zks (loopAt 0 (Tryz.f13.body.getD .skip)) (layC cd [(1,.f (.v (.int .i64))),(6,.ptr [(.v (.agg 13))]),(11,.ptr [(.v (.int .i64)),(.v .str),(.own 0),(.v .str),(.v .str),(.v (.rs 8)),(.v (.int .i64)),(.v (.int .i64)),(.v .bool),(.v (.int .i64)),(.v .bool),(.v (.int .i64))]),(12,.ptr [(.v (.agg 13))]),(14,.ptr [(.v (.agg 24))]),(15,.f (.v .str)),(17,.f (.own 8)),(51,.f (.v (.rs 8))),(52,.f (.v (.int .i64))),(53,.f (.v (.int .i64)))] [] (y0,y1,y2,y3,y4,y5,y6,y7,y8,y9,())) (roundK cd [(1,.f (.v (.int .i64))),(6,.ptr [(.v (.agg 13))]),(11,.ptr [(.v (.int .i64)),(.v .str),(.own 0),(.v .str),(.v .str),(.v (.rs 8)),(.v (.int .i64)),(.v (.int .i64)),(.v .bool),(.v (.int .i64)),(.v .bool),(.v (.int .i64))]),(12,.ptr [(.v (.agg 13))]),(14,.ptr [(.v (.agg 24))]),(15,.f (.v .str)),(17,.f (.own 8)),(51,.f (.v (.rs 8))),(52,.f (.v (.int .i64))),(53,.f (.v (.int .i64)))] [] [(.exit 0,[(1,.f (.v (.int .i64))),(6,.ptr [(.v (.agg 13))]),(11,.ptr [(.v (.int .i64)),(.v .str),(.own 0),(.v .str),(.v .str),(.v (.rs 8)),(.v (.int .i64)),(.v (.int .i64)),(.v .bool),(.v (.int .i64)),(.v .bool),(.v (.int .i64))]),(12,.ptr [(.v (.agg 13))]),(14,.ptr [(.v (.agg 24))]),(15,.f (.v .str)),(17,.f (.own 8))])])=Zks_L0b y0 y1 y2 y3 y4 y5 y6 y7 y8 y9:=by kernel_rfl
theorem Vb4a (x:tySs T S_Zks.ps):run E_Zks A_Zks (Tryz.f13.body.getD .skip) (enterT E_Zks.C S_Zks.ps x) (retK E_Zks Tryz.f13.results.toList S_Zks.ps S_Zks.rs)=S_Zks.fn x:=by kernel_rfl
theorem Vrl:EnvOk Tryz.prog E_Zks:=envOk (E:=E_Zks) cd_ok tys fl_ok λf ds S h=>by
  dsimp only [E_Zks] at h;split at h
  ·cases h; exact Vya
  ·cases h; exact Vqm
  ·cases h; exact Vyb
  ·cases h; exact Vyc
  ·cases h; exact Vyd
  ·cases h; exact Vx3
  ·cases h
theorem Vrm:LoopOk Tryz.prog E_Zks Tryz.f13.ntmps (kqOf S_Zks.ps 0) (loopAt 0 (Tryz.f13.body.getD .skip)) ⟨[(1,.f (.v (.int .i64))),(6,.ptr [(.v (.agg 13))]),(11,.ptr [(.v (.int .i64)),(.v .str),(.own 0),(.v .str),(.v .str),(.v (.rs 8)),(.v (.int .i64)),(.v (.int .i64)),(.v .bool),(.v (.int .i64)),(.v .bool),(.v (.int .i64))]),(12,.ptr [(.v (.agg 13))]),(14,.ptr [(.v (.agg 24))]),(15,.f (.v .str)),(17,.f (.own 8)),(51,.f (.v (.rs 8))),(52,.f (.v (.int .i64))),(53,.f (.v (.int .i64)))],[(.exit 0,[(1,.f (.v (.int .i64))),(6,.ptr [(.v (.agg 13))]),(11,.ptr [(.v (.int .i64)),(.v .str),(.own 0),(.v .str),(.v .str),(.v (.rs 8)),(.v (.int .i64)),(.v (.int .i64)),(.v .bool),(.v (.int .i64)),(.v .bool),(.v (.int .i64))]),(12,.ptr [(.v (.agg 13))]),(14,.ptr [(.v (.agg 24))]),(15,.f (.v .str)),(17,.f (.own 8))])],Zks_L0,[]⟩:=
 Vd5 (A:=A_Zks) (done:=[]) (c0:=(Tryz.f13.body.getD .skip)) hmix Vrl Vaa rounds (by kernel_rfl) (by kernel_rfl) (λx=>Vrk x.1 x.2.1 x.2.2.1 x.2.2.2.1 x.2.2.2.2.1 x.2.2.2.2.2.1 x.2.2.2.2.2.2.1 x.2.2.2.2.2.2.2.1 x.2.2.2.2.2.2.2.2.1 x.2.2.2.2.2.2.2.2.2.1) (λ_=>rfl)
theorem Vb5a:SoundT Tryz.prog cd gdn 13 S_Zks:=
 Vbi (E:=E_Zks) (A:=A_Zks) (done:=[0]) (c:=(Tryz.f13.body.getD .skip)) (S:=S_Zks) (fn:=Tryz.f13) hmix Vrl Tryz.func13 rfl (by kernel_rfl) (by kernel_rfl) (Vah rfl Vrm Vaa) (by kernel_rfl) (by kernel_rfl) Vb4a
def c98:List (Ct T):=⟨13,none,S_Zks,false⟩::c97
theorem o98:EnvOk Tryz.prog (mE c98):=eCons Vb5a o97
def Zgx (a0:Jac):O1 Jac:=
 rt {jz:=a0.jz}
def c99:=cf c98 141 [(.f qaq)] [qaq] (u1 Zgx)
theorem o99:EO c99:=sz o98 Tryz.func141
def Zgw (a0:Jac) (a1:Int):O2 Jac Jaa:=
 bif decide (a1 < 0) then some ((),a0,{},()) else bif decide (1099511627776 < a1) then some ((),a0,{},()) else bif !(decide (a0.jbj=1)) then some ((),a0,{},()) else bif decide (Qa .i64 (a1 - a0.jam)<=20) then some ((),a0,{},()) else (Zgx a0).bind λr1=>none
def c100:=cf c99 130 [(.f qaq),qb] [qaq,qas] (u2 Zgw)
theorem o100:EO c100:=sx o99 (lcA [] [] [3]) Tryz.func130 dn
def Zeb_L1b (y0:Je×Unit) (y1:List UInt8) (y2 y3:Int):Option (((Je × Unit) × (List (UInt8)) × Int × Int × Unit)⊕((List (UInt8)) × Unit)):=
 bif decide (y3 < y0.1.data.length) then (getI y0.1.data y3).bind λx20=>bif decide (0<=Qa .i64 (y2+y3))&&decide (Qa .i64 (y2+y3) < y1.length) then y1[(Qa .i64 (y2+y3)).toNat]?.bind λx21=>let v22:=Ql y1 (Qa .i64 (y2+y3)).toNat x20;some (Qb ((y0.1,()),v22,y2,Qa .i64 (y3+1),())) else none else some (Qc (y1,()))
def Zeb_L1:=Yi4 Zeb_L1b
def Zeb (a0:Je):O2 (List UInt8) Int:=
 (bif a0.first then bif decide (a0.jf < 1) then (ru [] (9:Int)).bind λq=>some (Qc q) else bif decide (127 < a0.jf) then (ru [] (9:Int)).bind λq=>some (Qc q) else bif decide (a0.length < 0) then (ru [] (9:Int)).bind λq=>some (Qc q) else bif decide (65535 < a0.length) then bif decide (65535 < a0.length) then (ru [] (9:Int)).bind λq=>some (Qc q) else bif a0.first then bif !(decide (a0.seq=0)) then bif !(decide (a0.seq=0)) then (ru [] (4:Int)).bind λq=>some (Qc q) else bif a0.first then bif decide (57 < (a0.data.length:Int)) then bif decide (57 < (a0.data.length:Int)) then (ru [] (8:Int)).bind λq=>some (Qc q) else some (Qb ((a0,()),())) else bif !a0.first then bif decide (59 < (a0.data.length:Int)) then (ru [] (8:Int)).bind λq=>some (Qc q) else some (Qb ((a0,()),())) else some (Qb ((a0,()),())) else bif !a0.first then bif decide (59 < (a0.data.length:Int)) then (ru [] (8:Int)).bind λq=>some (Qc q) else some (Qb ((a0,()),())) else some (Qb ((a0,()),())) else bif !a0.first then bif !(decide (a0.jf=0)) then (ru [] (4:Int)).bind λq=>some (Qc q) else bif !(decide (a0.length=0)) then (ru [] (4:Int)).bind λq=>some (Qc q) else bif a0.first then bif decide (57 < (a0.data.length:Int)) then bif decide (57 < (a0.data.length:Int)) then (ru [] (8:Int)).bind λq=>some (Qc q) else some (Qb ((a0,()),())) else bif !a0.first then bif decide (59 < (a0.data.length:Int)) then (ru [] (8:Int)).bind λq=>some (Qc q) else some (Qb ((a0,()),())) else some (Qb ((a0,()),())) else bif !a0.first then bif decide (59 < (a0.data.length:Int)) then (ru [] (8:Int)).bind λq=>some (Qc q) else some (Qb ((a0,()),())) else some (Qb ((a0,()),())) else bif a0.first then bif decide (57 < (a0.data.length:Int)) then bif decide (57 < (a0.data.length:Int)) then (ru [] (8:Int)).bind λq=>some (Qc q) else some (Qb ((a0,()),())) else bif !a0.first then bif decide (59 < (a0.data.length:Int)) then (ru [] (8:Int)).bind λq=>some (Qc q) else some (Qb ((a0,()),())) else some (Qb ((a0,()),())) else bif !a0.first then bif decide (59 < (a0.data.length:Int)) then (ru [] (8:Int)).bind λq=>some (Qc q) else some (Qb ((a0,()),())) else some (Qb ((a0,()),())) else bif !a0.first then bif !(decide (a0.jf=0)) then (ru [] (4:Int)).bind λq=>some (Qc q) else bif !(decide (a0.length=0)) then (ru [] (4:Int)).bind λq=>some (Qc q) else bif a0.first then bif decide (57 < (a0.data.length:Int)) then bif decide (57 < (a0.data.length:Int)) then (ru [] (8:Int)).bind λq=>some (Qc q) else some (Qb ((a0,()),())) else bif !a0.first then bif decide (59 < (a0.data.length:Int)) then (ru [] (8:Int)).bind λq=>some (Qc q) else some (Qb ((a0,()),())) else some (Qb ((a0,()),())) else bif !a0.first then bif decide (59 < (a0.data.length:Int)) then (ru [] (8:Int)).bind λq=>some (Qc q) else some (Qb ((a0,()),())) else some (Qb ((a0,()),())) else bif a0.first then bif decide (57 < (a0.data.length:Int)) then bif decide (57 < (a0.data.length:Int)) then (ru [] (8:Int)).bind λq=>some (Qc q) else some (Qb ((a0,()),())) else bif !a0.first then bif decide (59 < (a0.data.length:Int)) then (ru [] (8:Int)).bind λq=>some (Qc q) else some (Qb ((a0,()),())) else some (Qb ((a0,()),())) else bif !a0.first then bif decide (59 < (a0.data.length:Int)) then (ru [] (8:Int)).bind λq=>some (Qc q) else some (Qb ((a0,()),())) else some (Qb ((a0,()),())) else bif !a0.first then bif decide (a0.seq < 0) then (ru [] (9:Int)).bind λq=>some (Qc q) else bif decide (127 < a0.seq) then (ru [] (9:Int)).bind λq=>some (Qc q) else bif a0.first then bif !(decide (a0.seq=0)) then bif !(decide (a0.seq=0)) then (ru [] (4:Int)).bind λq=>some (Qc q) else bif a0.first then bif decide (57 < (a0.data.length:Int)) then bif decide (57 < (a0.data.length:Int)) then (ru [] (8:Int)).bind λq=>some (Qc q) else some (Qb ((a0,()),())) else bif !a0.first then bif decide (59 < (a0.data.length:Int)) then (ru [] (8:Int)).bind λq=>some (Qc q) else some (Qb ((a0,()),())) else some (Qb ((a0,()),())) else bif !a0.first then bif decide (59 < (a0.data.length:Int)) then (ru [] (8:Int)).bind λq=>some (Qc q) else some (Qb ((a0,()),())) else some (Qb ((a0,()),())) else bif !a0.first then bif !(decide (a0.jf=0)) then (ru [] (4:Int)).bind λq=>some (Qc q) else bif !(decide (a0.length=0)) then (ru [] (4:Int)).bind λq=>some (Qc q) else bif a0.first then bif decide (57 < (a0.data.length:Int)) then bif decide (57 < (a0.data.length:Int)) then (ru [] (8:Int)).bind λq=>some (Qc q) else some (Qb ((a0,()),())) else bif !a0.first then bif decide (59 < (a0.data.length:Int)) then (ru [] (8:Int)).bind λq=>some (Qc q) else some (Qb ((a0,()),())) else some (Qb ((a0,()),())) else bif !a0.first then bif decide (59 < (a0.data.length:Int)) then (ru [] (8:Int)).bind λq=>some (Qc q) else some (Qb ((a0,()),())) else some (Qb ((a0,()),())) else bif a0.first then bif decide (57 < (a0.data.length:Int)) then bif decide (57 < (a0.data.length:Int)) then (ru [] (8:Int)).bind λq=>some (Qc q) else some (Qb ((a0,()),())) else bif !a0.first then bif decide (59 < (a0.data.length:Int)) then (ru [] (8:Int)).bind λq=>some (Qc q) else some (Qb ((a0,()),())) else some (Qb ((a0,()),())) else bif !a0.first then bif decide (59 < (a0.data.length:Int)) then (ru [] (8:Int)).bind λq=>some (Qc q) else some (Qb ((a0,()),())) else some (Qb ((a0,()),())) else bif !a0.first then bif !(decide (a0.jf=0)) then (ru [] (4:Int)).bind λq=>some (Qc q) else bif !(decide (a0.length=0)) then (ru [] (4:Int)).bind λq=>some (Qc q) else bif a0.first then bif decide (57 < (a0.data.length:Int)) then bif decide (57 < (a0.data.length:Int)) then (ru [] (8:Int)).bind λq=>some (Qc q) else some (Qb ((a0,()),())) else bif !a0.first then bif decide (59 < (a0.data.length:Int)) then (ru [] (8:Int)).bind λq=>some (Qc q) else some (Qb ((a0,()),())) else some (Qb ((a0,()),())) else bif !a0.first then bif decide (59 < (a0.data.length:Int)) then (ru [] (8:Int)).bind λq=>some (Qc q) else some (Qb ((a0,()),())) else some (Qb ((a0,()),())) else bif a0.first then bif decide (57 < (a0.data.length:Int)) then bif decide (57 < (a0.data.length:Int)) then (ru [] (8:Int)).bind λq=>some (Qc q) else some (Qb ((a0,()),())) else bif !a0.first then bif decide (59 < (a0.data.length:Int)) then (ru [] (8:Int)).bind λq=>some (Qc q) else some (Qb ((a0,()),())) else some (Qb ((a0,()),())) else bif !a0.first then bif decide (59 < (a0.data.length:Int)) then (ru [] (8:Int)).bind λq=>some (Qc q) else some (Qb ((a0,()),())) else some (Qb ((a0,()),())) else bif a0.first then bif !(decide (a0.seq=0)) then bif !(decide (a0.seq=0)) then (ru [] (4:Int)).bind λq=>some (Qc q) else bif a0.first then bif decide (57 < (a0.data.length:Int)) then bif decide (57 < (a0.data.length:Int)) then (ru [] (8:Int)).bind λq=>some (Qc q) else some (Qb ((a0,()),())) else bif !a0.first then bif decide (59 < (a0.data.length:Int)) then (ru [] (8:Int)).bind λq=>some (Qc q) else some (Qb ((a0,()),())) else some (Qb ((a0,()),())) else bif !a0.first then bif decide (59 < (a0.data.length:Int)) then (ru [] (8:Int)).bind λq=>some (Qc q) else some (Qb ((a0,()),())) else some (Qb ((a0,()),())) else bif !a0.first then bif !(decide (a0.jf=0)) then (ru [] (4:Int)).bind λq=>some (Qc q) else bif !(decide (a0.length=0)) then (ru [] (4:Int)).bind λq=>some (Qc q) else bif a0.first then bif decide (57 < (a0.data.length:Int)) then bif decide (57 < (a0.data.length:Int)) then (ru [] (8:Int)).bind λq=>some (Qc q) else some (Qb ((a0,()),())) else bif !a0.first then bif decide (59 < (a0.data.length:Int)) then (ru [] (8:Int)).bind λq=>some (Qc q) else some (Qb ((a0,()),())) else some (Qb ((a0,()),())) else bif !a0.first then bif decide (59 < (a0.data.length:Int)) then (ru [] (8:Int)).bind λq=>some (Qc q) else some (Qb ((a0,()),())) else some (Qb ((a0,()),())) else bif a0.first then bif decide (57 < (a0.data.length:Int)) then bif decide (57 < (a0.data.length:Int)) then (ru [] (8:Int)).bind λq=>some (Qc q) else some (Qb ((a0,()),())) else bif !a0.first then bif decide (59 < (a0.data.length:Int)) then (ru [] (8:Int)).bind λq=>some (Qc q) else some (Qb ((a0,()),())) else some (Qb ((a0,()),())) else bif !a0.first then bif decide (59 < (a0.data.length:Int)) then (ru [] (8:Int)).bind λq=>some (Qc q) else some (Qb ((a0,()),())) else some (Qb ((a0,()),())) else bif !a0.first then bif !(decide (a0.jf=0)) then (ru [] (4:Int)).bind λq=>some (Qc q) else bif !(decide (a0.length=0)) then (ru [] (4:Int)).bind λq=>some (Qc q) else bif a0.first then bif decide (57 < (a0.data.length:Int)) then bif decide (57 < (a0.data.length:Int)) then (ru [] (8:Int)).bind λq=>some (Qc q) else some (Qb ((a0,()),())) else bif !a0.first then bif decide (59 < (a0.data.length:Int)) then (ru [] (8:Int)).bind λq=>some (Qc q) else some (Qb ((a0,()),())) else some (Qb ((a0,()),())) else bif !a0.first then bif decide (59 < (a0.data.length:Int)) then (ru [] (8:Int)).bind λq=>some (Qc q) else some (Qb ((a0,()),())) else some (Qb ((a0,()),())) else bif a0.first then bif decide (57 < (a0.data.length:Int)) then bif decide (57 < (a0.data.length:Int)) then (ru [] (8:Int)).bind λq=>some (Qc q) else some (Qb ((a0,()),())) else bif !a0.first then bif decide (59 < (a0.data.length:Int)) then (ru [] (8:Int)).bind λq=>some (Qc q) else some (Qb ((a0,()),())) else some (Qb ((a0,()),())) else bif !a0.first then bif decide (59 < (a0.data.length:Int)) then (ru [] (8:Int)).bind λq=>some (Qc q) else some (Qb ((a0,()),())) else some (Qb ((a0,()),())) else bif !a0.first then bif decide (a0.seq < 0) then (ru [] (9:Int)).bind λq=>some (Qc q) else bif decide (127 < a0.seq) then (ru [] (9:Int)).bind λq=>some (Qc q) else bif a0.first then bif !(decide (a0.seq=0)) then bif !(decide (a0.seq=0)) then (ru [] (4:Int)).bind λq=>some (Qc q) else bif a0.first then bif decide (57 < (a0.data.length:Int)) then bif decide (57 < (a0.data.length:Int)) then (ru [] (8:Int)).bind λq=>some (Qc q) else some (Qb ((a0,()),())) else bif !a0.first then bif decide (59 < (a0.data.length:Int)) then (ru [] (8:Int)).bind λq=>some (Qc q) else some (Qb ((a0,()),())) else some (Qb ((a0,()),())) else bif !a0.first then bif decide (59 < (a0.data.length:Int)) then (ru [] (8:Int)).bind λq=>some (Qc q) else some (Qb ((a0,()),())) else some (Qb ((a0,()),())) else bif !a0.first then bif !(decide (a0.jf=0)) then (ru [] (4:Int)).bind λq=>some (Qc q) else bif !(decide (a0.length=0)) then (ru [] (4:Int)).bind λq=>some (Qc q) else bif a0.first then bif decide (57 < (a0.data.length:Int)) then bif decide (57 < (a0.data.length:Int)) then (ru [] (8:Int)).bind λq=>some (Qc q) else some (Qb ((a0,()),())) else bif !a0.first then bif decide (59 < (a0.data.length:Int)) then (ru [] (8:Int)).bind λq=>some (Qc q) else some (Qb ((a0,()),())) else some (Qb ((a0,()),())) else bif !a0.first then bif decide (59 < (a0.data.length:Int)) then (ru [] (8:Int)).bind λq=>some (Qc q) else some (Qb ((a0,()),())) else some (Qb ((a0,()),())) else bif a0.first then bif decide (57 < (a0.data.length:Int)) then bif decide (57 < (a0.data.length:Int)) then (ru [] (8:Int)).bind λq=>some (Qc q) else some (Qb ((a0,()),())) else bif !a0.first then bif decide (59 < (a0.data.length:Int)) then (ru [] (8:Int)).bind λq=>some (Qc q) else some (Qb ((a0,()),())) else some (Qb ((a0,()),())) else bif !a0.first then bif decide (59 < (a0.data.length:Int)) then (ru [] (8:Int)).bind λq=>some (Qc q) else some (Qb ((a0,()),())) else some (Qb ((a0,()),())) else bif !a0.first then bif !(decide (a0.jf=0)) then (ru [] (4:Int)).bind λq=>some (Qc q) else bif !(decide (a0.length=0)) then (ru [] (4:Int)).bind λq=>some (Qc q) else bif a0.first then bif decide (57 < (a0.data.length:Int)) then bif decide (57 < (a0.data.length:Int)) then (ru [] (8:Int)).bind λq=>some (Qc q) else some (Qb ((a0,()),())) else bif !a0.first then bif decide (59 < (a0.data.length:Int)) then (ru [] (8:Int)).bind λq=>some (Qc q) else some (Qb ((a0,()),())) else some (Qb ((a0,()),())) else bif !a0.first then bif decide (59 < (a0.data.length:Int)) then (ru [] (8:Int)).bind λq=>some (Qc q) else some (Qb ((a0,()),())) else some (Qb ((a0,()),())) else bif a0.first then bif decide (57 < (a0.data.length:Int)) then bif decide (57 < (a0.data.length:Int)) then (ru [] (8:Int)).bind λq=>some (Qc q) else some (Qb ((a0,()),())) else bif !a0.first then bif decide (59 < (a0.data.length:Int)) then (ru [] (8:Int)).bind λq=>some (Qc q) else some (Qb ((a0,()),())) else some (Qb ((a0,()),())) else bif !a0.first then bif decide (59 < (a0.data.length:Int)) then (ru [] (8:Int)).bind λq=>some (Qc q) else some (Qb ((a0,()),())) else some (Qb ((a0,()),())) else bif a0.first then bif !(decide (a0.seq=0)) then bif !(decide (a0.seq=0)) then (ru [] (4:Int)).bind λq=>some (Qc q) else bif a0.first then bif decide (57 < (a0.data.length:Int)) then bif decide (57 < (a0.data.length:Int)) then (ru [] (8:Int)).bind λq=>some (Qc q) else some (Qb ((a0,()),())) else bif !a0.first then bif decide (59 < (a0.data.length:Int)) then (ru [] (8:Int)).bind λq=>some (Qc q) else some (Qb ((a0,()),())) else some (Qb ((a0,()),())) else bif !a0.first then bif decide (59 < (a0.data.length:Int)) then (ru [] (8:Int)).bind λq=>some (Qc q) else some (Qb ((a0,()),())) else some (Qb ((a0,()),())) else bif !a0.first then bif !(decide (a0.jf=0)) then (ru [] (4:Int)).bind λq=>some (Qc q) else bif !(decide (a0.length=0)) then (ru [] (4:Int)).bind λq=>some (Qc q) else bif a0.first then bif decide (57 < (a0.data.length:Int)) then bif decide (57 < (a0.data.length:Int)) then (ru [] (8:Int)).bind λq=>some (Qc q) else some (Qb ((a0,()),())) else bif !a0.first then bif decide (59 < (a0.data.length:Int)) then (ru [] (8:Int)).bind λq=>some (Qc q) else some (Qb ((a0,()),())) else some (Qb ((a0,()),())) else bif !a0.first then bif decide (59 < (a0.data.length:Int)) then (ru [] (8:Int)).bind λq=>some (Qc q) else some (Qb ((a0,()),())) else some (Qb ((a0,()),())) else bif a0.first then bif decide (57 < (a0.data.length:Int)) then bif decide (57 < (a0.data.length:Int)) then (ru [] (8:Int)).bind λq=>some (Qc q) else some (Qb ((a0,()),())) else bif !a0.first then bif decide (59 < (a0.data.length:Int)) then (ru [] (8:Int)).bind λq=>some (Qc q) else some (Qb ((a0,()),())) else some (Qb ((a0,()),())) else bif !a0.first then bif decide (59 < (a0.data.length:Int)) then (ru [] (8:Int)).bind λq=>some (Qc q) else some (Qb ((a0,()),())) else some (Qb ((a0,()),())) else bif !a0.first then bif !(decide (a0.jf=0)) then (ru [] (4:Int)).bind λq=>some (Qc q) else bif !(decide (a0.length=0)) then (ru [] (4:Int)).bind λq=>some (Qc q) else bif a0.first then bif decide (57 < (a0.data.length:Int)) then bif decide (57 < (a0.data.length:Int)) then (ru [] (8:Int)).bind λq=>some (Qc q) else some (Qb ((a0,()),())) else bif !a0.first then bif decide (59 < (a0.data.length:Int)) then (ru [] (8:Int)).bind λq=>some (Qc q) else some (Qb ((a0,()),())) else some (Qb ((a0,()),())) else bif !a0.first then bif decide (59 < (a0.data.length:Int)) then (ru [] (8:Int)).bind λq=>some (Qc q) else some (Qb ((a0,()),())) else some (Qb ((a0,()),())) else bif a0.first then bif decide (57 < (a0.data.length:Int)) then bif decide (57 < (a0.data.length:Int)) then (ru [] (8:Int)).bind λq=>some (Qc q) else some (Qb ((a0,()),())) else bif !a0.first then bif decide (59 < (a0.data.length:Int)) then (ru [] (8:Int)).bind λq=>some (Qc q) else some (Qb ((a0,()),())) else some (Qb ((a0,()),())) else bif !a0.first then bif decide (59 < (a0.data.length:Int)) then (ru [] (8:Int)).bind λq=>some (Qc q) else some (Qb ((a0,()),())) else some (Qb ((a0,()),()))).bind (Qk (λj1=>let v2:=Qo 64 (0:UInt8);v2[0]?.bind λx3=>let v4:=Ql v2 0 (Qf (Qh 8 (j1.1.1.je>>>24)));v4[1]?.bind λx5=>let v6:=Ql v4 1 (Qf (Qh 8 (j1.1.1.je>>>16)));v6[2]?.bind λx7=>let v8:=Ql v6 2 (Qf (Qh 8 (j1.1.1.je>>>8)));v8[3]?.bind λx9=>let v10:=Ql v8 3 (Qf (Qh 8 j1.1.1.je));(bif j1.1.1.first then let v11:=Qf (Qd 8 (Qa .i64 (128+j1.1.1.jf)));let v12:=Qf (Qd 8 (Qn j1.1.1.length (2 ^ min 8 (Qg .i64))));v10[4]?.bind λx13=>(Ql v10 4 v11)[5]?.bind λx14=>(Ql (Ql v10 4 v11) 5 v12)[6]?.bind λx15=>let v16:=Ql (Ql (Ql v10 4 v11) 5 v12) 6 (Qf (Qd 8 j1.1.1.length));some ((j1.1.1,()),v16,(7:Int),()) else v10[4]?.bind λx17=>let v18:=Ql v10 4 (Qf (Qd 8 j1.1.1.seq));some ((j1.1.1,()),v18,(5:Int),())).bind λj19=>(Zeb_L1 ((j19.1.1,()),j19.2.1,j19.2.2.1,0,())).bind λz23=>ru z23.1 0) some)
def c101:=cf c100 131 [qbt] [qj,qa] (u1 Zeb)
def s_Zeb_L1:LSpec T:=⟨[(1,qbw),(4,qao),(5,qb),(6,qb)],[(.exit 1,[(4,qao)])],Zeb_L1,[]⟩
def A_Zeb:Loc2 T:=lcA [(1,s_Zeb_L1)] [(10,[(1,qbw)],false),(17,[(1,qbw),(4,qao),(5,qb)],true)] [11,14]
theorem Vrn:LO c101 Tryz.f131 1 s_Zeb_L1:=lx o100 A_Zeb dn (λ_=>rfl)
theorem o101:EO c101:=sx o100 A_Zeb Tryz.func131 (dc rfl Vrn dn)
def Zee_L0b (y0:Int) (y1:List UInt8):Option ((Int × (List (UInt8)) × Unit)⊕((List (UInt8)) × Unit)):=
 bif decide (y1.length < y0) then bif small (y1.length+([0]:List UInt8).length) 1 then some (Qb (y0,y1++[0],())) else none else some (Qc (y1,()))
def Zee_L0:=Yi2 Zee_L0b
def Zee (a0:Je):O1 (List UInt8):=
 (bif a0.first then some ((a0,()),(57:Int),()) else some ((a0,()),(59:Int),())).bind λj1=>bif small j1.1.1.data.length 1 then (Zee_L0 (j1.2.1,j1.1.1.data,())).bind λz2=>rt z2.1 else none
def c102:=cf c101 204 [qbt] [qj] (u1 Zee)
def s_Zee_L0:LSpec T:=⟨[(3,qb),(4,qao)],[(.exit 0,[(4,qao)])],Zee_L0,[]⟩
def A_Zee:Loc2 T:=lcA [(0,s_Zee_L0)] [(4,[(1,qbw),(3,qb)],true)] []
theorem Vro:LO c102 Tryz.f204 0 s_Zee_L0:=lx o101 A_Zee dn (λ_=>rfl)
theorem o102:EO c102:=sx o101 A_Zee Tryz.func204 (dc rfl Vro dn)
def Zed (a0:BitVec 32):O1 (List UInt8):=
 let v1:List UInt8:=[Qf (Qh 8 (a0>>>24)),Qf (Qh 8 (a0>>>16)),Qf (Qh 8 (a0>>>8)),Qf (Qh 8 a0)];rt v1
def c103:=cf c102 207 [qal] [qj] (u1 Zed)
theorem o103:EO c103:=sz o102 Tryz.func207
def Zfi_L0b (y0:BitVec 32) (y1:List UInt8) (y2:Int) (y3:List Je) (y4:Int):Option (((BitVec 32) × (List (UInt8)) × Int × (List (Je)) × Int × Unit)⊕((List (Je)) × Unit)):=
 bif decide (y2 < y1.length) then let v3:Int:=bif decide (59 < Qa .i64 ((y1.length:Int) - y2)) then 59 else Qa .i64 ((y1.length:Int) - y2);bif decide (0<=Qa .i64 (y2+v3))&&decide (Qa .i64 (y2+v3)<=y1.length) then bif decide (0<=y2)&&decide (y2<=(Qa .i64 (y2+v3)).toNat) then let v4:=Qm y2.toNat (Qi (Qa .i64 (y2+v3)).toNat y1);bif small v4.length 1 then let v5:List Je:=[⟨y0,false,0,0,y4,v4⟩];bif small (y3.length+(v5:List Je).length) 56 then some (Qb (y0,y1,Qa .i64 (y2+v3),y3++v5,Qa .i64 (y4+1),())) else none else none else none else none else some (Qc (y3,()))
def Zfi_L0:=Yi5 Zfi_L0b
def Zfi (a0:BitVec 32) (a1:Int) (a2:List UInt8):O2 (List Je) Int:=
 bif decide (a1 < 1) then ru [] 9 else bif decide (127 < a1) then ru [] 9 else bif decide (4096 < (a2.length:Int)) then ru [] 8 else let v1:Int:=bif decide (57 < (a2.length:Int)) then 57 else (a2.length:Int);bif decide (0<=v1)&&decide (v1<=a2.length) then bif small (Qi v1.toNat a2).length 1 then let v2:List Je:=[⟨a0,true,a1,(a2.length:Int),0,Qi v1.toNat a2⟩];(Zfi_L0 (a0,a2,v1,v2,0,())).bind λz6=>ru z6.1 0 else none else none
def c104:=cf c103 77 [qal,qb,qe] [qax,qa] (u3 Zfi)
def s_Zfi_L0:LSpec T:=⟨[(0,qal),(2,qe),(8,qb),(9,(.f qax)),(10,qb)],[(.exit 0,[(9,(.f qax))])],Zfi_L0,[]⟩
def A_Zfi:Loc2 T:=lcA [(0,s_Zfi_L0)] [] []
theorem Vrp:LO c104 Tryz.f77 0 s_Zfi_L0:=lx o103 A_Zfi dn (λ_=>rfl)
theorem o104:EO c104:=sx o103 A_Zfi Tryz.func77 (dc rfl Vrp dn)
def Zfk (a0:Jaa) (a1:BitVec 32) (a2:Int) (a3:List UInt8):O1 Jaa:=
 (Zfi a1 a2 a3).bind λr1=>bif small a0.jbe.length 56 then bif small (a0.jbe.length+(r1.2.1:List Je).length) 56 then rt {a0 with jbe:=a0.jbe++r1.2.1} else none else none
def c105:=cf c104 206 [(.f qas),qal,qb,qe] [qas] (u4 Zfk)
theorem o105:EO c105:=sz o104 Tryz.func206
def Zec (a0:Jac) (a1:Int) (a2:Jaa):O2 Jac Jaa:=
 bif decide (a0.data.length < a0.length) then ru a0 a2 else bif decide (a0.jf=1) then (Zgx a0).bind λr1=>(Zfk a2 a0.je 1 a0.data).bind λr2=>ru r1.2.1 r2.2.1 else ru ⟨a0.jz,2,a0.je,a0.jf,0,[],0,a1⟩ ⟨a2.jbe,true,a0.data,a2.jbt⟩
def c106:=cf c105 205 [(.f qaq),qb,(.f qas)] [qaq,qas] (u3 Zec)
theorem o106:EO c106:=sx o105 (lcA [] [] [2,4,5,6]) Tryz.func205 dn
def Zfj (a0:Jac) (a1:Int) (a2:Je) (a3:Jaa):O2 Jac Jaa:=
 bif !(decide (a0.jbj=0)) then (Zee a2).bind λr1=>bif decide (a2.je=4294967295#32) then bif !(decide (a2.jf=6)) then none else bif !(decide (a2.length=8)) then none else bif decide (32<=a0.jz) then none else bif decide (8<=(r1.2.1.length:Int)) then let v2:=Qd 32 (Qa .i64 (a0.jz+1));(Zed v2).bind λr3=>bif decide (8<=r1.2.1.length)&&small (8+(r3.2.1:List UInt8).length) 1 then (Zfk a3 a2.je 6 (Qi 8 r1.2.1++r3.2.1)).bind λr4=>ru {a0 with jz:=Qa .i64 (a0.jz+1)} r4.2.1 else none else none else bif decide (a2.je=0#32) then none else bif decide ((Qd 32 a0.jz).toNat < a2.je.toNat) then none else bif decide (a2.jf=6) then bif !(decide (a2.length=8)) then none else (bif decide (a0.je=a2.je) then (Zgx a0).bind λr5=>some ((r5.2.1,()),(({a3 with jbt:=decide (a0.jbj=2)}:Jaa),()),(({}:Jac),()),(({}:Jaa),()),a2.je,r1.2.1,()) else some ((a0,()),(a3,()),(({}:Jac),()),(({}:Jaa),()),a2.je,r1.2.1,())).bind λj6=>bif decide (8<=(j6.2.2.2.2.2.1.length:Int)) then (Zed j6.2.2.2.2.1).bind λr7=>bif decide (8<=j6.2.2.2.2.2.1.length)&&small (8+(r7.2.1:List UInt8).length) 1 then (Zfk j6.2.1.1 j6.2.2.2.2.1 6 (Qi 8 j6.2.2.2.2.2.1++r7.2.1)).bind λr8=>ru j6.1.1 r8.2.1 else none else none else bif decide (a2.jf=17) then bif decide (a0.je=a2.je) then bif decide (a0.jbj=1) then (Zgx a0).bind λr9=>ru r9.2.1 a3 else ru a0 {a3 with jbt:=decide (a0.je=a2.je)} else ru a0 {a3 with jbt:=decide (a0.je=a2.je)} else bif decide (a0.je=a2.je) then bif decide (a0.jbj=1) then (Zgx a0).bind λr10=>none else bif !(decide (a0.jbj=0)) then none else bif !(decide (a2.jf=1)) then bif !(decide (a2.jf=3)) then none else bif decide (4096 < a2.length) then none else let v11:Int:=bif decide (57 < a2.length) then 57 else a2.length;bif decide (0<=v11)&&decide (v11<=r1.2.1.length) then bif decide (v11.toNat<=r1.2.1.length) then (Zec ⟨a0.jz,1,a2.je,a2.jf,a2.length,Qi v11.toNat r1.2.1,0,a1⟩ a1 a3).bind λr12=>ru r12.2.1 r12.2.2.1 else none else none else bif decide (4096 < a2.length) then none else let v13:Int:=bif decide (57 < a2.length) then 57 else a2.length;bif decide (0<=v13)&&decide (v13<=r1.2.1.length) then bif decide (v13.toNat<=r1.2.1.length) then (Zec ⟨a0.jz,1,a2.je,a2.jf,a2.length,Qi v13.toNat r1.2.1,0,a1⟩ a1 a3).bind λr14=>ru r14.2.1 r14.2.2.1 else none else none else bif !(decide (a0.jbj=0)) then none else bif !(decide (a2.jf=1)) then bif !(decide (a2.jf=3)) then none else bif decide (4096 < a2.length) then none else let v15:Int:=bif decide (57 < a2.length) then 57 else a2.length;bif decide (0<=v15)&&decide (v15<=r1.2.1.length) then bif decide (v15.toNat<=r1.2.1.length) then (Zec ⟨a0.jz,1,a2.je,a2.jf,a2.length,Qi v15.toNat r1.2.1,0,a1⟩ a1 a3).bind λr16=>ru r16.2.1 r16.2.2.1 else none else none else bif decide (4096 < a2.length) then none else let v17:Int:=bif decide (57 < a2.length) then 57 else a2.length;bif decide (0<=v17)&&decide (v17<=r1.2.1.length) then bif decide (v17.toNat<=r1.2.1.length) then (Zec ⟨a0.jz,1,a2.je,a2.jf,a2.length,Qi v17.toNat r1.2.1,0,a1⟩ a1 a3).bind λr18=>ru r18.2.1 r18.2.2.1 else none else none else (Zee a2).bind λr19=>bif decide (a2.je=4294967295#32) then bif !(decide (a2.jf=6)) then none else bif !(decide (a2.length=8)) then none else bif decide (32<=a0.jz) then none else bif decide (8<=(r19.2.1.length:Int)) then let v20:=Qd 32 (Qa .i64 (a0.jz+1));(Zed v20).bind λr21=>bif decide (8<=r19.2.1.length)&&small (8+(r21.2.1:List UInt8).length) 1 then (Zfk a3 a2.je 6 (Qi 8 r19.2.1++r21.2.1)).bind λr22=>ru {a0 with jz:=Qa .i64 (a0.jz+1)} r22.2.1 else none else none else bif decide (a2.je=0#32) then none else bif decide ((Qd 32 a0.jz).toNat < a2.je.toNat) then none else bif decide (a2.jf=6) then bif !(decide (a2.length=8)) then none else (some ((a0,()),(a3,()),(({}:Jac),()),(({}:Jaa),()),a2.je,r19.2.1,())).bind λj23=>bif decide (8<=(j23.2.2.2.2.2.1.length:Int)) then (Zed j23.2.2.2.2.1).bind λr24=>bif decide (8<=j23.2.2.2.2.2.1.length)&&small (8+(r24.2.1:List UInt8).length) 1 then (Zfk j23.2.1.1 j23.2.2.2.2.1 6 (Qi 8 j23.2.2.2.2.2.1++r24.2.1)).bind λr25=>ru j23.1.1 r25.2.1 else none else none else bif decide (a2.jf=17) then ru a0 {a3 with jbt:=false} else bif !(decide (a0.jbj=0)) then none else bif !(decide (a2.jf=1)) then bif !(decide (a2.jf=3)) then none else bif decide (4096 < a2.length) then none else let v26:Int:=bif decide (57 < a2.length) then 57 else a2.length;bif decide (0<=v26)&&decide (v26<=r19.2.1.length) then bif decide (v26.toNat<=r19.2.1.length) then (Zec ⟨a0.jz,1,a2.je,a2.jf,a2.length,Qi v26.toNat r19.2.1,0,a1⟩ a1 a3).bind λr27=>ru r27.2.1 r27.2.2.1 else none else none else bif decide (4096 < a2.length) then none else let v28:Int:=bif decide (57 < a2.length) then 57 else a2.length;bif decide (0<=v28)&&decide (v28<=r19.2.1.length) then bif decide (v28.toNat<=r19.2.1.length) then (Zec ⟨a0.jz,1,a2.je,a2.jf,a2.length,Qi v28.toNat r19.2.1,0,a1⟩ a1 a3).bind λr29=>ru r29.2.1 r29.2.2.1 else none else none
def c107:=cf c106 133 [(.f qaq),qb,qbt,(.f qas)] [qaq,qas] (u4 Zfj)
theorem o107:EO c107:=sx o106 (lcA [] [(21,[(4,(.ptr [qaq])),(7,(.ptr [qas])),(8,(.ptr [qaq])),(9,(.ptr [qas])),(10,qal),(12,qao)],true)] [6,8,10,12,14,17,21,24,26,28,30,32,34]) Tryz.func133 dn
def Zdc (a0:Jac) (a1:Int) (a2:Je):O2 Jac Jaa:=
 bif decide (a1 < 0) then some ((),a0,{},()) else bif decide (1099511627776 < a1) then some ((),a0,{},()) else (Zgw a0 a1).bind λr1=>(Zeb a2).bind λr2=>bif !(decide (r2.2.2.1=0)) then ru r1.2.1 r1.2.2.1 else bif !a2.first then none else (Zfj r1.2.1 a1 a2 r1.2.2.1).bind λr3=>ru r3.2.1 r3.2.2.1
def c108:=cf c107 81 [(.f qaq),qb,qbt] [qaq,qas] (u3 Zdc)
theorem o108:EO c108:=sx o107 (lcA [] [] [6]) Tryz.func81 dn
def Zdv (a0 a1 a2:Int):O1 Bool:=
 bif decide (a1<=a0) then rt (decide (a0<=a2)) else rt false
def c109:=ct c108 108 [qb,qb,qb] [qd] (u3 Zdv)
theorem o109:EO c109:=sz o108 Tryz.func108
def Zbg_L1b (y0:List UInt8×Int×List Ja×Unit) (y1:Ja×Unit) (y2 y3:Int) (y4:BitVec 64) (y5:Int):Option ((((List UInt8) × Int × (List (Ja)) × Unit) × (Ja × Unit) × Int × Int × (BitVec 64) × Int × Unit)⊕(((List UInt8) × Int × (List (Ja)) × Unit) × (Ja × Unit) × Int × Int × (BitVec 64) × Unit)):=
 bif decide (y5 < y3) then let v12:=Qa .i64 (Qa .i64 (y0.2.1+1)+y5);(getI y0.1 v12).bind λx13=>some (Qb ((y0.1,y0.2.1,y0.2.2.1,()),(y1.1,()),y2,y3,y4 <<< 8 ||| Qh 64 x13.toBitVec,Qa .i64 (y5+1),())) else some (Qc ((y0.1,y0.2.1,y0.2.2.1,()),(y1.1,()),y2,y3,y4,()))
def Zbg_L1:=Yi6 Zbg_L1b
def Zbg (a0:List UInt8×Int×List Ja×Unit):Option (((List UInt8×Int×List Ja×Unit)×Unit)×Ja×Int×Unit):=
 bif decide (a0.1.length<=a0.2.1) then some (((a0.1,a0.2.1,a0.2.2.1,()),()),{},1,()) else (getI a0.1 a0.2.1).bind λx1=>(bif decide (x1.toBitVec=(244:UInt8).toBitVec) then bif decide (x1.toBitVec=(244:UInt8).toBitVec) then let v2:=Qh 64 (Qf (x1.toBitVec - (244:UInt8).toBitVec)).toBitVec;(some (((a0.1,Qa .i64 (a0.2.1+1),a0.2.2.1,()),()),(⟨7,v2,[]⟩:Ja),(0:Int),())).bind λq=>some (Qc q) else bif decide (x1.toBitVec=(246:UInt8).toBitVec) then (some (((a0.1,Qa .i64 (a0.2.1+1),a0.2.2.1,()),()),({kind:=8}:Ja),(0:Int),())).bind λq=>some (Qc q) else some (Qb ((a0.1,a0.2.1,a0.2.2.1,()),(({}:Ja),()),x1,())) else bif decide (x1.toBitVec=(245:UInt8).toBitVec) then let v3:=Qh 64 (Qf (x1.toBitVec - (244:UInt8).toBitVec)).toBitVec;(some (((a0.1,Qa .i64 (a0.2.1+1),a0.2.2.1,()),()),(⟨7,v3,[]⟩:Ja),(0:Int),())).bind λq=>some (Qc q) else bif decide (x1.toBitVec=(246:UInt8).toBitVec) then (some (((a0.1,Qa .i64 (a0.2.1+1),a0.2.2.1,()),()),({kind:=8}:Ja),(0:Int),())).bind λq=>some (Qc q) else some (Qb ((a0.1,a0.2.1,a0.2.2.1,()),(({}:Ja),()),x1,()))).bind (Qk (λj4=>let v5:=((Qf (j4.2.2.1.toBitVec>>>5)).toBitVec.toNat:Int);let v6:=Qf (j4.2.2.1.toBitVec&&&(31:UInt8).toBitVec);bif decide (5 < v5) then some (((j4.1.1,j4.1.2.1,j4.1.2.2.1,()),()),{},2,()) else bif decide (27 < (v6.toBitVec.toNat:Int)) then some (((j4.1.1,j4.1.2.1,j4.1.2.2.1,()),()),{},2,()) else (bif decide (24<=(v6.toBitVec.toNat:Int)) then let v7:=Qd 64 (Qa .i64 ((v6.toBitVec.toNat:Int) - 24));let v8:=Qa .i64 (1*2 ^ min v7.toNat (Qg .i64));some ((j4.1.1,j4.1.2.1,j4.1.2.2.1,()),(j4.2.1.1,()),v5,(v6.toBitVec.toNat:Int),v8,()) else some ((j4.1.1,j4.1.2.1,j4.1.2.2.1,()),(j4.2.1.1,()),v5,(v6.toBitVec.toNat:Int),(0:Int),())).bind λj9=>let v10:=Qa .i64 (Qa .i64 ((j9.1.1.length:Int) - j9.1.2.1) - 1);bif decide (v10 < j9.2.2.2.2.1) then some (((j9.1.1,j9.1.2.1,j9.1.2.2.1,()),()),{},1,()) else (bif decide (0 < j9.2.2.2.2.1) then some ((j9.1.1,j9.1.2.1,j9.1.2.2.1,()),(j9.2.1.1,()),j9.2.2.1,j9.2.2.2.2.1,0#64,()) else some ((j9.1.1,j9.1.2.1,j9.1.2.2.1,()),(j9.2.1.1,()),j9.2.2.1,j9.2.2.2.2.1,Qd 64 j9.2.2.2.1,())).bind λj11=>(Zbg_L1 ((j11.1.1,j11.1.2.1,j11.1.2.2.1,()),(j11.2.1.1,()),j11.2.2.1,j11.2.2.2.1,j11.2.2.2.2.1,0,())).bind λz14=>let v15:List (BitVec 64):=[0#64,24#64,256#64,0#64,65536#64,0#64,0#64,0#64,4294967296#64];bif decide (0<=z14.2.2.2.1)&&decide (z14.2.2.2.1 < 9) then v15[z14.2.2.2.1.toNat]?.bind λx16=>bif decide (z14.2.2.2.2.1.toNat < x16.toNat) then some (((z14.1.1,z14.1.2.1,z14.1.2.2.1,()),()),{},2,()) else let v17:=Qa .i64 (z14.1.2.1+Qa .i64 (1+z14.2.2.2.1));let v18:List Int:=[1,2,3,4,5,6];bif decide (0<=z14.2.2.1)&&decide (z14.2.2.1 < 6) then v18[z14.2.2.1.toNat]?.bind λx19=>some (((z14.1.1,v17,z14.1.2.2.1,()),()),⟨x19,z14.2.2.2.2.1,[]⟩,0,()) else none else none) some)
def S_Zbg:FSpec T:=⟨[qa4],[qw,qa],λx=>Zbg x.1⟩
def s_Zbg_L1:LSpec T:=⟨[(0,qa4),(2,qbb),(5,qb),(7,qb),(8,qf),(9,qb)],[(.exit 1,[(0,qa4),(2,qbb),(5,qb),(7,qb),(8,qf)])],Zbg_L1,[]⟩
def A_Zbg:Loc2 T:=lcA [(1,s_Zbg_L1)] [(12,[(0,qa4),(2,qbb),(4,qa0)],false),(18,[(0,qa4),(2,qbb),(5,qb),(6,qb),(7,qb)],true),(23,[(0,qa4),(2,qbb),(5,qb),(7,qb),(8,qf)],true)] []
theorem Vrq:LoopOk Tryz.prog (mE c109) Tryz.f295.ntmps (kqOf S_Zbg.ps 0) (loopAt 1 (bodyOf Tryz.f295)) s_Zbg_L1:=
 lpC hmix o109 A_Zbg Vaa 1 (st:=λy=>Zbg_L1b y.1 y.2.1 y.2.2.1 y.2.2.2.1 y.2.2.2.2.1 y.2.2.2.2.2.1) (λ_=>rfl) (by kernel_rfl) (by kernel_rfl) λx=>by kernel_rfl
theorem Vye:SoundT Tryz.prog cd gdn 295 S_Zbg:=
 sndC hmix o109 A_Zbg Tryz.func295 (Vah rfl Vrq Vaa) (by kernel_rfl) (by kernel_rfl) λx=>by kernel_rfl
def c110:List (Ct T):=⟨295,none,S_Zbg,false⟩::c109
theorem o110:EnvOk Tryz.prog (mE c110):=eCons Vye o109
def Zgu (a0:Int):O1 Bool:=
 bif decide (a0=1) then rt true else bif decide (a0=2) then rt true else rt (decide (a0=4))
def S_Zgu:FSpec T:=⟨[qb],[qd],λx=>Zgu x.1⟩
theorem Vyf:SoundT Tryz.prog cd gdn 296 S_Zgu:=
 sndC hmix o110 (lcA [] [] []) Tryz.func296 Vaa (by kernel_rfl) (by kernel_rfl) λx=>by kernel_rfl
def c111:List (Ct T):=⟨296,none,S_Zgu,true⟩::c110
theorem o111:EnvOk Tryz.prog (mE c111):=eCons Vyf o110
def Zic (a0:Ja):O1 (List UInt8):=
 (bif decide (a0.kind=7) then let v1:=Qf ((244:UInt8).toBitVec+(Qf (Qh 8 a0.number)).toBitVec);(rt [v1]).bind λq=>some (Qc q) else bif decide (a0.kind=8) then (rt ([246]:List UInt8)).bind λq=>some (Qc q) else bif decide (a0.kind=2) then some (Qb (a0.number,(32:UInt8),())) else bif decide (a0.kind=3) then some (Qb (Qd 64 (a0.data.length:Int),(64:UInt8),())) else bif decide (a0.kind=4) then some (Qb (Qd 64 (a0.data.length:Int),(96:UInt8),())) else bif decide (a0.kind=5) then some (Qb (a0.number,(128:UInt8),())) else bif decide (a0.kind=6) then some (Qb (a0.number,(160:UInt8),())) else some (Qb (a0.number,(0:UInt8),()))).bind (Qk (λj2=>bif decide (j2.1.toNat < (24#64).toNat) then let v3:=Qf (j2.2.1.toBitVec+(Qf (Qh 8 j2.1)).toBitVec);rt [v3] else bif decide (j2.1.toNat < (256#64).toNat) then let v4:List UInt8:=[Qf (j2.2.1.toBitVec+(24:UInt8).toBitVec),Qf (Qh 8 j2.1)];rt v4 else bif decide (j2.1.toNat < (65536#64).toNat) then let v5:List UInt8:=[Qf (j2.2.1.toBitVec+(25:UInt8).toBitVec),Qf (Qh 8 (j2.1>>>8)),Qf (Qh 8 j2.1)];rt v5 else bif decide (j2.1.toNat < (4294967296#64).toNat) then let v6:List UInt8:=[Qf (j2.2.1.toBitVec+(26:UInt8).toBitVec),Qf (Qh 8 (j2.1>>>24)),Qf (Qh 8 (j2.1>>>16)),Qf (Qh 8 (j2.1>>>8)),Qf (Qh 8 j2.1)];rt v6 else let v7:List UInt8:=[Qf (j2.2.1.toBitVec+(27:UInt8).toBitVec)];(passkeyref1_WordsF [j2.1]).bind λr8=>bif small (v7.length+(r8.2.1:List UInt8).length) 1 then rt (v7++r8.2.1) else none) some)
def c112:=cf c111 405 [qb7] [qj] (u1 Zic)
theorem o112:EO c112:=sx o111 (lcA [] [(18,[(3,qf),(4,qa0)],false)] []) Tryz.func405 dn
def Zgr (a0:Ja):O1 (List UInt8):=
 (Zic a0).bind λr1=>bif Qj (r1.2.1.length+a0.data.length) 9223372036854775807 then rt (r1.2.1++a0.data) else none
def S_Zgr:FSpec T:=⟨[qb7],[qs],λx=>Zgr x.1⟩
theorem Vrr:SoundT Tryz.prog cd gdn 298 S_Zgr:=
 sndC hmix o112 (lcA [] [] [1]) Tryz.func298 Vaa (by kernel_rfl) (by kernel_rfl) λx=>by kernel_rfl
def c113:List (Ct T):=⟨298,none,S_Zgr,true⟩::c112
theorem o113:EnvOk Tryz.prog (mE c113):=eCons Vrr o112
def Zif (a0 a1:List UInt8):O1 Bool:=
 bif !(decide ((a0.length:Int)=(a1.length:Int))) then rt (decide ((a0.length:Int) < (a1.length:Int))) else rt (Op.bytesLess a0 a1)
def S_Zif:FSpec T:=⟨[qg,qg],[qd],λx=>Zif x.1 x.2.1⟩
theorem Vyg:SoundT Tryz.prog cd gdn 297 S_Zif:=
 sndC hmix o113 (lcA [] [] []) Tryz.func297 Vaa (by kernel_rfl) (by kernel_rfl) λx=>by kernel_rfl
def c114:List (Ct T):=⟨297,none,S_Zif,true⟩::c113
theorem o114:EnvOk Tryz.prog (mE c114):=eCons Vyg o113
def c115:List (Ct T):=⟨290,none,S_Zit,true⟩::c114
theorem o115:EnvOk Tryz.prog (mE c115):=eCons Vxx o114
def Zbh_L1b (k_rec:List UInt8×Int×List Ja×Unit->Int->Bool->List UInt8->Option (((List UInt8×Int×List Ja×Unit)×Unit)×Int×Unit)) (y0:List UInt8×Int×List Ja×Unit) (y1:Int) (y2:Ja×Unit) (y3:BitVec 64) (y4:Bool) (y5:List UInt8) (y6:BitVec 64):Option ((List UInt8×Int×List Ja×Unit)×Int×(Ja×Unit)×BitVec 64×Bool×List UInt8×BitVec 64×Unit⊕(List UInt8×Int×List Ja×Unit)×Int×Unit⊕(List UInt8×Int×List Ja×Unit)×Unit):=
 bif y4 then bif decide (y6.toNat < y3.toNat) then bif decide (y2.1.kind=6) then (k_rec (y0.1,y0.2.1,y0.2.2.1,()) (Qa .i64 (y1+1)) true y5).bind λr18=>bif !(decide (r18.2.1=0)) then some (Qc (Qb ((r18.1.1.1,r18.1.1.2.1,r18.1.1.2.2.1,()),r18.2.1,()))) else bif decide (0<=(y0.2.2.1.length:Int))&&decide ((y0.2.2.1.length:Int) < (r18.1.1.2.2.1.length:Int)) then r18.1.1.2.2.1[(y0.2.2.1.length:Int).toNat]?.bind λx19=>(Zgr x19).bind λr20=>(k_rec (r18.1.1.1,r18.1.1.2.1,r18.1.1.2.2.1,()) (Qa .i64 (y1+1)) false ([]:List UInt8)).bind λr21=>bif !(decide (r21.2.1=0)) then some (Qc (Qb ((r21.1.1.1,r21.1.1.2.1,r21.1.1.2.2.1,()),r21.2.1,()))) else some (Qb ((r21.1.1.1,r21.1.1.2.1,r21.1.1.2.2.1,()),y1,(y2.1,()),y3,y4,r20.2.1,y6+1#64,())) else none else (k_rec (y0.1,y0.2.1,y0.2.2.1,()) (Qa .i64 (y1+1)) false ([]:List UInt8)).bind λr22=>bif !(decide (r22.2.1=0)) then some (Qc (Qb ((r22.1.1.1,r22.1.1.2.1,r22.1.1.2.2.1,()),r22.2.1,()))) else some (Qb ((r22.1.1.1,r22.1.1.2.1,r22.1.1.2.2.1,()),y1,(y2.1,()),y3,y4,y5,y6+1#64,())) else some (Qc (Qc ((y0.1,y0.2.1,y0.2.2.1,()),()))) else some (Qc (Qc ((y0.1,y0.2.1,y0.2.2.1,()),())))
def Zbh_L1 (k_rec:List UInt8×Int×List Ja×Unit->Int->Bool->List UInt8->Option (((List UInt8×Int×List Ja×Unit)×Unit)×Int×Unit)) (y:(List UInt8×Int×List Ja×Unit)×Int×(Ja×Unit)×BitVec 64×Bool×List UInt8×BitVec 64×Unit):Option ((List UInt8×Int×List Ja×Unit)×Int×Unit⊕(List UInt8×Int×List Ja×Unit)×Unit):=
 iter (λ(y:(List UInt8×Int×List Ja×Unit)×Int×(Ja×Unit)×BitVec 64×Bool×List UInt8×BitVec 64×Unit)=>Zbh_L1b k_rec y.1 y.2.1 y.2.2.1 y.2.2.2.1 y.2.2.2.2.1 y.2.2.2.2.2.1 y.2.2.2.2.2.2.1) rounds y
def Zbh_R (k_rec:List UInt8×Int×List Ja×Unit->Int->Bool->List UInt8->Option (((List UInt8×Int×List Ja×Unit)×Unit)×Int×Unit)) (a0:List UInt8×Int×List Ja×Unit) (a1:Int) (a2:Bool) (a3:List UInt8):Option (((List UInt8×Int×List Ja×Unit)×Unit)×Int×Unit):=
 (Zbg (a0.1,a0.2.1,a0.2.2.1,())).bind λr1=>bif !(decide (r1.2.2.1=0)) then some (((r1.1.1.1,r1.1.1.2.1,r1.1.1.2.2.1,()),()),r1.2.2.1,()) else (bif decide (r1.2.1.kind=3) then some ((r1.1.1.1,r1.1.1.2.1,r1.1.1.2.2.1,()),a1,a2,a3,(r1.2.1,()),r1.2.1.number,true,()) else some ((r1.1.1.1,r1.1.1.2.1,r1.1.1.2.2.1,()),a1,a2,a3,(r1.2.1,()),r1.2.1.number,decide (r1.2.1.kind=4),())).bind λj2=>(bif decide (j2.2.2.2.2.1.1.kind=5) then some ((j2.1.1,j2.1.2.1,j2.1.2.2.1,()),j2.2.1,j2.2.2.1,j2.2.2.2.1,(j2.2.2.2.2.1.1,()),j2.2.2.2.2.2.1,j2.2.2.2.2.2.2.1,true,()) else some ((j2.1.1,j2.1.2.1,j2.1.2.2.1,()),j2.2.1,j2.2.2.1,j2.2.2.2.1,(j2.2.2.2.2.1.1,()),j2.2.2.2.2.2.1,j2.2.2.2.2.2.2.1,decide (j2.2.2.2.2.1.1.kind=6),())).bind λj3=>bif decide (512<=(j3.1.2.2.1.length:Int)) then some (((j3.1.1,j3.1.2.1,j3.1.2.2.1,()),()),8,()) else (bif j3.2.2.1 then (Zgu j3.2.2.2.2.1.1.kind).bind λr4=>some ((j3.1.1,j3.1.2.1,j3.1.2.2.1,()),j3.2.1,j3.2.2.1,j3.2.2.2.1,(j3.2.2.2.2.1.1,()),j3.2.2.2.2.2.1,j3.2.2.2.2.2.2.1,j3.2.2.2.2.2.2.2.1,!r4.2.1,()) else some ((j3.1.1,j3.1.2.1,j3.1.2.2.1,()),j3.2.1,j3.2.2.1,j3.2.2.2.1,(j3.2.2.2.2.1.1,()),j3.2.2.2.2.2.1,j3.2.2.2.2.2.2.1,j3.2.2.2.2.2.2.2.1,false,())).bind λj5=>bif j5.2.2.2.2.2.2.2.2.1 then some (((j5.1.1,j5.1.2.1,j5.1.2.2.1,()),()),3,()) else bif decide (8 < j5.2.1) then some (((j5.1.1,j5.1.2.1,j5.1.2.2.1,()),()),5,()) else (bif j5.2.2.2.2.2.2.1 then bif decide ((1024#64).toNat < j5.2.2.2.2.2.1.toNat) then some ((j5.1.1,j5.1.2.1,j5.1.2.2.1,()),j5.2.1,j5.2.2.1,j5.2.2.2.1,(j5.2.2.2.2.1.1,()),j5.2.2.2.2.2.1,j5.2.2.2.2.2.2.1,j5.2.2.2.2.2.2.2.1,true,()) else bif j5.2.2.2.2.2.2.2.1 then some ((j5.1.1,j5.1.2.1,j5.1.2.2.1,()),j5.2.1,j5.2.2.1,j5.2.2.2.1,(j5.2.2.2.2.1.1,()),j5.2.2.2.2.2.1,j5.2.2.2.2.2.2.1,j5.2.2.2.2.2.2.2.1,decide ((512#64).toNat < j5.2.2.2.2.2.1.toNat),()) else some ((j5.1.1,j5.1.2.1,j5.1.2.2.1,()),j5.2.1,j5.2.2.1,j5.2.2.2.1,(j5.2.2.2.2.1.1,()),j5.2.2.2.2.2.1,j5.2.2.2.2.2.2.1,j5.2.2.2.2.2.2.2.1,false,()) else bif j5.2.2.2.2.2.2.2.1 then some ((j5.1.1,j5.1.2.1,j5.1.2.2.1,()),j5.2.1,j5.2.2.1,j5.2.2.2.1,(j5.2.2.2.2.1.1,()),j5.2.2.2.2.2.1,j5.2.2.2.2.2.2.1,j5.2.2.2.2.2.2.2.1,decide ((512#64).toNat < j5.2.2.2.2.2.1.toNat),()) else some ((j5.1.1,j5.1.2.1,j5.1.2.2.1,()),j5.2.1,j5.2.2.1,j5.2.2.2.1,(j5.2.2.2.2.1.1,()),j5.2.2.2.2.2.1,j5.2.2.2.2.2.2.1,j5.2.2.2.2.2.2.2.1,false,())).bind λj6=>bif j6.2.2.2.2.2.2.2.2.1 then some (((j6.1.1,j6.1.2.1,j6.1.2.2.1,()),()),8,()) else (bif j6.2.2.2.2.2.2.1 then let v7:=Qd 64 (Qa .i64 ((j6.1.1.length:Int) - j6.1.2.1));some ((j6.1.1,j6.1.2.1,j6.1.2.2.1,()),j6.2.1,j6.2.2.1,j6.2.2.2.1,(j6.2.2.2.2.1.1,()),j6.2.2.2.2.2.1,j6.2.2.2.2.2.2.1,j6.2.2.2.2.2.2.2.1,decide (v7.toNat < j6.2.2.2.2.2.1.toNat),()) else some ((j6.1.1,j6.1.2.1,j6.1.2.2.1,()),j6.2.1,j6.2.2.1,j6.2.2.2.1,(j6.2.2.2.2.1.1,()),j6.2.2.2.2.2.1,j6.2.2.2.2.2.2.1,j6.2.2.2.2.2.2.2.1,false,())).bind λj8=>bif j8.2.2.2.2.2.2.2.2.1 then some (((j8.1.1,j8.1.2.1,j8.1.2.2.1,()),()),1,()) else (bif j8.2.2.2.2.2.2.1 then let v9:=Qa .i64 (j8.1.2.1+Qa .i64 (j8.2.2.2.2.2.1.toNat:Int));bif decide (0<=v9)&&decide (v9<=j8.1.1.length) then bif decide (0<=j8.1.2.1)&&decide (j8.1.2.1<=v9.toNat) then let v10:=Qa .i64 (j8.1.2.1+Qa .i64 (j8.2.2.2.2.2.1.toNat:Int));some ((j8.1.1,v10,j8.1.2.2.1,()),j8.2.1,j8.2.2.1,j8.2.2.2.1,((⟨j8.2.2.2.2.1.1.kind,0#64,Qm j8.1.2.1.toNat (Qi v9.toNat j8.1.1)⟩:Ja),()),j8.2.2.2.2.2.1,j8.2.2.2.2.2.2.2.1,()) else none else none else some ((j8.1.1,j8.1.2.1,j8.1.2.2.1,()),j8.2.1,j8.2.2.1,j8.2.2.2.1,(j8.2.2.2.2.1.1,()),j8.2.2.2.2.2.1,j8.2.2.2.2.2.2.2.1,())).bind λj11=>(bif decide (j11.2.2.2.2.1.1.kind=4) then (Zit j11.2.2.2.2.1.1.data).bind λr12=>some ((j11.1.1,j11.1.2.1,j11.1.2.2.1,()),j11.2.1,j11.2.2.1,j11.2.2.2.1,(j11.2.2.2.2.1.1,()),j11.2.2.2.2.2.1,j11.2.2.2.2.2.2.1,!r12.2.1,()) else some ((j11.1.1,j11.1.2.1,j11.1.2.2.1,()),j11.2.1,j11.2.2.1,j11.2.2.2.1,(j11.2.2.2.2.1.1,()),j11.2.2.2.2.2.1,j11.2.2.2.2.2.2.1,false,())).bind λj13=>bif j13.2.2.2.2.2.2.2.1 then some (((j13.1.1,j13.1.2.1,j13.1.2.2.1,()),()),6,()) else (bif j13.2.2.1 then bif !(decide (j13.2.2.2.1=([]:List UInt8))) then (Zgr j13.2.2.2.2.1.1).bind λr14=>(Zif j13.2.2.2.1 r14.2.1).bind λr15=>some ((j13.1.1,j13.1.2.1,j13.1.2.2.1,()),j13.2.1,(j13.2.2.2.2.1.1,()),j13.2.2.2.2.2.1,j13.2.2.2.2.2.2.1,!r15.2.1,()) else some ((j13.1.1,j13.1.2.1,j13.1.2.2.1,()),j13.2.1,(j13.2.2.2.2.1.1,()),j13.2.2.2.2.2.1,j13.2.2.2.2.2.2.1,false,()) else some ((j13.1.1,j13.1.2.1,j13.1.2.2.1,()),j13.2.1,(j13.2.2.2.2.1.1,()),j13.2.2.2.2.2.1,j13.2.2.2.2.2.2.1,false,())).bind λj16=>bif j16.2.2.2.2.2.1 then some (((j16.1.1,j16.1.2.1,j16.1.2.2.1,()),()),7,()) else bif small (j16.1.2.2.1.length+([j16.2.2.1.1]).length) 32 then let v17:=j16.1.2.2.1++[j16.2.2.1.1];(Zbh_L1 k_rec ((j16.1.1,j16.1.2.1,v17,()),j16.2.1,(j16.2.2.1.1,()),j16.2.2.2.1,j16.2.2.2.2.1,[],0#64,())).bind (Qk (λz23=>some (((z23.1.1,z23.1.2.1,z23.1.2.2.1,()),()),z23.2.1,())) (λz24=>some (((z24.1.1,z24.1.2.1,z24.1.2.2.1,()),()),0,()))) else none
abbrev ps_Zbh:List Slot:=[qa4,qb,qm,qg]
abbrev rs_Zbh:List Fld:=[qa]
def E_Zbh (k_rec:((List UInt8)×Int×(List (Ja))×Unit)->Int->Bool->(List UInt8)->Option Ycq):Env T:=⟨tab.find,cd,globs,flc,λf ds=>match f with
  | 208=>some ⟨ps_Zbh,rs_Zbh,λx=>k_rec x.1 x.2.1 x.2.2.1 x.2.2.2.1⟩
  | 290=>some S_Zit
  | 295=>some S_Zbg
  | 296=>some S_Zgu
  | 297=>some S_Zif
  | 298=>some S_Zgr
  | _=>none,λf=>match f with
  | 290=>true
  | 296=>true
  | 297=>true
  | 298=>true
  | _=>false⟩
def A_Zbh (k_rec:((List UInt8)×Int×(List (Ja))×Unit)->Int->Bool->(List UInt8)->Option Ycq):Loc2 T:=⟨λid=>match id with
  | 1=>some ⟨[(0,.ptr [(.v .str),(.v (.int .i64)),(.own 1)]),(1,.f (.v (.int .i64))),(9,.ptr [(.v (.agg 1))]),(11,.f (.v .u64)),(13,.f (.v .bool)),(14,.f (.v .str)),(15,.f (.v .u64))],[(.ret,[(0,.ptr [(.v .str),(.v (.int .i64)),(.own 1)]),(8,.f (.v (.int .i64)))]),(.exit 1,[(0,.ptr [(.v .str),(.v (.int .i64)),(.own 1)])])],Zbh_L1 k_rec,[]⟩
  | _=>none,λr=>match r with
  | 6=>some ([(0,.ptr [(.v .str),(.v (.int .i64)),(.own 1)]),(1,.f (.v (.int .i64))),(2,.f (.v .bool)),(3,.f (.v .str)),(9,.ptr [(.v (.agg 1))]),(11,.f (.v .u64)),(12,.f (.v .bool))],true)
  | 7=>some ([(0,.ptr [(.v .str),(.v (.int .i64)),(.own 1)]),(1,.f (.v (.int .i64))),(2,.f (.v .bool)),(3,.f (.v .str)),(9,.ptr [(.v (.agg 1))]),(11,.f (.v .u64)),(12,.f (.v .bool)),(13,.f (.v .bool))],true)
  | 10=>some ([(0,.ptr [(.v .str),(.v (.int .i64)),(.own 1)]),(1,.f (.v (.int .i64))),(2,.f (.v .bool)),(3,.f (.v .str)),(9,.ptr [(.v (.agg 1))]),(11,.f (.v .u64)),(12,.f (.v .bool)),(13,.f (.v .bool)),(52,.f (.v .bool))],true)
  | 14=>some ([(0,.ptr [(.v .str),(.v (.int .i64)),(.own 1)]),(1,.f (.v (.int .i64))),(2,.f (.v .bool)),(3,.f (.v .str)),(9,.ptr [(.v (.agg 1))]),(11,.f (.v .u64)),(12,.f (.v .bool)),(13,.f (.v .bool)),(63,.f (.v .bool))],true)
  | 16=>some ([(0,.ptr [(.v .str),(.v (.int .i64)),(.own 1)]),(1,.f (.v (.int .i64))),(2,.f (.v .bool)),(3,.f (.v .str)),(9,.ptr [(.v (.agg 1))]),(11,.f (.v .u64)),(12,.f (.v .bool)),(13,.f (.v .bool)),(76,.f (.v .bool))],true)
  | 20=>some ([(0,.ptr [(.v .str),(.v (.int .i64)),(.own 1)]),(1,.f (.v (.int .i64))),(2,.f (.v .bool)),(3,.f (.v .str)),(9,.ptr [(.v (.agg 1))]),(11,.f (.v .u64)),(13,.f (.v .bool))],true)
  | 21=>some ([(0,.ptr [(.v .str),(.v (.int .i64)),(.own 1)]),(1,.f (.v (.int .i64))),(2,.f (.v .bool)),(3,.f (.v .str)),(9,.ptr [(.v (.agg 1))]),(11,.f (.v .u64)),(13,.f (.v .bool)),(129,.f (.v .bool))],true)
  | 23=>some ([(0,.ptr [(.v .str),(.v (.int .i64)),(.own 1)]),(1,.f (.v (.int .i64))),(9,.ptr [(.v (.agg 1))]),(11,.f (.v .u64)),(13,.f (.v .bool)),(141,.f (.v .bool))],true)
  | _=>none,λr=>match r with
  | 18=>true
  | 24=>true
  | _=>false⟩
theorem Vrs (k_rec:((List UInt8)×Int×(List (Ja))×Unit)->Int->Bool->(List UInt8)->Option Ycq) (y0:((List UInt8)×Int×(List (Ja))×Unit)) (y1:Int) (y2:(Ja×Unit)) (y3:(BitVec 64)) (y4:Bool) (y5:(List UInt8)) (y6:(BitVec 64)):run (E_Zbh k_rec) (A_Zbh k_rec) (loopAt 1 (Tryz.f208.body.getD .skip)) (layC cd [(0,.ptr [(.v .str),(.v (.int .i64)),(.own 1)]),(1,.f (.v (.int .i64))),(9,.ptr [(.v (.agg 1))]),(11,.f (.v .u64)),(13,.f (.v .bool)),(14,.f (.v .str)),(15,.f (.v .u64))] [] (y0,y1,y2,y3,y4,y5,y6,())) (roundK cd [(0,.ptr [(.v .str),(.v (.int .i64)),(.own 1)]),(1,.f (.v (.int .i64))),(9,.ptr [(.v (.agg 1))]),(11,.f (.v .u64)),(13,.f (.v .bool)),(14,.f (.v .str)),(15,.f (.v .u64))] [] [(.ret,[(0,.ptr [(.v .str),(.v (.int .i64)),(.own 1)]),(8,.f (.v (.int .i64)))]),(.exit 1,[(0,.ptr [(.v .str),(.v (.int .i64)),(.own 1)])])])=Zbh_L1b k_rec y0 y1 y2 y3 y4 y5 y6:=by kernel_rfl
theorem Vz4 (k_rec:((List UInt8)×Int×(List (Ja))×Unit)->Int->Bool->(List UInt8)->Option Ycq) (x:tySs T ps_Zbh):run (E_Zbh k_rec) (A_Zbh k_rec) (Tryz.f208.body.getD .skip) (enterT (E_Zbh k_rec).C ps_Zbh x) (retK (E_Zbh k_rec) Tryz.f208.results.toList ps_Zbh rs_Zbh)=Zbh_R k_rec x.1 x.2.1 x.2.2.1 x.2.2.2.1:=by kernel_rfl
def Zbh_n:Nat->((List UInt8)×Int×(List (Ja))×Unit)->Int->Bool->(List UInt8)->Option Ycq
 | 0=>λ_ _ _ _=>none
 | n+1=>Zbh_R (Zbh_n n)
def Zbh (a0:((List UInt8)×Int×(List (Ja))×Unit)) (a1:Int) (a2:Bool) (a3:(List UInt8)):=Zbh_n 12 a0 a1 a2 a3
def S_Zbh:FSpec T:=⟨ps_Zbh,rs_Zbh,λx=>Zbh x.1 x.2.1 x.2.2.1 x.2.2.2.1⟩
theorem Vrt (k_rec:((List UInt8)×Int×(List (Ja))×Unit)->Int->Bool->(List UInt8)->Option Ycq) (hk:SoundT Tryz.prog cd gdn 208 ⟨ps_Zbh,rs_Zbh,λx=>k_rec x.1 x.2.1 x.2.2.1 x.2.2.2.1⟩):EnvOk Tryz.prog (E_Zbh k_rec):=envOk (E:=(E_Zbh k_rec)) cd_ok tys fl_ok λf ds S h=>by
  dsimp only [E_Zbh] at h;split at h
  ·cases h; exact hk
  ·cases h; exact Vxx
  ·cases h; exact Vye
  ·cases h; exact Vyf
  ·cases h; exact Vyg
  ·cases h; exact Vrr
  ·cases h
theorem Vru (k_rec:((List UInt8)×Int×(List (Ja))×Unit)->Int->Bool->(List UInt8)->Option Ycq) (hk:SoundT Tryz.prog cd gdn 208 ⟨ps_Zbh,rs_Zbh,λx=>k_rec x.1 x.2.1 x.2.2.1 x.2.2.2.1⟩):LoopOk Tryz.prog (E_Zbh k_rec) Tryz.f208.ntmps (kqOf ps_Zbh 0) (loopAt 1 (Tryz.f208.body.getD .skip)) ⟨[(0,.ptr [(.v .str),(.v (.int .i64)),(.own 1)]),(1,.f (.v (.int .i64))),(9,.ptr [(.v (.agg 1))]),(11,.f (.v .u64)),(13,.f (.v .bool)),(14,.f (.v .str)),(15,.f (.v .u64))],[(.ret,[(0,.ptr [(.v .str),(.v (.int .i64)),(.own 1)]),(8,.f (.v (.int .i64)))]),(.exit 1,[(0,.ptr [(.v .str),(.v (.int .i64)),(.own 1)])])],Zbh_L1 k_rec,[]⟩:=
 Vd5 (A:=(A_Zbh k_rec)) (done:=[]) (c0:=(Tryz.f208.body.getD .skip)) hmix (Vrt k_rec hk) Vaa rounds (by kernel_rfl) (by kernel_rfl) (λx=>Vrs k_rec x.1 x.2.1 x.2.2.1 x.2.2.2.1 x.2.2.2.2.1 x.2.2.2.2.2.1 x.2.2.2.2.2.2.1) (λ_=>rfl)
theorem Vl7:∀ n:Nat,SoundT Tryz.prog cd gdn 208 ⟨ps_Zbh,rs_Zbh,λx=>Zbh_n n x.1 x.2.1 x.2.2.1 x.2.2.2.1⟩
 | 0=>Vfy ⟨_,Tryz.func208,by kernel_rfl,by kernel_rfl⟩
 | n+1=>Vbi (E:=E_Zbh (Zbh_n n)) (A:=A_Zbh (Zbh_n n)) (done:=[1]) (c:=(Tryz.f208.body.getD .skip)) (S:=⟨ps_Zbh,rs_Zbh,λx=>Zbh_n (n+1) x.1 x.2.1 x.2.2.1 x.2.2.2.1⟩) (fn:=Tryz.f208) hmix (Vrt _ (Vl7 n)) Tryz.func208 rfl (by kernel_rfl) (by kernel_rfl) (Vah rfl (Vru _ (Vl7 n)) Vaa) (by kernel_rfl) (by kernel_rfl) (Vz4 (Zbh_n n))
theorem Vb6a:SoundT Tryz.prog cd gdn 208 S_Zbh:=Vl7 12
def c116:List (Ct T):=⟨208,none,S_Zbh,false⟩::c115
theorem o116:EnvOk Tryz.prog (mE c116):=eCons Vb6a o115
def Zfc (a0:List UInt8):Option (Unit×List Ja×Int×Int×Unit):=
 (Zbh (a0,0,[],()) 0 false []).bind λr1=>bif !(decide (r1.2.1=0)) then some ((),[],0,r1.2.1,()) else some ((),r1.1.1.2.2.1,r1.1.1.2.1,0,())
def c117:=cf c116 134 [qe] [qx,qa,qa] (u1 Zfc)
theorem o117:EO c117:=sz o116 Tryz.func134
def Zfg (a0 a1 a2:Int):O1 Bool:=
 bif decide (a1<=a0) then rt (decide (a0<=a2)) else rt false
def c118:=ct c117 474 [qb,qb,qb] [qd] (u3 Zfg)
theorem o118:EO c118:=sz o117 Tryz.func474
def Zgt (a0:Ja) (a1 a2:Int) (a3:Bool) (a4:List UInt8):O1 Int:=
 (bif decide (a0.kind=3) then some (a1,a2,a3,a4,(a0,()),true,()) else some (a1,a2,a3,a4,(a0,()),decide (a0.kind=4),())).bind λj1=>(bif decide (j1.2.2.2.2.1.1.kind=5) then some (j1.1,j1.2.1,j1.2.2.1,j1.2.2.2.1,(j1.2.2.2.2.1.1,()),j1.2.2.2.2.2.1,true,()) else some (j1.1,j1.2.1,j1.2.2.1,j1.2.2.2.1,(j1.2.2.2.2.1.1,()),j1.2.2.2.2.2.1,decide (j1.2.2.2.2.1.1.kind=6),())).bind λj2=>bif decide (512<=j2.1) then rt 8 else ((Zfg j2.2.2.2.2.1.1.kind 1 8).bind λr3=>bif !r3.2.1 then some (j2.2.1,j2.2.2.1,j2.2.2.2.1,(j2.2.2.2.2.1.1,()),j2.2.2.2.2.2.1,j2.2.2.2.2.2.2.1,true,()) else bif j2.2.2.1 then (Zgu j2.2.2.2.2.1.1.kind).bind λr4=>some (j2.2.1,j2.2.2.1,j2.2.2.2.1,(j2.2.2.2.2.1.1,()),j2.2.2.2.2.2.1,j2.2.2.2.2.2.2.1,!r4.2.1,()) else some (j2.2.1,j2.2.2.1,j2.2.2.2.1,(j2.2.2.2.2.1.1,()),j2.2.2.2.2.2.1,j2.2.2.2.2.2.2.1,false,())).bind λj5=>bif j5.2.2.2.2.2.2.1 then rt 3 else bif decide (8 < j5.1) then rt 5 else (bif j5.2.2.2.2.1 then bif !(decide (j5.2.2.2.1.1.number=0#64)) then some (j5.2.1,j5.2.2.1,(j5.2.2.2.1.1,()),j5.2.2.2.2.2.1,true,()) else bif decide (j5.2.2.2.1.1.kind=7) then bif decide ((1#64).toNat < j5.2.2.2.1.1.number.toNat) then some (j5.2.1,j5.2.2.1,(j5.2.2.2.1.1,()),j5.2.2.2.2.2.1,true,()) else bif !j5.2.2.2.2.1 then some (j5.2.1,j5.2.2.1,(j5.2.2.2.1.1,()),j5.2.2.2.2.2.1,!(decide (j5.2.2.2.1.1.data=([]:List UInt8))),()) else some (j5.2.1,j5.2.2.1,(j5.2.2.2.1.1,()),j5.2.2.2.2.2.1,false,()) else bif !j5.2.2.2.2.1 then some (j5.2.1,j5.2.2.1,(j5.2.2.2.1.1,()),j5.2.2.2.2.2.1,!(decide (j5.2.2.2.1.1.data=([]:List UInt8))),()) else some (j5.2.1,j5.2.2.1,(j5.2.2.2.1.1,()),j5.2.2.2.2.2.1,false,()) else bif decide (j5.2.2.2.1.1.kind=8) then bif !(decide (j5.2.2.2.1.1.number=0#64)) then some (j5.2.1,j5.2.2.1,(j5.2.2.2.1.1,()),j5.2.2.2.2.2.1,true,()) else bif decide (j5.2.2.2.1.1.kind=7) then bif decide ((1#64).toNat < j5.2.2.2.1.1.number.toNat) then some (j5.2.1,j5.2.2.1,(j5.2.2.2.1.1,()),j5.2.2.2.2.2.1,true,()) else bif !j5.2.2.2.2.1 then some (j5.2.1,j5.2.2.1,(j5.2.2.2.1.1,()),j5.2.2.2.2.2.1,!(decide (j5.2.2.2.1.1.data=([]:List UInt8))),()) else some (j5.2.1,j5.2.2.1,(j5.2.2.2.1.1,()),j5.2.2.2.2.2.1,false,()) else bif !j5.2.2.2.2.1 then some (j5.2.1,j5.2.2.1,(j5.2.2.2.1.1,()),j5.2.2.2.2.2.1,!(decide (j5.2.2.2.1.1.data=([]:List UInt8))),()) else some (j5.2.1,j5.2.2.1,(j5.2.2.2.1.1,()),j5.2.2.2.2.2.1,false,()) else bif decide (j5.2.2.2.1.1.kind=7) then bif decide ((1#64).toNat < j5.2.2.2.1.1.number.toNat) then some (j5.2.1,j5.2.2.1,(j5.2.2.2.1.1,()),j5.2.2.2.2.2.1,true,()) else bif !j5.2.2.2.2.1 then some (j5.2.1,j5.2.2.1,(j5.2.2.2.1.1,()),j5.2.2.2.2.2.1,!(decide (j5.2.2.2.1.1.data=([]:List UInt8))),()) else some (j5.2.1,j5.2.2.1,(j5.2.2.2.1.1,()),j5.2.2.2.2.2.1,false,()) else bif !j5.2.2.2.2.1 then some (j5.2.1,j5.2.2.1,(j5.2.2.2.1.1,()),j5.2.2.2.2.2.1,!(decide (j5.2.2.2.1.1.data=([]:List UInt8))),()) else some (j5.2.1,j5.2.2.1,(j5.2.2.2.1.1,()),j5.2.2.2.2.2.1,false,())).bind λj6=>bif j6.2.2.2.2.1 then rt 4 else (bif decide (1024 < (j6.2.2.1.1.data.length:Int)) then some (j6.1,j6.2.1,(j6.2.2.1.1,()),true,()) else bif j6.2.2.2.1 then some (j6.1,j6.2.1,(j6.2.2.1.1,()),decide ((512#64).toNat < j6.2.2.1.1.number.toNat),()) else some (j6.1,j6.2.1,(j6.2.2.1.1,()),false,())).bind λj7=>bif j7.2.2.2.1 then rt 8 else (bif decide (j7.2.2.1.1.kind=4) then (Zit j7.2.2.1.1.data).bind λr8=>some (j7.1,j7.2.1,(j7.2.2.1.1,()),!r8.2.1,()) else some (j7.1,j7.2.1,(j7.2.2.1.1,()),false,())).bind λj9=>bif j9.2.2.2.1 then rt 6 else (bif j9.1 then bif !(decide (j9.2.1=([]:List UInt8))) then (Zgr j9.2.2.1.1).bind λr10=>(Zif j9.2.1 r10.2.1).bind λr11=>some (!r11.2.1,()) else some (false,()) else some (false,())).bind λj12=>bif j12.1 then rt 7 else rt 0
def S_Zgt:FSpec T:=⟨[qb7,qb,qb,qm,qg],[qa],λx=>Zgt x.1 x.2.1 x.2.2.1 x.2.2.2.1 x.2.2.2.2.1⟩
theorem Vyh:SoundT Tryz.prog cd gdn 453 S_Zgt:=
 sndC hmix o118 (lcA [] [(2,[(1,.f (.v (.int .i64))),(2,.f (.v (.int .i64))),(3,.f (.v .bool)),(4,.f (.v .str)),(5,.ptr [(.v (.agg 1))]),(11,.f (.v .bool))],true),(3,[(1,.f (.v (.int .i64))),(2,.f (.v (.int .i64))),(3,.f (.v .bool)),(4,.f (.v .str)),(5,.ptr [(.v (.agg 1))]),(11,.f (.v .bool)),(12,.f (.v .bool))],true),(6,[(2,.f (.v (.int .i64))),(3,.f (.v .bool)),(4,.f (.v .str)),(5,.ptr [(.v (.agg 1))]),(11,.f (.v .bool)),(12,.f (.v .bool)),(32,.f (.v .bool))],true),(10,[(3,.f (.v .bool)),(4,.f (.v .str)),(5,.ptr [(.v (.agg 1))]),(12,.f (.v .bool)),(49,.f (.v .bool))],true),(12,[(3,.f (.v .bool)),(4,.f (.v .str)),(5,.ptr [(.v (.agg 1))]),(80,.f (.v .bool))],true),(14,[(3,.f (.v .bool)),(4,.f (.v .str)),(5,.ptr [(.v (.agg 1))]),(93,.f (.v .bool))],true),(16,[(103,.f (.v .bool))],true)] []) Tryz.func453 Vaa (by kernel_rfl) (by kernel_rfl) λx=>by kernel_rfl
def c119:List (Ct T):=⟨453,none,S_Zgt,true⟩::c118
theorem o119:EnvOk Tryz.prog (mE c119):=eCons Vyh o118
def Zih_L0b (k_rec:List Ja->Int->Int->Bool->List UInt8->O2 Int Int) (y0:List Ja) (y1:Int) (y2:Ja×Unit) (y3:Int) (y4:List UInt8) (y5:BitVec 64):Option (List Ja×Int×(Ja×Unit)×Int×List UInt8×BitVec 64×Unit⊕Int×Int×Unit⊕Int×Unit):=
 bif decide (y5.toNat < y2.1.number.toNat) then bif decide (y2.1.kind=5) then (bif decide (y2.1.kind=6) then (k_rec y0 y3 (Qa .i64 (y1+1)) true y4).bind λr3=>bif !(decide (r3.2.2.1=0)) then (some (Qc (Qb (r3.2.1,r3.2.2.1,())))).bind λq=>some (Qc q) else (getI y0 y3).bind λx4=>(Zgr x4).bind λr5=>some (Qb (y0,y1,(y2.1,()),r3.2.1,r5.2.1,y5,())) else some (Qb (y0,y1,(y2.1,()),y3,y4,y5,()))).bind (Qk (λj6=>(k_rec j6.1 j6.2.2.2.1 (Qa .i64 (j6.2.1+1)) false ([]:List UInt8)).bind λr7=>bif !(decide (r7.2.2.1=0)) then some (Qc (Qb (r7.2.1,r7.2.2.1,()))) else some (Qb (j6.1,j6.2.1,(j6.2.2.1.1,()),r7.2.1,j6.2.2.2.2.1,j6.2.2.2.2.2.1+1#64,()))) some) else bif decide (y2.1.kind=6) then (bif decide (y2.1.kind=6) then (k_rec y0 y3 (Qa .i64 (y1+1)) true y4).bind λr8=>bif !(decide (r8.2.2.1=0)) then (some (Qc (Qb (r8.2.1,r8.2.2.1,())))).bind λq=>some (Qc q) else (getI y0 y3).bind λx9=>(Zgr x9).bind λr10=>some (Qb (y0,y1,(y2.1,()),r8.2.1,r10.2.1,y5,())) else some (Qb (y0,y1,(y2.1,()),y3,y4,y5,()))).bind (Qk (λj11=>(k_rec j11.1 j11.2.2.2.1 (Qa .i64 (j11.2.1+1)) false ([]:List UInt8)).bind λr12=>bif !(decide (r12.2.2.1=0)) then some (Qc (Qb (r12.2.1,r12.2.2.1,()))) else some (Qb (j11.1,j11.2.1,(j11.2.2.1.1,()),r12.2.1,j11.2.2.2.2.1,j11.2.2.2.2.2.1+1#64,()))) some) else some (Qc (Qc (y3,()))) else some (Qc (Qc (y3,())))
def Zih_L0 (k_rec:List Ja->Int->Int->Bool->List UInt8->O2 Int Int) (y:List Ja×Int×(Ja×Unit)×Int×List UInt8×BitVec 64×Unit):Option (Int×Int×Unit⊕Int×Unit):=
 iter (λ(y:List Ja×Int×(Ja×Unit)×Int×List UInt8×BitVec 64×Unit)=>Zih_L0b k_rec y.1 y.2.1 y.2.2.1 y.2.2.2.1 y.2.2.2.2.1 y.2.2.2.2.2.1) rounds y
def Zih_R (k_rec:List Ja->Int->Int->Bool->List UInt8->O2 Int Int) (a0:List Ja) (a1 a2:Int) (a3:Bool) (a4:List UInt8):O2 Int Int:=
 bif decide (a0.length<=a1) then ru a1 1 else (getI a0 a1).bind λx1=>(Zgt x1 a1 a2 a3 a4).bind λr2=>bif !(decide (r2.2.1=0)) then ru a1 r2.2.1 else (Zih_L0 k_rec (a0,a2,(x1,()),Qa .i64 (a1+1),[],0#64,())).bind (Qk (λz13=>ru z13.1 z13.2.1) (λz14=>ru z14.1 0))
abbrev ps_Zih:List Slot:=[qn,qb,qb,qm,qg]
abbrev rs_Zih:List Fld:=[qa,qa]
def E_Zih (k_rec:(List (Ja))->Int->Int->Bool->(List UInt8)->Option ((Unit)×(Int×Int×Unit))):Env T:=⟨tab.find,cd,globs,flc,λf ds=>match f with
  | 298=>some S_Zgr
  | 406=>some ⟨ps_Zih,rs_Zih,λx=>k_rec x.1 x.2.1 x.2.2.1 x.2.2.2.1 x.2.2.2.2.1⟩
  | 453=>some S_Zgt
  | _=>none,λf=>match f with
  | 298=>true
  | 406=>true
  | 453=>true
  | _=>false⟩
def A_Zih (k_rec:(List (Ja))->Int->Int->Bool->(List UInt8)->Option ((Unit)×(Int×Int×Unit))):Loc2 T:=⟨λid=>match id with
  | 0=>some ⟨[(0,.f (.v (.rs 1))),(2,.f (.v (.int .i64))),(12,.ptr [(.v (.agg 1))]),(14,.f (.v (.int .i64))),(15,.f (.v .str)),(16,.f (.v .u64))],[(.ret,[(10,.f (.v (.int .i64))),(11,.f (.v (.int .i64)))]),(.exit 0,[(14,.f (.v (.int .i64)))])],Zih_L0 k_rec,[]⟩
  | _=>none,λr=>match r with
  | 19=>some ([(0,.f (.v (.rs 1))),(2,.f (.v (.int .i64))),(12,.ptr [(.v (.agg 1))]),(14,.f (.v (.int .i64))),(15,.f (.v .str)),(16,.f (.v .u64))],false)
  | _=>none,λr=>match r with
  | _=>false⟩
theorem Vrv (k_rec:(List (Ja))->Int->Int->Bool->(List UInt8)->Option ((Unit)×(Int×Int×Unit))) (y0:(List (Ja))) (y1:Int) (y2:(Ja×Unit)) (y3:Int) (y4:(List UInt8)) (y5:(BitVec 64)):run (E_Zih k_rec) (A_Zih k_rec) (loopAt 0 (Tryz.f406.body.getD .skip)) (layC cd [(0,.f (.v (.rs 1))),(2,.f (.v (.int .i64))),(12,.ptr [(.v (.agg 1))]),(14,.f (.v (.int .i64))),(15,.f (.v .str)),(16,.f (.v .u64))] [] (y0,y1,y2,y3,y4,y5,())) (roundK cd [(0,.f (.v (.rs 1))),(2,.f (.v (.int .i64))),(12,.ptr [(.v (.agg 1))]),(14,.f (.v (.int .i64))),(15,.f (.v .str)),(16,.f (.v .u64))] [] [(.ret,[(10,.f (.v (.int .i64))),(11,.f (.v (.int .i64)))]),(.exit 0,[(14,.f (.v (.int .i64)))])])=Zih_L0b k_rec y0 y1 y2 y3 y4 y5:=by kernel_rfl
theorem Vz5 (k_rec:(List (Ja))->Int->Int->Bool->(List UInt8)->Option ((Unit)×(Int×Int×Unit))) (x:tySs T ps_Zih):run (E_Zih k_rec) (A_Zih k_rec) (Tryz.f406.body.getD .skip) (enterT (E_Zih k_rec).C ps_Zih x) (retK (E_Zih k_rec) Tryz.f406.results.toList ps_Zih rs_Zih)=Zih_R k_rec x.1 x.2.1 x.2.2.1 x.2.2.2.1 x.2.2.2.2.1:=by kernel_rfl
def Zih_n:Nat->(List (Ja))->Int->Int->Bool->(List UInt8)->Option ((Unit)×(Int×Int×Unit))
 | 0=>λ_ _ _ _ _=>none
 | n+1=>Zih_R (Zih_n n)
def Zih (a0:(List (Ja))) (a1:Int) (a2:Int) (a3:Bool) (a4:(List UInt8)):=Zih_n 12 a0 a1 a2 a3 a4
def S_Zih:FSpec T:=⟨ps_Zih,rs_Zih,λx=>Zih x.1 x.2.1 x.2.2.1 x.2.2.2.1 x.2.2.2.2.1⟩
theorem Vrw (k_rec:(List (Ja))->Int->Int->Bool->(List UInt8)->Option ((Unit)×(Int×Int×Unit))) (hk:SoundT Tryz.prog cd gdn 406 ⟨ps_Zih,rs_Zih,λx=>k_rec x.1 x.2.1 x.2.2.1 x.2.2.2.1 x.2.2.2.2.1⟩):EnvOk Tryz.prog (E_Zih k_rec):=envOk (E:=(E_Zih k_rec)) cd_ok tys fl_ok λf ds S h=>by
  dsimp only [E_Zih] at h;split at h
  ·cases h; exact Vrr
  ·cases h; exact hk
  ·cases h; exact Vyh
  ·cases h
theorem Vrx (k_rec:(List (Ja))->Int->Int->Bool->(List UInt8)->Option ((Unit)×(Int×Int×Unit))) (hk:SoundT Tryz.prog cd gdn 406 ⟨ps_Zih,rs_Zih,λx=>k_rec x.1 x.2.1 x.2.2.1 x.2.2.2.1 x.2.2.2.2.1⟩):LoopOk Tryz.prog (E_Zih k_rec) Tryz.f406.ntmps (kqOf ps_Zih 0) (loopAt 0 (Tryz.f406.body.getD .skip)) ⟨[(0,.f (.v (.rs 1))),(2,.f (.v (.int .i64))),(12,.ptr [(.v (.agg 1))]),(14,.f (.v (.int .i64))),(15,.f (.v .str)),(16,.f (.v .u64))],[(.ret,[(10,.f (.v (.int .i64))),(11,.f (.v (.int .i64)))]),(.exit 0,[(14,.f (.v (.int .i64)))])],Zih_L0 k_rec,[]⟩:=
 Vd5 (A:=(A_Zih k_rec)) (done:=[]) (c0:=(Tryz.f406.body.getD .skip)) hmix (Vrw k_rec hk) Vaa rounds (by kernel_rfl) (by kernel_rfl) (λx=>Vrv k_rec x.1 x.2.1 x.2.2.1 x.2.2.2.1 x.2.2.2.2.1 x.2.2.2.2.2.1) (λ_=>rfl)
theorem Vl8:∀ n:Nat,SoundT Tryz.prog cd gdn 406 ⟨ps_Zih,rs_Zih,λx=>Zih_n n x.1 x.2.1 x.2.2.1 x.2.2.2.1 x.2.2.2.2.1⟩
 | 0=>Vfy ⟨_,Tryz.func406,by kernel_rfl,by kernel_rfl⟩
 | n+1=>Vbi (E:=E_Zih (Zih_n n)) (A:=A_Zih (Zih_n n)) (done:=[0]) (c:=(Tryz.f406.body.getD .skip)) (S:=⟨ps_Zih,rs_Zih,λx=>Zih_n (n+1) x.1 x.2.1 x.2.2.1 x.2.2.2.1 x.2.2.2.2.1⟩) (fn:=Tryz.f406) hmix (Vrw _ (Vl8 n)) Tryz.func406 rfl (by kernel_rfl) (by kernel_rfl) (Vah rfl (Vrx _ (Vl8 n)) Vaa) (by kernel_rfl) (by kernel_rfl) (Vz5 (Zih_n n))
theorem Vb7a:SoundT Tryz.prog cd gdn 406 S_Zih:=Vl8 12
def c120:List (Ct T):=⟨406,none,S_Zih,true⟩::c119
theorem o120:EnvOk Tryz.prog (mE c120):=eCons Vb7a o119
def Zdb (a0:List Ja):O1 Int:=
 (Zih a0 0 0 false []).bind λr1=>bif !(decide (r1.2.2.1=0)) then rt r1.2.2.1 else bif decide (r1.2.1 < a0.length) then rt 2 else rt 0
def c121:=ct c120 299 [qn] [qa] (u1 Zdb)
theorem o121:EO c121:=sz o120 Tryz.func299
def Zid_L0b (y0:List Ja) (y1:Int) (y2:BitVec 64):Option (((List (Ja)) × Int × (BitVec 64) × Unit)⊕((Int × Bool × Unit) ⊕ (Int × Unit))):=
 bif decide ((0#64).toNat < y2.toNat) then bif decide (y0.length<=y1) then some (Qc (Qb (0,false,()))) else (getI y0 y1).bind λx1=>bif decide (x1.kind=5) then bif decide ((512#64).toNat < x1.number.toNat) then some (Qc (Qb (0,false,()))) else (bif decide (x1.kind=5) then some (y0,y1,y2 - 1#64+x1.number,(x1,()),()) else some (y0,y1,y2 - 1#64,(x1,()),())).bind λj2=>bif decide (j2.2.2.2.1.1.kind=6) then some (Qb (j2.1,Qa .i64 (j2.2.1+1),j2.2.2.1+2#64*j2.2.2.2.1.1.number,())) else some (Qb (j2.1,Qa .i64 (j2.2.1+1),j2.2.2.1,())) else bif decide (x1.kind=6) then bif decide ((512#64).toNat < x1.number.toNat) then some (Qc (Qb (0,false,()))) else (bif decide (x1.kind=5) then some (y0,y1,y2 - 1#64+x1.number,(x1,()),()) else some (y0,y1,y2 - 1#64,(x1,()),())).bind λj3=>bif decide (j3.2.2.2.1.1.kind=6) then some (Qb (j3.1,Qa .i64 (j3.2.1+1),j3.2.2.1+2#64*j3.2.2.2.1.1.number,())) else some (Qb (j3.1,Qa .i64 (j3.2.1+1),j3.2.2.1,())) else (bif decide (x1.kind=5) then some (y0,y1,y2 - 1#64+x1.number,(x1,()),()) else some (y0,y1,y2 - 1#64,(x1,()),())).bind λj4=>bif decide (j4.2.2.2.1.1.kind=6) then some (Qb (j4.1,Qa .i64 (j4.2.1+1),j4.2.2.1+2#64*j4.2.2.2.1.1.number,())) else some (Qb (j4.1,Qa .i64 (j4.2.1+1),j4.2.2.1,())) else some (Qc (Qc (y1,())))
def Zid_L0:=Yi3 Zid_L0b
def Zid (a0:List Ja) (a1:Int):O2 Int Bool:=
 bif decide (a1 < 0) then ru 0 false else bif decide (a0.length<=a1) then ru 0 false else (Zid_L0 (a0,a1,1#64,())).bind (Qk (λz5=>ru z5.1 z5.2.1) (λz6=>ru z6.1 true))
def c122:=ct c121 300 [qn,qb] [qa,qd] (u2 Zid)
def s_Zid_L0:LSpec T:=⟨[(0,qn),(1,qb),(6,qf)],[(.ret,[(4,qb),(5,qm)]),(.exit 0,[(1,qb)])],Zid_L0,[]⟩
def A_Zid:Loc2 T:=lcA [(0,s_Zid_L0)] [(14,[(0,qn),(1,qb),(6,qf),(7,qbb)],true)] []
theorem Vry:LO c122 Tryz.f300 0 s_Zid_L0:=lx o121 A_Zid dn (λ_=>rfl)
theorem o122:EO c122:=sx o121 A_Zid Tryz.func300 (dc rfl Vry dn)
def Zff_L0b (y0:List Ja) (y1:BitVec 64) (y2:Int) (y3:BitVec 64):Option (((List (Ja)) × (BitVec 64) × Int × (BitVec 64) × Unit)⊕(((List (Ja)) × Bool × Unit) ⊕ (Unit))):=
 (getI y0 (0:Int)).bind λx3=>bif decide (y3.toNat < x3.number.toNat) then (Zid y0 y2).bind λr4=>(Zid y0 r4.2.1).bind λr5=>(getI y0 y2).bind λx6=>bif decide (x6.kind=1) then (getI y0 y2).bind λx7=>bif decide (x7.number=y1) then bif decide (0<=r5.2.1)&&decide (r5.2.1<=y0.length) then bif decide (0<=r4.2.1)&&decide (r4.2.1<=r5.2.1.toNat) then let v8:=Qm r4.2.1.toNat (Qi r5.2.1.toNat y0);bif small v8.length 32 then some (Qc (Qb (v8,true,()))) else none else none else none else some (Qb (y0,y1,r5.2.1,y3+1#64,())) else some (Qb (y0,y1,r5.2.1,y3+1#64,())) else some (Qc (Qc ()))
def Zff_L0:=Yi4 Zff_L0b
def Zff (a0:List Ja) (a1:BitVec 64):O2 (List Ja) Bool:=
 (Zdb a0).bind λr1=>bif !(decide (r1.2.1=0)) then ru [] false else (getI a0 (0:Int)).bind λx2=>bif !(decide (x2.kind=6)) then ru [] false else (Zff_L0 (a0,a1,1,0#64,())).bind (Qk (λz9=>ru z9.1 z9.2.1) (λz10=>ru [] false))
def c123:=cf c122 209 [qn,qf] [qx,qd] (u2 Zff)
def s_Zff_L0:LSpec T:=⟨[(0,qn),(1,qf),(6,qb),(7,qf)],[(.ret,[(4,qbn),(5,qm)]),(.exit 0,[])],Zff_L0,[]⟩
def A_Zff:Loc2 T:=lcA [(0,s_Zff_L0)] [] []
theorem Vrz:LO c123 Tryz.f209 0 s_Zff_L0:=lx o122 A_Zff dn (λ_=>rfl)
theorem o123:EO c123:=sx o122 A_Zff Tryz.func209 (dc rfl Vrz dn)
def Zdr_L0b (y0:List Ja) (y1:List (List UInt8)) (y2:Int):Option (((List (Ja)) × (List (List UInt8)) × Int × Unit)⊕((List (List UInt8)) × Unit)):=
 bif decide (y2 < y0.length) then bif decide (0<=y2)&&decide (y2 < y0.length) then y0[y2.toNat]?.bind λx2=>bif small (y1.length+([x2.data]).length) 24 then some (Qb (y0,y1++[x2.data],Qa .i64 (y2+1),())) else none else none else some (Qc (y1,()))
def Zdr_L0:=Yi3 Zdr_L0b
def Zdr (a0:List Ja) (a1:Int):O1 (List (List UInt8)):=
 (Zff a0 (Qd 64 a1)).bind λr1=>(Zdr_L0 (r1.2.1,[],1,())).bind λz3=>rt z3.1
def c124:=cf c123 135 [qn,qb] [qbg] (u2 Zdr)
def s_Zdr_L0:LSpec T:=⟨[(5,qbn),(7,(.f qbg)),(8,qb)],[(.exit 0,[(7,(.f qbg))])],Zdr_L0,[]⟩
def A_Zdr:Loc2 T:=lcA [(0,s_Zdr_L0)] [] []
theorem Vr0:LO c124 Tryz.f135 0 s_Zdr_L0:=lx o123 A_Zdr dn (λ_=>rfl)
theorem o124:EO c124:=sx o123 A_Zdr Tryz.func135 (dc rfl Vr0 dn)
def Zhw (a0:List Ja) (a1:Int):Option (Unit×BitVec 64×List UInt8×Bool×Unit):=
 (Zff a0 (Qd 64 a1)).bind λr1=>bif !r1.2.2.1 then some ((),0#64,[],false,()) else bif decide (0 < (r1.2.1.length:Int)) then r1.2.1[0]?.bind λx2=>bif decide (0 < (r1.2.1.length:Int)) then r1.2.1[0]?.bind λx3=>some ((),x2.number,x3.data,true,()) else none else none
def c125:=ct c124 136 [qn,qb] [qu,qs,qd] (u2 Zhw)
theorem o125:EO c125:=sz o124 Tryz.func136
def Zex (a0:BitVec 64):O1 Int:=
 let v1:BitVec 64:=bif decide ((1048576#64).toNat < a0.toNat) then 1048576#64 else a0;rt (Qa .i64 (v1.toNat:Int))
def c126:=ct c125 137 [qf] [qa] (u1 Zex)
theorem o126:EO c126:=sz o125 Tryz.func137
def Zjk_L0b (y0:Int) (y1:List Int) (y2:Int):Option ((Int × (List (Int)) × Int × Unit)⊕((Bool × Unit) ⊕ (Unit))):=
 bif decide (y2 < y1.length) then (getI y1 y2).bind λx1=>bif decide (x1=y0) then some (Qc (Qb (true,()))) else some (Qb (y0,y1,Qa .i64 (y2+1),())) else some (Qc (Qc ()))
def Zjk_L0:=Yi3 Zjk_L0b
def Zjk (a0:Int) (a1:List Int):O1 Bool:=
 (Zjk_L0 (a0,a1,0,())).bind (Qk (λz2=>rt z2.1) (λz3=>rt false))
def S_Zjk:FSpec T:=⟨[qb,qbo],[qd],λx=>Zjk x.1 x.2.1⟩
def s_Zjk_L0:LSpec T:=⟨[(0,qb),(1,qbo),(5,qb)],[(.ret,[(4,qm)]),(.exit 0,[])],Zjk_L0,[]⟩
def A_Zjk:Loc2 T:=lcA [(0,s_Zjk_L0)] [] []
theorem Vr1:LoopOk Tryz.prog (mE c126) Tryz.f407.ntmps (kqOf S_Zjk.ps 0) (loopAt 0 (bodyOf Tryz.f407)) s_Zjk_L0:=
 lpC hmix o126 A_Zjk Vaa 0 (st:=λy=>Zjk_L0b y.1 y.2.1 y.2.2.1) (λ_=>rfl) (by kernel_rfl) (by kernel_rfl) λx=>by kernel_rfl
theorem Vyi:SoundT Tryz.prog cd gdn 407 S_Zjk:=
 sndC hmix o126 A_Zjk Tryz.func407 (Vah rfl Vr1 Vaa) (by kernel_rfl) (by kernel_rfl) λx=>by kernel_rfl
def c127:List (Ct T):=⟨407,none,S_Zjk,true⟩::c126
theorem o127:EnvOk Tryz.prog (mE c127):=eCons Vyi o126
end Go.Proofs.YtaddhgkhilmniaaGreatDoor
