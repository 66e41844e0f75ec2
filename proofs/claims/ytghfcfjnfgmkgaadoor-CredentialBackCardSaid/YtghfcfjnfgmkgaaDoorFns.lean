/- The functions of the program, as plain functions, and that the program computes them. Written by a program. -/
import Derived.Test.YtghfcfjnfgmkgaaDoorFns0
set_option linter.unusedVariables false
set_option maxRecDepth 100000
namespace Go.Proofs.YtghfcfjnfgmkgaaDoor
open Go Go.Abs
def Zam_L0b (y0:(List (UInt8))) (y1:UInt8):Option (((List (UInt8)) × UInt8 × Unit) ⊕ ((List (UInt8)) × Unit)):=
 (bif (decide ((0:Int) < ((y0).length:Int))) then ((getI y0 (0:Int)).bind fun x1=>(bif (decide (x1.toBitVec=y1.toBitVec)) then (bif decide ((1:Int) ≤ ((y0).length:Int)) then (some (Sum.inl ((List.drop 1 y0),y1,())))
 else none)
 else (some (Sum.inr (y0,())))))
 else (some (Sum.inr (y0,()))))
def Zam_L0 (y:((List (UInt8)) × UInt8 × Unit)):Option ((List (UInt8)) × Unit):=iter (fun (y:((List (UInt8)) × UInt8 × Unit))=>Zam_L0b y.1 y.2.1) rounds y
def Zam (a0:(List (UInt8))) (a1:UInt8):Option ((Unit) × ((List (UInt8)) × Unit)):=
 ((Zam_L0 (a0,a1,())).bind (fun (z2:((List (UInt8)) × Unit))=>(bif (decide (((z2.1).length:Int)=(0:Int))) then (some ((),([],())))
 else (some ((),(z2.1,()))))))
def S_Zam:FSpec T:=⟨[.f (.v (.rs 0)),.f (.v .u8)],[(.v (.rs 0))],fun x=>Zam x.1 x.2.1⟩
def E_Zam:Env T:=⟨tab.find,cd,globs,flc,fun f ds=>match f with
    | _=>none,fun f=>match f with
    | _=>false⟩
def A_Zam:Loc2 T:=⟨fun id=>match id with
    | 0=>some ⟨[(0,.f (.v (.rs 0))),(1,.f (.v .u8))],[(.exit 0,[(0,.f (.v (.rs 0)))])],Zam_L0,[]⟩
    | _=>none,fun r=>match r with
    | _=>none,fun r=>match r with
    | _=>false⟩
theorem Zam_L0_eq (y0:(List (UInt8))) (y1:UInt8):run E_Zam A_Zam (loopAt 0 (Tryd.f40.body.getD .skip)) (layC cd [(0,.f (.v (.rs 0))),(1,.f (.v .u8))] [] (y0,y1,())) (roundK cd [(0,.f (.v (.rs 0))),(1,.f (.v .u8))] [] [(.exit 0,[(0,.f (.v (.rs 0)))])])=Zam_L0b y0 y1:=by kernel_rfl
theorem Zam_eq (x:tySs T S_Zam.ps):run E_Zam A_Zam (Tryd.f40.body.getD .skip) (enterT E_Zam.C S_Zam.ps x) (retK E_Zam Tryd.f40.results.toList S_Zam.ps S_Zam.rs)=S_Zam.fn x:=by kernel_rfl
theorem Zam_env:EnvOk Tryd.prog E_Zam:=envOk (E:=E_Zam) cd_ok tys fl_ok fun f ds S h=>by cases h
theorem Zam_L0_ok:LoopOk Tryd.prog E_Zam Tryd.f40.ntmps (kqOf S_Zam.ps 0) (loopAt 0 (Tryd.f40.body.getD .skip)) ⟨[(0,.f (.v (.rs 0))),(1,.f (.v .u8))],[(.exit 0,[(0,.f (.v (.rs 0)))])],Zam_L0,[]⟩:=
  loop_ok (A:=A_Zam) (done:=[]) (c0:=(Tryd.f40.body.getD .skip)) hmix Zam_env done_nil rounds (by kernel_rfl) (by kernel_rfl) (fun x=>Zam_L0_eq x.1 x.2.1) (fun _=>rfl)
theorem Zam_ok:SoundT Tryd.prog cd gdn 40 S_Zam:=
  sound_fn (E:=E_Zam) (A:=A_Zam) (done:=[0]) (c:=(Tryd.f40.body.getD .skip)) (S:=S_Zam) (fn:=Tryd.f40) hmix Zam_env Tryd.func40 rfl (by kernel_rfl) (by kernel_rfl) (done_cons rfl Zam_L0_ok done_nil) (by kernel_rfl) (by kernel_rfl) Zam_eq
def Zch (a0:(List (UInt8))) (a1:(List UInt8)):Option ((Unit) × ((List (UInt8)) × Unit)):=
 (bif (decide (((a0).length:Int)=(0:Int))) then (some ((),([],())))
 else (bif (decide (a1=([]:List UInt8))) then (some ((),(a0,())))
 else (bif (decide (((a1).length:Int)=(1:Int))) then ((getI a1 (0:Int)).bind fun x1=>(bif (decide (x1.toBitVec.toNat < (128:UInt8).toBitVec.toNat)) then ((getI a1 (0:Int)).bind fun x2=>((Zai a0 x2).bind fun r3=>((getI a1 (0:Int)).bind fun x4=>((Zam r3.2.1 x4).bind fun r5=>(some ((),(r5.2.1,())))))))
 else none))
 else none)))
def S_Zch:FSpec T:=⟨[.f (.v (.rs 0)),.f (.v .str)],[(.v (.rs 0))],fun x=>Zch x.1 x.2.1⟩
def E_Zch:Env T:=⟨tab.find,cd,globs,flc,fun f ds=>match f with
    | 40=>some S_Zam
    | 41=>some S_Zai
    | _=>none,fun f=>match f with
    | _=>false⟩
def A_Zch:Loc2 T:=⟨fun id=>match id with
    | _=>none,fun r=>match r with
    | _=>none,fun r=>match r with
    | _=>false⟩
theorem Zch_eq (x:tySs T S_Zch.ps):run E_Zch A_Zch (Tryd.f21.body.getD .skip) (enterT E_Zch.C S_Zch.ps x) (retK E_Zch Tryd.f21.results.toList S_Zch.ps S_Zch.rs)=S_Zch.fn x:=by kernel_rfl
theorem Zch_env:EnvOk Tryd.prog E_Zch:=envOk (E:=E_Zch) cd_ok tys fl_ok fun f ds S h=>by
    dsimp only [E_Zch] at h
    split at h
    · cases h; exact Zam_ok
    · cases h; exact Zai_ok
    · cases h
theorem Zch_ok:SoundT Tryd.prog cd gdn 21 S_Zch:=
  sound_fn (E:=E_Zch) (A:=A_Zch) (done:=[]) (c:=(Tryd.f21.body.getD .skip)) (S:=S_Zch) (fn:=Tryd.f21) hmix Zch_env Tryd.func21 rfl (by kernel_rfl) (by kernel_rfl) done_nil (by kernel_rfl) (by kernel_rfl) Zch_eq
def Zau (a0:(BitVec 64)) (a1:(List UInt8)) (a2:(List (UInt8))):Option ((Unit) × (ApiCredential × Int × Unit)):=
 (bif (!decide (((a2).length:Int)=(176:Int))) then (some ((),((⟨([]:List UInt8),([]:List UInt8),([]:List UInt8),0#64,(0:Int),false,(0:Int),false,false⟩:ApiCredential),(4:Int),())))
 else ((Zap a0).bind fun r1=>((Zbb a1).bind fun r2=>((Zcq r1.2.1 r2.2.1 a2).bind fun r3=>(bif (!decide (r3.2.2.1=(0:Int))) then (some ((),((⟨([]:List UInt8),([]:List UInt8),([]:List UInt8),0#64,(0:Int),false,(0:Int),false,false⟩:ApiCredential),r3.2.2.1,())))
 else ((Zca r3.2.1).bind fun r4=>(bif (!decide (r4.2.2.2.1=(0:Int))) then (some ((),((⟨([]:List UInt8),([]:List UInt8),([]:List UInt8),0#64,(0:Int),false,(0:Int),false,false⟩:ApiCredential),(2:Int),())))
 else (bif (decide (r4.2.2.1 < (0:Int))) then (some ((),((⟨([]:List UInt8),([]:List UInt8),([]:List UInt8),0#64,(0:Int),false,(0:Int),false,false⟩:ApiCredential),(2:Int),())))
 else (bif (decide (((r3.2.1).length:Int) < r4.2.2.1)) then (some ((),((⟨([]:List UInt8),([]:List UInt8),([]:List UInt8),0#64,(0:Int),false,(0:Int),false,false⟩:ApiCredential),(2:Int),())))
 else (bif (decide ((0:Int) ≤ r4.2.2.1) && decide (r4.2.2.1 ≤ ((r3.2.1).length:Int))) then (bif decide ((r4.2.2.1).toNat ≤ (r3.2.1).length) then ((Zas (List.take (r4.2.2.1).toNat r3.2.1)).bind fun r5=>(bif (!decide (r5.2.2.1=(0:Int))) then (some ((),((⟨([]:List UInt8),([]:List UInt8),([]:List UInt8),0#64,(0:Int),false,(0:Int),false,false⟩:ApiCredential),(2:Int),())))
 else (bif (!decide (((r3.2.1).length:Int)=(160:Int))) then (some ((),((⟨([]:List UInt8),([]:List UInt8),([]:List UInt8),0#64,(0:Int),false,(0:Int),false,false⟩:ApiCredential),(2:Int),())))
 else (bif (decide ((0:Int) ≤ r4.2.2.1) && decide (r4.2.2.1 ≤ ((r3.2.1).length:Int))) then (bif decide (((r3.2.1).length - (r4.2.2.1).toNat) + (r4.2.2.1).toNat ≤ (r3.2.1).length) then ((Zch (List.take ((r3.2.1).length - (r4.2.2.1).toNat) (List.drop (r4.2.2.1).toNat r3.2.1)) ([0]:List UInt8)).bind fun r6=>(bif (decide ((0:Int) < ((r6.2.1).length:Int))) then (some ((),((⟨([]:List UInt8),([]:List UInt8),([]:List UInt8),0#64,(0:Int),false,(0:Int),false,false⟩:ApiCredential),(2:Int),())))
 else (bif r5.2.1.resident then (some ((),((⟨([]:List UInt8),([]:List UInt8),([]:List UInt8),0#64,(0:Int),false,(0:Int),false,false⟩:ApiCredential),(11:Int),())))
 else (bif (!decide (r5.2.1.rP=a1)) then (some ((),((⟨([]:List UInt8),([]:List UInt8),([]:List UInt8),0#64,(0:Int),false,(0:Int),false,false⟩:ApiCredential),(11:Int),())))
 else (some ((),(r5.2.1,(0:Int),())))))))
 else none)
 else none))))
 else none)
 else none))))))))))
def S_Zau:FSpec T:=⟨[.f (.v .u64),.f (.v .str),.f (.v (.rs 0))],[(.v (.agg 3)),(.v (.int .i64))],fun x=>Zau x.1 x.2.1 x.2.2.1⟩
def E_Zau:Env T:=⟨tab.find,cd,globs,flc,fun f ds=>match f with
    | 15=>some S_Zap
    | 16=>some S_Zbb
    | 18=>some S_Zcq
    | 19=>some S_Zca
    | 20=>some S_Zas
    | 21=>some S_Zch
    | _=>none,fun f=>match f with
    | 15=>true
    | 20=>true
    | _=>false⟩
def A_Zau:Loc2 T:=⟨fun id=>match id with
    | _=>none,fun r=>match r with
    | _=>none,fun r=>match r with
    | _=>false⟩
theorem Zau_eq (x:tySs T S_Zau.ps):run E_Zau A_Zau (Tryd.f7.body.getD .skip) (enterT E_Zau.C S_Zau.ps x) (retK E_Zau Tryd.f7.results.toList S_Zau.ps S_Zau.rs)=S_Zau.fn x:=by kernel_rfl
theorem Zau_env:EnvOk Tryd.prog E_Zau:=envOk (E:=E_Zau) cd_ok tys fl_ok fun f ds S h=>by
    dsimp only [E_Zau] at h
    split at h
    · cases h; exact Zap_ok
    · cases h; exact Zbb_ok
    · cases h; exact Zcq_ok
    · cases h; exact Zca_ok
    · cases h; exact Zas_ok
    · cases h; exact Zch_ok
    · cases h
theorem Zau_ok:SoundT Tryd.prog cd gdn 7 S_Zau:=
  sound_fn (E:=E_Zau) (A:=A_Zau) (done:=[]) (c:=(Tryd.f7.body.getD .skip)) (S:=S_Zau) (fn:=Tryd.f7) hmix Zau_env Tryd.func7 rfl (by kernel_rfl) (by kernel_rfl) done_nil (by kernel_rfl) (by kernel_rfl) Zau_eq
def Zaq:Option ((Unit) × (Bool × Unit)):=
 ((Zbr (7#64) (8#64) (⟨([97,46,101,120,97,109,112,108,101]:List UInt8),([117]:List UInt8),([]:List UInt8),3#64,(1:Int),false,(1:Int),false,false⟩:ApiCredential)).bind fun r1=>((Zau (7#64) ([97,46,101,120,97,109,112,108,101]:List UInt8) r1.2.1).bind fun r2=>((Zau (7#64) ([98,46,101,120,97,109,112,108,101]:List UInt8) r1.2.1).bind fun r3=>(bif (decide (r1.2.2.1=(0:Int))) then (bif (decide (r2.2.2.1=(0:Int))) then (bif (decide (r3.2.2.1=(14:Int))) then (let v4:Bool:=(decide (r2.2.1.rP=([97,46,101,120,97,109,112,108,101]:List UInt8)) && (decide (r2.2.1.user=([117]:List UInt8)) && (decide (r2.2.1.name=([]:List UInt8)) && (decide (r2.2.1.seed=3#64) && (decide (r2.2.1.height=(1:Int)) && ((r2.2.1.resident == false) && (decide (r2.2.1.protect=(1:Int)) && ((r2.2.1.shared == false) && ((r2.2.1.backed == false) && true)))))))))
 (bif v4 then (bif (decide (((r1.2.1).length:Int)=(176:Int))) then ((Zaj (⟨([]:List UInt8),([]:List UInt8),([]:List UInt8),0#64,(0:Int),false,(0:Int),false,false⟩:ApiCredential)).bind fun r5=>(some ((),((decide (r5.2.1=(9:Int))),()))))
 else (some ((),(false,()))))
 else (some ((),(false,())))))
 else (some ((),(false,()))))
 else (some ((),(false,()))))
 else (some ((),(false,())))))))
def S_Zaq:FSpec T:=⟨[],[(.v .bool)],fun x=>Zaq ⟩
def E_Zaq:Env T:=⟨tab.find,cd,globs,flc,fun f ds=>match f with
    | 5=>some S_Zbr
    | 7=>some S_Zau
    | 17=>some S_Zaj
    | _=>none,fun f=>match f with
    | 7=>true
    | 17=>true
    | _=>false⟩
def A_Zaq:Loc2 T:=⟨fun id=>match id with
    | _=>none,fun r=>match r with
    | _=>none,fun r=>match r with
    | _=>false⟩
theorem Zaq_eq (x:tySs T S_Zaq.ps):run E_Zaq A_Zaq (Tryd.f6.body.getD .skip) (enterT E_Zaq.C S_Zaq.ps x) (retK E_Zaq Tryd.f6.results.toList S_Zaq.ps S_Zaq.rs)=S_Zaq.fn x:=by kernel_rfl
theorem Zaq_env:EnvOk Tryd.prog E_Zaq:=envOk (E:=E_Zaq) cd_ok tys fl_ok fun f ds S h=>by
    dsimp only [E_Zaq] at h
    split at h
    · cases h; exact Zbr_ok
    · cases h; exact Zau_ok
    · cases h; exact Zaj_ok
    · cases h
theorem Zaq_ok:SoundT Tryd.prog cd gdn 6 S_Zaq:=
  sound_fn (E:=E_Zaq) (A:=A_Zaq) (done:=[]) (c:=(Tryd.f6.body.getD .skip)) (S:=S_Zaq) (fn:=Tryd.f6) hmix Zaq_env Tryd.func6 rfl (by kernel_rfl) (by kernel_rfl) done_nil (by kernel_rfl) (by kernel_rfl) Zaq_eq
def Zab (a0:(BitVec 64)) (a1:(BitVec 64)) (a2:Int):Option ((Unit) × (Bool × Unit)):=
 (let v1:Int:=(IntKind.wrap .i64 ((BitVec.ofInt (IntKind.bits .i64) a2 &&& BitVec.ofInt (IntKind.bits .i64) (1048575:Int)).toNat:Int))
 ((Zag v1).bind fun r2=>((Zbr a0 a1 r2.2.1).bind fun r3=>(bif (!decide (r3.2.2.1=(0:Int))) then (some ((),(false,())))
 else (bif (!decide (((r3.2.1).length:Int)=(176:Int))) then (some ((),(false,())))
 else (bif r2.2.1.resident then ((Zbr (a0 + 1#64) (a1 + 1#64) r2.2.1).bind fun r4=>(bif (decide (r4.2.2.1=(0:Int))) then (bif (decide (r3.2.1=r4.2.1)) then ((Zaq).bind fun r5=>(some ((),(r5.2.1,()))))
 else (some ((),(false,()))))
 else (some ((),(false,())))))
 else ((Zau a0 r2.2.1.rP r3.2.1).bind fun r6=>(bif (decide (r6.2.2.1=(0:Int))) then (let v7:Bool:=(decide (r2.2.1.rP=r6.2.1.rP) && (decide (r2.2.1.user=r6.2.1.user) && (decide (r2.2.1.name=r6.2.1.name) && (decide (r2.2.1.seed=r6.2.1.seed) && (decide (r2.2.1.height=r6.2.1.height) && ((r2.2.1.resident == r6.2.1.resident) && (decide (r2.2.1.protect=r6.2.1.protect) && ((r2.2.1.shared == r6.2.1.shared) && ((r2.2.1.backed == r6.2.1.backed) && true)))))))))
 (bif v7 then ((Zaq).bind fun r8=>(some ((),(r8.2.1,()))))
 else (some ((),(false,())))))
 else (some ((),(false,())))))))))))
def S_Zab:FSpec T:=⟨[.f (.v .u64),.f (.v .u64),.f (.v (.int .i64))],[(.v .bool)],fun x=>Zab x.1 x.2.1 x.2.2.1⟩
def E_Zab:Env T:=⟨tab.find,cd,globs,flc,fun f ds=>match f with
    | 4=>some S_Zag
    | 5=>some S_Zbr
    | 6=>some S_Zaq
    | 7=>some S_Zau
    | _=>none,fun f=>match f with
    | 4=>true
    | 6=>true
    | 7=>true
    | _=>false⟩
def A_Zab:Loc2 T:=⟨fun id=>match id with
    | _=>none,fun r=>match r with
    | _=>none,fun r=>match r with
    | _=>false⟩
theorem Zab_eq (x:tySs T S_Zab.ps):run E_Zab A_Zab (Tryd.f3.body.getD .skip) (enterT E_Zab.C S_Zab.ps x) (retK E_Zab Tryd.f3.results.toList S_Zab.ps S_Zab.rs)=S_Zab.fn x:=by kernel_rfl
theorem Zab_env:EnvOk Tryd.prog E_Zab:=envOk (E:=E_Zab) cd_ok tys fl_ok fun f ds S h=>by
    dsimp only [E_Zab] at h
    split at h
    · cases h; exact Zag_ok
    · cases h; exact Zbr_ok
    · cases h; exact Zaq_ok
    · cases h; exact Zau_ok
    · cases h
theorem Zab_ok:SoundT Tryd.prog cd gdn 3 S_Zab:=
  sound_fn (E:=E_Zab) (A:=A_Zab) (done:=[]) (c:=(Tryd.f3.body.getD .skip)) (S:=S_Zab) (fn:=Tryd.f3) hmix Zab_env Tryd.func3 rfl (by kernel_rfl) (by kernel_rfl) done_nil (by kernel_rfl) (by kernel_rfl) Zab_eq
def CredentialBack_dom (a0:(BitVec 64)) (a1:(BitVec 64)) (a2:Int):Prop:=ArgD cd [.u64,.u64,(.int .i64)] (a0,a1,a2,())
end Go.Proofs.YtghfcfjnfgmkgaaDoor
