/- Replies: the reference's encoding. -/
import Derived.Test.YthoblablopmhfaaGreatDoorFns
import Derived.Test.YthoblablopmhfaaGreatDoorMsL
namespace Go.Proofs.YthoblablopmhfaaGreatDoor
set_option linter.unusedVariables false
set_option linter.unusedSimpArgs false
set_option maxRecDepth 100000
open Go Go.Abs
def arrT (t:T18):Arr18_ListApiItem:=⟨t.1,t.2.1,t.2.2.1,t.2.2.2.1,t.2.2.2.2.1,t.2.2.2.2.2.1,t.2.2.2.2.2.2.1,t.2.2.2.2.2.2.2.1,t.2.2.2.2.2.2.2.2.1,t.2.2.2.2.2.2.2.2.2.1,t.2.2.2.2.2.2.2.2.2.2.1,t.2.2.2.2.2.2.2.2.2.2.2.1,t.2.2.2.2.2.2.2.2.2.2.2.2.1,t.2.2.2.2.2.2.2.2.2.2.2.2.2.1,t.2.2.2.2.2.2.2.2.2.2.2.2.2.2.1,t.2.2.2.2.2.2.2.2.2.2.2.2.2.2.2.1,t.2.2.2.2.2.2.2.2.2.2.2.2.2.2.2.2.1,t.2.2.2.2.2.2.2.2.2.2.2.2.2.2.2.2.2.1⟩
def valsR (r:ApiReply):List (List ApiItem):=[bytesI r.authData,bytesI r.signature,certI r.certificates,uintI (BitVec.ofInt 64 r.format),bytesI r.iD,bytesI r.user,textI r.name,uintI (BitVec.ofInt 64 r.count),uintI r.peer,bytesI r.box,uintI r.model,uintI (BitVec.ofInt 64 r.retries),uintI (BitVec.ofInt 64 r.rooms),uintI (BitVec.ofInt 64 r.leases),boolI r.pinSet,boolI r.finger,entsI r.entries]
def GR (r:ApiReply) (k:Nat):List ApiItem:=bif Nat.beq k 17 then (bif decide ((0:Int) < (r.entries.length:Int)) then entsI r.entries else []) else bif Nat.beq k 3 then (bif decide ((0:Int) < (r.certificates.length:Int)) then certI r.certificates else []) else FR r k
theorem Vxf (r:ApiReply) (hc:r.certificates.length≤3) (he:r.entries.length≤8):passkeyref14_replyFields r=some ((),arrT (mkT (GR r)),()):=by
 have e0:=rfL0 r
 unfold passkeyref14_replyFields
 unfold numsR strsR flagsR y18 at e0
 rw [e0]
 simp only [bindS]
 have em:r.entries.length=0→(r.entries.map entI).flatten=[]:=fun h=>by rw [List.length_eq_zero_iff.1 h]; rfl
 have en (G:Nat→List ApiItem):y2x G ([⟨5,BitVec.ofInt 64 (r.entries.length:Int),[]⟩]++(r.entries.map entI).flatten)=mkT fun j=>bif Nat.beq j 17 then entsI r.entries else G j:=by
  unfold entsI arrI
  rw [List.length_map,BitVec.ofInt_natCast]
  rfl
 cases dc:decide ((0:Int) < (r.certificates.length:Int))<;>cases de:decide ((0:Int) < (r.entries.length:Int))
 ·simp only [cond_false,bindS]
  rw [de]
  simp only [cond_false,bindS]
  have hz:r.entries.length=0:=by have:=of_decide_eq_false de; omega
  have e1:=rfL3 r he (FR r) [] (by decide)
  rw [em hz,List.append_nil] at e1
  have e2:y2x (FR r) []=mkT (FR r):=rfl
  rw [e2] at e1
  unfold y18 at e1
  rw [e1]
  simp only [bindS]
  unfold GR
  rw [dc,de]
  rfl
 ·simp only [cond_false,bindS]
  rw [de]
  simp only [cond_true,bindS]
  have e1:=rfL3 r he (FR r) [⟨5,BitVec.ofInt 64 (r.entries.length:Int),[]⟩] (by simp)
  rw [en] at e1
  unfold y18 at e1
  refine Eq.trans (congrArg (fun o=>Option.bind o _) e1) ?_
  simp only [bindS]
  unfold GR
  rw [dc,de]
  rfl
 ·simp only [cond_true,bindS]
  rw [Vxe r.certificates hc]
  simp only [bindS]
  rw [de]
  simp only [cond_false,bindS]
  have hz:r.entries.length=0:=by have:=of_decide_eq_false de; omega
  have e1:=rfL3 r he (fun j=>bif Nat.beq j 3 then certI r.certificates else FR r j) [] (by decide)
  rw [em hz,List.append_nil] at e1
  unfold y18 at e1
  refine Eq.trans (congrArg (fun o=>Option.bind o _) e1) ?_
  simp only [bindS]
  unfold GR
  rw [dc,de]
  rfl
 ·simp only [cond_true,bindS]
  rw [Vxe r.certificates hc]
  simp only [bindS]
  rw [de]
  simp only [cond_true,bindS]
  have e1:=rfL3 r he (fun j=>bif Nat.beq j 3 then certI r.certificates else FR r j) [⟨5,BitVec.ofInt 64 (r.entries.length:Int),[]⟩] (by simp)
  rw [en] at e1
  unfold y18 at e1
  refine Eq.trans (congrArg (fun o=>Option.bind o _) e1) ?_
  simp only [bindS]
  unfold GR
  rw [dc,de]
  rfl
def fld (us:List Bool) (vs:List (List ApiItem)):List (List ApiItem):=List.zipWith (fun b v=>bif b then v else []) us vs
theorem Vgz {α:Type} [DecidableEq α] (l:List α):decide ((0:Int) < (l.length:Int)) = !decide (l=[]):=by
 rw [← Vw5,Bool.not_not]
def sm (n:Int):Prop:=0≤n∧n≤255
theorem Vnb {n:Int} (h:sm n):decide (BitVec.ofInt 64 n=0#64)=decide (n=0):=by
 obtain ⟨k,rfl⟩:∃ k:Nat,n=(k:Int):=⟨n.toNat,by have:=h.1; omega⟩
 have h2:=h.2
 rw [decide_eq_decide,BitVec.ofInt_natCast]
 constructor
 ·intro e
  have:=congrArg BitVec.toNat e
  rw [BitVec.toNat_ofNat,Nat.mod_eq_of_lt (by omega)] at this
  have h3:(0#64).toNat=0:=rfl
  omega
 ·intro e
  have:k=0:=by omega
  rw [this]
structure Nums (r:ApiReply):Prop where
 format:sm r.format
 count:sm r.count
 retries:sm r.retries
 rooms:sm r.rooms
 leases:sm r.leases
theorem Vena (r:ApiReply) (h:Nums r) (q:Arr18_ListApiItem) (hq:q=arrT (mkT (GR r))):([q.a0,q.a1,q.a2,q.a3,q.a4,q.a5,q.a6,q.a7,q.a8,q.a9,q.a10,q.a11,q.a12,q.a13,q.a14,q.a15,q.a16,q.a17]:List (List ApiItem))=[]::fld (useR r) (valsR r):=by
 subst hq
 show ([GR r 0,GR r 1,GR r 2,GR r 3,GR r 4,GR r 5,GR r 6,GR r 7,GR r 8,GR r 9,GR r 10,GR r 11,GR r 12,GR r 13,GR r 14,GR r 15,GR r 16,GR r 17]:List (List ApiItem))=_
 have g1:GR r 1=bif decide ((0:Int) < (r.authData.length:Int)) then bytesI r.authData else []:=by rw [Vgz]; rfl
 have g2:GR r 2=bif decide ((0:Int) < (r.signature.length:Int)) then bytesI r.signature else []:=by rw [Vgz]; rfl
 have g3:GR r 3=bif decide ((0:Int) < (r.certificates.length:Int)) then certI r.certificates else []:=rfl
 have g4:GR r 4=bif !decide (r.format=(0:Int)) then uintI (BitVec.ofInt 64 r.format) else []:=by rw [← Vnb h.format]; rfl
 have g5:GR r 5=bif decide ((0:Int) < (r.iD.length:Int)) then bytesI r.iD else []:=by rw [Vgz]; rfl
 have g6:GR r 6=bif !decide (r.user=([]:List UInt8)) then bytesI r.user else []:=rfl
 have g7:GR r 7=bif !decide (r.name=([]:List UInt8)) then textI r.name else []:=rfl
 have g8:GR r 8=bif !decide (r.count=(0:Int)) then uintI (BitVec.ofInt 64 r.count) else []:=by rw [← Vnb h.count]; rfl
 have g9:GR r 9=bif !decide (r.peer=0#64) then uintI r.peer else []:=rfl
 have g10:GR r 10=bif decide ((0:Int) < (r.box.length:Int)) then bytesI r.box else []:=by rw [Vgz]; rfl
 have g11:GR r 11=bif !decide (r.model=0#64) then uintI r.model else []:=rfl
 have g12:GR r 12=bif !decide (r.retries=(0:Int)) then uintI (BitVec.ofInt 64 r.retries) else []:=by rw [← Vnb h.retries]; rfl
 have g13:GR r 13=bif !decide (r.rooms=(0:Int)) then uintI (BitVec.ofInt 64 r.rooms) else []:=by rw [← Vnb h.rooms]; rfl
 have g14:GR r 14=bif !decide (r.leases=(0:Int)) then uintI (BitVec.ofInt 64 r.leases) else []:=by rw [← Vnb h.leases]; rfl
 have g15:GR r 15=bif r.pinSet then boolI r.pinSet else []:=by
  show (bif r.pinSet then ([⟨7,1#64,[]⟩]:List ApiItem) else [])=_
  cases r.pinSet<;>rfl
 have g16:GR r 16=bif r.finger then boolI r.finger else []:=by
  show (bif r.finger then ([⟨7,1#64,[]⟩]:List ApiItem) else [])=_
  cases r.finger<;>rfl
 have g17:GR r 17=bif decide ((0:Int) < (r.entries.length:Int)) then entsI r.entries else []:=rfl
 have g0:GR r 0=[]:=rfl
 rw [g0,g1,g2,g3,g4,g5,g6,g7,g8,g9,g10,g11,g12,g13,g14,g15,g16,g17]
 rfl
theorem Vq4 (n:Nat) (o:List ApiItem):∀ (ns:List Nat) (v:List (List ApiItem)),ns.length=v.length→pairI (ns++[n]) (v++[o])=pairI ns v++(keyI n::o):=by
 intro ns v h
 unfold pairI
 rw [List.map_append,List.zip_append (by simpa using h),List.flatMap_append]
 simp
theorem Vq5 {us:List Bool} {vs:List (List ApiItem)} (h:Fit us vs) (hne:∀ o∈vs,o≠[]):passkeyref14_encode ([]::fld us vs)=some ((),encA (chosI us vs),()):=by
 have h17:=h.n
 have hl:=h.l
 have hfl:(fld us vs).length=17:=by unfold fld; rw [List.length_zipWith]; omega
 have e0 : passkeyref14_encode_L0 ([]::fld us vs, [⟨6, 0#64, []⟩], (1 : Int), ()) = some (chosI us vs, ()) := by
  unfold passkeyref14_encode_L0
  obtain ⟨q,h1,h2⟩:=Vcc (f:=fun (y:((List (List ApiItem))×(List (ApiItem))×Int×Unit))=>passkeyref14_encode_L0b y.1 y.2.1 y.2.2.1) (fld us vs)
   (fun i (q:List ApiItem) x=>chosI (us.take (i+1)) (vs.take (i+1)))
   (fun i q=>([]::fld us vs,q,((i+1:Nat):Int),())) (fun q=>(q,()))
   (fun i q=>q=chosI (us.take i) (vs.take i)) (by omega) [⟨6,0#64,[]⟩] rfl
   (by
    rintro i q x rfl hx
    have h1:=Van hx
    rw [hfl] at h1
    refine ⟨?_,rfl⟩
    have hu:us[i]? = some (us.getD i false):=Vna false (by omega)
    have hv:vs[i]? = some (vs.getD i []):=Vna [] (by omega)
    have hx2:x=bif us.getD i false then vs.getD i [] else []:=by
     unfold fld at hx
     rw [List.getElem?_zipWith,hu,hv] at hx
     exact (Option.some.inj hx).symm
    have hti:(us.take i).length=i:=by rw [List.length_take]; omega
    have htv:(vs.take i).length=i:=by rw [List.length_take]; omega
    have hsn:=(Vfo (us.take i) 1).2.2
    have hsl:=Vgy (us.take i) (vs.take i) 1 (by omega)
    have hg:getI ([]::fld us vs) ((i+1:Nat):Int)=some x:=gIn (by rw [List.getElem?_cons_succ]; exact hx)
    have hmem:vs.getD i []∈vs:=List.mem_of_getElem? hv
    have hfull:(pairI (selN 1 (us.take i)) (selV (us.take i) (vs.take i))).length≤450:=by
     rw [Vi5 _ _ hsl]
     have a1:=(Vc5 (us.take i) (vs.take i)).1
     have a2:(vs.take i).flatten.length≤vs.flatten.length:=by
      conv=>rhs; rw [← List.take_append_drop i vs,List.flatten_append,List.length_append]
      omega
     have:=h.f
     omega
    have ec:chosI (us.take (i+1)) (vs.take (i+1))=bif us.getD i false then ⟨6,BitVec.ofNat 64 ((selN 1 (us.take i)).length+1),[]⟩::(pairI (selN 1 (us.take i)) (selV (us.take i) (vs.take i))++(keyI (i+1)::vs.getD i [])) else chosI (us.take i) (vs.take i):=by
     unfold chosI mapI
     rw [List.take_add_one,List.take_add_one,hu,hv,Option.toList_some,Option.toList_some,Vi3,Vi4 _ _ _ _ (by omega),hti]
     cases us.getD i false
     ·simp
     ·simp only [cond_true]
      rw [Vq4 _ _ _ _ hsl,List.length_append,Nat.add_comm 1 i]
      rfl
    simp only
    rw [ec]
    unfold passkeyref14_encode_L0b
    rw [hg,decide_eq_true (show ((i+1:Nat):Int) < (([]::fld us vs).length:Int) by rw [List.length_cons,hfl]; omega)]
    simp only [bindS,cond_true,Var (i:=i+1) (by omega)]
    subst hx2
    cases us.getD i false
    ·rfl
    ·simp only [cond_true]
     have hpos:decide ((0:Int) < ((vs.getD i []).length:Int))=true:=by
      rw [Vgz,decide_eq_false (hne _ hmem)]; rfl
     have hd:=(h.d _ hmem).1
     rw [hpos]
     unfold chosI mapI
     rw [decide_eq_true (show (0:Int) < (((⟨6,BitVec.ofNat 64 (selN 1 (us.take i)).length,[]⟩::pairI (selN 1 (us.take i)) (selV (us.take i) (vs.take i)):List ApiItem)).length:Int) by rw [List.length_cons]; omega)]
     simp only [cond_true,List.getElem?_cons_zero,bindS,List.set_cons_zero,Zbd,BitVec.ofInt_natCast]
     rw [Ved (by simp only [List.length_cons,List.length_nil]; omega)]
     simp only [cond_true]
     rw [Ved (by simp only [List.length_append,List.length_cons,List.length_nil]; omega)]
     simp only [cond_true,List.cons_append,List.append_assoc,List.nil_append]
     rw [show BitVec.ofNat 64 (selN 1 (us.take i)).length+1#64=BitVec.ofNat 64 ((selN 1 (us.take i)).length+1) by rw [BitVec.ofNat_add]]
     rfl)
   (by
    rintro q rfl
    unfold passkeyref14_encode_L0b
    rw [decide_eq_false (show ¬ (((fld us vs).length+1:Nat):Int) < (([]::fld us vs).length:Int) by rw [List.length_cons]; omega)]
    rfl)
  rw [h1,hfl,List.take_of_length_le (by omega),List.take_of_length_le (by omega)] at h2
  exact h2
 unfold passkeyref14_encode
 dsimp only
 rw [e0]
 simp only [bindS]
 rw [Vp7 _ (by have:=h.len; omega) h.data,h.enc.1]
 rfl
end Go.Proofs.YthoblablopmhfaaGreatDoor
