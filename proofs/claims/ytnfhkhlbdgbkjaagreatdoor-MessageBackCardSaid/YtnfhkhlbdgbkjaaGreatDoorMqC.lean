/- The fields of a request, of the document: uses, fields. -/
import Derived.Test.YtnfhkhlbdgbkjaaGreatDoorMqB
set_option linter.unusedVariables false
set_option linter.unusedSimpArgs false
set_option maxRecDepth 100000
namespace Go.Proofs.YtnfhkhlbdgbkjaaGreatDoor
open Go Go.Abs
def arrQ(m:BitVec 32):Jz:=⟨false,m.getLsbD 1,m.getLsbD 2,m.getLsbD 3,m.getLsbD 4,m.getLsbD 5,m.getLsbD 6,m.getLsbD 7,m.getLsbD 8,m.getLsbD 9,m.getLsbD 10,m.getLsbD 11,m.getLsbD 12,m.getLsbD 13,m.getLsbD 14,m.getLsbD 15,m.getLsbD 16,m.getLsbD 17,m.getLsbD 18,m.getLsbD 19⟩
theorem Vd9a(k:Int)(h1:1<=k)(h2:k<=14):Zff k=some ((),arrQ (mkQ k),()):=by
 rcases (by omega:k=1\/k=2\/k=3\/k=4\/k=5\/k=6\/k=7\/k=8\/k=9\/k=10\/k=11\/k=12\/k=13\/k=14) with rfl|rfl|rfl|rfl|rfl|rfl|rfl|rfl|rfl|rfl|rfl|rfl|rfl|rfl<;>kernel_rfl
def fv(n:Ub)(s:Ua)(b:Bool)(li:List Ja)(au:List Ja)(k:Nat):List Ja:=
 bif !decide (n=0#64) then [⟨1,n,[]⟩] else bif !decide (s=([]:Ua)) then (bif Nat.beq k 1||Nat.beq k 3 then [⟨4,0#64,s⟩] else [⟨3,0#64,s⟩]) else bif b then [⟨7,1#64,[]⟩] else bif Nat.beq k 7 then li else bif Nat.beq k 13 then au else []
def numsQ(a0:Jb):List Ub:=[0#64,0#64,0#64,0#64,a0.jz,(BitVec.ofInt 64 a0.jd),(BitVec.ofInt 64 a0.je),0#64,0#64,0#64,0#64,0#64,(BitVec.ofInt 64 a0.jk),0#64,a0.jv,0#64,0#64,(BitVec.ofInt 64 a0.jb),0#64,(BitVec.ofInt 64 a0.count)]
def strsQ(a0:Jb):List Ua:=[([]:Ua),a0.rP,a0.user,a0.name,([]:Ua),([]:Ua),([]:Ua),([]:Ua),([]:Ua),([]:Ua),([]:Ua),([]:Ua),([]:Ua),([]:Ua),([]:Ua),a0.box,a0.proof,([]:Ua),a0.iD,([]:Ua)]
def flagsQ(a0:Jb):List Bool:=[false,false,false,false,false,false,false,false,a0.jg,a0.js,a0.jt,a0.jo,false,false,false,false,false,false,false,false]
theorem Vzq{α:Type}{l:List α}{k:Nat}{x:α}(h:l[k]? = some x):l.set k x=l:=by
 apply List.ext_getElem?;intro j;rw[List.getElem?_set];by_cases e:k=j
 ·subst e;have:=Va7 h;simp[this,(List.getElem?_eq_some_iff.mp h).2]
 ·simp[e]
theorem eqn(k j:Nat):decide ((k:Int)=(j:Int))=Nat.beq k j:=by
 rw[Bool.eq_iff_iff,Uq];constructor
 ·intro h;obtain rfl:k=j:=by omega
  exact Nat.beq_refl k
 ·intro h;rw[Nat.eq_of_beq_eq_true h]
def liQ(r:Jb)(li:List Ja):List Ja:=bif decide ((0:Int)<(r.list.length:Int)) then li else []
def auQ(r:Jb):List Ja:=bif r.jl then [⟨1,r.auth,[]⟩] else []
theorem Veaa(r:Jb){li:List Ja}(hli:Zfc r.list=some ((),li,()))(y1 y2:List (List Ja))(y3:List Ub)(y4:List Ua)(y5:List Bool){k:Nat}(hk:k<20){n:Ub}{s:Ua}{b:Bool}(h2:y2[k]? = some [])(h3:y3[k]? = some n)(h4:y4[k]? = some s)(h5:y5[k]? = some b) :
  Zdd_L0b (r,()) y1 y2 y3 y4 y5 (k:Int)=some (.inl ((r,()),y1,y2.set k (fv n s b (liQ r li) (auQ r) k),y3,y4,y5,((k+1:Nat):Int),())):=by
 have hs:y2.set k []=y2:=Vzq h2;unfold Zdd_L0b fv liQ auQ;rw[Um (by omega:(k:Int)<20),Um (by omega:(0:Int)<=(k:Int))];simp only[Bool.and_self,Ui,Int.toNat_natCast,h2,h3,h4,h5,bindU,hli,Vb0 (i:=k) (by omega)];rw[show (1:Int)=((1:Nat):Int) from rfl,show (3:Int)=((3:Nat):Int) from rfl,show (7:Int)=((7:Nat):Int) from rfl,show (13:Int)=((13:Nat):Int) from rfl,eqn,eqn,eqn,eqn];cases decide (n=0#64)
 ·rfl
 cases decide (s=([]:Ua))
 ·cases Nat.beq k 1
  ·cases Nat.beq k 3<;>rfl
  ·rfl
 cases b
 ·by_cases e7:k=7
  ·subst e7;cases decide (((0:Nat):Int)<(r.list.length:Int))
   ·show some (Sum.inl ((r,()),y1,y2,y3,y4,y5,_))=some (Sum.inl ((r,()),y1,y2.set 7 [],y3,y4,y5,_));rw[hs]
   ·rfl
  ·have e:Nat.beq k 7=false:=by
    cases h:Nat.beq k 7
    ·rfl
    ·exact absurd (Nat.eq_of_beq_eq_true h) e7
   rw[e];cases Nat.beq k 13
   ·show some (Sum.inl ((r,()),y1,y2,y3,y4,y5,_))=some (Sum.inl ((r,()),y1,y2.set k [],y3,y4,y5,_));rw[hs]
   ·cases r.jl
    ·show some (Sum.inl ((r,()),y1,y2,y3,y4,y5,_))=some (Sum.inl ((r,()),y1,y2.set k [],y3,y4,y5,_));rw[hs]
    ·rfl
 ·rfl
end Go.Proofs.YtnfhkhlbdgbkjaaGreatDoor
