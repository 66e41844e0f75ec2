/- Words, draws, packets, base64url and client data: what both sides compute. No condition. -/
import Derived.Test.YtaddhgkhilmniaaGreatDoorClA
import Derived.Test.YtaddhgkhilmniaaGreatDoorClH
set_option linter.unusedVariables false
set_option linter.unusedSimpArgs false
set_option maxRecDepth 100000
namespace Go.Proofs.YtaddhgkhilmniaaGreatDoor
open Go Go.Abs Sip
open _root_.BitVec renaming setWidth → Qa, ofInt → Qj, toNat_shiftLeft → Qn, toNat_or → Qp
open _root_.List renaming length_append → Qb, getD_eq_getElem?_getD → Qc, length_cons → Qd, length_nil → Qg, getElem?_eq_none → Qh, getElem?_drop → Qi, length_drop → Qk, take → Qq, length_take → Qr, drop → Qs
open _root_.Sum renaming elim_inl → Qf, elim_inr → Qo
open _root_.Nat renaming two_pow_add_eq_or_of_lt → Ql, shiftLeft_eq → Qt
open Go.IntKind renaming wrap → Qm
theorem dW1 (a:BitVec 64):Zkt [a]=some ((),wordsF [a],()):=by
 obtain ⟨l,h1,h2,_⟩:=Vxr a;rw [Vfi [a] (by simp)] at h2;rw [h1];cases h2;rfl
theorem Vfz (a:BitVec 64):(wordsF [a]).length=8:=by
 obtain ⟨l,h1,h2,h3⟩:=Vxr a;rw [Vfi [a] (by simp)] at h2;cases h2;exact h3
theorem rW1 (a:BitVec 64):passkeyref1_WordsF [a]=some ((),wordsF [a],()):=Veo [a] (by simp)
def drv (k:BitVec 64) (l:List UInt8) (n:Int):BitVec 64:=sip k (1#64+Qj 64 4) ((l++[0])++wordsF [Qj 64 n])
theorem Vj9 {n:Nat} (h:n<=100000):small n 1=true:=Vlz (by omega)
theorem Vph (l:List UInt8) (n:Int):((l++[0])++wordsF [Qj 64 n]).length=l.length+9:=by
 rw [Qb,Qb,Vfz]; rfl
theorem Vzb (k:BitVec 64) (l:List UInt8) (n:Int) (h:l.length < 1000):Zkc k l n=some ((),drv k l n,()):=by
 unfold Zkc;rw [show small _ 1=true from Vj9 (by simp only [Qd,Qg]; omega),cond_true,dW1];simp only [bindS];rw [show small _ 1=true from Vj9 (by rw [Qb,Vfz]; simp only [Qd,Qg]; omega),cond_true];unfold Zmb;rw [Vbia _ _ _ (by rw [Vph]; omega)];rfl
theorem Vzc (k:BitVec 64) (l:List UInt8) (n:Int) (h:l.length < 1000):Zfd k l n=some ((),drv k l n,()):=by
 unfold Zfd;rw [show small _ 1=true from Vj9 (by simp only [Qd,Qg]; omega),cond_true,rW1];simp only [bindS];rw [show small _ 1=true from Vj9 (by rw [Qb,Vfz]; simp only [Qd,Qg]; omega),cond_true];unfold Zjl;rw [Vgs _ _ _ (by rw [Vph]; omega)];rfl
theorem Vzd (ch:BitVec 32) (w:List UInt8) (h:w.length=8):Zkx ch 6 w=some ((),[⟨ch,true,6,8,0,w⟩],0,()):=by
 match w,h with
 | [a,b,c,d,e,f,g,i],_=>
  unfold Zkx;rfl
theorem Vze (ch:BitVec 32) (w:List UInt8) (h:w.length=8):Zfi ch 6 w=some ((),[⟨ch,true,6,8,0,w⟩],0,()):=by
 match w,h with
 | [a,b,c,d,e,f,g,i],_=>
  unfold Zfi;rfl
theorem Vcv {a b:Nat} (h:a % 64=b % 64):chr6 a=chr6 b:=by unfold chr6; rw [h]
theorem Voe:∀ m:Fin 64,Qs m.val (Qq (m.val+1) alph)=[chr6 m.val]:=by decide
theorem and63 (n:BitVec 64):(n &&& 63#64).toNat=n.toNat % 64:=by
 rw [BitVec.toNat_and,show (63#64).toNat=2 ^ 6 - 1 from rfl,Nat.and_two_pow_sub_one_eq_mod]
theorem bleS {a:Nat} (h:a<=10000000):Nat.ble a 9223372036854775807=true:=Eq.mpr Nat.ble_eq (by omega)
theorem Vzf (l s:List UInt8) (i:Int) (n:BitVec 64) (k:Nat) (hk:k < 4) (hm:(k:Int)<=(l.length:Int) - i) (hw:Qm .i64 ((l.length:Int) - i)=(l.length:Int) - i) (hs:s.length<=1000000) :
  Zbj_L2b l s i n (k:Int)=some (.inl (l,s++[chr6 (n.toNat / 2 ^ (18 - 6 * k))],i,n,((k+1:Nat):Int),())):=by
 unfold Zbj_L2b;have hsh:(18#64 - (6#64 * (Qj 64 (k:Int)))).toNat=18 - 6 * k:=by
  match k,hk with
  | 0,_=>rfl
  | 1,_=>rfl
  | 2,_=>rfl
  | 3,_=>rfl
 rw [hw,hsh,show decide ((k:Int) < 4)=true by simp; omega,show decide ((k:Int)<=(l.length:Int) - i)=true by simp; omega];simp only [cond_true];have hv:((n >>> (18 - 6 * k)) &&& 63#64).toNat=n.toNat / 2 ^ (18 - 6 * k) % 64:=by
  rw [and63,BitVec.toNat_ushiftRight,Nat.shiftRight_eq_div_pow]
 have hv1:(((n >>> (18 - 6 * k)) &&& 63#64)+1#64).toNat=n.toNat / 2 ^ (18 - 6 * k) % 64+1:=by
  rw [BitVec.toNat_add,hv];have:n.toNat / 2 ^ (18 - 6 * k) % 64 < 64:=Nat.mod_lt _ (by omega);rw [show (1#64).toNat=1 from rfl];omega
 rw [hv1,hv];have hlt:n.toNat / 2 ^ (18 - 6 * k) % 64 < 64:=Nat.mod_lt _ (by omega);have hsl:=Voe ⟨_,hlt⟩;dsimp only at hsl;rw [show chr6 (n.toNat / 2 ^ (18 - 6 * k) % 64)=chr6 (n.toNat / 2 ^ (18 - 6 * k)) from Vcv (by omega)] at hsl;change (bif decide (_<=alph.length) then (bif decide (_<=_) then (bif Nat.ble (s.length+(Qs (n.toNat / 2 ^ (18 - 6 * k) % 64) (Qq (n.toNat / 2 ^ (18 - 6 * k) % 64+1) alph)).length) _ then some (Sum.inl (l,s++(Qs (n.toNat / 2 ^ (18 - 6 * k) % 64) (Qq (n.toNat / 2 ^ (18 - 6 * k) % 64+1) alph)),i,n,_,())) else none) else none) else none)=_;rw [hsl,show decide (n.toNat / 2 ^ (18 - 6 * k) % 64+1<=alph.length)=true by rw [decide_eq_true_eq]; show _<=64; omega,show decide (n.toNat / 2 ^ (18 - 6 * k) % 64<=n.toNat / 2 ^ (18 - 6 * k) % 64+1)=true by simp];simp only [cond_true];rw [bleS (by simp; omega),wI ((k:Int)+1) (by omega)];rfl
theorem Va8a (l s:List UInt8) (i:Int) (n:BitVec 64) (k:Nat) (hm:4<=k\/(l.length:Int) - i < (k:Int)) (hw:Qm .i64 ((l.length:Int) - i)=(l.length:Int) - i) :
  Zbj_L2b l s i n (k:Int)=some (.inr (l,s,i,())):=by
 unfold Zbj_L2b;rw [hw];by_cases h4:4<=k
 ·rw [show decide ((k:Int) < 4)=false by simp; omega]; rfl
 ·rw [show decide ((k:Int) < 4)=true by simp; omega,show decide ((k:Int)<=(l.length:Int) - i)=false by simp; omega]; rfl
def g6 (v k:Nat):List UInt8:=[chr6 (v / 262144),chr6 (v / 4096),chr6 (v / 64),chr6 v].take k
theorem eb_L2 (l s:List UInt8) (i:Int) (n:BitVec 64) (m:Nat) (hm:(l.length:Int) - i=(m:Int)) (h1:1<=m) (hl:l.length<=1000) (hi:0<=i) (hs:s.length<=900000) :
  Zbj_L2 (l,s,i,n,0,())=some (l,s++g6 n.toNat (min m 3+1),i,()):=by
 have hw:Qm .i64 ((l.length:Int) - i)=(l.length:Int) - i:=Vbl (by omega) (by omega);unfold Zbj_L2 Yi5;have st:=λ(k:Nat) (s':List UInt8) (hk:k < 4) (hkm:k<=m) (hs':s'.length<=1000000)=>Vzf l s' i n k hk (by omega) hw hs';have en:=λ(k:Nat) (s':List UInt8) (h:4<=k\/m < k)=>Va8a l s' i n k (by omega) hw;rw [Vab,Val];dsimp only;rw [show (0:Int)=((0:Nat):Int) from rfl,st 0 s (by omega) (by omega) (by omega),bindS,Qf,Val];dsimp only;rw [st 1 _ (by omega) (by omega) (by simp; omega),bindS,Qf,Val];dsimp only;by_cases h2:m=1
 ·subst h2;rw [en 2 _ (by omega),bindS,Qo];simp [g6]
 ·rw [st 2 _ (by omega) (by omega) (by simp; omega),bindS,Qf,Val];dsimp only;by_cases h3:m=2
  ·subst h3;rw [en 3 _ (by omega),bindS,Qo];simp [g6]
  ·rw [st 3 _ (by omega) (by omega) (by simp; omega),bindS,Qf,Val];dsimp only;rw [en 4 _ (by omega),bindS,Qo];rw [show min m 3+1=4 by omega];simp [g6]
theorem n8 (x:UInt8):(Qa 64 x.toBitVec).toNat=x.toNat:=by
 have:=x.toNat_lt;rw [BitVec.toNat_setWidth];exact Nat.mod_eq_of_lt (by show x.toNat < _; omega)
theorem n1 (x:UInt8):((Qa 64 x.toBitVec) <<< 16).toNat=x.toNat * 65536:=by
 have:=x.toNat_lt;rw [Qn,n8,Qt];omega
theorem n2 (x y:UInt8):(((Qa 64 x.toBitVec) <<< 16) ||| ((Qa 64 y.toBitVec) <<< 8)).toNat=x.toNat * 65536+y.toNat * 256:=by
 have hx:=x.toNat_lt;have hy:=y.toNat_lt;rw [Qp,n1,Qn,n8,Qt];have e:y.toNat * 2 ^ 8 % 2 ^ 64=y.toNat * 256:=by omega
 have:=Ql (i:=16) (b:=y.toNat * 256) (by omega) x.toNat
 rw [e,show x.toNat * 65536=2 ^ 16 * x.toNat by omega,<- this]
theorem n3 (x y z:UInt8):((((Qa 64 x.toBitVec) <<< 16) ||| ((Qa 64 y.toBitVec) <<< 8)) ||| (Qa 64 z.toBitVec)).toNat=x.toNat * 65536+y.toNat * 256+z.toNat:=by
 have hz:=z.toNat_lt;rw [Qp,n2,n8];have:=Ql (i:=8) (b:=z.toNat) (by omega) (x.toNat * 256+y.toNat);rw [show x.toNat * 65536+y.toNat * 256=2 ^ 8 * (x.toNat * 256+y.toNat) by omega,<- this]
theorem g6_eq (x y z:UInt8) (v k:Nat) (hv:v=x.toNat * 65536+y.toNat * 256+z.toNat):g6 v k=grp x y z k:=by
 have hx:=x.toNat_lt;have hy:=y.toNat_lt;have hz:=z.toNat_lt;unfold g6 grp;rw [Vcv (a:=v / 262144) (b:=x.toNat / 4) (by omega),Vcv (a:=v / 4096) (b:=x.toNat % 4 * 16+y.toNat / 16) (by omega),Vcv (a:=v / 64) (b:=y.toNat % 16 * 4+z.toNat / 64) (by omega),Vcv (a:=v) (b:=z.toNat % 64) (by omega)]
theorem n2' (x y:UInt8):(((Qa 64 x.toBitVec) <<< 16) ||| ((Qa 64 y.toBitVec) <<< 8)).toNat=x.toNat * 65536+y.toNat * 256+(0:UInt8).toNat:=by rw [n2]; simp
theorem n1' (x:UInt8):((Qa 64 x.toBitVec) <<< 16).toNat=x.toNat * 65536+(0:UInt8).toNat * 256+(0:UInt8).toNat:=by rw [n1]; simp
theorem Viy {α:Type} (l:List α) (j:Nat):getI l (j:Int)=l[j]?:=by simp [getI]
theorem Va9a (l s:List UInt8) (i:Nat) (hl:l.length<=1000) (hi:i < l.length) (hs:s.length<=900000):Zbj_L0b l s (i:Int)=some (.inl (l,s++b64 ((l.drop i).take 3),((i+3:Nat):Int),())):=by
 have hd:l.drop i≠[]:=by
  intro h;have:=congrArg List.length h;simp at this;omega
 rw [Vmy _ hd];unfold Zbj_L0b;have g0:getI l (i:Int)=some ((l.drop i).getD 0 0):=by
  simp [getI,hi]
 rw [show decide ((i:Int) < (l.length:Int))=true by simp; omega,g0,wI ((i:Int)+1) (by omega)];simp only [cond_true,bindS];by_cases h1:i+1 < l.length
 ·have g1:getI l ((i:Int)+1)=some ((l.drop i).getD 1 0):=by
   rw [show (i:Int)+1=((i+1:Nat):Int) by omega,Viy];simp [h1]
  rw [show decide ((i:Int)+1 < (l.length:Int))=true by simp; omega,g1];simp only [cond_true,bindS];rw [wI ((i:Int)+2) (by omega)];by_cases h2:i+2 < l.length
  ·have g2:getI l ((i:Int)+2)=some ((l.drop i).getD 2 0):=by
    rw [show (i:Int)+2=((i+2:Nat):Int) by omega,Viy];simp [h2]
   rw [show decide ((i:Int)+2 < (l.length:Int))=true by simp; omega,g2];simp only [cond_true,bindS];rw [eb_L2 l s (i:Int) _ (l.length - i) (by omega) (by omega) hl (by omega) hs];simp only [bindS];rw [wI ((i:Int)+3) (by omega),g6_eq _ _ _ _ _ (n3 _ _ _),Qk];rfl
  ·rw [show decide ((i:Int)+2 < (l.length:Int))=false by simp; omega];simp only [cond_false,bindS];have z2:(l.drop i).getD 2 0=0:=by
    rw [Qc,Qi,Qh (by omega)]; rfl
   rw [eb_L2 l s (i:Int) _ (l.length - i) (by omega) (by omega) hl (by omega) hs];simp only [bindS];rw [wI ((i:Int)+3) (by omega),z2,g6_eq _ _ 0 _ _ (n2' _ _),Qk];rfl
 ·rw [show decide ((i:Int)+1 < (l.length:Int))=false by simp; omega];simp only [cond_false,bindS];rw [wI ((i:Int)+2) (by omega),show decide ((i:Int)+2 < (l.length:Int))=false by simp; omega];simp only [cond_false,bindS];have z1:(l.drop i).getD 1 0=0:=by
   rw [Qc,Qi,Qh (by omega)]; rfl
  have z2:(l.drop i).getD 2 0=0:=by
   rw [Qc,Qi,Qh (by omega)]; rfl
  rw [eb_L2 l s (i:Int) _ (l.length - i) (by omega) (by omega) hl (by omega) hs];simp only [bindS];rw [wI ((i:Int)+3) (by omega),z1,z2,g6_eq _ 0 0 _ _ (n1' _),Qk];rfl
theorem Vzg (l:List UInt8) (hl:l.length<=1000):Zbj l=some ((),b64 l,()):=by
 unfold Zbj;have key:∀ (f i:Nat),l.length+3<=i+f->i<=l.length+2->i % 3=0->iter (λ(y:Y_Zbj_L0)=>Zbj_L0b y.1 y.2.1 y.2.2.1) f (l,b64 (l.take i),(i:Int),())=some (b64 l,()):=by
  intro f;induction f with
  | zero=>
   intro i h _ _;omega
  | succ f ih=>
   intro i h hb h3;rw [Val];dsimp only;by_cases hi:i < l.length
   ·have hs:(b64 (l.take i)).length<=900000:=by
     have:=Vi2 (l.take i);rw [Qr] at this;omega
    rw [Va9a l _ i hl hi hs,bindS,Qf];have e:b64 (l.take i)++b64 ((l.drop i).take 3)=b64 (l.take (i+3)):=by
     rw [List.take_add,Vlw _ _ (by rw [Qr]; omega)]
    rw [e];exact ih (i+3) (by omega) (by omega) (by omega)
   ·unfold Zbj_L0b;rw [show decide ((i:Int) < (l.length:Int))=false by simp; omega,List.take_of_length_le (by omega)];rfl
 unfold Zbj_L0 Yi3;have:=key rounds 0 (by rw [Vab]; omega) (by omega) (by omega);rw [show b64 (l.take 0)=([]:List UInt8) by simp [b64]] at this;rw [show ((0:Nat):Int)=0 from rfl] at this;rw [this];rfl
end Go.Proofs.YtaddhgkhilmniaaGreatDoor
