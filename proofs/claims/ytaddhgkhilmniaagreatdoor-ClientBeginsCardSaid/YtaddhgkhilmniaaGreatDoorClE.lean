/- base64url as the program writes it: (passkey/clientdata.EncodeBase) on bytes of its caller, at most a million of them and at least one. -/
import Derived.Test.YtaddhgkhilmniaaGreatDoorLay
import Derived.Lib.SlBuf
import Derived.WalkKit
set_option linter.unusedVariables false
set_option linter.unusedSimpArgs false
set_option maxRecDepth 100000
namespace Go.Proofs
open Go Go.Shelf Go.RowKit Go.Lib
open Go.IntKind renaming u32 → Qa
open _root_.List renaming length_append → Qb, length_take → Qc, append_assoc → Qf, take → Qh, length_drop → Qi, length_cons → Qj, length_map → Ql
open _root_.BitVec renaming ofInt → Qd
open _root_.Nat renaming shiftLeft_add_eq_or_of_lt → Qg, shiftLeft_eq → Qk
def alph:List UInt8:=[65,66,67,68,69,70,71,72,73,74,75,76,77,78,79,80,81,82,83,84,85,86,87,88,89,90,97,98,99,100,101,102,103,104,105,106,107,108,109,110,111,112,113,114,115,116,117,118,119,120,121,122,48,49,50,51,52,53,54,55,56,57,45,95]
def chr6 (n:Nat):UInt8:=alph.getD (n % 64) 0
def grp (x y z:UInt8) (k:Nat):List UInt8:=[chr6 (x.toNat / 4),chr6 (x.toNat % 4 * 16+y.toNat / 16),chr6 (y.toNat % 16 * 4+z.toNat / 64),chr6 (z.toNat % 64)].take k
def b64:List UInt8->List UInt8
 | []=>[]
 | [x]=>grp x 0 0 2
 | [x,y]=>grp x y 0 3
 | x::y::z::r=>grp x y z 4++b64 r
theorem Vc3 (w:World) (cs:Array Value) (t:TypeId) (j:Nat) (v:Value):(w.alloc (.cells cs t)).setCell ⟨w.heap.size,j,none⟩ v=w.alloc (.cells (cs.setIfInBounds j v) t):=by
 unfold World.setCell World.alloc;congr 1;apply Array.ext
 ·simp
 ·intro i h1 h2;have h1:i < w.heap.size+1:=by simpa using h1
  simp only [Array.getElem_modify,Array.getElem_push];split<;>rename_i hi
  ·subst hi; simp
  ·rw [dif_pos (by omega),dif_pos (by omega)]
theorem Vlv {B k:Nat} {bs:List Value} {w w':World} (h:Lib.IsBuilder 202 5 B k bs w) (ho:∀ i,i < w.heap.size->w'.heap[i]? = w.heap[i]?):Lib.IsBuilder 202 5 B k bs w':=by
 have lt:∀ (i:Nat) (x:Obj),w.heap[i]? = some x->i < w.heap.size:=λi x hx=>(Array.getElem?_eq_some_iff.1 hx).1;have one:∀ p,Lib.BuilderAt 202 5 B k p bs w->Lib.BuilderAt 202 5 B k p bs w':=λp ⟨hB,v,hb,hown,hne⟩=>by
  refine ⟨hB,v,(ho _ (lt _ _ hb)).trans hb,⟨hown.1,?_⟩,hne⟩;rcases hown.2 with h | ⟨g,cap,cur,h1,h2,h3,h4⟩
  ·exact .inl h
  ·exact .inr ⟨g,cap,cur,h1,h2,(ho _ (lt _ _ h3)).trans h3,h4⟩
 exact h.imp (one _) (one _)
def grpCells (cs:List UInt8):Array Value:=#[.int .u8 (cs.getD 0 0).toNat,.int .u8 (cs.getD 1 0).toNat,.int .u8 (cs.getD 2 0).toNat]
theorem Vzj (wr:World) (b o' c':Nat) (cs:List UInt8) (h0:cs≠[]) (hsrc:∀ j x,cs[j]? = some x->wr.cell? ⟨b,o'+j,none⟩=some (.int .u8 x.toNat)) (hb:b < wr.heap.size) :
  (Builtin.copy_ #[25,25] 3 #[.slice (some ⟨wr.heap.size,0,none⟩) 3 3,.slice (some ⟨b,o',none⟩) cs.length c']).run Tryz.prog (wr.alloc (Obj.cells #[.int .u8 0,.int .u8 0,.int .u8 0] 284)) = .ok (.int .i64 ((min cs.length 3:Nat):Int)) (wr.alloc (Obj.cells (grpCells cs) 284)):=by
 have hw:(wr.alloc (Obj.cells #[Value.int .u8 0,.int .u8 0,.int .u8 0] 284)).heap[wr.heap.size]? = some (Obj.cells #[.int .u8 0,.int .u8 0,.int .u8 0] 284 (0,0)):=heap_alloc_new wr _;have h:=run_copy_cells (P:=Tryz.prog) (ty:=3) (wr.alloc (Obj.cells #[.int .u8 0,.int .u8 0,.int .u8 0] 284)) 25 25 5 wr.heap.size 0 3 3 ⟨b,o',none⟩ cs.length c' ((cs.take 3).map λx=>.int .u8 x.toNat) Tryz.underlying25 (by kernel_rfl) (by rw [Ql,Qc,Nat.min_comm])
  (λj v hj=>by
   rw [List.getElem?_map,Option.map_eq_some_iff] at hj;obtain ⟨x,hx,rfl⟩:=hj;rw [Addr.add_lit,World.cell?_of_block (w:=wr) (Below.heap_alloc wr _ b hb)];refine hsrc j x ?_;rw [List.getElem?_take] at hx;split at hx
   ·exact hx
   ·cases hx)
  (λj hj=>by
   rw [Ql,Qc] at hj;rw [Lib.cell_of_heap hw];have:0+j < 3:=by omega
   match 0+j,this with
   | 0,_=>rfl
   | 1,_=>rfl
   | 2,_=>rfl) (λj hj=>Lib.frozen_of_heap hw _) (λv hv=>by
   obtain ⟨x,_,rfl⟩:=List.mem_map.1 hv;rfl)
 rw [h];match cs,h0 with
 | [x],_=>simp only [List.map,Qh,World.setCells,Vc3]; rfl
 | [x,y],_=>simp only [List.map,Qh,World.setCells,Vc3]; rfl
 | x::y::z::r,_=>
  simp only [List.map,Qh,World.setCells,Vc3];rw [show min (x::y::z::r).length 3=3 by simp];rfl
theorem Vzk:∀ (i:Nat) (h:i < (ByteArray.mk alph.toArray).size),(ByteArray.mk alph.toArray)[i]=chr6 i:=by
 have:∀ i:Fin 64,(ByteArray.mk alph.toArray)[i.val]'(i.isLt)=chr6 i.val:=by decide
 exact λi h=>this ⟨i,h⟩
theorem Vxq (n:Nat) (h:n < 4294967296):IntKind.u32.wrap (n:Int)=(n:Int):=by
 simp only [IntKind.wrap,IntKind.bits,IntKind.signed];simp;omega
theorem of32 (n:Nat) (h:n < 4294967296):(Qd 32 (n:Int)).toNat=n:=by
 rw [BitVec.ofInt_natCast,BitVec.toNat_ofNat];exact Nat.mod_eq_of_lt h
theorem Vmx (a:Int) (h0:0<=a) (h1:a < 4294967296):bits BinOp.and Qa a 63=a % 64:=by
 obtain ⟨n,rfl⟩:=Int.eq_ofNat_of_zero_le h0;have e:bits BinOp.and Qa (n:Int) 63=IntKind.u32.wrap (((Qd 32 (n:Int)) &&& (Qd 32 ((63:Nat):Int))).toNat:Int):=rfl;have hn:n < 4294967296:=by omega
 rw [e,BitVec.toNat_and,of32 n hn,of32 63 (by decide),show (63:Nat)=2 ^ 6 - 1 from rfl,Nat.and_two_pow_sub_one_eq_mod,Vxq _ (by omega)];omega
theorem or32 (a b:Nat) (ha:a < 4294967296) (hb:b < 4294967296):bits BinOp.or Qa (a:Int) (b:Int)=((a ||| b:Nat):Int):=by
 have e:bits BinOp.or Qa (a:Int) (b:Int)=IntKind.u32.wrap (((Qd 32 (a:Int)) ||| (Qd 32 (b:Int))).toNat:Int):=rfl;rw [e,BitVec.toNat_or,of32 a ha,of32 b hb,Vxq];exact Nat.or_lt_two_pow (n:=32) ha hb
theorem Vem (x y z:UInt8) (k:Nat):(grp x y z k).length=min k 4:=by simp [grp]
theorem Vf8 {B:Nat} {p:Value} {done:List UInt8} {x y z:UInt8} {k:Nat} {idx:Int} {w3:World} {pf:idx.toNat < (ByteArray.mk alph.toArray).size}
  (h:Lib.BuilderAt 202 5 B B p (Lib.byteCells (b64 done++grp x y z k)++[.int .u8 (((ByteArray.mk alph.toArray)[idx.toNat]'pf).toNat:Int)]) w3)
  (hi:grp x y z k++[chr6 idx.toNat]=grp x y z (k+1)):Lib.BuilderAt 202 5 B B p (Lib.byteCells (b64 done++grp x y z (k+1))) w3:=by
 rw [Vzk _ pf] at h;rw [<- hi,<- Qf,Lib.byteCells_append];exact h
theorem grpB (x y z:UInt8):bits BinOp.or Qa (bits BinOp.or Qa (↑x.toNat % 4294967296 * 65536 % 4294967296) (↑y.toNat % 4294967296 * 256 % 4294967296)) (↑z.toNat % 4294967296)=((x.toNat * 65536+y.toNat * 256+z.toNat:Nat):Int):=by
 have bx:=x.toNat_lt;have by_:=y.toNat_lt;have bz:=z.toNat_lt;have e1:((x.toNat:Int) % 4294967296 * 65536 % 4294967296)=((x.toNat * 65536:Nat):Int):=by omega
 have e2:((y.toNat:Int) % 4294967296 * 256 % 4294967296)=((y.toNat * 256:Nat):Int):=by omega
 have e3:((z.toNat:Int) % 4294967296)=((z.toNat:Nat):Int):=by omega
 have o1:x.toNat * 65536 ||| y.toNat * 256=x.toNat * 65536+y.toNat * 256:=by
  have:=Qg (b:=y.toNat * 256) (i:=16) (by omega) x.toNat
  rw [Qk] at this;exact this.symm
 have o2:(x.toNat * 65536+y.toNat * 256) ||| z.toNat=x.toNat * 65536+y.toNat * 256+z.toNat:=by
  have:=Qg (b:=z.toNat) (i:=8) (by omega) (x.toNat * 256+y.toNat);rw [Qk,show (x.toNat * 256+y.toNat) * 2 ^ 8=x.toNat * 65536+y.toNat * 256 by omega] at this;exact this.symm
 rw [e1,e2,e3,or32 _ _ (by omega) (by omega),o1,or32 _ _ (by omega) (by omega),o2]
theorem Vi2:∀ l,(b64 l).length<=4 * l.length
 | []=>by simp [b64]
 | [x]=>by simp [b64,Vem]
 | [x,y]=>by simp [b64,Vem]
 | x::y::z::r=>by
  have:=Vi2 r;simp only [b64,Qb,Vem,Qj];omega
theorem Vlw:∀ (d r:List UInt8),3 ∣ d.length->b64 (d++r)=b64 d++b64 r
 | [],r,_=>rfl
 | [x],r,h=>by simp at h
 | [x,y],r,h=>by simp at h
 | x::y::z::d,r,h=>by
  have hd:3 ∣ d.length:=by simp only [Qj] at h; omega
  simp only [List.cons_append,b64,Vlw d r hd,Qf]
theorem Vmy (r:List UInt8) (h:r≠[]):b64 (r.take 3)=grp (r.getD 0 0) (r.getD 1 0) (r.getD 2 0) (min r.length 3+1):=by
 match r,h with
 | [x],_=>rfl
 | [x,y],_=>rfl
 | x::y::z::r,_=>
  rw [show min (x::y::z::r).length 3=3 by simp];simp [b64,Qh]
set_option maxHeartbeats 4000000 in
theorem Vbga (b o cap:Nat) (l:List UInt8) (w:World) (hl:l≠[]) (hc:∀ j x,l[j]? = some x->w.cell? ⟨b,o+j,none⟩=some (.int .u8 x.toNat)) (hcap:l.length<=cap) (hlen:l.length<=1000000):Calls Tryz.prog 121 #[.slice (some ⟨b,o,none⟩) l.length cap] w λe w'=>e = .returned (.string ⟨(b64 l).toArray⟩)/\Below w.heap.size w w':=by
 have hbk:b < w.heap.size:=World.block_lt_of_cell? _ _ (hc 0 _ (List.getElem?_eq_getElem (List.length_pos_iff.2 hl)));have HC:=Any.hidU hc;clear hc;go_enter Tryz.func121,Tryz.ntmps121;go_wp2;go_loopw [0] (λs wr=>∃ (done rest:List UInt8) (o' c' n:Nat),s = .slice (some ⟨b,o',none⟩) n c'/\n<=c'/\Hid (n=rest.length)/\Hid ((b64 done).length<=4000000)/\Hid (l=done++rest)/\Hid (∀ j x,rest[j]? = some x->w.cell? ⟨b,o'+j,none⟩=some (.int .u8 x.toNat))/\Hid (Lib.IsBuilder 202 5 w.heap.size w.heap.size (Lib.byteCells (b64 done)) wr)/\Hid (Below w.heap.size w wr)/\Hid (rest≠[]->3 ∣ done.length)) (λs _=>match s with | .slice _ n _=>n | _=>0)
 case atStart=>exact ⟨[],l,o,cap,l.length,rfl,hcap,rfl,(by simp [Hid,b64]),rfl,HC,Lib.fresh_isBuilder 202 5 w,(Below.refl w.heap.size w).alloc (Nat.le_refl _) _,λ_=>⟨0,rfl⟩⟩
 case round=>
  obtain ⟨done,rest,o',c',n,rfl,hcp,HN,HL2,HL,HR,HB,HW,HD⟩:=hrel;have hBw:w.heap.size<=wr.heap.size:=HW.out.size;by_cases he:rest=[]
  ·subst he;have hd:l=done:=by have:=HL.out; simpa using this
   subst hd;have hn:n=0:=HN.out;subst hn;go_wp2_with fail;refine (Any.Builder_String_any Tryz.lays169 Tryz.bx9 w.heap.size w.heap.size (b64 l) wr HB.out hBw).mono ?_;rintro e w3 ⟨rfl,hb3⟩;have Hb3:=Any.hidU (HW.out.trans hb3);clear hb3;go_wp2;go_ret;exact ⟨rfl,Hb3.out⟩
  ·have hcopy:=Vzj wr b o' c' rest he (λj v hj=>by rw [HW.out.cell (p:=⟨b,o'+j,none⟩) hbk]; exact HR.out j v hj) (Nat.lt_of_lt_of_le hbk hBw);rw [<- HN.out] at hcopy;unfold grpCells at hcopy;have hn0:0 < n:=by rw [HN.out]; exact List.length_pos_iff.2 he
   generalize hx:rest.getD 0 0=x at hcopy;generalize hy:rest.getD 1 0=y at hcopy;generalize hz:rest.getD 2 0=z at hcopy;generalize hm:min n 3=m at hcopy;have HE:=Any.hidU he;have Hx:=Any.hidU hx;have Hy:=Any.hidU hy;have Hz:=Any.hidU hz;clear he hx hy hz;have hmn:m<=n:=by omega
   have hmc:m<=c':=by omega
   go_wp2_with (at_builtin; refine Lib.wpList_copy_run _ rfl _ _ 25 25 rfl _ _ rfl rfl hcopy ?_);all_goals (
    rw [grpB];generalize hB:((x.toNat * 65536+y.toNat * 256+z.toNat:Nat):Int)=B;have HBv:=Any.hidU hB;have bx:=x.toNat_lt;have by_:=y.toNat_lt;have bz:=z.toNat_lt;clear hB hcopy;go_loopw [32] (λi w2=>∃ k:Nat,k<=m+1/\i = .int .i64 k/\Hid (Lib.IsBuilder 202 5 w.heap.size w.heap.size (Lib.byteCells (b64 done++grp x y z k)) w2)/\Hid (Below w.heap.size w w2)) (λi _=>m+1 - (RowKit.intOf i).toNat)
    case atStart=>
     refine ⟨0,by omega,rfl,Vlv ?_ (λi hi=>Below.heap_alloc wr _ i hi),HW.out.alloc hBw _⟩;have:=HB.out;rw [show b64 done++grp x y z 0=b64 done by simp [grp]];exact this
    case round=>
     obtain ⟨k,hk,rfl,HB2,HW2⟩:=hrel;by_cases hlt:k < m+1
     ·have h4:k=0\/k=1\/k=2\/k=3:=by omega
      rcases h4 with rfl | rfl | rfl | rfl
      ·have qe:bits BinOp.and Qa (B / 262144) 63=(B / 262144) % 64:=Vmx _ (by have:=HBv.out; omega) (by have:=HBv.out; omega);have q0:0<=bits BinOp.and Qa (B / 262144) 63:=by rw [qe]; omega
       have q1:bits BinOp.and Qa (B / 262144) 63 < 64:=by rw [qe]; omega
       have Qe:=Any.hidU qe;clear qe;go_wp2_with fail;refine (Any.Builder_WriteByte Tryz.lays167 Tryz.bx7 w.heap.size w.heap.size _ _ wr HB2.out (by have:=HL2.out; rw [Lib.byteCells_length,Qb,Vem]; omega) HW2.out.size).mono ?_;rintro e w3 ⟨rfl,h3,hb3⟩;have H3:=Any.hidU (Or.inr (Vf8 (k:=0) h3 (by rw [Qe.out,show ((B / 262144) % 64).toNat=x.toNat / 4 by have:=HBv.out; omega]; rfl)):Lib.IsBuilder 202 5 w.heap.size w.heap.size _ w3);have Hb3:=Any.hidU (HW2.out.trans hb3);clear h3 hb3;go_wp2;exact ⟨⟨1,by omega,by go_num,H3,Hb3⟩,by simp [RowKit.intOf]<;>omega⟩
      ·have qe:bits BinOp.and Qa (B / 4096) 63=(B / 4096) % 64:=Vmx _ (by have:=HBv.out; omega) (by have:=HBv.out; omega);have q0:0<=bits BinOp.and Qa (B / 4096) 63:=by rw [qe]; omega
       have q1:bits BinOp.and Qa (B / 4096) 63 < 64:=by rw [qe]; omega
       have Qe:=Any.hidU qe;clear qe;go_wp2_with fail;refine (Any.Builder_WriteByte Tryz.lays167 Tryz.bx7 w.heap.size w.heap.size _ _ wr HB2.out (by have:=HL2.out; rw [Lib.byteCells_length,Qb,Vem]; omega) HW2.out.size).mono ?_;rintro e w3 ⟨rfl,h3,hb3⟩;have H3:=Any.hidU (Or.inr (Vf8 (k:=1) h3 (by rw [Qe.out,show ((B / 4096) % 64).toNat=x.toNat % 4 * 16+y.toNat / 16 by have:=HBv.out; omega]; rfl)):Lib.IsBuilder 202 5 w.heap.size w.heap.size _ w3);have Hb3:=Any.hidU (HW2.out.trans hb3);clear h3 hb3;go_wp2;exact ⟨⟨2,by omega,by go_num,H3,Hb3⟩,by simp [RowKit.intOf]<;>omega⟩
      ·have qe:bits BinOp.and Qa (B / 64) 63=(B / 64) % 64:=Vmx _ (by have:=HBv.out; omega) (by have:=HBv.out; omega);have q0:0<=bits BinOp.and Qa (B / 64) 63:=by rw [qe]; omega
       have q1:bits BinOp.and Qa (B / 64) 63 < 64:=by rw [qe]; omega
       have Qe:=Any.hidU qe;clear qe;go_wp2_with fail;refine (Any.Builder_WriteByte Tryz.lays167 Tryz.bx7 w.heap.size w.heap.size _ _ wr HB2.out (by have:=HL2.out; rw [Lib.byteCells_length,Qb,Vem]; omega) HW2.out.size).mono ?_;rintro e w3 ⟨rfl,h3,hb3⟩;have H3:=Any.hidU (Or.inr (Vf8 (k:=2) h3 (by rw [Qe.out,show ((B / 64) % 64).toNat=y.toNat % 16 * 4+z.toNat / 64 by have:=HBv.out; omega]; rfl)):Lib.IsBuilder 202 5 w.heap.size w.heap.size _ w3);have Hb3:=Any.hidU (HW2.out.trans hb3);clear h3 hb3;go_wp2;exact ⟨⟨3,by omega,by go_num,H3,Hb3⟩,by simp [RowKit.intOf]<;>omega⟩
      ·have qe:bits BinOp.and Qa (B) 63=(B) % 64:=Vmx _ (by have:=HBv.out; omega) (by have:=HBv.out; omega);have q0:0<=bits BinOp.and Qa (B) 63:=by rw [qe]; omega
       have q1:bits BinOp.and Qa (B) 63 < 64:=by rw [qe]; omega
       have Qe:=Any.hidU qe;clear qe;go_wp2_with fail;refine (Any.Builder_WriteByte Tryz.lays167 Tryz.bx7 w.heap.size w.heap.size _ _ wr HB2.out (by have:=HL2.out; rw [Lib.byteCells_length,Qb,Vem]; omega) HW2.out.size).mono ?_;rintro e w3 ⟨rfl,h3,hb3⟩;have H3:=Any.hidU (Or.inr (Vf8 (k:=3) h3 (by rw [Qe.out,show ((B) % 64).toNat=z.toNat % 64 by have:=HBv.out; omega]; rfl)):Lib.IsBuilder 202 5 w.heap.size w.heap.size _ w3);have Hb3:=Any.hidU (HW2.out.trans hb3);clear h3 hb3;go_wp2;exact ⟨⟨4,by omega,by go_num,H3,Hb3⟩,by simp [RowKit.intOf]<;>omega⟩
     ·have:k=m+1:=by omega
      subst this;go_wp2;have hnr:=HN.out;have hdl:done.length+rest.length=l.length:=by rw [HL.out,Qb]
      have hbt:b64 (done++rest.take 3)=b64 done++grp x y z (m+1):=by
       rw [Vlw _ _ (HD.out HE.out),Vmy rest HE.out,Hx.out,Hy.out,Hz.out,<- hnr,hm]
      refine ⟨⟨done++rest.take 3,rest.drop 3,_,_,_,rfl,by omega,?_,?_,?_,?_,?_,HW2,?_⟩,?_⟩
      ·show n - m=(rest.drop 3).length;rw [Qi]; omega
      ·show (b64 (done++rest.take 3)).length<=4000000;have:=Vi2 (done++rest.take 3);rw [Qb,Qc] at this;omega
      ·show l=(done++rest.take 3)++rest.drop 3;rw [Qf,List.take_append_drop];exact HL.out
      ·intro j v hj;rw [List.getElem?_drop] at hj;have hlt2:3+j < rest.length:=by
        rcases Nat.lt_or_ge (3+j) rest.length with h | h
        ·exact h
        ·rw [List.getElem?_eq_none h] at hj; cases hj
       have:=HR.out (3+j) v hj;first
        | (exfalso; omega)
        | (rw [show o'+m+j=o'+(3+j) by omega]; exact this)
      ·show Lib.IsBuilder 202 5 w.heap.size w.heap.size (Lib.byteCells (b64 (done++rest.take 3))) _;rw [hbt];exact HB2.out
      ·intro hne;have h0:(rest.drop 3).length≠0:=λh=>hne (List.length_eq_zero_iff.1 h);rw [Qi] at h0;have:=HD.out HE.out;rw [Qb,Qc];omega
      ·show n - m < n;omega)
end Go.Proofs
