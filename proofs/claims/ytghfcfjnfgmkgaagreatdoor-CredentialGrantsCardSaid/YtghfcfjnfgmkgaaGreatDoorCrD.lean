/- Out of the texts about items of the chapter on items (cbor): what this chapter needs. Written by a program. -/
import Derived.Test.YtghfcfjnfgmkgaaGreatDoorCrC
import Derived.Test.YtghfcfjnfgmkgaaGreatDoorLib8
namespace Go.Proofs.YtghfcfjnfgmkgaaGreatDoor
set_option linter.unusedVariables false
set_option linter.unusedSimpArgs false
set_option maxRecDepth 100000
open Go Go.Abs
abbrev Rr:=List UInt8 × Int × List ApiItem × Unit
theorem rheadL (st:Rr) (x:ApiItem) (k:Int) (at0:Nat) (l:List UInt8) (hst:st.2.1=(at0:Int)) (hl:l.length < 1000) (h1:st.1.length < 1000000) (h2:(st.1.drop (at0 + 1)).take l.length=l):Zai_L1 (st,(x,()),k,(l.length:Int),0#64,0,())=some ((st.1,st.2.1,st.2.2.1,()),(x,()),k,(l.length:Int),bev 0#64 l,()):=by
  have key:∀ (r:List UInt8) (j f:Nat) (v:BitVec 64),l.drop j=r → j ≤ l.length → r.length < f → iter (fun (y:(Rr × (ApiItem × Unit) × Int × Int × (BitVec 64) × Int × Unit))=>Zai_L1b y.1 y.2.1 y.2.2.1 y.2.2.2.1 y.2.2.2.2.1 y.2.2.2.2.2.1) f (st,(x,()),k,(l.length:Int),v,(j:Int),())=some ((st.1,st.2.1,st.2.2.1,()),(x,()),k,(l.length:Int),bev v r,()):=by
    intro r
    induction r with
    | nil=>
      intro j f v hr hj hf
      obtain ⟨f,rfl⟩:∃ g,f=g + 1:=⟨f - 1,by omega⟩
      have hjl:j=l.length:=by
        have:=congrArg List.length hr
        simp at this
        omega
      rw [iter_succ]
      dsimp only
      unfold Zai_L1b
      rw [show decide ((j:Int) < (l.length:Int))=false from decide_eq_false (by omega)]
      rfl
    | cons c r ih=>
      intro j f v hr hj hf
      obtain ⟨f,rfl⟩:∃ g,f=g + 1:=⟨f - 1,by omega⟩
      obtain ⟨d1,d2,d3,d4⟩:=drop_cons hr
      have hx:st.1[at0 + 1 + j]? = some c:=by
        have e:((st.1.drop (at0 + 1)).take l.length)[j]? = l[j]?:=by rw [h2]
        rw [d1,List.getElem?_take_of_lt d3,List.getElem?_drop] at e
        exact e
      have hlen:at0 + 1 + j < st.1.length:=(List.getElem?_eq_some_iff.1 hx).1
      have e1:Zai_L1b st (x,()) k (l.length:Int) v (j:Int)=some (Sum.inl ((st.1,st.2.1,st.2.2.1,()),(x,()),k,(l.length:Int),((v <<< 8) ||| (BitVec.setWidth 64 c.toBitVec)),((j + 1:Nat):Int),())):=by
        unfold Zai_L1b
        rw [show decide ((j:Int) < (l.length:Int))=true from decide_eq_true (by omega),hst,wrap_id (n:=(at0:Int) + 1) (by omega) (by omega),wrap_id (n:=(at0:Int) + 1 + (j:Int)) (by omega) (by omega),show (at0:Int) + 1 + (j:Int)=((at0 + 1 + j:Nat):Int) from rfl,wrap_id (n:=(j:Int) + 1) (by omega) (by omega)]
        simp only [cond_true,getI_nat hx,bindS]
        rfl
      rw [iter_succ]
      dsimp only
      rw [e1]
      simp only [bindS,Sum.elim_inl]
      exact ih (j + 1) f ((v <<< 8) ||| (BitVec.setWidth 64 c.toBitVec)) d2 (by omega) (by simp at hf; omega)
  unfold Zai_L1
  exact key l 0 rounds 0#64 rfl (by omega) (by rw [rounds_eq]; omega)
theorem maj6:∀ z:Fin 6,([(1:Int),(2:Int),(3:Int),(4:Int),(5:Int),(6:Int)]:List Int)[z.val]? = some ((z.val:Int) + 1):=by decide
theorem low9 {z:Nat} (h:z ≤ 3) (n:BitVec 64):∃ q:BitVec 64,([0#64,24#64,256#64,0#64,65536#64,0#64,0#64,0#64,4294967296#64]:List (BitVec 64))[2 ^ z]? = some q ∧ decide (n.toNat < q.toNat)=decide (sho n < 2 ^ z):=by
  have hn:=n.isLt
  have hz:z=0 ∨ z=1 ∨ z=2 ∨ z=3:=by omega
  unfold sho
  rcases hz with rfl | rfl | rfl | rfl
  · refine ⟨24#64,rfl,?_⟩
    rw [show (24#64).toNat=24 from rfl]
    cases h1:decide (n.toNat < 24) <;> cases decide (n.toNat < 256) <;> cases decide (n.toNat < 65536) <;> cases decide (n.toNat < 4294967296) <;> rfl
  · refine ⟨256#64,rfl,?_⟩
    rw [show (256#64).toNat=256 from rfl]
    by_cases h1:n.toNat < 24
    · have h2:n.toNat < 256:=by omega
      simp [h1,h2]
    · by_cases h2:n.toNat < 256 <;> by_cases h3:n.toNat < 65536 <;> by_cases h4:n.toNat < 4294967296 <;> simp [h1,h2,h3,h4]
  · refine ⟨65536#64,rfl,?_⟩
    rw [show (65536#64).toNat=65536 from rfl]
    by_cases h1:n.toNat < 24
    · have h2:n.toNat < 65536:=by omega
      simp [h1,h2]
    · by_cases h2:n.toNat < 256
      · have h3:n.toNat < 65536:=by omega
        simp [h1,h2,h3]
      · by_cases h3:n.toNat < 65536 <;> by_cases h4:n.toNat < 4294967296 <;> simp [h1,h2,h3,h4]
  · refine ⟨4294967296#64,rfl,?_⟩
    rw [show (4294967296#64).toNat=4294967296 from rfl]
    by_cases h1:n.toNat < 24
    · have h2:n.toNat < 4294967296:=by omega
      simp [h1,h2]
    · by_cases h2:n.toNat < 256
      · have h3:n.toNat < 4294967296:=by omega
        simp [h1,h2,h3]
      · by_cases h3:n.toNat < 65536
        · have h4:n.toNat < 4294967296:=by omega
          simp [h1,h2,h3,h4]
        · by_cases h4:n.toNat < 4294967296 <;> simp [h1,h2,h3,h4]
theorem rhead_ok (out:List ApiItem) (bs:List UInt8) (at0:Nat) (hat:at0 ≤ bs.length) (hbs:bs.length < 1000000) :
    ∃ at1:Nat,at1 ≤ bs.length ∧ Zai (bs,(at0:Int),out,())=some (((bs,(at1:Int),out,()),()),(⟨(hdB (bs.drop at0)).2.1,(hdB (bs.drop at0)).2.2.1,[]⟩,(hdB (bs.drop at0)).1,())) ∧ ((hdB (bs.drop at0)).1=0 → bs.drop at1=(hdB (bs.drop at0)).2.2.2):=by
  unfold Zai
  dsimp only
  cases hs:bs.drop at0 with
  | nil=>
    have:=congrArg List.length hs
    simp at this
    rw [show decide ((bs.length:Int) ≤ (at0:Int))=true from decide_eq_true (by omega)]
    exact ⟨at0,hat,rfl,fun h=>by simp [hdB] at h⟩
  | cons c r=>
    obtain ⟨d1,d2,d3,d4⟩:=drop_cons hs
    rw [show decide ((bs.length:Int) ≤ (at0:Int))=false from decide_eq_false (by omega),getI_nat d1]
    simp only [cond_false,bindS,dec_u8]
    rw [wrap_id (n:=(at0:Int) + 1) (by omega) (by omega),show (at0:Int) + 1=((at0 + 1:Nat):Int) from rfl]
    obtain ⟨m1,m2⟩:=maj_ok c
    simp only [hdB]
    by_cases hB:isB c=true
    · rw [hB]
      have hb:=hB
      unfold isB at hb
      simp only [Bool.or_eq_true,decide_eq_true_eq] at hb
      rcases hb with rfl | rfl
      · exact ⟨at0 + 1,by omega,rfl,fun _=>d2⟩
      · exact ⟨at0 + 1,by omega,rfl,fun _=>d2⟩
    · have hB':isB c=false:=by cases h:isB c; rfl; exact absurd h hB
      have hb:=hB'
      unfold isB at hb
      simp only [Bool.or_eq_false_iff,decide_eq_false_iff_not] at hb
      rw [hB',show decide (c=244)=false from decide_eq_false hb.1,show decide (c=245)=false from decide_eq_false hb.2]
      by_cases h6:c=246
      · rw [show decide (c=246)=true from decide_eq_true h6]
        exact ⟨at0 + 1,by omega,rfl,fun _=>d2⟩
      · rw [show decide (c=246)=false from decide_eq_false h6]
        simp only [cond_false,bindS,Sum.elim_inl]
        have em1:((UInt8.ofBitVec (c.toBitVec >>> 5)).toBitVec.toNat:Int)=((c.toNat / 32:Nat):Int):=by rw [← m1]; rfl
        have em2:((UInt8.ofBitVec (c.toBitVec &&& (31:UInt8).toBitVec)).toBitVec.toNat:Int)=((c.toNat % 32:Nat):Int):=by rw [← m2]; rfl
        simp only [em1,em2]
        have hcl:c.toNat < 256:=c.toNat_lt
        by_cases q1:5 < c.toNat / 32
        · rw [show decide (5 < c.toNat / 32)=true from decide_eq_true q1,show decide ((5:Int) < ((c.toNat / 32:Nat):Int))=true from decide_eq_true (by omega)]
          exact ⟨at0,by omega,rfl,fun h=>by simp at h⟩
        · rw [show decide (5 < c.toNat / 32)=false from decide_eq_false q1,show decide ((5:Int) < ((c.toNat / 32:Nat):Int))=false from decide_eq_false (by omega)]
          by_cases q2:27 < c.toNat % 32
          · rw [show decide (27 < c.toNat % 32)=true from decide_eq_true q2,show decide ((27:Int) < ((c.toNat % 32:Nat):Int))=true from decide_eq_true (by omega)]
            exact ⟨at0,by omega,rfl,fun h=>by simp at h⟩
          · rw [show decide (27 < c.toNat % 32)=false from decide_eq_false q2,show decide ((27:Int) < ((c.toNat % 32:Nat):Int))=false from decide_eq_false (by omega)]
            simp only [cond_false,Bool.or_self]
            have e6:([(1:Int),(2:Int),(3:Int),(4:Int),(5:Int),(6:Int)]:List Int)[c.toNat / 32]? = some (((c.toNat / 32:Nat):Int) + 1):=maj6 ⟨c.toNat / 32,by omega⟩
            have i6:(decide ((0:Int) ≤ ((c.toNat / 32:Nat):Int)) && decide (((c.toNat / 32:Nat):Int) < (6:Int)))=true:=by
              rw [Bool.and_eq_true,decide_eq_true_eq,decide_eq_true_eq]; exact ⟨by omega,by omega⟩
            by_cases q3:c.toNat % 32 < 24
            · rw [show decide (c.toNat % 32 < 24)=true from decide_eq_true q3,show decide ((24:Int) ≤ ((c.toNat % 32:Nat):Int))=false from decide_eq_false (by omega)]
              simp only [cond_false,cond_true,bindS]
              rw [wrap_id (n:=(bs.length:Int) - (at0:Int)) (by omega) (by omega),wrap_id (n:=(bs.length:Int) - (at0:Int) - 1) (by omega) (by omega),show decide ((bs.length:Int) - (at0:Int) - 1 < 0)=false from decide_eq_false (by omega)]
              simp only [cond_false,Int.lt_irrefl,decide_false,bindS]
              have eL:Zai_L1 ((bs,(at0:Int),out,()),((⟨(0:Int),0#64,([]:List UInt8)⟩:ApiItem),()),((c.toNat / 32:Nat):Int),0,BitVec.ofInt 64 ((c.toNat % 32:Nat):Int),0,())=some ((bs,(at0:Int),out,()),((⟨(0:Int),0#64,([]:List UInt8)⟩:ApiItem),()),((c.toNat / 32:Nat):Int),0,BitVec.ofInt 64 ((c.toNat % 32:Nat):Int),()):=by
                unfold Zai_L1
                rw [rounds_eq,show (1180591620717411303424:Nat)=1180591620717411303423 + 1 from rfl,iter_succ]
                rfl
              rw [eL]
              simp only [bindS,Int.toNat_natCast,i6,e6,cond_true]
              rw [wrap_id (n:=(1:Int) + 0) (by omega) (by omega),wrap_id (n:=(at0:Int) + (1 + 0)) (by omega) (by omega),BitVec.ofInt_natCast]
              have i9:(decide ((0:Int) ≤ 0) && decide ((0:Int) < 9))=true:=by decide
              rw [i9]
              simp only [cond_true]
              rw [show ([0#64,24#64,256#64,0#64,65536#64,0#64,0#64,0#64,4294967296#64]:List (BitVec 64))[(0:Int).toNat]? = some 0#64 from rfl]
              simp only [bindS]
              rw [show decide ((BitVec.ofNat 64 (c.toNat % 32)).toNat < (0#64).toNat)=false from decide_eq_false (by simp)]
              refine ⟨at0 + 1,by omega,?_,fun _=>d2⟩
              rw [show (at0:Int) + (1 + 0)=((at0 + 1:Nat):Int) by omega]
              rfl
            · rw [show decide (c.toNat % 32 < 24)=false from decide_eq_false q3,show decide ((24:Int) ≤ ((c.toNat % 32:Nat):Int))=true from decide_eq_true (by omega),wrap_id (n:=((c.toNat % 32:Nat):Int) - 24) (by omega) (by omega),show ((c.toNat % 32:Nat):Int) - 24=((c.toNat % 32 - 24:Nat):Int) by omega]
              generalize hz:c.toNat % 32 - 24=z
              have hz3:z ≤ 3:=by omega
              obtain ⟨p1,p8⟩:=pow2_le hz3
              rw [BitVec.ofInt_natCast,show (BitVec.ofNat 64 z).toNat=z by rw [BitVec.toNat_ofNat,Nat.mod_eq_of_lt (by omega)],size_ok hz3]
              simp only [cond_false,cond_true,bindS]
              rw [wrap_id (n:=(bs.length:Int) - (at0:Int)) (by omega) (by omega),wrap_id (n:=(bs.length:Int) - (at0:Int) - 1) (by omega) (by omega)]
              by_cases q4:r.length < 2 ^ z
              · rw [show decide ((bs.length:Int) - (at0:Int) - 1 < ((2 ^ z:Nat):Int))=true from decide_eq_true (by omega),show decide (r.length < 2 ^ z)=true from decide_eq_true q4]
                exact ⟨at0,by omega,rfl,fun h=>by simp at h⟩
              · rw [show decide ((bs.length:Int) - (at0:Int) - 1 < ((2 ^ z:Nat):Int))=false from decide_eq_false (by omega),show decide (r.length < 2 ^ z)=false from decide_eq_false q4,show decide ((0:Int) < ((2 ^ z:Nat):Int))=true from decide_eq_true (by omega)]
                simp only [cond_false,cond_true,bindS]
                have hvl:(r.take (2 ^ z)).length=2 ^ z:=by rw [List.length_take]; omega
                have eL:=rheadL (bs,(at0:Int),out,()) ⟨(0:Int),0#64,([]:List UInt8)⟩ ((c.toNat / 32:Nat):Int) at0 (r.take (2 ^ z)) rfl (by omega) hbs (by rw [hvl]; dsimp only; rw [d2])
                rw [hvl] at eL
                rw [eL]
                obtain ⟨q,e9,eq9⟩:=low9 hz3 (bev 0#64 (r.take (2 ^ z)))
                have i9:(decide ((0:Int) ≤ ((2 ^ z:Nat):Int)) && decide (((2 ^ z:Nat):Int) < (9:Int)))=true:=by
                  rw [Bool.and_eq_true,decide_eq_true_eq,decide_eq_true_eq]; exact ⟨by omega,by omega⟩
                simp only [bindS,i9,i6,cond_true,Int.toNat_natCast,e9,e6,eq9]
                rw [wrap_id (n:=(1:Int) + ((2 ^ z:Nat):Int)) (by omega) (by omega),wrap_id (n:=(at0:Int) + (1 + ((2 ^ z:Nat):Int))) (by omega) (by omega),show (at0:Int) + (1 + ((2 ^ z:Nat):Int))=((at0 + 1 + 2 ^ z:Nat):Int) by omega]
                cases hsh:decide (sho (bev 0#64 (r.take (2 ^ z))) < 2 ^ z)
                · refine ⟨at0 + 1 + 2 ^ z,by omega,rfl,fun _=>?_⟩
                  show bs.drop (at0 + 1 + 2 ^ z)=r.drop (2 ^ z)
                  rw [← d2,List.drop_drop]
                · exact ⟨at0,by omega,rfl,fun h=>by simp at h⟩
def RI (bs:List UInt8) (out:List ApiItem) (w:Res (List UInt8)) (z:Option ((Rr × Unit) × (Int × Unit))):Prop:=
  (w.1=0 → ∃ at1:Nat,at1 ≤ bs.length ∧ z=some (((bs,(at1:Int),out ++ w.2.1,()),()),(0,())) ∧ bs.drop at1=w.2.2 ∧ out.length + w.2.1.length ≤ 512) ∧ (w.1 ≠ 0 → ∃ st,z=some (st,(w.1,())))
theorem RI_err {bs:List UInt8} {out:List ApiItem} {e:Int} {o:List ApiItem} {t:List UInt8} {st:Rr × Unit} (he:e ≠ 0):RI bs out (e,o,t) (some (st,(e,()))):=⟨fun h=>absurd h he,fun _=>⟨st,rfl⟩⟩
def ZB (bs:List UInt8) (out:List ApiItem) (w:Res (List UInt8)) (z:(Rr × Int × Unit) ⊕ (Rr × Unit)):Prop:=
  (w.1=0 → ∃ at1:Nat,at1 ≤ bs.length ∧ z = .inr ((bs,(at1:Int),out ++ w.2.1,()),()) ∧ bs.drop at1=w.2.2 ∧ out.length + w.2.1.length ≤ 512) ∧ (w.1 ≠ 0 → ∃ st,z = .inl (st,w.1,()))
abbrev RK:=Rr → Int → Bool → List UInt8 → Option ((Rr × Unit) × (Int × Unit))
abbrev LS:=Rr × Int × (ApiItem × Unit) × BitVec 64 × Bool × List UInt8 × BitVec 64 × Unit
theorem bvn (i:Nat) (hi:i ≤ 2000):(BitVec.ofNat 64 i).toNat=i:=by rw [BitVec.toNat_ofNat,Nat.mod_eq_of_lt (by omega)]
theorem bvs (i:Nat) (hi:i ≤ 1000):BitVec.ofNat 64 i + 1#64=BitVec.ofNat 64 (i + 1):=by
  apply BitVec.eq_of_toNat_eq
  rw [BitVec.toNat_add,bvn i (by omega),bvn (i + 1) (by omega)]
  rw [show (1#64).toNat=1 from rfl,Nat.mod_eq_of_lt (by omega)]
theorem W_head {f:Nat} {s:List UInt8} {n d:Nat} {key:Bool} {b:List UInt8} (h:(W getB f s n d key b).1=0):∃ x r,(W getB f s n d key b).2.1=x :: r ∧ x.data.length ≤ 1024:=by
  cases f with
  | zero=>simp [W] at h
  | succ f=>
    unfold W at h ⊢
    dsimp only at h ⊢
    by_cases hg:(getB n d key b s).1=0
    · rw [show decide ((getB n d key b s).1=0)=true from decide_eq_true hg]
      have e:getB n d key b s=(0,(getB n d key b s).2.1,(getB n d key b s).2.2):=by rw [← hg]
      exact ⟨_,_,rfl,(big_false (chk_zero (getB_sound e)).2.2.1).1⟩
    · rw [show decide ((getB n d key b s).1=0)=false from decide_eq_false hg] at h
      exact absurd h hg
section
variable (bs:List UInt8) (k_rec:RK) (f:Nat) (d:Nat)
    (ih:∀ (at0:Nat) (out:List ApiItem) (key:Bool) (b:List UInt8),at0 ≤ bs.length → out.length ≤ 512 → RI bs out (W getB f (bs.drop at0) out.length (d + 1) key b) (k_rec (bs,(at0:Int),out,()) ((d + 1:Nat):Int) key b))
    (ed:IntKind.wrap .i64 ((d:Int) + 1)=((d + 1:Nat):Int))
include ih ed
theorem loopA (x:ApiItem) (m:BitVec 64) (h5:x.kind=5) (hm:m.toNat ≤ 512):∀ (k i at0:Nat) (out:List ApiItem) (fuel:Nat) (last:List UInt8),i + k=m.toNat → at0 ≤ bs.length → out.length ≤ 512 → k < fuel →
    ∃ z,iter (fun (y:LS)=>Zaj_L1b k_rec y.1 y.2.1 y.2.2.1 y.2.2.2.1 y.2.2.2.2.1 y.2.2.2.2.2.1 y.2.2.2.2.2.2.1) fuel ((bs,(at0:Int),out,()),(d:Int),(x,()),m,true,last,BitVec.ofNat 64 i,())=some z ∧ ZB bs out (LA (fun s n=>W getB f s n (d + 1) false []) k (bs.drop at0) out.length) z:=by
  intro k
  induction k with
  | zero=>
    intro i at0 out fuel last hi hat ho hfu
    obtain ⟨fuel,rfl⟩:∃ g,fuel=g + 1:=⟨fuel - 1,by omega⟩
    rw [iter_succ]
    refine ⟨.inr ((bs,(at0:Int),out,()),()),?_,fun _=>⟨at0,hat,by simp [LA],rfl,by simpa [LA] using ho⟩,fun h=>absurd rfl h⟩
    dsimp only
    unfold Zaj_L1b
    rw [bvn i (by omega),show decide (i < m.toNat)=false from decide_eq_false (by omega)]
    rfl
  | succ k ihk=>
    intro i at0 out fuel last hi hat ho hfu
    obtain ⟨fuel,rfl⟩:∃ g,fuel=g + 1:=⟨fuel - 1,by omega⟩
    have hj:=ih at0 out false [] hat ho
    have e1:Zaj_L1b k_rec (bs,(at0:Int),out,()) (d:Int) (x,()) m true last (BitVec.ofNat 64 i)=(k_rec (bs,(at0:Int),out,()) ((d + 1:Nat):Int) false ([]:List UInt8)).bind fun r22=>(bif (!decide (r22.2.1=(0:Int))) then (some (Sum.inr (Sum.inl ((r22.1.1.1,r22.1.1.2.1,r22.1.1.2.2.1,()),r22.2.1,()))))
 else (some (Sum.inl ((r22.1.1.1,r22.1.1.2.1,r22.1.1.2.2.1,()),(d:Int),(x,()),m,true,last,BitVec.ofNat 64 (i + 1),())))):=by
      unfold Zaj_L1b
      rw [bvn i (by omega),show decide (i < m.toNat)=true from decide_eq_true (by omega),show decide (x.kind=6)=false from decide_eq_false (by omega),bvs i (by omega),ed]
      rfl
    rw [iter_succ]
    dsimp only
    rw [e1]
    unfold LA
    generalize W getB f (bs.drop at0) out.length (d + 1) false []=w at hj ⊢
    obtain ⟨j1,j2⟩:=hj
    by_cases hw:w.1=0
    · obtain ⟨at1,a1,a2,a3,a4⟩:=j1 hw
      rw [a2,show decide (w.1=0)=true from decide_eq_true hw]
      simp only [bindS,decide_true,Bool.not_true,cond_false,cond_true,Sum.elim_inl]
      obtain ⟨z,z1,z2,z3⟩:=ihk (i + 1) at1 (out ++ w.2.1) fuel last (by omega) a1 (by rw [List.length_append]; exact a4) (by omega)
      rw [a3,List.length_append] at z2 z3
      refine ⟨z,z1,fun h=>?_,fun h=>z3 h⟩
      obtain ⟨at2,b1,b2,b3,b4⟩:=z2 h
      refine ⟨at2,b1,by rw [b2,List.append_assoc],b3,?_⟩
      dsimp only
      rw [List.length_append]
      omega
    · obtain ⟨st,a1⟩:=j2 hw
      rw [a1,show decide (w.1=0)=false from decide_eq_false hw]
      refine ⟨.inl (st.1,w.1,()),?_,fun h=>absurd h hw,fun _=>⟨_,rfl⟩⟩
      simp only [bindS]
      rw [show decide (w.1=0)=false from decide_eq_false hw]
      rfl
theorem loopM (x:ApiItem) (m:BitVec 64) (h6:x.kind=6) (hm:m.toNat ≤ 512):∀ (k i at0:Nat) (out:List ApiItem) (fuel:Nat) (last:List UInt8),i + k=m.toNat → at0 ≤ bs.length → out.length ≤ 512 → k < fuel →
    ∃ z,iter (fun (y:LS)=>Zaj_L1b k_rec y.1 y.2.1 y.2.2.1 y.2.2.2.1 y.2.2.2.2.1 y.2.2.2.2.2.1 y.2.2.2.2.2.2.1) fuel ((bs,(at0:Int),out,()),(d:Int),(x,()),m,true,last,BitVec.ofNat 64 i,())=some z ∧ ZB bs out (LM (fun s n last=>W getB f s n (d + 1) true last) (fun s n=>W getB f s n (d + 1) false []) k (bs.drop at0) out.length last) z:=by
  intro k
  induction k with
  | zero=>
    intro i at0 out fuel last hi hat ho hfu
    obtain ⟨fuel,rfl⟩:∃ g,fuel=g + 1:=⟨fuel - 1,by omega⟩
    rw [iter_succ]
    refine ⟨.inr ((bs,(at0:Int),out,()),()),?_,fun _=>⟨at0,hat,by simp [LM],rfl,by simpa [LM] using ho⟩,fun h=>absurd rfl h⟩
    dsimp only
    unfold Zaj_L1b
    rw [bvn i (by omega),show decide (i < m.toNat)=false from decide_eq_false (by omega)]
    rfl
  | succ k ihk=>
    intro i at0 out fuel last hi hat ho hfu
    obtain ⟨fuel,rfl⟩:∃ g,fuel=g + 1:=⟨fuel - 1,by omega⟩
    have hj:=ih at0 out true last hat ho
    have hwn:=fun h=>W_head (f:=f) (s:=bs.drop at0) (n:=out.length) (d:=d + 1) (key:=true) (b:=last) h
    have e1:Zaj_L1b k_rec (bs,(at0:Int),out,()) (d:Int) (x,()) m true last (BitVec.ofNat 64 i)=(k_rec (bs,(at0:Int),out,()) ((d + 1:Nat):Int) true last).bind fun r18=>(bif (!decide (r18.2.1=(0:Int))) then (some (Sum.inr (Sum.inl ((r18.1.1.1,r18.1.1.2.1,r18.1.1.2.2.1,()),r18.2.1,()))))
 else (bif (decide ((0:Int) ≤ (out.length:Int)) && decide ((out.length:Int) < ((r18.1.1.2.2.1).length:Int))) then (((r18.1.1.2.2.1)[((out.length:Int)).toNat]?).bind fun x19=>((Zbs x19).bind fun r20=>((k_rec (r18.1.1.1,r18.1.1.2.1,r18.1.1.2.2.1,()) ((d + 1:Nat):Int) false ([]:List UInt8)).bind fun r21=>(bif (!decide (r21.2.1=(0:Int))) then (some (Sum.inr (Sum.inl ((r21.1.1.1,r21.1.1.2.1,r21.1.1.2.2.1,()),r21.2.1,()))))
 else (some (Sum.inl ((r21.1.1.1,r21.1.1.2.1,r21.1.1.2.2.1,()),(d:Int),(x,()),m,true,r20.2.1,BitVec.ofNat 64 (i + 1),())))))))
 else none)):=by
      unfold Zaj_L1b
      rw [bvn i (by omega),show decide (i < m.toNat)=true from decide_eq_true (by omega),show decide (x.kind=6)=true from decide_eq_true h6,bvs i (by omega),ed]
      rfl
    rw [iter_succ]
    dsimp only
    rw [e1]
    unfold LM
    dsimp only
    generalize W getB f (bs.drop at0) out.length (d + 1) true last=w at hj hwn ⊢
    obtain ⟨j1,j2⟩:=hj
    by_cases hw:w.1=0
    · obtain ⟨at1,a1,a2,a3,a4⟩:=j1 hw
      obtain ⟨y,r,hy,hyd⟩:=hwn hw
      have hl1:1 ≤ w.2.1.length:=by rw [hy]; simp
      rw [a2,show decide (w.1=0)=true from decide_eq_true hw]
      simp only [bindS,decide_true,Bool.not_true,cond_false,cond_true,Int.toNat_natCast]
      have hget:(out ++ w.2.1)[out.length]? = some y:=by rw [List.getElem?_append_right (by omega),hy]; simp
      have hh:w.2.1.headD default=y:=by rw [hy]; rfl
      have hlen:(out ++ w.2.1).length=out.length + w.2.1.length:=List.length_append
      rw [hget,hh,show (decide ((0:Int) ≤ (out.length:Int)) && decide ((out.length:Int) < ((out ++ w.2.1).length:Int)))=true by (rw [Bool.and_eq_true,decide_eq_true_eq,decide_eq_true_eq]; exact ⟨by omega,by omega⟩)]
      simp only [bindS,cond_true,Bytes_ok y (by omega)]
      have hv:=ih at1 (out ++ w.2.1) false [] a1 (by omega)
      rw [a3,hlen] at hv
      generalize W getB f w.2.2 (out.length + w.2.1.length) (d + 1) false []=v at hv ⊢
      obtain ⟨v1,v2⟩:=hv
      by_cases hv0:v.1=0
      · obtain ⟨at2,b1,b2,b3,b4⟩:=v1 hv0
        rw [b2,show decide (v.1=0)=true from decide_eq_true hv0]
        simp only [bindS,decide_true,Bool.not_true,cond_false,cond_true,Sum.elim_inl]
        have hlen2:(out ++ w.2.1 ++ v.2.1).length=out.length + w.2.1.length + v.2.1.length:=by rw [List.length_append,hlen]
        obtain ⟨z,z1,z2,z3⟩:=ihk (i + 1) at2 (out ++ w.2.1 ++ v.2.1) fuel (enc y) (by omega) b1 (by omega) (by omega)
        rw [b3,hlen2] at z2 z3
        refine ⟨z,z1,fun h=>?_,fun h=>z3 h⟩
        obtain ⟨at3,c1,c2,c3,c4⟩:=z2 h
        refine ⟨at3,c1,by rw [c2,List.append_assoc,List.append_assoc],c3,?_⟩
        dsimp only
        rw [List.length_append,List.length_append]
        omega
      · obtain ⟨st,b1⟩:=v2 hv0
        rw [b1,show decide (v.1=0)=false from decide_eq_false hv0]
        refine ⟨.inl (st.1,v.1,()),?_,fun h=>absurd h hv0,fun _=>⟨_,rfl⟩⟩
        simp only [bindS]
        rw [show decide (v.1=0)=false from decide_eq_false hv0]
        rfl
    · obtain ⟨st,a1⟩:=j2 hw
      rw [a1,show decide (w.1=0)=false from decide_eq_false hw]
      refine ⟨.inl (st.1,w.1,()),?_,fun h=>absurd h hw,fun _=>⟨_,rfl⟩⟩
      simp only [bindS]
      rw [show decide (w.1=0)=false from decide_eq_false hw]
      rfl
theorem tailI (x:ApiItem) (m:BitVec 64) (at1:Nat) (out:List ApiItem) (hat:at1 ≤ bs.length) (ho:out.length < 512) (hm:isN x.kind=true → m=x.number ∧ m.toNat ≤ 512) :
    RI bs out ((bif decide (x.kind=5) then LA (fun s n=>W getB f s n (d + 1) false []) x.number.toNat (bs.drop at1) (out.length + 1) else bif decide (x.kind=6) then LM (fun s n last=>W getB f s n (d + 1) true last) (fun s n=>W getB f s n (d + 1) false []) x.number.toNat (bs.drop at1) (out.length + 1) [] else ((0:Int),([]:List ApiItem),bs.drop at1)).1,x :: (bif decide (x.kind=5) then LA (fun s n=>W getB f s n (d + 1) false []) x.number.toNat (bs.drop at1) (out.length + 1) else bif decide (x.kind=6) then LM (fun s n last=>W getB f s n (d + 1) true last) (fun s n=>W getB f s n (d + 1) false []) x.number.toNat (bs.drop at1) (out.length + 1) [] else ((0:Int),([]:List ApiItem),bs.drop at1)).2.1,(bif decide (x.kind=5) then LA (fun s n=>W getB f s n (d + 1) false []) x.number.toNat (bs.drop at1) (out.length + 1) else bif decide (x.kind=6) then LM (fun s n last=>W getB f s n (d + 1) true last) (fun s n=>W getB f s n (d + 1) false []) x.number.toNat (bs.drop at1) (out.length + 1) [] else ((0:Int),([]:List ApiItem),bs.drop at1)).2.2)
      ((Zaj_L1 k_rec ((bs,(at1:Int),out ++ [x],()),(d:Int),(x,()),m,isN x.kind,([]:List UInt8),0#64,())).bind (Sum.elim (fun (z23:(Rr × Int × Unit))=>(some (((z23.1.1,z23.1.2.1,z23.1.2.2.1,()),()),(z23.2.1,())))) (fun (z24:(Rr × Unit))=>(some (((z24.1.1,z24.1.2.1,z24.1.2.2.1,()),()),((0:Int),())))))):=by
  have hlen:(out ++ [x]).length=out.length + 1:=by simp
  have fin:∀ (w:Res (List UInt8)) (z:(Rr × Int × Unit) ⊕ (Rr × Unit)),ZB bs (out ++ [x]) w z → RI bs out (w.1,x :: w.2.1,w.2.2) (Sum.elim (fun (z23:(Rr × Int × Unit))=>(some (((z23.1.1,z23.1.2.1,z23.1.2.2.1,()),()),(z23.2.1,())):Option ((Rr × Unit) × (Int × Unit)))) (fun (z24:(Rr × Unit))=>(some (((z24.1.1,z24.1.2.1,z24.1.2.2.1,()),()),((0:Int),())))) z):=by
    intro w z hz
    obtain ⟨z1,z2⟩:=hz
    refine ⟨fun h=>?_,fun h=>?_⟩
    · obtain ⟨at2,b1,b2,b3,b4⟩:=z1 h
      refine ⟨at2,b1,?_,b3,?_⟩
      · rw [b2]
        simp
      · dsimp only
        rw [List.length_cons]
        omega
    · obtain ⟨st,b1⟩:=z2 h
      rw [b1]
      exact ⟨_,rfl⟩
  unfold Zaj_L1
  rw [show (0#64)=BitVec.ofNat 64 0 from rfl]
  by_cases h5:x.kind=5
  · obtain ⟨rfl,hm2⟩:=hm (by simp [isN,h5])
    obtain ⟨z,z1,z2⟩:=loopA bs k_rec f d ih ed x x.number h5 hm2 x.number.toNat 0 at1 (out ++ [x]) rounds [] (by omega) hat (by omega) (by rw [rounds_eq]; omega)
    rw [show isN x.kind=true by simp [isN,h5],z1,show decide (x.kind=5)=true from decide_eq_true h5]
    rw [hlen] at z2
    exact fin _ z z2
  · by_cases h6:x.kind=6
    · obtain ⟨rfl,hm2⟩:=hm (by simp [isN,h6])
      obtain ⟨z,z1,z2⟩:=loopM bs k_rec f d ih ed x x.number h6 hm2 x.number.toNat 0 at1 (out ++ [x]) rounds [] (by omega) hat (by omega) (by rw [rounds_eq]; omega)
      rw [show isN x.kind=true by simp [isN,h6],z1,show decide (x.kind=5)=false from decide_eq_false h5,show decide (x.kind=6)=true from decide_eq_true h6]
      rw [hlen] at z2
      exact fin _ z z2
    · rw [show isN x.kind=false by simp [isN,h5,h6],show decide (x.kind=5)=false from decide_eq_false h5,show decide (x.kind=6)=false from decide_eq_false h6,rounds_eq,show (1180591620717411303424:Nat)=1180591620717411303423 + 1 from rfl,iter_succ]
      refine fin (0,[],bs.drop at1) (.inr ((bs,(at1:Int),out ++ [x],()),())) ⟨fun _=>⟨at1,hat,by simp,rfl,by simp; omega⟩,fun h=>absurd rfl h⟩
end
theorem admR (k:Int) (n d:Nat) (key:Bool) (h1:1 ≤ k) (h2:k ≤ 8):adm k n d key=bif decide (512 ≤ n) then 8 else bif key && !isK k then 3 else bif decide (8 < d) then 5 else 0:=by
  unfold adm
  rw [show (decide (1 ≤ k) && decide (k ≤ 8))=true by simp [h1,h2]]
  rfl
def endI (k_rec:RK) (bs:List UInt8) (at1:Int) (out:List ApiItem) (d:Int) (key:Bool) (before:List UInt8) (x:ApiItem) (m:BitVec 64):Option ((Rr × Unit) × (Int × Unit)):=
  bif !decide (acc x key before=0) then some (((bs,at1,out,()),()),(acc x key before,())) else
  (Zaj_L1 k_rec ((bs,at1,out ++ [x],()),d,(x,()),m,isN x.kind,([]:List UInt8),0#64,())).bind (Sum.elim (fun (z23:(Rr × Int × Unit))=>(some (((z23.1.1,z23.1.2.1,z23.1.2.2.1,()),()),(z23.2.1,())))) (fun (z24:(Rr × Unit))=>(some (((z24.1.1,z24.1.2.1,z24.1.2.2.1,()),()),((0:Int),())))))
def midI (k_rec:RK) (bs:List UInt8) (at1:Nat) (out:List ApiItem) (d:Nat) (key:Bool) (before:List UInt8) (k:Int) (m:BitVec 64):Option ((Rr × Unit) × (Int × Unit)):=
  bif !decide (adm k out.length d key=0) then some (((bs,(at1:Int),out,()),()),(adm k out.length d key,())) else
  bif isN k then (bif decide (512 < m.toNat) then some (((bs,(at1:Int),out,()),()),(8,())) else endI k_rec bs (at1:Int) out (d:Int) key before ⟨k,m,[]⟩ m) else
  bif isD k then (bif decide (1024 < m.toNat) then some (((bs,(at1:Int),out,()),()),(8,())) else bif decide (bs.length - at1 < m.toNat) then some (((bs,(at1:Int),out,()),()),(1,())) else endI k_rec bs ((at1 + m.toNat:Nat):Int) out (d:Int) key before ⟨k,0#64,(bs.drop at1).take m.toNat⟩ m) else
  endI k_rec bs (at1:Int) out (d:Int) key before ⟨k,m,[]⟩ m
theorem mid_ok (k_rec:RK) (bs:List UInt8) (at0:Int) (at1:Nat) (out:List ApiItem) (d:Nat) (key:Bool) (before:List UInt8) (k:Int) (m:BitVec 64) (hat:at1 ≤ bs.length) (hbs:bs.length < 1000000) (ho:out.length ≤ 512) (h1:1 ≤ k) (h2:k ≤ 8)
    (hh:Zai (bs,at0,out,())=some (((bs,(at1:Int),out,()),()),(⟨k,m,[]⟩,0,()))) :
    Zaj_R k_rec (bs,at0,out,()) (d:Int) key before=midI k_rec bs at1 out d key before k m:=by
  unfold Zaj_R midI
  dsimp only
  rw [hh,admR k out.length d key h1 h2]
  simp only [bindS,decide_true,Bool.not_true,cond_false,isKey_ok]
  have q1:decide ((512:Int) ≤ (out.length:Int))=decide (512 ≤ out.length):=by rw [decide_eq_decide]; omega
  have q2:decide ((8:Int) < (d:Int))=decide (8 < d):=by rw [decide_eq_decide]; omega
  have sm:∀ x:ApiItem,small (out.length + ([x]:List ApiItem).length) 32=true:=fun x=>small32 (by simp; omega)
  have eb:decide (before=[])=before.isEmpty:=by cases before <;> rfl
  have bv:∀ v:Nat,v < 1000000 → (BitVec.ofInt 64 (v:Int)).toNat=v:=fun v hv=>by rw [BitVec.ofInt_natCast,BitVec.toNat_ofNat,Nat.mod_eq_of_lt (by omega)]
  rcases kinds k with rfl | rfl | rfl | rfl | rfl | rfl | ⟨g1,g2,g3,g4,g5,g6⟩
  · unfold endI acc
    cases key <;> simp only [show isN (3:Int)=false from rfl,show isD (3:Int)=true from rfl,show isK (3:Int)=false from rfl,show (1024#64).toNat=1024 from rfl,show (512#64).toNat=512 from rfl,Int.reduceEq,decide_true,decide_false,cond_true,cond_false,bindS,q1,q2,Bool.not_true,Bool.not_false,Bool.true_and,Bool.false_and,Bool.and_true,Bool.and_false]
    ·
      generalize decide (512 ≤ out.length)=c1
      cases c1
      · generalize decide (8 < d)=c2
        cases c2
        · by_cases h3:1024 < m.toNat
          · rw [show decide (1024 < m.toNat)=true from decide_eq_true h3]; rfl
          · rw [show decide (1024 < m.toNat)=false from decide_eq_false h3]
            simp only [cond_false,cond_true,bindS]
            rw [wrap_id (n:=(bs.length:Int) - (at1:Int)) (by omega) (by omega),show (bs.length:Int) - (at1:Int)=((bs.length - at1:Nat):Int) by omega,bv _ (by omega)]
            by_cases h4:bs.length - at1 < m.toNat
            · rw [show decide (bs.length - at1 < m.toNat)=true from decide_eq_true h4]; rfl
            · rw [show decide (bs.length - at1 < m.toNat)=false from decide_eq_false h4]
              simp only [cond_false,cond_true,bindS]
              rw [wrap_id (n:=(m.toNat:Int)) (by omega) (by omega),wrap_id (n:=(at1:Int) + (m.toNat:Int)) (by omega) (by omega),show ((at1:Int) + (m.toNat:Int))=((at1 + m.toNat:Nat):Int) from rfl]
              simp only [Int.toNat_natCast]
              rw [show (decide ((0:Int) ≤ ((at1 + m.toNat:Nat):Int)) && decide (((at1 + m.toNat:Nat):Int) ≤ (bs.length:Int)))=true by (rw [Bool.and_eq_true,decide_eq_true_eq,decide_eq_true_eq]; exact ⟨by omega,by omega⟩),show (decide ((0:Int) ≤ (at1:Int)) && decide ((at1:Int) ≤ ((at1 + m.toNat:Nat):Int)))=true by (rw [Bool.and_eq_true,decide_eq_true_eq,decide_eq_true_eq]; exact ⟨by omega,by omega⟩)]
              have hv:List.drop at1 (List.take (at1 + m.toNat) bs)=(bs.drop at1).take m.toNat:=by
                rw [List.drop_take,show at1 + m.toNat - at1=m.toNat by omega]
              have hvl:((bs.drop at1).take m.toNat).length < 1000000:=by rw [List.length_take]; omega
              rw [hv]
              generalize (bs.drop at1).take m.toNat=l at hvl
              simp only [cond_true,bindS,Int.reduceEq,decide_true,decide_false,cond_false,Bool.false_and,Bool.true_and,Bool.and_false]
              rw [sm]
              rfl
        · rfl
      · rfl
    · generalize decide (512 ≤ out.length)=c1
      cases c1 <;> rfl
  · unfold endI acc
    cases key <;> simp only [show isN (4:Int)=false from rfl,show isD (4:Int)=true from rfl,show isK (4:Int)=true from rfl,show (1024#64).toNat=1024 from rfl,show (512#64).toNat=512 from rfl,Int.reduceEq,decide_true,decide_false,cond_true,cond_false,bindS,q1,q2,Bool.not_true,Bool.not_false,Bool.true_and,Bool.false_and,Bool.and_true,Bool.and_false]
    ·
      generalize decide (512 ≤ out.length)=c1
      cases c1
      · generalize decide (8 < d)=c2
        cases c2
        · by_cases h3:1024 < m.toNat
          · rw [show decide (1024 < m.toNat)=true from decide_eq_true h3]; rfl
          · rw [show decide (1024 < m.toNat)=false from decide_eq_false h3]
            simp only [cond_false,cond_true,bindS]
            rw [wrap_id (n:=(bs.length:Int) - (at1:Int)) (by omega) (by omega),show (bs.length:Int) - (at1:Int)=((bs.length - at1:Nat):Int) by omega,bv _ (by omega)]
            by_cases h4:bs.length - at1 < m.toNat
            · rw [show decide (bs.length - at1 < m.toNat)=true from decide_eq_true h4]; rfl
            · rw [show decide (bs.length - at1 < m.toNat)=false from decide_eq_false h4]
              simp only [cond_false,cond_true,bindS]
              rw [wrap_id (n:=(m.toNat:Int)) (by omega) (by omega),wrap_id (n:=(at1:Int) + (m.toNat:Int)) (by omega) (by omega),show ((at1:Int) + (m.toNat:Int))=((at1 + m.toNat:Nat):Int) from rfl]
              simp only [Int.toNat_natCast]
              rw [show (decide ((0:Int) ≤ ((at1 + m.toNat:Nat):Int)) && decide (((at1 + m.toNat:Nat):Int) ≤ (bs.length:Int)))=true by (rw [Bool.and_eq_true,decide_eq_true_eq,decide_eq_true_eq]; exact ⟨by omega,by omega⟩),show (decide ((0:Int) ≤ (at1:Int)) && decide ((at1:Int) ≤ ((at1 + m.toNat:Nat):Int)))=true by (rw [Bool.and_eq_true,decide_eq_true_eq,decide_eq_true_eq]; exact ⟨by omega,by omega⟩)]
              have hv:List.drop at1 (List.take (at1 + m.toNat) bs)=(bs.drop at1).take m.toNat:=by
                rw [List.drop_take,show at1 + m.toNat - at1=m.toNat by omega]
              have hvl:((bs.drop at1).take m.toNat).length < 1000000:=by rw [List.length_take]; omega
              rw [hv]
              generalize (bs.drop at1).take m.toNat=l at hvl
              simp only [cond_true,bindS,Int.reduceEq,decide_true,decide_false,cond_false,Bool.false_and,Bool.true_and,Bool.and_false]
              rw [ValidString_ok hvl]
              simp only [bindS]
              generalize Lib.validD l=va
              cases va
              · rfl
              · simp only [Bool.not_true,cond_false,bindS]
                rw [sm]
                rfl
        · rfl
      · rfl
    ·
      generalize decide (512 ≤ out.length)=c1
      cases c1
      · generalize decide (8 < d)=c2
        cases c2
        · by_cases h3:1024 < m.toNat
          · rw [show decide (1024 < m.toNat)=true from decide_eq_true h3]; rfl
          · rw [show decide (1024 < m.toNat)=false from decide_eq_false h3]
            simp only [cond_false,cond_true,bindS]
            rw [wrap_id (n:=(bs.length:Int) - (at1:Int)) (by omega) (by omega),show (bs.length:Int) - (at1:Int)=((bs.length - at1:Nat):Int) by omega,bv _ (by omega)]
            by_cases h4:bs.length - at1 < m.toNat
            · rw [show decide (bs.length - at1 < m.toNat)=true from decide_eq_true h4]; rfl
            · rw [show decide (bs.length - at1 < m.toNat)=false from decide_eq_false h4]
              simp only [cond_false,cond_true,bindS]
              rw [wrap_id (n:=(m.toNat:Int)) (by omega) (by omega),wrap_id (n:=(at1:Int) + (m.toNat:Int)) (by omega) (by omega),show ((at1:Int) + (m.toNat:Int))=((at1 + m.toNat:Nat):Int) from rfl]
              simp only [Int.toNat_natCast]
              rw [show (decide ((0:Int) ≤ ((at1 + m.toNat:Nat):Int)) && decide (((at1 + m.toNat:Nat):Int) ≤ (bs.length:Int)))=true by (rw [Bool.and_eq_true,decide_eq_true_eq,decide_eq_true_eq]; exact ⟨by omega,by omega⟩),show (decide ((0:Int) ≤ (at1:Int)) && decide ((at1:Int) ≤ ((at1 + m.toNat:Nat):Int)))=true by (rw [Bool.and_eq_true,decide_eq_true_eq,decide_eq_true_eq]; exact ⟨by omega,by omega⟩)]
              have hv:List.drop at1 (List.take (at1 + m.toNat) bs)=(bs.drop at1).take m.toNat:=by
                rw [List.drop_take,show at1 + m.toNat - at1=m.toNat by omega]
              have hvl:((bs.drop at1).take m.toNat).length < 1000000:=by rw [List.length_take]; omega
              rw [hv]
              generalize (bs.drop at1).take m.toNat=l at hvl
              simp only [cond_true,bindS,Int.reduceEq,decide_true,decide_false,cond_false,Bool.false_and,Bool.true_and,Bool.and_false]
              rw [ValidString_ok hvl]
              simp only [bindS]
              generalize Lib.validD l=va
              cases va
              · rfl
              · simp only [Bool.not_true,cond_false,bindS,cond_true,eb]
                rw [Bytes_ok ⟨4,0#64,l⟩ hvl]
                simp only [bindS,less_ok]
                generalize before.isEmpty=be
                generalize lss before (enc ⟨4,0#64,l⟩)=ls
                cases be
                · cases ls
                  · rfl
                  · simp only [Bool.not_true,Bool.not_false,cond_true,cond_false,bindS]
                    rw [sm]
                    rfl
                · simp only [Bool.not_true,Bool.not_false,cond_true,cond_false,bindS]
                  rw [sm]
                  rfl
        · rfl
      · rfl
  · unfold endI acc
    cases key <;> simp only [show isN (5:Int)=true from rfl,show isD (5:Int)=false from rfl,show isK (5:Int)=false from rfl,show (1024#64).toNat=1024 from rfl,show (512#64).toNat=512 from rfl,Int.reduceEq,decide_true,decide_false,cond_true,cond_false,bindS,q1,q2,Bool.not_true,Bool.not_false,Bool.true_and,Bool.false_and,Bool.and_true,Bool.and_false]
    ·
      generalize decide (512 ≤ out.length)=c1
      cases c1
      · generalize decide (8 < d)=c2
        cases c2
        · by_cases h3:512 < m.toNat
          · rw [show decide (512 < m.toNat)=true from decide_eq_true h3]; rfl
          · rw [show decide (512 < m.toNat)=false from decide_eq_false h3]
            simp only [cond_false,cond_true,bindS,Int.reduceEq,decide_true,decide_false]
            rw [sm]
            rfl
        · rfl
      · rfl
    · generalize decide (512 ≤ out.length)=c1
      cases c1 <;> rfl
  · unfold endI acc
    cases key <;> simp only [show isN (6:Int)=true from rfl,show isD (6:Int)=false from rfl,show isK (6:Int)=false from rfl,show (1024#64).toNat=1024 from rfl,show (512#64).toNat=512 from rfl,Int.reduceEq,decide_true,decide_false,cond_true,cond_false,bindS,q1,q2,Bool.not_true,Bool.not_false,Bool.true_and,Bool.false_and,Bool.and_true,Bool.and_false]
    ·
      generalize decide (512 ≤ out.length)=c1
      cases c1
      · generalize decide (8 < d)=c2
        cases c2
        · by_cases h3:512 < m.toNat
          · rw [show decide (512 < m.toNat)=true from decide_eq_true h3]; rfl
          · rw [show decide (512 < m.toNat)=false from decide_eq_false h3]
            simp only [cond_false,cond_true,bindS,Int.reduceEq,decide_true,decide_false]
            rw [sm]
            rfl
        · rfl
      · rfl
    · generalize decide (512 ≤ out.length)=c1
      cases c1 <;> rfl
  · unfold endI acc
    cases key <;> simp only [show isN (7:Int)=false from rfl,show isD (7:Int)=false from rfl,show isK (7:Int)=false from rfl,show (1024#64).toNat=1024 from rfl,show (512#64).toNat=512 from rfl,Int.reduceEq,decide_true,decide_false,cond_true,cond_false,bindS,q1,q2,Bool.not_true,Bool.not_false,Bool.true_and,Bool.false_and,Bool.and_true,Bool.and_false]
    ·
      generalize decide (512 ≤ out.length)=c1
      cases c1
      · generalize decide (8 < d)=c2
        cases c2
        · simp only [cond_false,cond_true,bindS,Int.reduceEq,decide_true,decide_false]
          rw [sm]
          rfl
        · rfl
      · rfl
    · generalize decide (512 ≤ out.length)=c1
      cases c1 <;> rfl
  · unfold endI acc
    cases key <;> simp only [show isN (8:Int)=false from rfl,show isD (8:Int)=false from rfl,show isK (8:Int)=false from rfl,show (1024#64).toNat=1024 from rfl,show (512#64).toNat=512 from rfl,Int.reduceEq,decide_true,decide_false,cond_true,cond_false,bindS,q1,q2,Bool.not_true,Bool.not_false,Bool.true_and,Bool.false_and,Bool.and_true,Bool.and_false]
    ·
      generalize decide (512 ≤ out.length)=c1
      cases c1
      · generalize decide (8 < d)=c2
        cases c2
        · simp only [cond_false,cond_true,bindS,Int.reduceEq,decide_true,decide_false]
          rw [sm]
          rfl
        · rfl
      · rfl
    · generalize decide (512 ≤ out.length)=c1
      cases c1 <;> rfl
  · have eN : isN k = false := by simp [isN, g3, g4]
    have eD:isD k=false:=by simp [isD,g1,g2]
    unfold endI acc
    cases key <;> simp only [eN,eD,g1,g2,g3,g4,show (1024#64).toNat=1024 from rfl,show (512#64).toNat=512 from rfl,Int.reduceEq,decide_true,decide_false,cond_true,cond_false,bindS,q1,q2,Bool.not_true,Bool.not_false,Bool.true_and,Bool.false_and,Bool.and_true,Bool.and_false]
    ·
      generalize decide (512 ≤ out.length)=c1
      cases c1
      · generalize decide (8 < d)=c2
        cases c2
        · simp only [cond_false,cond_true,bindS,g1,g2,g3,g4,decide_true,decide_false]
          rw [sm]
          rfl
        · rfl
      · rfl
    · generalize isK k=ik
      cases ik
      · generalize decide (512 ≤ out.length)=c1
        cases c1 <;> rfl
      · simp only [Bool.not_true,cond_false]
        generalize decide (512 ≤ out.length)=c1
        cases c1
        · generalize decide (8 < d)=c2
          cases c2
          · simp only [cond_false,cond_true,bindS,g1,g2,g3,g4,decide_true,decide_false,eb]
            rw [Bytes_ok ⟨k,m,[]⟩ (by simp)]
            simp only [bindS,less_ok]
            generalize before.isEmpty=be
            generalize lss before (enc ⟨k,m,[]⟩)=ls
            cases be
            · cases ls
              · rfl
              · simp only [Bool.not_true,Bool.not_false,cond_true,cond_false,bindS]
                rw [sm]
                rfl
            · simp only [Bool.not_true,Bool.not_false,cond_true,cond_false,bindS]
              rw [sm]
              rfl
          · rfl
        · rfl
def WR (f:Nat) (n d:Nat) (s:List UInt8) (g:Int × ApiItem × List UInt8):Res (List UInt8):=
  bif decide (g.1=0) then
    let q:=bif decide (g.2.1.kind=5) then LA (fun s n=>W getB f s n (d + 1) false []) g.2.1.number.toNat g.2.2 (n + 1)
      else bif decide (g.2.1.kind=6) then LM (fun s n last=>W getB f s n (d + 1) true last) (fun s n=>W getB f s n (d + 1) false []) g.2.1.number.toNat g.2.2 (n + 1) []
      else (0,[],g.2.2)
    (q.1,g.2.1 :: q.2.1,q.2.2)
  else (g.1,[],s)
theorem W_WR (f n d:Nat) (s:List UInt8) (key:Bool) (b:List UInt8):W getB (f + 1) s n d key b=WR f n d s (getB n d key b s):=rfl
theorem WR_err {f n d:Nat} {s:List UInt8} {g:Int × ApiItem × List UInt8} (h:g.1 ≠ 0):WR f n d s g=(g.1,[],s):=by
  unfold WR
  rw [show decide (g.1=0)=false from decide_eq_false h]
  rfl
theorem ritem_ok (bs:List UInt8) (hbs:bs.length < 1000000):∀ (f d at0:Nat) (out:List ApiItem) (key:Bool) (b:List UInt8),at0 ≤ bs.length → out.length ≤ 512 → d ≤ 9 → 10 ≤ f + d → RI bs out (W getB f (bs.drop at0) out.length d key b) (Zaj_n f (bs,(at0:Int),out,()) (d:Int) key b)
  | 0,d,at0,out,key,b,hat,ho,hd,hf=>by omega
  | f + 1, d, at0, out, key, b, hat, ho, hd, hf => by
    have ih:=fun at0 out key b h1 h2 h3 h4=>ritem_ok bs hbs f (d + 1) at0 out key b h1 h2 h3 h4
    obtain ⟨at1,h1,h2,h3⟩:=rhead_ok out bs at0 hat hbs
    show RI bs out (W getB (f + 1) (bs.drop at0) out.length d key b) (Zaj_R (Zaj_n f) (bs,(at0:Int),out,()) (d:Int) key b)
    rw [W_WR]
    generalize bs.drop at0=s at h2 h3 ⊢
    unfold getB
    have hB:=fun k m t=>hdB_back (s:=s) (k:=k) (n:=m) (t:=t)
    generalize hdB s=q at h2 h3 hB ⊢
    obtain ⟨e,k,m,t⟩:=q
    dsimp only at h2 h3 hB ⊢
    by_cases he:e=0
    · subst he
      have ht:=h3 rfl
      have hbk:=hB k m t rfl
      have hk1:1 ≤ k ∧ k ≤ 8:=by omega
      rw [mid_ok _ bs (at0:Int) at1 out d key b k m h1 hbs ho hk1.1 hk1.2 h2]
      unfold midI
      by_cases ha:adm k out.length d key=0
      · obtain ⟨a1,a2,a3,a4,a5⟩:=adm_zero ha
        simp only [ha,decide_true,Bool.not_true,cond_false]
        have ed:IntKind.wrap .i64 ((d:Int) + 1)=((d + 1:Nat):Int):=by
          rw [wrap_id (n:=(d:Int) + 1) (by omega) (by omega)]; rfl
        have fin:∀ (x:ApiItem) (at2:Nat) (u:List UInt8) (m:BitVec 64),at2 ≤ bs.length → bs.drop at2=u → (isN x.kind=true → m=x.number ∧ m.toNat ≤ 512) → RI bs out (WR f out.length d s (accB key b (0,x,u))) (endI (Zaj_n f) bs (at2:Int) out (d:Int) key b x m):=by
          intro x at2 u m hat2 hu hm
          unfold endI accB
          simp only [decide_true,cond_true]
          by_cases hc:acc x key b=0
          · have:=tailI bs (Zaj_n f) f d (fun at0 out key b h1 h2=>ih at0 out key b h1 h2 (by omega) (by omega)) ed x m at2 out hat2 a1 hm
            rw [hu] at this
            simp only [hc,decide_true,Bool.not_true,cond_false]
            unfold WR
            exact this
          · rw [WR_err (g:=(acc x key b,x,u)) hc,show decide (acc x key b=0)=false from decide_eq_false hc]
            exact RI_err hc
        unfold bodB
        cases hN:isN k
        · simp only [cond_false]
          cases hD:isD k
          · simp only [cond_false]
            exact fin ⟨k,m,[]⟩ at1 t m h1 ht (fun h=>by dsimp only at h; rw [hN] at h; cases h)
          · simp only [cond_true]
            have htl:=congrArg List.length ht
            rw [List.length_drop] at htl
            by_cases q1:1024 < m.toNat
            · simp only [decide_eq_true q1,cond_true]
              exact RI_err (e:=8) (by decide)
            · simp only [decide_eq_false q1,cond_false]
              by_cases q2:t.length < m.toNat
              · rw [show decide (bs.length - at1 < m.toNat)=true from decide_eq_true (by omega),show decide (t.length < m.toNat)=true from decide_eq_true q2]
                exact RI_err (e:=1) (by decide)
              · rw [show decide (bs.length - at1 < m.toNat)=false from decide_eq_false (by omega),show decide (t.length < m.toNat)=false from decide_eq_false q2,ht]
                exact fin ⟨k,0#64,t.take m.toNat⟩ (at1 + m.toNat) (t.drop m.toNat) m (by omega) (by rw [← ht,List.drop_drop]) (fun h=>by dsimp only at h; rw [hN] at h; cases h)
        · simp only [cond_true]
          by_cases q1:512 < m.toNat
          · simp only [decide_eq_true q1,cond_true]
            exact RI_err (e:=8) (by decide)
          · simp only [decide_eq_false q1,cond_false]
            exact fin ⟨k,m,[]⟩ at1 t m h1 ht (fun _=>⟨rfl,by omega⟩)
      · simp only [decide_eq_false ha,Bool.not_false,cond_true,decide_true,Bool.not_true,cond_false]
        rw [WR_err (by exact ha)]
        exact RI_err ha
    · have e1:Zaj_R (Zaj_n f) (bs,(at0:Int),out,()) (d:Int) key b=some (((bs,(at1:Int),out,()),()),(e,())):=by
        unfold Zaj_R
        dsimp only
        rw [h2]
        simp only [bindS]
        rw [show decide (e=0)=false from decide_eq_false he]
        rfl
      rw [e1,show decide (e=0)=false from decide_eq_false he]
      simp only [Bool.not_false,cond_true]
      rw [WR_err (by exact he)]
      exact RI_err he
theorem rDecode_ok (bs:List UInt8) (hbs:bs.length < 1000000):Zbh bs=some ((),(decO bs).1,(decO bs).2.1,(decO bs).2.2,()):=by
  have h:RI bs [] (W getB 12 bs 0 0 false []) (Zaj (bs,0,[],()) 0 false []):=ritem_ok bs hbs 12 0 0 [] false [] (by omega) (by simp) (by omega) (by omega)
  obtain ⟨m1,m2⟩:=W_mach getB_ok 12 (by omega) bs
  unfold Zbh decO
  obtain ⟨j1,j2⟩:=h
  by_cases hw:(W getB 12 bs 0 0 false []).1=0
  · obtain ⟨at1,a1,a2,a3,a4⟩:=j1 hw
    rw [m2 hw]
    rw [a2]
    simp only [bindS,decide_true,Bool.not_true,cond_false,cond_true,hw,List.nil_append]
    have hl:=congrArg List.length a3
    rw [List.length_drop] at hl
    rw [show (bs.length - (W getB 12 bs 0 0 false []).2.2.length:Nat)=at1 by omega]
  · obtain ⟨st,a1⟩:=j2 hw
    rw [a1]
    simp only [bindS]
    rw [show decide ((W getB 12 bs 0 0 false []).1=0)=false from decide_eq_false hw,m1 hw,show decide ((W getB 12 bs 0 0 false []).1=0)=false from decide_eq_false hw]
    rfl
end Go.Proofs.YtghfcfjnfgmkgaaGreatDoor
