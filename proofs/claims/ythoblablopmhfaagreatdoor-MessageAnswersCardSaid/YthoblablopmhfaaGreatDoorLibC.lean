/- The library of abstract values, part 6: see the remarks ahead of each part. No condition. -/
import Derived.Test.YthoblablopmhfaaGreatDoorLibB
import Derived.ChangeArms
import Derived.OpenShut
import Derived.ChangeSlices
import Derived.Carry
import Derived.ProofKit
import Derived.Handed
import Derived.Below
import Derived.Laws.AppendOwn
set_option linter.unusedVariables false
set_option linter.unusedSimpArgs false
namespace Go.Abs
open Go
open _root_.Option.some renaming injEq → Qa
open _root_.Bool renaming and_eq_true → Qb, not_eq_true' → Qq, false_eq_true → Qs, eq_iff_iff → Qbg, false_or → Qbl, true_or → Qbo
open _root_.Nat renaming eq_of_beq_eq_true → Qc, lt_of_lt_of_le → Ql, zero_add → Qn, not_lt_zero → Qr, le_refl → Qv, lt_or_ge → Q4, le_trans → Qab, le_of_ble_eq_true → Qal, mul_le_mul_right → Qap, blt → Qa1, add_zero → Qa2
open _root_.Option renaming bind_eq_some_iff → Qd, bind_assoc → Qf, bind_some → Qk, map_some → Q0, getD_some → Qae, map_eq_some_iff → Qaf
open _root_.Array renaming getD_eq_getD_getElem? → Qe, getElem?_setIfInBounds → Qg, getElem?_eq_none → Q2, all_eq_true' → Qac, replicate → Qai, mem_toList_iff → Qam, ext' → Qar, getElem?_eq_getElem → Qas, getElem?_append → Qaz
open _root_.List renaming replicate → Qh, getD_eq_getElem?_getD → Qi, map_cons → Qo, getElem?_eq_getElem → Qp, range → Qw, map_congr_left → Qx, getElem?_cons_zero → Qy, mem_map → Qz, mem_append → Q1, mem_range → Q3, all_eq_true → Q5, all_cons → Q6, length_map → Q8, append_assoc → Qad, length_cons → Qag, cons_append → Qah, append_nil → Qaj, getElem?_eq_none → Qak, range' → Qan, mem_of_getElem? → Qao, eq_nil_of_length_eq_zero → Qaq, eq_of_mem_replicate → Qau, getElem?_cons_succ → Qav, getD → Qaw, reverse_singleton → Qax, map_map → Qay, take_append_drop → Qa3, singleton_append → Qa4, range_eq_range' → Qa5, filter_eq_self → Qa6, zip_cons_cons → Qa7, length_append → Qa8, getElem?_map → Qa9, range'_succ → Qba, getElem_mem → Qbb, nil_append → Qbc, mem_filter → Qbd, length_nil → Qbe, headD_cons → Qbf, mapM_cons → Qbh, mem_cons → Qbk, map_nil → Qbn
open Go.Result renaming andThen_ok → Qj
open _root_.Prod.mk renaming injEq → Qm
open Go.Sem renaming run_pure → Qt, run_bind → Qu
open Go.IntKind renaming bits → Q7, signed → Q9, wrap → Qat, max → Qbi
open _root_.BitVec renaming toNat_ofInt → Qaa, ofInt → Qbj
open _root_.Sum renaming elim_inr → Qa0
open _root_.UInt8 renaming ofNat → Qbm
section
variable {T:Nat→Type} {C:Cd T} {O I:Nat→Prop} {w:World} {loc:Nat→Nat→Loc} {L:Nat→Nat→Nat} {m:MT T} {P:Program} {Y:Nat→Option TI} {R:Type} {G:Nat→Option (List D)}
theorem Vnp (hY:TysOk P Y) {t:Nat} {i:TI} (hi:Y t=some i):∃ z,tzero P t=some z∧z.fit=true∧z.cells=i.zero.map Zc.toD:=by
 have ht:=hY t i hi
 refine ⟨_,ht.zero,?_⟩
 cases hk:i.kind.agg with
 | true=>simp only [if_true]; exact ⟨rfl,rfl⟩
 | false=>
  have h1:=ht.zlen
  rw [ht.one hk] at h1
  match hzz:i.zero,h1 with
  | [q],_=>
   simp only [Qs,if_false,Qo,Qbn,Qbf]
   cases q<;>exact ⟨rfl,rfl⟩
theorem Vmk {cs:List (DT T)} {r:Result Next} (hm:MRel O I loc (denM C m) w) (hw:WfM L m) (hc:WfL L cs) (h:Res O I loc w r (.bp (denM C m).nb 0) ((denM C m).add (.var (denL C cs)))):ResT C O I loc L w r (.bp m.length 0) (m++[.var cs]):=
 ResT.of_res L (.refl _ _) trivial (Vni hw hc) (by rw [Vdr]; exact h)
theorem Vnq {t:TypeId} {x:Operand} {d:DT T} (ρ:Operand→Value) (hm:MRel O I loc (denM C m) w) (hw:WfM L m) (hv:V I w (den C d) loc (ρ x)) (hf:d.fit=true) (hs:solidL d.cells=true) (dst:Option Tmp) (ty:TypeId) (pos:String) (af:Array Edge) (gd:Option (Nat×Bool)) :
  ResT C O I loc L w ((execOp ρ ⟨dst,.box t x,ty,pos,af,gd⟩).run P w) (.rp d.cells) m:=by
 have e0:(execOp ρ ⟨dst,.box t x,ty,pos,af,gd⟩).run P w = .ok (.value (.pointer (some ⟨w.heap.size,0,none⟩))) (w.alloc (.cells (ρ x).cells t)):=by
  simp [execOp,Instr.box,newVar,newRow]
 rw [e0]
 have hfr:Fr (O:=fun _=>False) w (w.alloc (.cells (ρ x).cells t)):=Vb3 _ _
 have hsz:(w.alloc (.cells (ρ x).cells t)).heap.size=w.heap.size+1:=Array.size_push _
 have he:Ext I (fun k=>I k∨k=w.heap.size) w (w.alloc (.cells (ρ x).cells t)):=by
  have h:=Va9 hm.imm (.cells (ρ x).cells t)
  exact ⟨fun _ h=>.inl h,h.same,h.rows⟩
 have hm2:MRel O (fun k=>I k∨k=w.heap.size) loc (denM C m) (w.alloc (.cells (ρ x).cells t)):=by
  refine ⟨fun b hb=>Va5 he (.refl _) (fun _=>rfl) (fun ho g k hk=>hfr.block k (hm.own b g k hb ho hk).2.2 (fun h=>h)) (hm.box b hb),hm.free,fun b g k hb ho hk=>?_,hm.inj,fun k hk=>?_,fun k hk=>hm.up k (by omega)⟩
  ·have:=hm.own b g k hb ho hk
   exact ⟨this.1,fun h=>h.elim this.2.1 (fun h=>by omega),by omega⟩
  ·rcases hk with h | h
   ·have:=hm.imm k h; omega
   ·omega
 refine ⟨_,_,_,loc,L,.inl rfl,hm2,hw,?_,trivial,he,fun k hk=>?_,.refl _,.refl _ _,Vb3 _ _⟩
 ·simp only [den,V]
  refine ⟨w.heap.size,0,rfl,.inr rfl,?_⟩
  obtain ⟨h1,h2⟩:=Vbm hv (Vby C d hf)
  rw [Vbe] at h1
  have h3:VL I w (denL C d.cells) free (ρ x).cells.toList:=Ve9 (Vbx C _ (Vcm hs)) h1
  refine Vdm (Vah he _ _ _ _ (.refl _) h3) h2 fun j y hj=>?_
  simp only [World.cell?,Vay,Qn]
  simpa using hj
 ·rcases hk with h | h
  ·exact .inl h
  ·exact .inr (hm.up k (by omega))
theorem Vo4 (hC:CdOk C) {c:Nat} {l:List (T c)} {v:Value} {t:TypeId} (hm:MRel O I loc (denM C m) w) (hw:WfM L m) (hv:VL I w (l.map (C.encD c)).flatten free v.cells.toList) (h1:∀ x∈v.cells.toList,x.oneCell'=true) :
  ResT C O I loc L w (.ok (.value (.pointer (some ⟨w.heap.size,0,none⟩))) (w.alloc (.cells v.cells t))) (.ap m.length 0 c 0 0) (m++[.arr 0 c l]):=by
 have hs:∀ row∈l.map (C.encD c),row.length=C.sz c:=by
  intro row hr
  obtain ⟨x,_,rfl⟩:=List.mem_map.1 hr
  exact hC.len c x
 have hvl:=Vaf hv
 rw [Vai _ hs,Q8] at hvl
 have he:=Va9 hm.imm (.cells v.cells t)
 have hnb:(denM C m).nb=m.length:=rfl
 refine ⟨_,_,I,locNew loc (denM C m).nb (.blk w.heap.size),updL L m.length 0 l.length,.inl rfl,?_,Vft hm hw (by simp [WfB,updL]),?_,trivial,he,fun _ h=>.inl h,Var hm _,LExt.upd (hm.free _ _ (Qv _)),Vb3 _ _⟩
 ·rw [Vdr]
  refine hm.alloc _ _ ?_
  simp only [denB,RelB]
  refine ⟨⟨fun g hg=>by omega,fun g hg=>by simp [locNew]; omega⟩,.inr ⟨w.heap.size,_,t,(0,0),by simp [locNew],Vay _ _,fun o _=>by simp,?_,?_⟩⟩
  ·rw [Q8]
   simp at hvl
   omega
  ·refine Vbb hs (Vah he _ free free _ (.refl _) hv) h1 fun j x hj=>?_
   simp only [World.cell?,Vay,Qn]
   simpa using hj
 ·simp only [den,V,locNew,hnb,if_true]
  simp
theorem Vwp {n:Int} (h0:0 < n) (hn:n≤9223372036854775807):IntKind.i64.wrap n=n:=by
 simp only [Qat,Q7,Q9]
 simp
 omega
theorem Vgy {t t' el ty:TypeId} {k k':IntKind} {sz by':Nat} {z:List D} {n:Int}
    (ht:telem P t=some el) (ht':P.underlying t'=some (.int k')) (hsz:tsz P el=some sz) (hby:tbytes P el=some by') (hz:zrow P el sz=some z)
    (h0:0 < n) (hn:n ≤ 9223372036854775807) (hsm:small n.toNat by'=true) :
    ∃ newCap rest vs,n.toNat ≤ newCap ∧ newCap * sz=(vs ++ rest).length ∧ VL I w (Qh n.toNat z).flatten free vs ∧ (∀ x ∈ vs,x.oneCell'=true) ∧
      (Builtin.append_ #[t,t'] ty #[.slice none 0 0,.int k n]).run P w = .ok (.slice (some ⟨w.heap.size,0,none⟩) n.toNat newCap) ((dr w).alloc (.cells (vs ++ rest).toArray el)):=by
  obtain ⟨v,hv,rfl,hzl,hzp,hzf,hvz⟩:=Vfo hz w
  unfold small at hsm
  simp only [decide_eq_true_eq] at hsm
  obtain ⟨hs1,hs2⟩:=hsm
  unfold tbytes at hby
  rw [Qaf] at hby
  obtain ⟨info,hinfo,rfl⟩:=hby
  have hti:∀ w,(typeInfo el).run P w = .ok info w:=fun w=>by simp [typeInfo,hinfo]
  let need:=n.toNat
  let q:Question:=.appendCap (0 + need) 0 el
  let newCap:=q.cut (w.tape w.drawn q)
  have hcap:need ≤ newCap:=by
    have:0 + need ≤ newCap:=by simp only [newCap,q,Question.cut]; exact Nat.le_add_right _ _
    omega
  let vs:=(Qh need v.cells.toList).flatten
  let rest:=((Qh (newCap - need) v.cells.toList).flatten)
  have hlen:∀ n,((Qh n v.cells.toList).flatten).length=n * sz:=by
    intro n
    rw [List.length_flatten]; simp [List.map_replicate,List.sum_replicate_nat,hvz]
  obtain ⟨hc1,hc2⟩:=Vbm (I:=I) (w:=w) (loc:=free) (ofV_V v) hzf
  have hflat:∀ n,VL I w (Qh n (ofV v).cells).flatten free (Qh n v.cells.toList).flatten:=by
    intro n
    induction n with
    | zero=>simp [VL]
    | succ n ih=>simp only [List.replicate_succ,List.flatten_cons]; exact Va0 hc1 ih
  have hone:∀ n,∀ x ∈ (Qh n v.cells.toList).flatten,x.oneCell'=true:=by
    intro n x hx
    rw [List.mem_flatten] at hx
    obtain ⟨l,hl,hx⟩:=hx
    rw [Qau hl] at hx
    exact hc2 x hx
  refine ⟨newCap,rest,vs,hcap,?_,hflat _,hone _,?_⟩
  · rw [Qa8,hlen,hlen,← Nat.add_mul]
    congr 1; omega
  · have hnx:Builtin.nextslicecap (0 + need) 0 * info.bytes ≤ 281474976710656:=by
      have h1:=Vje (need:=0 + need) (cap:=0) (by omega)
      have h2:Builtin.nextslicecap (0 + need) 0 * info.bytes ≤ (2 * (0 + need) + 192) * info.bytes:=Qap _ h1
      have h3:(2 * need + 192) * info.bytes ≤ 281474976710656:=hs2
      have e:(2 * (0 + need) + 192)=(2 * need + 192):=by omega
      rw [e] at h2
      omega
    have hnb:need * info.bytes ≤ 281474976710656:=by
      have h2:need * info.bytes ≤ (2 * need + 192) * info.bytes:=Qap _ (by omega)
      have h3:(2 * need + 192) * info.bytes ≤ 281474976710656:=hs2
      omega
    have hbig:¬ (((0 + need:Nat)):Int) > IntKind.i64.max:=by
      have:need ≤ 70368744177664:=hs1
      simp only [Qbi,Q9,Q7,if_true]
      omega
    have hwrap:IntKind.i64.wrap n=n:=Vwp h0 hn
    have hneg:¬ n < 0:=by omega
    have hlb:¬ n * (info.bytes:Int) > 2 ^ 48:=by
      have e:n=(need:Int):=by omega
      rw [e]
      have:((need * info.bytes:Nat):Int) ≤ ((281474976710656:Nat):Int):=Int.ofNat_le.2 hnb
      rw [Int.natCast_mul] at this
      have h48:(2:Int) ^ 48=281474976710656:=by decide
      rw [h48]
      exact Int.not_lt.2 this
    have hno:¬ 0 + need ≤ 0:=by omega
    have hold:=(Vea (P:=P) (I:=I) (w:=w) (s:=sz) (a:=none) (cap:=0)).first (dr w) rfl
    have hvw:(zeroValue el).run P (dr w) = .ok v (dr w):=by
      have h1:(zeroValue el).run P w = .ok v w:=hv
      simp only [zeroValue,Qu,hti,Qj] at h1 ⊢
      split at h1
      · simp only [Qt,Result.ok.injEq,and_true] at h1
        subst h1; rfl
      · simp at h1
    have hzc:Builtin.zeroCells v.cells (newCap - (0 + need))=rest.toArray:=by
      have:=Vd9 v.cells.toList (newCap - (0 + need))
      simpa [rest] using this
    have hzv:Builtin.zeroCells v.cells need=vs.toArray:=by
      have:=Vd9 v.cells.toList need
      simpa [vs] using this
    have hm2:¬ (Builtin.nextslicecap (0 + need) 0 * info.bytes > 2 ^ 48):=by
      have h48:(2:Nat) ^ 48=281474976710656:=by decide
      rw [h48]; omega
    have hch:(choose q).run P w = .ok newCap (dr w):=by
      rw [run_choose]; rfl
    have happ:(if need * sz=0 then (pure #[]:Sem (Array Value)) else do pure (Builtin.zeroCells (← zeroValue el).cells need)).run P (dr w) = .ok vs.toArray (dr w):=by
      by_cases h:need * sz=0
      · rw [if_pos h]
        have:vs=[]:=List.length_eq_zero_iff.1 (by rw [← h]; exact hlen need)
        rw [this]; rfl
      · rw [if_neg h]
        simp only [Qu,hvw,Qj,Qt,hzv]
    unfold Builtin.append_
    have hai:∀ w,(Go.asInt (.int k n)).run P w = .ok n w:=fun _=>rfl
    simp only [Qu,List.getElem?_toArray,Qy,Qav,run_underlying (Val ht),Qj,run_sizeOf' hsz,run_underlying ht',Qt,if_true,hai,hwrap,hti,Bool.not_true,Qs,if_false,Sem.run_ite,run_askRoom]
    rw [if_neg hneg,if_neg hlb]
    change (if 0 + need ≤ 0 then _ else _)=_
    rw [if_neg hno]
    rw [if_neg (fun h=>hbig h.1),if_neg hm2]
    change ((choose q).run P w).andThen _=_
    rw [hch]
    simp only [Sem.run_ite,Qu,Qt] at happ
    simp only [Qj,hold]
    change ((if need * sz=0 then _ else _:Result (Array Value))).andThen _=_
    rw [happ]
    simp only [Qj,hvw]
    change ((newRow el (([]:List Value).toArray ++ vs.toArray ++ Builtin.zeroCells v.cells (newCap - (0 + need)))).run P (dr w)).andThen _=_
    rw [hzc]
    simp only [newRow,Qu,run_newObj,Qj,Qt,World.alloc_eq,List.append_toArray,Qbc,Qn]
    rfl
theorem wK_ok (hC:CdOk C) (hY:TysOk P Y) (hm:MRel O I loc (denM C m) w) (hw:WfM L m) {e:Operand→DT T} {ρ:Operand→Value} (he:∀ x,V I w (den C (e x)) loc (ρ x)) (hwe:∀ x,WfD L (e x)) {o:Oper} {K:DT T→MT T→Option R} {r:R}
  (h:wK Y C o.op e m K=some r):∃ d m',ResT C O I loc L w ((execOp ρ o).run P w) d m'∧K d m'=some r:=by
 obtain ⟨dst,op,type,pos,after,guard⟩:=o
 simp only at h
 have h0:=h
 unfold wK at h
 split at h
 ·-- alloc
  rename_i t
  split at h
  case h_2=>cases h
  rename_i i hi
  obtain ⟨z,z1,z2,z3⟩:=Vnp hY hi
  split at h
  ·rename_i c hla
   split at h
   case h_2=>cases h
   rename_i n hn
   split at h
   case h_2=>cases h
   rename_i l hl
   obtain ⟨q1,q2,q3⟩:=Veg hC n _ l hl
   obtain ⟨v,hv,hzv⟩:=run_zero' z1 w
   obtain ⟨c1,c2⟩:=Vbm (I:=I) (w:=w) (loc:=free) (ofV_V v) (by rw [← hzv]; exact z2)
   rw [← hzv,z3,← Veb (C:=C)] at c1
   refine ⟨_,_,?_,h⟩
   have:=Vo4 (t:=t) hC hm hw (q3 I w _ c1) c2
   have e0:(execOp ρ ⟨dst,.alloc t,type,pos,after,guard⟩).run P w = .ok (.value (.pointer (some ⟨w.heap.size,0,none⟩))) (w.alloc (.cells v.cells t)):=by
    simp [execOp,Instr.alloc,hv,newVar,newRow]
   rw [e0]
   exact this
  refine ⟨_,_,Vmk hm hw (Vki _) ?_,h⟩
  rw [Veb,← z3]
  exact Vs2 hm z1 z2 ρ _ _ _ _ _
 ·-- box
  rename_i t x
  split at h
  case h_2=>cases h
  rename_i hf
  split at h
  ·split at h
   case h_2=>cases h
   rename_i hs
   exact ⟨_,_,Vnq ρ hm hw (he x) hf hs _ _ _ _ _,h⟩
  ·split at h
   ·rename_i c hla
    split at h
    case h_2=>cases h
    rename_i n hn
    have hcs:=Vcv hf (he x)
    obtain ⟨cs',m1,I1,g1,g2,g3,g4,g5,g6,g7,g8,h⟩:=Vjm hC hm hw (Vbp (hwe x)) hcs h
    have g4:=Vme hm g4
    split at h
    case h_2=>cases h
    rename_i l hl
    obtain ⟨q1,q2,q3⟩:=Veg hC n _ l hl
    have:=Vo4 (t:=t) (v:=ρ x) hC g1 g2 (q3 I1 w _ g5) (Vbm (he x) (Vby C _ hf)).2
    have e0:(execOp ρ ⟨dst,.box t x,type,pos,after,guard⟩).run P w = .ok (.value (.pointer (some ⟨w.heap.size,0,none⟩))) (w.alloc (.cells (ρ x).cells t)):=by
     simp [execOp,Instr.box,newVar,newRow]
    rw [e0]
    exact ⟨_,_,this.pre g3 g4,h⟩
   refine ⟨_,_,Vmk hm hw (Vbp (hwe x)) ?_,h⟩
   rw [← Vbe]
   exact Vzi hm ρ (he x) (Vby C _ hf) _ _ _ _ _
 ·-- store
  rename_i t x y
  obtain ⟨m',w',I',h1,h2,h3,h4,h5,h6,h7⟩:=Vwm (P:=P) hC hY hm hw (hwe x) (hwe y) (he x) (he y) e x y rfl rfl h0
  exact ⟨.dead,m',⟨undef,w',I',loc,L,.inr ⟨by simp [execOp,h1],rfl⟩,h2,h3,trivial,trivial,h4,h5,.refl _,.refl _ _,h6⟩,h7⟩
 ·-- a literal of a slice
  split at h
  case h_2=>cases h
  rename_i el hel
  split at h
  case h_2=>cases h
  rename_i j hj
  split at h
  case h_2=>cases h
  rename_i z hz
  split at h
  case h_2=>cases h
  rename_i hn
  obtain ⟨rows,m',h1,h2⟩:=Vk0 (P:=P) hC hY hm hw he hwe hel hj hz (by simpa using hn) h
  exact ⟨_,_,h1,h2⟩
 ·-- a new map
  rename_i t
  split at h
  case h_2=>cases h
  rename_i i hi
  split at h
  case h_2=>cases h
  rename_i kt et hk
  split at h
  case h_2=>cases h
  rename_i j hj
  refine ⟨.mp m.length,m++[.mset j.kind.agg j.code []],ResT.of_res L (.refl _ _) trivial (Vni (x:=.mset j.kind.agg j.code []) hw trivial) ?_,h⟩
  have:(execOp ρ ⟨dst,.makeMap t none,type,pos,after,guard⟩).run P w = .ok (.value (.map (some w.heap.size))) (w.alloc (.map #[] 0)):=by
   simp [execOp,Instr.makeMap]
  rw [this,Vdr]
  refine ⟨_,_,locNew loc (denM C m).nb (.blk w.heap.size),.inl rfl,hm.alloc _ _ ?_,?_,Va9 hm.imm _,Var hm _,Vb3 _ _⟩
  ·simp only [denB,RelB]
   exact ⟨fun g hg=>by simp [locNew,hg],w.heap.size,#[],0,by simp [locNew],Vay _ _,rfl⟩
  ·simp [den,V,locNew,denM]
 ·-- into a map
  rename_i t x ix y
  split at h
  case h_2=>cases h
  rename_i b hx
  split at h
  case h_2=>cases h
  rename_i a c l hb
  split at h
  case h_2=>cases h
  rename_i f hf
  split at h
  case h_2=>cases h
  rename_i z hz
  split at h
  case h_2=>cases h
  rename_i hy
  obtain ⟨kt,et,q,ht,_,hk,hq⟩:=Vo1 (P:=P) hC hY hf
  have hv:=he x
  rw [hx] at hv
  simp only [den,V] at hv
  have hlt:b < m.length:=Va6 (C:=C) (g:=0) hm (by intro e; simp [e] at hv)
  have hr:=Vb9 hm hlt
  rw [hb] at hr
  simp only [denB,RelB] at hr
  obtain ⟨h0',k,es,ck,hl,h2,h3⟩:=hr
  simp only [hl] at hv
  have hkey:=Vmh hC hz (hq z z) (he ix)
  have hval:=he y
  rw [hy] at hval
  simp only [den,V] at hval
  obtain ⟨es',ck',hrun,hent⟩:=Vp9 (P:=P) ht hk hq z h2 h3
  have hbx:(denM C m).bx b = .mset (l.map fun x=>keyV a (C.encD c x)):=by simp [denM,hb,denB]
  have ho:((denM C m).bx b).owned=true:=by rw [hbx]; rfl
  have hown:=hm.own b 0 k hlt ho hl
  have hoth:∀ q,q≠k→(w.heap.setIfInBounds k (.map es' ck'))[q]? = w.heap[q]?:=fun q hq=>by
   simp only [Qg]
   rw [if_neg (Ne.symm hq)]
  have hsame:(w.heap.setIfInBounds k (.map es' ck'))[k]? = some (.map es' ck'):=by
   simp only [Qg]
   rw [if_pos trivial,if_pos hown.2.2]
  have hext:Ext I I w { w with heap:=w.heap.setIfInBounds k (.map es' ck') }:=⟨fun _ h=>h,fun q hq=>hoth q (fun e=>hown.2.1 (e ▸ hq)),fun q=>by
   by_cases e:q=k
   ·subst e; simp [rowSize,h2]
   ·simp [rowSize,hoth q e]⟩
  refine ⟨.dead,m.put b (.mset a c (bif l.any (f z) then l else l++[z])),ResT.of_res L (.refl _ _) trivial (Vds hlt hw trivial) ?_,h⟩
  have hexec:(execOp ρ ⟨dst,.mapUpdate t x ix y,type,pos,after,guard⟩).run P w = .ok .skip { w with heap:=w.heap.setIfInBounds k (.map es' ck') }:=by
   simp [execOp,hv,hkey,hval,hrun]
  rw [hexec,Vcj hlt]
  refine ⟨undef,_,loc,.inr ⟨rfl,rfl⟩,hm.change hlt ho (fun _ _ _=>rfl) hext (.refl _) ?_ ?_ (fun q _ hq=>hoth q (fun e=>hq 0 (e ▸ hl))) (by simp),trivial,hext,.refl _,⟨rfl,rfl,rfl,by simp,fun q _ hq=>hoth q (fun e=>hq (e ▸ hown.1))⟩⟩
  ·simp only [denB,RelB]
   exact ⟨h0',k,es',ck',hl,hsame,hent⟩
  ·intro g' k' hk'
   have:=hm.own b g' k' hlt ho hk'
   exact ⟨this.1,this.2.1,by simpa using this.2.2,fun b' hb' h1 h2 g2 hg2=>hb' (hm.inj b' b g2 g' k' h1 hlt h2 ho hg2 hk')⟩
 ·-- range
  rename_i t x
  split at h
  case h_2=>cases h
  rename_i l hl
  split at h
  case h_2=>cases h
  rename_i hs
  refine ⟨.bp m.length 0,m++[.iter l 0],ResT.of_res L (.refl _ _) trivial (Vni (x:=.iter l 0) hw trivial) ?_,h⟩
  have hx:=he x
  rw [hl] at hx; simp only [den,V] at hx
  have:(execOp ρ ⟨dst,.range t x,type,pos,after,guard⟩).run P w = .ok (.value (.pointer (some ⟨w.heap.size,0,none⟩))) (w.alloc (.stringIter ⟨l.toArray⟩ 0)):=by
   simp [execOp,Instr.range,run_underlying (Vcd (Vdp hY hs)),hx]
  rw [this,Vdr]
  refine ⟨_,_,locNew loc (denM C m).nb (.blk w.heap.size),.inl rfl,hm.alloc _ _ ?_,V_new _ _,Va9 hm.imm _,Var hm _,Vb3 _ _⟩
  simp only [denB,RelB]
  exact ⟨fun g hg=>by simp [locNew,hg],w.heap.size,by simp [locNew],Vay _ _⟩
 ·-- next
  rename_i x
  split at h
  case h_2=>cases h
  rename_i b hx
  split at h
  case h_2=>cases h
  rename_i l ps hb
  have hv:=he x
  rw [hx] at hv; simp only [den,V] at hv
  have hlt:b < m.length:=Va6 (C:=C) (g:=0) hm (by intro e; simp [e] at hv)
  have hbx:(denM C m).bx b = .iter l ps:=by simp [denM,hb,denB]
  have hsem:∀ {d:D} {M':Mem},semW P ⟨fun _=>none,fun _=>none⟩ (.next x true) (fun x=>den C (e x)) (denM C m)=some (d,M')→Res O I loc w ((execOp ρ ⟨dst,.next x true,type,pos,after,guard⟩).run P w) d M':=by
   intro d M' hq
   exact next_res hm he hx hb hlt hq
  by_cases hps:ps < l.length
  ·rw [decide_eq_true hps,cond_true] at h
   refine ⟨.tup [.bool true,.int .i64 ps,.int .i32 (Utf8.decode ⟨l.toArray⟩ ps).1],m.put b (.iter l (ps+(Utf8.decode ⟨l.toArray⟩ ps).2)),ResT.of_res L (.refl _ _) (by simp [WfD,WfL]) (Vds hlt hw trivial) (hsem ?_),h⟩
   rw [Vcj hlt]
   simp only [semW,hx,den,denL,hbx,if_pos hps,denB]
  ·rw [decide_eq_false hps,cond_false] at h
   refine ⟨.tup [.bool false],m,ResT.of_res L (.refl _ _) (by simp [WfD,WfL]) hw (hsem ?_),h⟩
   simp only [semW,hx,den,denL,hbx,if_neg hps]
 ·-- the bytes of a string
  rename_i src dst' x
  split at h
  case h_2=>cases h
  rename_i hs
  split at h
  case h_2=>cases h
  rename_i el hel
  split at h
  case h_2=>cases h
  rename_i hu
  split at h
  case h_2=>cases h
  rename_i l hl
  have hx:=he x
  rw [hl] at hx; simp only [den,V] at hx
  refine ⟨_,_,?_,h⟩
  have:=Vwn (P:=P) (L:=L) hC hY hm hw hs hel hu l
  simpa only [execOp,hx] using this
 ·-- make
  rename_i t ln cp
  split at h
  case h_2=>cases h
  rename_i el hel
  split at h
  case h_2=>cases h
  rename_i j hj
  split at h
  case h_2=>cases h
  rename_i z hz
  split at h
  case h_2=>cases h
  rename_i kl n hln
  split at h
  case h_2=>cases h
  rename_i kc k hcp
  cases hq:(decide (0≤n)&&(decide (n≤k)&&decide ((j.bts:Int) * k≤281474976710656∧k≤9223372036854775807)))<;>simp only [hq,cond_true,cond_false] at h
  ·cases h
  simp only [Qb,decide_eq_true_eq] at hq
  have h1:=he ln
  have h2:=he cp
  rw [hln] at h1; rw [hcp] at h2
  simp only [den,V] at h1 h2
  refine ⟨_,_,?_,h⟩
  have:=Vz2 (P:=P) (L:=L) hC hY hm hw hel hj hz kl kc n k hq.1 hq.2.1 hq.2.2.1 hq.2.2.2
  simpa only [execOp,h1,h2] using this
 ·-- copy
  rename_i args argTypes
  split at h
  case h_2=>cases h
  rename_i s x t t' hargs htys
  have ha:args = #[s,x]:=by apply Qar; simpa using hargs
  have hb:argTypes = #[t,t']:=by apply Qar; simpa using htys
  subst ha; subst hb
  have hexec:(execOp ρ ⟨dst,.call ⟨.builtin .copy,#[s,x],#[t,t']⟩,type,pos,after,guard⟩).run P w=(do pure (.value (← Builtin.copy_ #[t,t'] type #[ρ s,ρ x])):Sem Next).run P w:=by
   simp [execOp,resolve,invoke,builtin]
  split at h
  case h_2=>cases h
  rename_i b g c n hs
  split at h
  case h_2=>cases h
  rename_i hc
  split at h
  case h_2=>cases h
  rename_i e' he'
  rw [hexec]
  rw [Vbr,Qd] at h
  obtain ⟨rows,h1,h2⟩:=h
  have hel:∃ el,elemT Y t=some el:=by
   unfold elemC at hc
   split at hc
   ·rename_i el hq; exact ⟨el,hq⟩
   ·cases hc
  obtain ⟨el,hel⟩:=hel
  have hws:=hwe s
  have hvs:=he s
  rw [hs] at hws hvs
  exact Vwo (P:=P) (ty:=type) hC hY hm hw hel hc hws hvs (Vs5 hm (he x) (Vkx hw (hwe x) h1)) h2
 ·-- append
  rename_i args argTypes
  split at h
  case h_2=>cases h
  rename_i s x t t' hargs htys
  have ha:args = #[s,x]:=by apply Qar; simpa using hargs
  have hb:argTypes = #[t,t']:=by apply Qar; simpa using htys
  subst ha; subst hb
  have hexec:(execOp ρ ⟨dst,.call ⟨.builtin .append,#[s,x],#[t,t']⟩,type,pos,after,guard⟩).run P w=(do pure (.value (← Builtin.append_ #[t,t'] type #[ρ s,ρ x])):Sem Next).run P w:=by
   simp [execOp,resolve,invoke,builtin]
  split at h
  case h_2=>cases h
  rename_i el hel
  split at h
  case h_2=>cases h
  rename_i j hj
  split at h
  case h_2=>cases h
  rename_i z hz
  rw [hexec]
  split at h
  ·rename_i kx n hx
   split at h
   case h_2=>cases h
   rename_i hs
   split at h
   case h_2=>cases h
   rename_i hint
   cases hq:(decide (0 < n)&&(decide (n≤9223372036854775807)&&small n.toNat j.bts))<;>simp only [hq,cond_true,cond_false] at h
   ·cases h
   simp only [Qb,decide_eq_true_eq] at hq
   obtain ⟨h0,hn9,hsm⟩:=hq
   obtain ⟨row,z1,z2,z3,z4,z5⟩:=Vg7 hC hY hj hz
   obtain ⟨k',hk'⟩:∃ k',P.underlying t'=some (.int k'):=by
    unfold isInt at hint
    split at hint
    ·rename_i i' hi'
     split at hint
     ·rename_i k' hk'; exact ⟨k',Vf6 ((hY t' i' hi').int k' hk')⟩
     ·cases hint
    ·cases hint
   have h1:=he s
   have h2:=he x
   rw [hs] at h1; rw [hx] at h2
   simp only [den,V] at h1 h2
   rw [h1,h2]
   obtain ⟨newCap,rest,vs,k1,k2,k3,k4,k5⟩:=Vgy (P:=P) (I:=I) (w:=w) (ty:=type) (k:=kx) (Va7 hY hel) hk' (hY el j hj).sz (hY el j hj).bts z1 h0 hn9 hsm
   refine ⟨_,_,?_,h⟩
   refine Vh6 hm hw (Rw.rep n.toNat z2 z3 z4) (by simp) ?_
   refine Res.bind k5 ?_
   refine Res.from (w1:=dr w) rfl rfl rfl rfl ?_
   have:=Vk1 (MRel.of_heap (w:=w) (w':=dr w) rfl hm) (s:=C.sz j.code) (n:=n.toNat) (cap:=newCap) (rows:=Qh n.toNat row) el (0,0) (fun r hr=>by rw [Qau hr]; exact z2) (Vah (Ext.of_heap (w:=w) (w':=dr w) rfl) _ free free vs (.refl _) k3) k4 rest (fun o _=>by simp) (by rw [← z5]; exact k2) k1
   rw [show (dr w).heap.size=w.heap.size from rfl] at this
   exact this
  ·rename_i l hl
   split at h
   case h_2=>cases h
   rename_i hs
   split at h
   case h_2=>cases h
   rename_i hcd _
   refine Vx3 (P:=P) (ty:=type) hC hY hm hw hel hj hz (Vcd (Vdp hY hs)) (.inl rfl) (hwe s) (he s) ?_ h
   have hx:=he x
   rw [hl] at hx; simp only [den,V] at hx
   rw [hx]
   have e1:∀ (c:Nat) (q:C.bt=c),C.sz c=1∧(castL q (castT C l)).map (C.encD c)=bytesD l:=by
    intro c q; subst q; exact ⟨hC.bsz,Vh5 hC l⟩
   rw [(e1 _ hcd).1,(e1 _ hcd).2]
   exact Vzj l
  ·rename_i hne
   split at h
   case h_2=>cases h
   rename_i e' he'
   rw [Vbr,Qd] at h
   obtain ⟨rows,h1,h2⟩:=h
   exact Vx3 (P:=P) (ty:=type) hC hY hm hw hel hj hz (Val (Va7 hY he')) (.inr ⟨_,rfl⟩) (hwe s) (he s) (Vs5 hm (he x) (Vkx hw (hwe x) h1)) h2
 ·cases h
where
 next_res {T:Nat→Type} {C:Cd T} {O I:Nat→Prop} {w:World} {loc:Nat→Nat→Loc} {m:MT T} {P:Program} {G:Nat→Option (List D)} {e:Operand→DT T} {ρ:Operand→Value} {x:Operand} {b:Nat} {l:List UInt8} {ps:Nat} {dst:Option Tmp} {type:TypeId} {pos:String} {after:Array Edge} {guard:Option (Nat×Bool)} {d:D} {M':Mem}
   (hm:MRel O I loc (denM C m) w) (he:∀ x,V I w (den C (e x)) loc (ρ x)) (hx:e x = .bp b 0) (hb:m.get b = .iter l ps) (hlt:b < m.length) (h:semW P ⟨G,fun _=>none⟩ (.next x true) (fun x=>den C (e x)) (denM C m)=some (d,M')) :
   Res O I loc w ((execOp ρ ⟨dst,.next x true,type,pos,after,guard⟩).run P w) d M':=by
  have hbx:(denM C m).bx b = .iter l ps:=by simp [denM,hb,denB]
  have hv:=he x
  rw [hx] at hv; simp only [den,V] at hv
  have hbr:=hm.box b hlt
  rw [hbx] at hbr; simp only [RelB] at hbr
  obtain ⟨h0,k,hl,hw⟩:=hbr
  simp only [hl] at hv
  have hget:(getObj k).run P w = .ok (.stringIter ⟨l.toArray⟩ ps) w:=by simp [getObj,Sem.run,hw]
  simp only [semW,hx,den,hbx] at h
  split at h
  ·rename_i hps
   simp only [Qa,Qm] at h
   obtain ⟨rfl,rfl⟩:=h
   let w':World:={ w with heap:=w.heap.setIfInBounds k (.stringIter ⟨l.toArray⟩ (ps+(Utf8.decode ⟨l.toArray⟩ ps).2)) }
   have hset:(setObj k (.stringIter ⟨l.toArray⟩ (ps+(Utf8.decode ⟨l.toArray⟩ ps).2))).run P w = .ok () w':=by simp [setObj,Sem.run,hw,w']
   have hrun:(execOp ρ ⟨dst,.next x true,type,pos,after,guard⟩).run P w = .ok (.value (.tuple #[.bool true,.int .i64 ps,.int .i32 (Utf8.decode ⟨l.toArray⟩ ps).1])) w':=by
    simp only [execOp,Instr.next,hv,Qu,hget,Qj,Vdj,if_pos hps,hset,Qt,goInt]
   rw [hrun]
   have ho:((denM C m).bx b).owned=true:=by rw [hbx]; rfl
   have hk:=hm.own b 0 k hlt ho hl
   have hoth:∀ q,q≠k→w'.heap[q]? = w.heap[q]?:=fun q hq=>by
    simp only [w',Qg]
    rw [if_neg (Ne.symm hq)]
   have hsame:w'.heap[k]? = some (.stringIter ⟨l.toArray⟩ (ps+(Utf8.decode ⟨l.toArray⟩ ps).2)):=by
    simp only [w',Qg]
    rw [if_pos trivial,if_pos hk.2.2]
   have hext:Ext I I w w':=⟨fun _ h=>h,fun q hq=>hoth q (fun e=>hk.2.1 (e ▸ hq)),fun q=>by
    by_cases e:q=k
    ·subst e; simp [rowSize,hw]
    ·simp [rowSize,hoth q e]⟩
   refine ⟨_,w',loc,.inl rfl,hm.change hlt ho (fun _ _ _=>rfl) hext (.refl _) ?_ ?_ (fun q _ hq=>hoth q (fun e=>hq 0 (e ▸ hl))) (by simp [w']),?_,hext,.refl _,⟨rfl,rfl,rfl,by simp [w'],fun q _ hq=>hoth q (fun e=>hq (e ▸ hk.1))⟩⟩
   ·simp only [RelB]
    exact ⟨h0,k,hl,hsame⟩
   ·intro g' k' hk'
    have:=hm.own b g' k' hlt ho hk'
    exact ⟨this.1,this.2.1,by simpa [w'] using this.2.2,fun b' hb' h1 h2 g2 hg2=>hb' (hm.inj b' b g2 g' k' h1 hlt h2 ho hg2 hk')⟩
   ·simp only [V]
    exact ⟨[.bool true,.int .i64 ps,.int .i32 (Utf8.decode ⟨l.toArray⟩ ps).1],rfl,by simp [VL,V]⟩
  ·rename_i hps
   simp only [Qa,Qm] at h
   obtain ⟨rfl,rfl⟩:=h
   refine Res.of_same hm ⟨.tuple #[.bool false],?_,?_⟩
   ·simp only [execOp,Instr.next,hv,Qu,hget,Qj,Vdj,if_neg hps,Qt]
   ·simp only [V]
    exact ⟨[.bool false],rfl,by simp [VL,V]⟩
end
section
variable {T:Nat→Type}
def SVO (C:Cd T) (I:Nat→Prop) (w:World) (c:Nat) (l:List (T c)) (v:Value) (own:Nat→Prop):Prop:=
 (l=[]∧v = .slice none 0 0)∨∃ k o cap cells el fz,v = .slice (some ⟨k,o,none⟩) l.length cap∧l.length≤cap∧(cap=0∨o=0)∧cap * C.sz c≤cells.size∧l.length * C.sz c≤cells.size∧w.heap[k]? = some (.cells cells el fz)∧Unfz fz cells.size∧own k∧VR I w (C.sz c) (l.map (C.encD c)) k 0
def SVP (w:World) (cs:List Value) (v:Value) (own:Nat→Prop):Prop:=
 ∃ k cells el fz,v = .pointer (some ⟨k,0,none⟩)∧w.heap[k]? = some (.cells cells el fz)∧Unfz fz cells.size∧(∀ x∈cells.toList,x.oneCell'=true)∧own k∧cells.toList=cs
def SVF (C:Cd T) (I:Nat→Prop) (w:World):(f:Fld)→f.ty T→List Value→(Nat→Prop)→Prop
 | .v t,x,vs,_=>VL I w (denL C (encC C t x)) free vs
 | .own c,l,vs,own=>∃ v,vs=[v]∧SVO C I w c l v own
 | .pt t,x,vs,own=>∃ v cs,vs=[v]∧SVP w cs v own∧VL I w (denL C (encC C t x)) free cs
 | .st a c b,x,vs,own=>∃ u v z,vs=u++v::z∧VL I w (denL C (encC C a x.1)) free u∧SVO C I w c x.2.1 v own∧VL I w (denL C (encC C b x.2.2)) free z
 | .fp f t,x,vs,own=>∃ v cs,vs=[.func (.func f) #[] #[v]]∧SVP w cs v own∧VL I w (denL C (encC C t x)) free cs
def SVFs (C:Cd T) (I:Nat→Prop) (w:World):(fs:List Fld)→tyFs T fs→List Value→(Nat→Prop)→Prop
 | [],_,vs,_=>vs=[]
 | f::r,x,vs,own=>∃ a b o1 o2,vs=a++b∧SVF C I w f x.1 a o1∧SVFs C I w r x.2 b o2∧(∀ k,o1 k→own k)∧(∀ k,o2 k→own k)∧(∀ k,o1 k→¬ o2 k)
def SVV (C:Cd T) (I:Nat→Prop) (w:World):(f:Fld)→f.ty T→Value→(Nat→Prop)→Prop
 | .v t,x,v,_=>V I w (den C (encV C t x)) free v
 | .own c,l,v,own=>SVO C I w c l v own
 | .pt t,x,v,own=>∃ cs,SVP w cs v own∧VL I w (denL C (encC C t x)) free cs
 | .st a c b,x,v,own=>∃ vs:List Value,v = .agg vs.toArray∧(∀ y∈vs,y.oneCell'=true)∧∃ u v z,vs=u++v::z∧VL I w (denL C (encC C a x.1)) free u∧SVO C I w c x.2.1 v own∧VL I w (denL C (encC C b x.2.2)) free z
 | .fp f t,x,v,own=>∃ p cs,v = .func (.func f) #[] #[p]∧SVP w cs p own∧VL I w (denL C (encC C t x)) free cs
def SVS (C:Cd T) (I:Nat→Prop) (w:World):(s:Slot)→s.ty T→Value→(Nat→Prop)→Prop
 | .f f,x,v,own=>SVV C I w f x v own
 | .ptr fs,x,v,own=>∃ cs o1 o2,SVP w cs v o1∧SVFs C I w fs x cs o2∧(∀ k,o1 k→own k)∧(∀ k,o2 k→own k)∧(∀ k,o1 k→¬ o2 k)
 | .inp c,l,v,own=>SVO C I w c l v own
 | .iter,x,v,own=>∃ k,v = .pointer (some ⟨k,0,none⟩)∧w.heap[k]? = some (.stringIter ⟨x.1.toArray⟩ x.2)∧own k
 | .mset a c,l,v,own=>∃ k es clock,v = .map (some k)∧w.heap[k]? = some (.map es clock)∧own k∧es.toList.map (fun e=>(e.key,e.val))=(l.map fun x=>keyV a (C.encD c x)).map fun x=>(x,.bool true)
 | .lar c,l,v,own=>∃ k cells el fz,v = .pointer (some ⟨k,0,none⟩)∧l.length * C.sz c≤cells.size∧w.heap[k]? = some (.cells cells el fz)∧Unfz fz cells.size∧own k∧VR I w (C.sz c) (l.map (C.encD c)) k 0
def SVSs (C:Cd T) (I:Nat→Prop) (w:World):(ss:List Slot)→tySs T ss→List Value→(Nat→Prop)→Prop
 | [],_,vs,_=>vs=[]
 | s::r,x,vs,own=>∃ v vr o1 o2,vs=v::vr∧SVS C I w s x.1 v o1∧SVSs C I w r x.2 vr o2∧(∀ k,o1 k→own k)∧(∀ k,o2 k→own k)∧(∀ k,o1 k→¬ o2 k)
def SVVs (C:Cd T) (I:Nat→Prop) (w:World):(fs:List Fld)→tyFs T fs→List Value→(Nat→Prop)→Prop
 | [],_,vs,_=>vs=[]
 | f::r,x,vs,own=>∃ v vr o1 o2,vs=v::vr∧SVV C I w f x.1 v o1∧SVVs C I w r x.2 vr o2∧(∀ k,o1 k→own k)∧(∀ k,o2 k→own k)∧(∀ k,o1 k→¬ o2 k)
variable {C:Cd T} {O I I':Nat→Prop} {w w':World} {loc:Nat→Nat→Loc} {L:Nat→Nat→Nat} {m:MT T} {R:Type} {own own':Nat→Prop}
structure Keep (I I':Nat→Prop) (w w':World) (own:Nat→Prop):Prop where
 ext:Ext I I' w w'
 same:∀ k,own k→w'.heap[k]? = w.heap[k]?
theorem Keep.sub (h:Keep I I' w w' own) (hs:∀ k,own' k→own k):Keep I I' w w' own':=⟨h.ext,fun k hk=>h.same k (hs k hk)⟩
theorem Keep.imm (h:∀ k,I k→I' k):Keep I I' w w own:=⟨Vag h,fun _ _=>rfl⟩
theorem SVO.keep {c:Nat} {l:List (T c)} {v:Value} (hk:Keep I I' w w' own) (h:SVO C I w c l v own):SVO C I' w' c l v own:=by
 rcases h with h | ⟨k,o,cap,cells,el,fz,h1,h2,h3,h4,h4',h5,h6,h7,h8⟩
 ·exact .inl h
 ·exact .inr ⟨k,o,cap,cells,el,fz,h1,h2,h3,h4,h4',(hk.same k h7).trans h5,h6,h7,Vcc hk.ext _ _ k 0 (hk.same k h7) h8⟩
theorem Vz3 {c:Nat} {l:List (T c)} {v:Value} (h:SVO C I w c l v own) (hs:∀ k,own k→own' k):SVO C I w c l v own':=by
 rcases h with h | ⟨k,o,cap,cells,el,fz,h1,h2,h3,h4,h4',h5,h6,h7,h8⟩
 ·exact .inl h
 ·exact .inr ⟨k,o,cap,cells,el,fz,h1,h2,h3,h4,h4',h5,h6,hs k h7,h8⟩
theorem SVP.keep {cs:List Value} {v:Value} (hk:∀ k,own k→w'.heap[k]? = w.heap[k]?) (h:SVP w cs v own):SVP w' cs v own:=by
 obtain ⟨k,cells,el,fz,h1,h2,h3,h4,h5,h6⟩:=h
 exact ⟨k,cells,el,fz,h1,(hk k h5).trans h2,h3,h4,h5,h6⟩
theorem SVF.keep {f:Fld} {x:f.ty T} {vs:List Value} (hk:Keep I I' w w' own) (h:SVF C I w f x vs own):SVF C I' w' f x vs own:=by
 cases f with
 | v t=>exact Vah hk.ext _ free free vs (.refl _) h
 | own c=>obtain ⟨v,h1,h2⟩:=h; exact ⟨v,h1,h2.keep hk⟩
 | pt t=>obtain ⟨v,cs,h1,h2,h3⟩:=h; exact ⟨v,cs,h1,h2.keep hk.same,Vah hk.ext _ free free cs (.refl _) h3⟩
 | st a c b=>obtain ⟨u,v,z,h1,h2,h3,h4⟩:=h; exact ⟨u,v,z,h1,Vah hk.ext _ free free u (.refl _) h2,h3.keep hk,Vah hk.ext _ free free z (.refl _) h4⟩
 | fp f t=>obtain ⟨v,cs,h1,h2,h3⟩:=h; exact ⟨v,cs,h1,h2.keep hk.same,Vah hk.ext _ free free cs (.refl _) h3⟩
theorem SVFs.keep:∀ {fs:List Fld} {x:tyFs T fs} {vs:List Value} {own:Nat→Prop},Keep I I' w w' own→SVFs C I w fs x vs own→SVFs C I' w' fs x vs own
 | [],x,vs,own,hk,h=>h
 | f::r,x,vs,own,hk,h=>by
  obtain ⟨a,b,o1,o2,h1,h2,h3,h4,h5,h6⟩:=h
  exact ⟨a,b,o1,o2,h1,h2.keep (hk.sub h4),SVFs.keep (hk.sub h5) h3,h4,h5,h6⟩
theorem SVV.keep {f:Fld} {x:f.ty T} {v:Value} (hk:Keep I I' w w' own) (h:SVV C I w f x v own):SVV C I' w' f x v own:=by
 cases f with
 | v t=>exact Va4 hk.ext _ free free v (.refl _) h
 | own c=>exact SVO.keep hk h
 | pt t=>obtain ⟨cs,h2,h3⟩:=h; exact ⟨cs,h2.keep hk.same,Vah hk.ext _ free free cs (.refl _) h3⟩
 | st a c b=>obtain ⟨vs,g1,g2,u,v,z,h1,h2,h3,h4⟩:=h; exact ⟨vs,g1,g2,u,v,z,h1,Vah hk.ext _ free free u (.refl _) h2,h3.keep hk,Vah hk.ext _ free free z (.refl _) h4⟩
 | fp f t=>obtain ⟨p,cs,h1,h2,h3⟩:=h; exact ⟨p,cs,h1,h2.keep hk.same,Vah hk.ext _ free free cs (.refl _) h3⟩
theorem SVS.keep {s:Slot} {x:s.ty T} {v:Value} (hk:Keep I I' w w' own) (h:SVS C I w s x v own):SVS C I' w' s x v own:=by
 cases s with
 | f f=>exact SVV.keep hk h
 | ptr fs=>
  obtain ⟨cs,o1,o2,h1,h2,h3,h4,h5⟩:=h
  exact ⟨cs,o1,o2,h1.keep (fun k q=>hk.same k (h3 k q)),h2.keep (hk.sub h4),h3,h4,h5⟩
 | inp c=>exact SVO.keep hk h
 | iter=>obtain ⟨k,h1,h2,h3⟩:=h; exact ⟨k,h1,(hk.same k h3).trans h2,h3⟩
 | mset a c=>obtain ⟨k,es,ck,h1,h2,h3,h4⟩:=h; exact ⟨k,es,ck,h1,(hk.same k h3).trans h2,h3,h4⟩
 | lar c=>obtain ⟨k,cells,el,fz,h1,h2,h3,h4,h5,h6⟩:=h; exact ⟨k,cells,el,fz,h1,h2,(hk.same k h5).trans h3,h4,h5,Vcc hk.ext _ _ k 0 (hk.same k h5) h6⟩
theorem SVSs.keep:∀ {ss:List Slot} {x:tySs T ss} {vs:List Value} {own:Nat→Prop},Keep I I' w w' own→SVSs C I w ss x vs own→SVSs C I' w' ss x vs own
 | [],x,vs,own,hk,h=>h
 | s::r,x,vs,own,hk,h=>by
  obtain ⟨v,vr,o1,o2,h1,h2,h3,h4,h5,h6⟩:=h
  exact ⟨v,vr,o1,o2,h1,h2.keep (hk.sub h4),SVSs.keep (hk.sub h5) h3,h4,h5,h6⟩
theorem SVVs.keep:∀ {fs:List Fld} {x:tyFs T fs} {vs:List Value} {own:Nat→Prop},Keep I I' w w' own→SVVs C I w fs x vs own→SVVs C I' w' fs x vs own
 | [],x,vs,own,hk,h=>h
 | s::r,x,vs,own,hk,h=>by
  obtain ⟨v,vr,o1,o2,h1,h2,h3,h4,h5,h6⟩:=h
  exact ⟨v,vr,o1,o2,h1,h2.keep (hk.sub h4),SVVs.keep (hk.sub h5) h3,h4,h5,h6⟩
def Owned (C:Cd T) (m:MT T) (loc:Nat→Nat→Loc) (k:Nat):Prop:=∃ b g,b < m.length∧(denB C (m.get b)).owned=true∧loc b g = .blk k
structure Took (C:Cd T) (O I:Nat→Prop) (w:World) (loc:Nat→Nat→Loc) (L:Nat→Nat→Nat) (m:MT T) (own:Nat→Prop) (I':Nat→Prop) (m':MT T) (loc':Nat→Nat→Loc):Prop where
 mem:MRel O I' loc' (denM C m') w
 wf:WfM L m'
 imm0:∀ k,I k→I' k
 imm1:∀ k,I' k→I k∨Owned C m loc k
 ext:LocExt loc loc'
 got:∀ k,own k→¬ I' k∧Owned C m loc k
 rest:∀ k,Owned C m' loc' k→¬ own k∧Owned C m loc k
 len:m'.length=m.length
 lent:∀ b,m.get b = .lent→m'.get b = .lent∧∀ g,loc' b g=loc b g
 arrs:∀ b g c l,m'.get b = .arr g c l→m.get b = .arr g c l
theorem Owned.facts (hm:MRel O I loc (denM C m) w) {k:Nat} (h:Owned C m loc k):O k∧¬ I k∧k < w.heap.size:=by
 obtain ⟨b,g,h1,h2,h3⟩:=h
 exact hm.own b g k h1 h2 h3
theorem Took.refl (hm:MRel O I loc (denM C m) w) (hw:WfM L m):Took C O I w loc L m none' I m loc:=
 ⟨hm,hw,fun _ h=>h,fun _ h=>.inl h,.refl _,fun _ h=>h.elim,fun _ h=>⟨fun q=>q,h⟩,rfl,fun _ h=>⟨h,fun _=>rfl⟩,fun _ _ _ _ h=>h⟩
theorem Took.trans {I1 I2:Nat→Prop} {m1 m2:MT T} {loc1 loc2:Nat→Nat→Loc} {o1 o2:Nat→Prop} (a:Took C O I w loc L m o1 I1 m1 loc1) (b:Took C O I1 w loc1 L m1 o2 I2 m2 loc2):Took C O I w loc L m (fun k=>o1 k∨o2 k) I2 m2 loc2:=by
 have up:∀ k,Owned C m1 loc1 k→Owned C m loc k:=fun k h=>(a.rest k h).2
 refine ⟨b.mem,b.wf,fun k h=>b.imm0 k (a.imm0 k h),fun k h=>?_,a.ext.trans b.ext,fun k h=>?_,fun k h=>?_,b.len.trans a.len,fun q h=>⟨(b.lent q (a.lent q h).1).1,fun g=>((b.lent q (a.lent q h).1).2 g).trans ((a.lent q h).2 g)⟩,fun q g c l h=>a.arrs q g c l (b.arrs q g c l h)⟩
 ·rcases b.imm1 k h with h | h
  ·exact a.imm1 k h
  ·exact .inr (up k h)
 ·rcases h with h | h
  ·refine ⟨fun hI=>?_,(a.got k h).2⟩
   rcases b.imm1 k hI with q | q
   ·exact (a.got k h).1 q
   ·exact (a.rest k q).1 h
  ·exact ⟨(b.got k h).1,up k (b.got k h).2⟩
 ·obtain ⟨h1,h2⟩:=b.rest k h
  obtain ⟨h3,h4⟩:=a.rest k h2
  exact ⟨fun q=>q.elim h3 h1,h4⟩
theorem Took.disj {I1 I2:Nat→Prop} {m1 m2:MT T} {loc1 loc2:Nat→Nat→Loc} {o1 o2:Nat→Prop} (a:Took C O I w loc L m o1 I1 m1 loc1) (b:Took C O I1 w loc1 L m1 o2 I2 m2 loc2):∀ k,o1 k→¬ o2 k:=fun k h1 h2=>(a.rest k (b.got k h2).2).1 h1
theorem Took.V {m':MT T} {loc':Nat→Nat→Loc} (a:Took C O I w loc L m own I' m' loc') {d:DT T} {v:Value} (h:V I w (den C d) loc v):Abs.V I' w (den C d) loc' v:=Va4 (Vag a.imm0) _ loc loc' v a.ext h
theorem Took.fz {m1:MT T} {I1:Nat→Prop} (h1:MRel O I1 loc (denM C m1) w) (h2:WfM L m1) (h3:∀ k,I k→I1 k) (h4:∀ k,I1 k→I k∨∃ b g c l,b < m.length∧m.get b=BoxT.arr g c l∧loc b g = .blk k) (h5:m1.length=m.length)
  (h6:∀ b,m1.get b=m.get b∨∃ g c l,m.get b = .arr g c l∧m1.get b = .frz g c l):Took C O I w loc L m none' I1 m1 loc:=by
 refine ⟨h1,h2,h3,fun k h=>?_,.refl _,fun _ h=>h.elim,fun k h=>⟨fun q=>q,?_⟩,h5,fun b h=>⟨?_,fun _=>rfl⟩,fun b g c l h=>?_⟩
 ·rcases h4 k h with h | ⟨b,g,c,l,q1,q2,q3⟩
  ·exact .inl h
  ·exact .inr ⟨b,g,q1,by rw [q2]; rfl,q3⟩
 ·obtain ⟨b,g,q1,q2,q3⟩:=h
  rcases h6 b with e | ⟨g',c,l,e1,e2⟩
  ·exact ⟨b,g,by rw [← h5]; exact q1,by rw [← e]; exact q2,q3⟩
  ·rw [e2] at q2; cases q2
 ·rcases h6 b with e | ⟨g',c,l,e1,e2⟩
  ·rw [e]; exact h
  ·rw [h] at e1; cases e1
 ·rcases h6 b with e | ⟨g',c',l',e1,e2⟩
  ·rw [← e]; exact h
  ·rw [e2] at h; cases h
def locOut (loc:Nat→Nat→Loc) (b:Nat):Nat→Nat→Loc:=fun b' g=>if b'=b then (match loc b' g with | .free=>.free | _=>.stale) else loc b' g
theorem Took.box (hm:MRel O I loc (denM C m) w) (hw:WfM L m) {b:Nat} (hb:b < m.length) (ho:(denB C (m.get b)).owned=true):Took C O I w loc L m (fun k=>∃ g,loc b g = .blk k) I (m.put b .gone) (locOut loc b):=by
 have hle:LocExt loc (locOut loc b):=fun b' g=>by
  unfold locOut
  by_cases e:b'=b
  ·rw [if_pos e]; cases loc b' g<;>simp
  ·rw [if_neg e]; exact .inr (.inr rfl)
 have hbx:∀ b',(denM C (m.put b .gone)).bx b'=if b'=b then .gone else (denM C m).bx b':=fun b'=>by
  simp only [denM,Vbd hb]
  split<;>rfl
 have hnb:(denM C (m.put b .gone)).nb=m.length:=by simp [denM,Vb0]
 have hne:∀ {b'},((denM C (m.put b .gone)).bx b').owned=true→b'≠b∧((denM C m).bx b').owned=true:=fun {b'} h=>by
  rw [hbx] at h
  by_cases e:b'=b
  ·rw [if_pos e] at h; cases h
  ·rw [if_neg e] at h; exact ⟨e,h⟩
 have hl:∀ {b' g},b'≠b→locOut loc b b' g=loc b' g:=fun {b' g} e=>by unfold locOut; rw [if_neg e]
 refine ⟨⟨fun b' hb'=>?_,fun b' g hb'=>?_,fun b' g k hb' ho' hk=>?_,fun b1 b2 g1 g2 k h1 h2 o1 o2 k1 k2=>?_,hm.imm,hm.up⟩,Vds hb hw trivial,fun _ h=>h,fun _ h=>.inl h,hle,fun k h=>?_,fun k h=>?_,Vb0,fun b' h=>?_,fun b' g c l h=>?_⟩
 ·rw [hnb] at hb'
  rw [hbx]
  by_cases e:b'=b
  ·rw [if_pos e]
   simp only [RelB]
   intro g
   unfold locOut
   rw [if_pos e]
   cases loc b' g<;>simp
  ·rw [if_neg e]
   exact Va5 (.refl _ _) hle (fun g=>hl e) (fun _ _ _ _=>rfl) (hm.box b' hb')
 ·rw [hnb] at hb'
  rw [hl (by omega)]
  exact hm.free b' g hb'
 ·rw [hnb] at hb'
  obtain ⟨e,h⟩:=hne ho'
  rw [hl e] at hk
  exact hm.own b' g k hb' h hk
 ·rw [hnb] at h1 h2
  obtain ⟨e1,q1⟩:=hne o1
  obtain ⟨e2,q2⟩:=hne o2
  rw [hl e1] at k1
  rw [hl e2] at k2
  exact hm.inj b1 b2 g1 g2 k h1 h2 q1 q2 k1 k2
 ·obtain ⟨g,hg⟩:=h
  exact ⟨(hm.own b g k hb ho hg).2.1,b,g,hb,ho,hg⟩
 ·obtain ⟨b',g,q1,q2,q3⟩:=h
  rw [Vb0] at q1
  obtain ⟨e,h⟩:=hne (b':=b') q2
  rw [hl e] at q3
  refine ⟨fun ⟨g',hg'⟩=>e (hm.inj b' b g g' k q1 hb h ho q3 hg'),b',g,q1,h,q3⟩
 ·have e:b'≠b:=by rintro rfl; rw [h] at ho; cases ho
  rw [Vbd hb,if_neg e]
  exact ⟨h,fun g=>hl e⟩
 ·rw [Vbd hb] at h
  split at h
  ·cases h
  ·exact h
theorem Took.sub {m':MT T} {loc':Nat→Nat→Loc} (a:Took C O I w loc L m own I' m' loc') (h:∀ k,own' k→own k):Took C O I w loc L m own' I' m' loc':=
 ⟨a.mem,a.wf,a.imm0,a.imm1,a.ext,fun k hk=>a.got k (h k hk),fun k hk=>⟨fun q=>(a.rest k hk).1 (h k q),(a.rest k hk).2⟩,a.len,a.lent,a.arrs⟩
theorem Vh7 (hm:MRel O I loc (denM C m) w) (hw:WfM L m) {c:Nat} {d:DT T} {v:Value} {K:List (T c)→MT T→Option R} {r:R} (hwf:WfD L d) (hv:V I w (den C d) loc v) (h:decOK m c d K=some r) :
  ∃ l own I' m' loc',Took C O I w loc L m own I' m' loc'∧SVO C I' w c l v own∧K l m'=some r:=by
 unfold decOK at h
 split at h
 ·simp only [den,V] at hv
  exact ⟨[],none',I,m,loc,.refl hm hw,.inl ⟨rfl,hv⟩,h⟩
 ·rename_i b g c' n
  split at h
  case h_2=>cases h
  rename_i hc
  have hc:=Qc hc
  subst hc
  split at h
  case h_2=>cases h
  rename_i l hl
  have hb:=Vbu hl
  have hlt:b < m.length:=by
   simp only [den,V] at hv
   exact Va6 (C:=C) (g:=g) hm (by intro e; simp [e] at hv)
  have ho:(denB C (m.get b)).owned=true:=by rw [hb]; rfl
  refine ⟨l,_,I,_,_,Took.box hm hw hlt ho,?_,h⟩
  have hwb:=hw b
  rw [hb] at hwb
  simp only [WfB] at hwb
  simp only [WfD] at hwf
  have hn:n=l.length:=by rw [← hwf,hwb]
  have hr:=Vb9 hm hlt
  rw [hb] at hr
  simp only [denB,RelB] at hr
  simp only [den,V] at hv
  rcases hr.2 with ⟨h1,h2⟩ | ⟨k,cells,el,fz,h1,h2,h3,h4,h5⟩
  ·simp only [h1] at hv
   exact .inl ⟨by simpa using h2,hv.2.2⟩
  ·simp only [h1] at hv
   obtain ⟨o,cap,rfl,q1,q2,q3⟩:=hv
   refine .inr ⟨k,o,cap,cells,el,fz,by rw [hn],by rw [← hn]; exact q1,by simpa using q2,?_,by simpa using h4,h2,h3,⟨g,h1⟩,h5⟩
   simpa [rowSize,h2] using q3
 ·rename_i b g c' n
  split at h
  case h_2=>cases h
  rename_i hc
  have hc:=Qc hc
  subst hc
  split at h
  case h_2=>cases h
  rename_i l hl
  cases hle:decide (n≤l.length)<;>simp only [hle,cond_true,cond_false] at h
  ·cases h
  have hle:=of_decide_eq_true hle
  have hb:=Vbu hl
  have hlt:b < m.length:=by
   simp only [den,V] at hv
   exact Va6 (C:=C) (g:=g) hm (by intro e; simp [e] at hv)
  have ho:(denB C (m.get b)).owned=true:=by rw [hb]; rfl
  refine ⟨l.take n,_,I,_,_,Took.box hm hw hlt ho,?_,h⟩
  have hlen:(l.take n).length=n:=by simp; omega
  have hr:=Vb9 hm hlt
  rw [hb] at hr
  simp only [denB,RelB] at hr
  simp only [den,V] at hv
  rcases hr.2 with ⟨h1,h2⟩ | ⟨k,cells,el,fz,h1,h2,h3,h4,h5⟩
  ·simp only [h1] at hv
   have:l=[]:=by simpa using h2
   exact .inl ⟨by simp [this],hv.2.2⟩
  ·simp only [h1] at hv
   obtain ⟨o,cap,rfl,q1,q2,q3⟩:=hv
   have q3':cap * C.sz c'≤cells.size:=by simpa [rowSize,h2] using q3
   refine .inr ⟨k,o,cap,cells,el,fz,by rw [hlen],by rw [hlen]; exact q1,by simpa using q2,q3',?_,h2,h3,⟨g,h1⟩,?_⟩
   ·rw [hlen]; exact Qab (Qap _ q1) q3'
   ·rw [List.map_take]; exact Vd6 n h5
 ·cases h
end
section
variable {T:Nat→Type} {C:Cd T} {O I I':Nat→Prop} {w w':World} {loc:Nat→Nat→Loc} {L:Nat→Nat→Nat} {m:MT T} {R:Type} {own own':Nat→Prop}
theorem Vdza (hC:CdOk C) (hm:MRel O I loc (denM C m) w) (hw:WfM L m) {cs:List (DT T)} {vs:List Value} {K:List (DT T)→MT T→Option R} {r:R} (hwf:WfL L cs) (hv:VL I w (denL C cs) loc vs) (h:frK C m cs K=some r) :
  ∃ cs' I' m',Took C O I w loc L m none' I' m' loc∧VL I' w (denL C cs') free vs∧cleanL cs'=true∧K cs' m'=some r:=by
 obtain ⟨cs',m',I',g1,g2,g3,g4,g5,g6,g7,g8,h⟩:=Vjm hC hm hw hwf hv h
 exact ⟨cs',I',m',Took.fz g1 g2 g3 g4 g7 g8,g5,g6,h⟩
theorem dec_v (hC:CdOk C) (hm:MRel O I loc (denM C m) w) (hw:WfM L m) {t:VT} {cs:List (DT T)} {vs:List Value} {K:t.ty T→MT T→Option R} {r:R} (hwf:WfL L cs) (hv:VL I w (denL C cs) loc vs) (h:decVK C m t cs K=some r) :
  ∃ x I' m',Took C O I w loc L m none' I' m' loc∧VL I' w (denL C (encC C t x)) free vs∧K x m'=some r:=by
 unfold decVK at h
 obtain ⟨cs',I',m',h1,h2,h3,h4⟩:=Vdza hC hm hw hwf hv h
 split at h4
 ·rename_i x hx
  exact ⟨x,I',m',h1,Vtp hC t cs' x hx I' w vs h2,h4⟩
 ·cases h4
theorem Vo5 (hm:MRel O I loc (denM C m) w) {b:Nat} {cs:List (DT T)} {v:Value} (hb:m.get b = .var cs) (hv:V I w (den C (.bp b 0:DT T)) loc v) :
  b < m.length∧∃ vs,SVP w vs v (fun k=>∃ g,loc b g = .blk k)∧VL I w (denL C cs) loc vs:=by
 simp only [den,V] at hv
 have hlt:b < m.length:=Va6 (C:=C) (g:=0) hm (by intro e; simp [e] at hv)
 have hr:=Vb9 hm hlt
 rw [hb] at hr
 simp only [denB,RelB] at hr
 obtain ⟨_,k,cells,el,fz,h1,h2,h3,h4,h5⟩:=hr
 simp only [h1] at hv
 exact ⟨hlt,cells.toList,⟨k,cells,el,fz,hv,h2,h3,h4,⟨0,h1⟩,rfl⟩,h5⟩
theorem dec_f (hC:CdOk C) (hm:MRel O I loc (denM C m) w) (hw:WfM L m) {f:Fld} {cs:List (DT T)} {vs:List Value} {K:f.ty T→MT T→Option R} {r:R} (hwf:WfL L cs) (hv:VL I w (denL C cs) loc vs) (h:decFK C m f cs K=some r) :
  ∃ x own I' m' loc',Took C O I w loc L m own I' m' loc'∧SVF C I' w f x vs own∧K x m'=some r:=by
 cases f with
 | v t=>
  obtain ⟨x,I',m',h1,h2,h3⟩:=dec_v hC hm hw hwf hv h
  exact ⟨x,none',I',m',loc,h1,h2,h3⟩
 | own c=>
  simp only [decFK] at h
  split at h
  case h_2=>cases h
  rename_i d
  simp only [denL,VL] at hv
  obtain ⟨v,vr,rfl,hv1,rfl⟩:=hv
  obtain ⟨l,own,I',m',loc',h1,h2,h3⟩:=Vh7 hm hw hwf.1 hv1 h
  exact ⟨l,own,I',m',loc',h1,⟨v,rfl,h2⟩,h3⟩
 | pt t=>
  simp only [decFK] at h
  split at h
  case h_2=>cases h
  rename_i b
  split at h
  case h_2=>cases h
  rename_i cells hb
  simp only [denL,VL] at hv
  obtain ⟨v,vr,rfl,hv1,rfl⟩:=hv
  obtain ⟨hlt,us,q1,q2⟩:=Vo5 hm hb hv1
  have tk:=Took.box hm hw hlt (by rw [hb]; rfl)
  have hwb:=hw b
  rw [hb] at hwb
  obtain ⟨x,I',m',h1,h2,h3⟩:=dec_v hC tk.mem tk.wf hwb (Vah (Vag tk.imm0) _ _ _ _ tk.ext q2) h
  refine ⟨x,_,I',m',_,tk.trans h1,⟨v,us,rfl,?_,h2⟩,h3⟩
  obtain ⟨k,c2,el,fz,p1,p2,p3,p4,p5,p6⟩:=q1
  exact ⟨k,c2,el,fz,p1,p2,p3,p4,.inl p5,p6⟩
 | st a c b=>
  simp only [decFK,decStK] at h
  split at h
  case h_2=>cases h
  rename_i d rest hd
  have hv1:VL I w (denL C (cs.take (a.sz C))) loc (vs.take (a.sz C)):=by rw [Vdd]; exact Vd5 _ hv
  have hv2:VL I w (denL C (cs.drop (a.sz C))) loc (vs.drop (a.sz C)):=by rw [Va2]; exact Vc6 _ hv
  have hw2:=Ves (a.sz C) hwf
  rw [hd] at hv2 hw2
  simp only [denL,VL] at hv2
  obtain ⟨v,z,hz,hv3,hv4⟩:=hv2
  obtain ⟨x,I1,m1,t1,s1,k1⟩:=dec_v hC hm hw (Vke _ hwf) hv1 h
  obtain ⟨l,o2,I2,m2,loc2,t2,s2,k2⟩:=Vh7 t1.mem t1.wf hw2.1 (Va4 (Vag t1.imm0) _ _ _ _ t1.ext hv3) k1
  obtain ⟨y,I3,m3,t3,s3,k3⟩:=dec_v hC t2.mem t2.wf hw2.2 (Vah (Vag t2.imm0) _ _ _ _ t2.ext (Vah (Vag t1.imm0) _ _ _ _ t1.ext hv4)) k2
  refine ⟨(x,l,y),_,I3,m3,_,(t1.trans t2).trans t3,⟨vs.take (a.sz C),v,z,?_,?_,?_,s3⟩,k3⟩
  ·rw [← hz]; exact (Qa3 _ _).symm
  ·exact Vah (Vag t3.imm0) _ free free _ (.refl _) (Vah (Vag t2.imm0) _ free free _ (.refl _) s1)
  ·have:=SVO.keep (own:=o2) (Keep.imm t3.imm0) s2
   exact Vz3 this fun k hk=>.inl (.inr hk)
 | fp f t=>
  simp only [decFK] at h
  split at h
  case h_2=>cases h
  rename_i f' b
  split at h
  case h_2=>cases h
  rename_i hf
  have hf:=Qc hf
  subst hf
  split at h
  case h_2=>cases h
  rename_i cells hb
  simp only [denL,VL,den,V] at hv
  obtain ⟨v,vr,rfl,⟨ws,rfl,hws⟩,rfl⟩:=hv
  obtain ⟨p,pr,rfl,hp,rfl⟩:=hws
  obtain ⟨hlt,us,q1,q2⟩:=Vo5 hm hb (show V I w (den C (.bp b 0)) loc p by simpa only [den,V] using hp)
  have tk:=Took.box hm hw hlt (by rw [hb]; rfl)
  have hwb:=hw b
  rw [hb] at hwb
  obtain ⟨x,I',m',h1,h2,h3⟩:=dec_v hC tk.mem tk.wf hwb (Vah (Vag tk.imm0) _ _ _ _ tk.ext q2) h
  refine ⟨x,_,I',m',_,tk.trans h1,⟨p,us,rfl,?_,h2⟩,h3⟩
  obtain ⟨k,c2,el,fz,p1,p2,p3,p4,p5,p6⟩:=q1
  exact ⟨k,c2,el,fz,p1,p2,p3,p4,.inl p5,p6⟩
theorem Vtv (hC:CdOk C):∀ (fs:List Fld) {m:MT T} {I:Nat→Prop} {loc:Nat→Nat→Loc} {cs:List (DT T)} {vs:List Value} {K:tyFs T fs→MT T→Option R} {r:R},MRel O I loc (denM C m) w→WfM L m→WfL L cs→VL I w (denL C cs) loc vs→decFsK C fs m cs K=some r →
  ∃ x own I' m' loc',Took C O I w loc L m own I' m' loc'∧SVFs C I' w fs x vs own∧K x m'=some r
 | [],m,I,loc,cs,vs,K,r,hm,hw,hwf,hv,h=>by
  simp only [decFsK] at h
  split at h
  ·simp only [denL,VL] at hv
   exact ⟨(),none',I,m,loc,.refl hm hw,hv,h⟩
  ·cases h
 | f::fs,m,I,loc,cs,vs,K,r,hm,hw,hwf,hv,h=>by
  simp only [decFsK] at h
  have hv1:VL I w (denL C (cs.take (f.sz C))) loc (vs.take (f.sz C)):=by rw [Vdd]; exact Vd5 _ hv
  have hv2:VL I w (denL C (cs.drop (f.sz C))) loc (vs.drop (f.sz C)):=by rw [Va2]; exact Vc6 _ hv
  obtain ⟨x,o1,I1,m1,loc1,h1,h2,h3⟩:=dec_f hC hm hw (Vke _ hwf) hv1 h
  obtain ⟨y,o2,I2,m2,loc2,g1,g2,g3⟩:=Vtv hC fs h1.mem h1.wf (Ves _ hwf) (Vah (Vag h1.imm0) _ _ _ _ h1.ext hv2) h3
  refine ⟨(x,y),_,I2,m2,loc2,h1.trans g1,⟨_,_,o1,o2,(Qa3 _ _).symm,h2.keep (.imm g1.imm0),g2,fun _ h=>.inl h,fun _ h=>.inr h,h1.disj g1⟩,g3⟩
theorem Vqb {I2:Nat→Prop} {t:VT} {x:t.ty T} {d:DT T} {v:Value} (hf:d.fit=true) (hv:V I w (den C d) loc v) (hc:VL I2 w (denL C (encC C t x)) free v.cells.toList) (ha:(∃ c,t = .agg c)↔∃ cs,d = .agg cs) (hl:(encC C t x).length=d.cells.length):V I2 w (den C (encV C t x)) free v:=by
 by_cases hq:∃ cs,d = .agg cs
 ·obtain ⟨c,rfl⟩:=ha.2 hq
  obtain ⟨cs,rfl⟩:=hq
  simp only [den,V] at hv
  obtain ⟨vs,rfl,h1,_⟩:=hv
  show V I2 w (.agg (denL C (C.enc c x))) free _
  simp only [V]
  exact ⟨vs,rfl,h1,by simpa [Value.cells,encC] using hc⟩
 ·have hn:∀ l,den C d≠.agg l:=by
   intro l e
   cases d<;>simp [den,Vkc] at e
   exact hq ⟨_,rfl⟩
  have hone:=Vef hv (Vby C d hf) hn
  rw [hone] at hc
  have hdc:d.cells=[d]:=by
   cases d<;>first | rfl | exact absurd ⟨_,rfl⟩ hq
  rw [hdc] at hl
  have hna:∀ c,t≠.agg c:=fun c e=>hq (ha.1 ⟨c,e⟩)
  have he:encV C t x=(encC C t x).headD .dead:=by
   cases t<;>first | rfl | exact absurd rfl (hna _)
  rw [he]
  match hz:encC C t x,hl with
  | [e],_=>
   rw [hz] at hc
   simp only [denL,VL,Qbf] at hc ⊢
   obtain ⟨v',vr,q,h1,h2⟩:=hc
   simp only [List.cons.injEq] at q
   rw [q.1]; exact h1
theorem Vh8 {d:DT T} {f:Fld} (h:d.as f=true):d.fit=true:=by
 unfold DT.as at h
 split at h<;>simp_all
theorem Vd0a {d:DT T} {t:VT} (h:d.as (.v t)=true):(∃ c,t = .agg c)↔∃ cs,d = .agg cs:=by
 simp only [DT.as,Qb,beq_iff_eq] at h
 have h2:=h.2
 constructor
 ·rintro ⟨c,rfl⟩
  simp only [VT.isAgg] at h2
  cases d<;>simp [DT.isAgg] at h2
  exact ⟨_,rfl⟩
 ·rintro ⟨cs,rfl⟩
  simp only [DT.isAgg] at h2
  cases t<;>simp [VT.isAgg] at h2
  exact ⟨_,rfl⟩
def Fld.isOne:Fld→Bool
 | .own _=>true
 | .pt _=>true
 | _=>false
theorem Vd1a {d:DT T} {f:Fld} (h:d.as f=true) (hf:f.isOne=true):d.cells=[d]:=by
 cases f with
 | v t=>cases hf
 | own c=>simp only [DT.as,Qb] at h; cases d<;>first | rfl | simp [DT.isAgg] at h
 | pt t=>simp only [DT.as,Qb] at h; cases d<;>first | rfl | simp [DT.isAgg] at h
 | st a c b=>cases hf
 | fp f t=>cases hf
theorem V_as {I2:Nat→Prop} {t:VT} {x:t.ty T} {d:DT T} {v:Value} (hf:d.as (.v t)=true) (hv:V I w (den C d) loc v) (hc:VL I2 w (denL C (encC C t x)) free v.cells.toList):V I2 w (den C (encV C t x)) free v:=by
 refine Vqb (Vh8 hf) hv hc (Vd0a hf) ?_
 have h1:=Vaf hc
 have h2:=Vaf (Vcv (Vh8 hf) hv)
 rw [Vao] at h1 h2
 omega
theorem Vk2 (hC:CdOk C) (hm:MRel O I loc (denM C m) w) (hw:WfM L m) {f:Fld} {d:DT T} {v:Value} {K:f.ty T→MT T→Option R} {r:R} (hwf:WfD L d) (hv:V I w (den C d) loc v) (ha:d.as f=true) (h:decFK C m f d.cells K=some r) :
  ∃ x own I' m' loc',Took C O I w loc L m own I' m' loc'∧SVV C I' w f x v own∧K x m'=some r:=by
 have hc:=Vcv (Vh8 ha) hv
 obtain ⟨x,own,I',m',loc',h1,h2,h3⟩:=dec_f hC hm hw (Vbp hwf) hc h
 refine ⟨x,own,I',m',loc',h1,?_,h3⟩
 cases f with
 | v t=>exact V_as ha hv h2
 | own c=>
  obtain ⟨v',q1,q2⟩:=h2
  have hone:v.cells = #[v]:=by
   refine Vef hv (Vby C d (Vh8 ha)) fun l e=>?_
   have:=Vd1a ha rfl
   cases d<;>simp [den,Vkc] at e
   simp only [DT.as,DT.isAgg] at ha; simp at ha
  rw [hone] at q1
  simp only [List.cons.injEq,and_true] at q1
  rw [q1]; exact q2
 | pt t=>
  obtain ⟨v',cs,q1,q2,q3⟩:=h2
  have hone:v.cells = #[v]:=by
   refine Vef hv (Vby C d (Vh8 ha)) fun l e=>?_
   cases d<;>simp [den,Vkc] at e
   simp only [DT.as,DT.isAgg] at ha; simp at ha
  rw [hone] at q1
  simp only [List.cons.injEq,and_true] at q1
  rw [q1]; exact ⟨cs,q2,q3⟩
 | st a c b=>
  simp only [DT.as,Qb] at ha
  cases d<;>simp [DT.isAgg] at ha
  rename_i cs
  simp only [den,V] at hv
  obtain ⟨vs,rfl,g1,_⟩:=hv
  obtain ⟨u,v,z,q1,q2⟩:=h2
  exact ⟨vs,rfl,g1,u,v,z,by simpa [Value.cells] using q1,q2⟩
 | fp f t=>
  obtain ⟨v',cs,q1,q2,q3⟩:=h2
  have hone:v.cells = #[v]:=by
   refine Vef hv (Vby C d (Vh8 ha)) fun l e=>?_
   cases d<;>simp [den,Vkc] at e
   simp only [DT.as,DT.isAgg] at ha; simp at ha
  rw [hone] at q1
  simp only [List.cons.injEq,and_true] at q1
  exact ⟨v',cs,q1,q2,q3⟩
theorem dec_s (hC:CdOk C) (hm:MRel O I loc (denM C m) w) (hw:WfM L m) {s:Slot} {d:DT T} {v:Value} {K:s.ty T→MT T→Option R} {r:R} (hwf:WfD L d) (hv:V I w (den C d) loc v) (h:decSK C m s d K=some r) :
  ∃ x own I' m' loc',Took C O I w loc L m own I' m' loc'∧SVS C I' w s x v own∧K x m'=some r:=by
 cases s with
 | f f=>
  simp only [decSK] at h
  split at h
  case h_2=>cases h
  rename_i ha
  exact Vk2 hC hm hw hwf hv ha h
 | ptr fs=>
  simp only [decSK] at h
  split at h
  case h_2=>cases h
  rename_i b
  split at h
  case h_2=>cases h
  rename_i cells hb
  obtain ⟨hlt,us,q1,q2⟩:=Vo5 hm hb hv
  have tk:=Took.box hm hw hlt (by rw [hb]; rfl)
  have hwb:=hw b
  rw [hb] at hwb
  obtain ⟨x,o2,I',m',loc',h1,h2,h3⟩:=Vtv hC fs tk.mem tk.wf hwb (Vah (Vag tk.imm0) _ _ _ _ tk.ext q2) h
  exact ⟨x,_,I',m',loc',tk.trans h1,⟨us,_,o2,q1,h2,fun _ h=>.inl h,fun _ h=>.inr h,tk.disj h1⟩,h3⟩
 | inp c=>exact Vh7 hm hw hwf hv h
 | iter=>
  simp only [decSK] at h
  split at h
  case h_2=>cases h
  rename_i b
  split at h
  case h_2=>cases h
  rename_i l p hb
  simp only [den,V] at hv
  have hlt:b < m.length:=Va6 (C:=C) (g:=0) hm (by intro e; simp [e] at hv)
  have hr:=Vb9 hm hlt
  rw [hb] at hr
  simp only [denB,RelB] at hr
  obtain ⟨_,k,h1,h2⟩:=hr
  simp only [h1] at hv
  exact ⟨(l,p),_,I,_,_,Took.box hm hw hlt (by rw [hb]; rfl),⟨k,hv,h2,⟨0,h1⟩⟩,h⟩
 | mset a c=>
  simp only [decSK] at h
  split at h
  case h_2=>cases h
  rename_i b
  split at h
  case h_2=>cases h
  rename_i a' c' l hb
  split at h
  case h_2=>cases h
  rename_i ha
  have ha:a=a':=by simpa using ha
  subst ha
  split at h
  case h_2=>cases h
  rename_i hc _
  subst hc
  simp only [den,V] at hv
  have hlt:b < m.length:=Va6 (C:=C) (g:=0) hm (by intro e; simp [e] at hv)
  have hr:=Vb9 hm hlt
  rw [hb] at hr
  simp only [denB,RelB] at hr
  obtain ⟨_,k,es,ck,h1,h2,h3⟩:=hr
  simp only [h1] at hv
  exact ⟨l,_,I,_,_,Took.box hm hw hlt (by rw [hb]; rfl),⟨k,es,ck,hv,h2,⟨0,h1⟩,h3⟩,h⟩
 | lar c=>
  simp only [decSK] at h
  split at h
  case h_2=>cases h
  rename_i b g c'
  split at h
  case h_2=>cases h
  rename_i hc
  have hc:=Qc hc
  subst hc
  split at h
  case h_2=>cases h
  rename_i l hl
  have hb:=Vbu hl
  simp only [den,V] at hv
  have hlt:b < m.length:=Va6 (C:=C) (g:=g) hm (by intro e; simp [e] at hv)
  have hr:=Vb9 hm hlt
  rw [hb] at hr
  simp only [denB,RelB] at hr
  obtain ⟨_,⟨h1,_⟩ | ⟨k,cells,el,fz,h1,h2,h3,h4,h5⟩⟩:=hr
  ·simp [h1] at hv
  simp only [h1] at hv
  refine ⟨l,_,I,_,_,Took.box hm hw hlt (by rw [hb]; rfl),⟨k,cells,el,fz,?_,by simpa using h4,h2,h3,⟨g,h1⟩,h5⟩,h⟩
  rw [hv]; simp
theorem Vx4 (hC:CdOk C):∀ (ss:List Slot) {m:MT T} {I:Nat→Prop} {loc:Nat→Nat→Loc} {ds:List (DT T)} {vs:List Value} {K:tySs T ss→MT T→Option R} {r:R},MRel O I loc (denM C m) w→WfM L m→WfL L ds→VL I w (denL C ds) loc vs→decSsK C ss m ds K=some r →
  ∃ x own I' m' loc',Took C O I w loc L m own I' m' loc'∧SVSs C I' w ss x vs own∧K x m'=some r
 | [],m,I,loc,ds,vs,K,r,hm,hw,hwf,hv,h=>by
  simp only [decSsK] at h
  split at h
  ·simp only [denL,VL] at hv
   exact ⟨(),none',I,m,loc,.refl hm hw,hv,h⟩
  ·cases h
 | s::ss,m,I,loc,[],vs,K,r,hm,hw,hwf,hv,h=>by cases h
 | s::ss,m,I,loc,d::ds,vs,K,r,hm,hw,hwf,hv,h=>by
  simp only [decSsK] at h
  simp only [denL,VL] at hv
  obtain ⟨v,vr,rfl,hv1,hv2⟩:=hv
  obtain ⟨x,o1,I1,m1,loc1,h1,h2,h3⟩:=dec_s hC hm hw hwf.1 hv1 h
  obtain ⟨y,o2,I2,m2,loc2,g1,g2,g3⟩:=Vx4 hC ss h1.mem h1.wf hwf.2 (Vah (Vag h1.imm0) _ _ _ _ h1.ext hv2) h3
  exact ⟨(x,y),_,I2,m2,loc2,h1.trans g1,⟨v,vr,o1,o2,rfl,h2.keep (.imm g1.imm0),g2,fun _ h=>.inl h,fun _ h=>.inr h,h1.disj g1⟩,g3⟩
theorem Vtw (hC:CdOk C):∀ (fs:List Fld) {m:MT T} {I:Nat→Prop} {loc:Nat→Nat→Loc} {ds:List (DT T)} {vs:List Value} {K:tyFs T fs→MT T→Option R} {r:R},MRel O I loc (denM C m) w→WfM L m→WfL L ds→VL I w (denL C ds) loc vs→decFVsK C fs m ds K=some r →
  ∃ x own I' m' loc',Took C O I w loc L m own I' m' loc'∧SVVs C I' w fs x vs own∧K x m'=some r
 | [],m,I,loc,ds,vs,K,r,hm,hw,hwf,hv,h=>by
  simp only [decFVsK] at h
  split at h
  ·simp only [denL,VL] at hv
   exact ⟨(),none',I,m,loc,.refl hm hw,hv,h⟩
  ·cases h
 | s::ss,m,I,loc,[],vs,K,r,hm,hw,hwf,hv,h=>by cases h
 | s::ss,m,I,loc,d::ds,vs,K,r,hm,hw,hwf,hv,h=>by
  simp only [decFVsK] at h
  simp only [denL,VL] at hv
  obtain ⟨v,vr,rfl,hv1,hv2⟩:=hv
  split at h
  case h_2=>cases h
  rename_i ha
  obtain ⟨x,o1,I1,m1,loc1,h1,h2,h3⟩:=Vk2 hC hm hw hwf.1 hv1 ha h
  obtain ⟨y,o2,I2,m2,loc2,g1,g2,g3⟩:=Vtw hC ss h1.mem h1.wf hwf.2 (Vah (Vag h1.imm0) _ _ _ _ h1.ext hv2) h3
  exact ⟨(x,y),_,I2,m2,loc2,h1.trans g1,⟨v,vr,o1,o2,rfl,h2.keep (.imm g1.imm0),g2,fun _ h=>.inl h,fun _ h=>.inr h,h1.disj g1⟩,g3⟩
end
section
variable {T:Nat→Type} {C:Cd T} {O I I':Nat→Prop} {w w':World} {loc:Nat→Nat→Loc} {L:Nat→Nat→Nat} {m:MT T} {R:Type} {own own':Nat→Prop}
structure Put (C:Cd T) (O I:Nat→Prop) (w:World) (loc:Nat→Nat→Loc) (L:Nat→Nat→Nat) (m:MT T) (own:Nat→Prop) (m':MT T) (loc':Nat→Nat→Loc) (L':Nat→Nat→Nat):Prop where
 mem:MRel O I loc' (denM C m') w
 wf:WfM L' m'
 ext:LocExt loc loc'
 lext:LExt loc L L'
 own:∀ k,Owned C m' loc' k→Owned C m loc k∨own k
 len:m.length≤m'.length
 keep:∀ b,b < m.length→m'.get b=m.get b∧∀ g,loc' b g=loc b g
structure Mine (C:Cd T) (O I:Nat→Prop) (w:World) (loc:Nat→Nat→Loc) (m:MT T) (own:Nat→Prop):Prop where
 facts:∀ k,own k→O k∧¬ I k∧k < w.heap.size
 apart:∀ k,own k→¬ Owned C m loc k
theorem Mine.sub (h:Mine C O I w loc m own) (hs:∀ k,own' k→own k):Mine C O I w loc m own':=⟨fun k hk=>h.facts k (hs k hk),fun k hk=>h.apart k (hs k hk)⟩
theorem Mine.put {m':MT T} {loc':Nat→Nat→Loc} {L':Nat→Nat→Nat} {o1 o2:Nat→Prop} (h:Mine C O I w loc m o2) (p:Put C O I w loc L m o1 m' loc' L') (hd:∀ k,o1 k→¬ o2 k):Mine C O I w loc' m' o2:=
 ⟨h.facts,fun k hk hq=>by
  rcases p.own k hq with q | q
  ·exact h.apart k hk q
  ·exact hd k q hk⟩
theorem Put.refl (hm:MRel O I loc (denM C m) w) (hw:WfM L m):Put C O I w loc L m none' m loc L:=⟨hm,hw,.refl _,.refl _ _,fun _ h=>.inl h,Qv _,fun _ _=>⟨rfl,fun _=>rfl⟩⟩
theorem LocExt.free_of {loc loc':Nat→Nat→Loc} (h:LocExt loc loc') {b g:Nat} (hf:loc b g≠.free):loc' b g≠.free:=by
 rcases h b g with q | q | q
 ·exact absurd q hf
 ·rw [q]; simp
 ·rw [q]; exact hf
theorem LExt.trans {L' L'':Nat→Nat→Nat} {loc':Nat→Nat→Loc} (h1:LExt loc L L') (he:LocExt loc loc') (h2:LExt loc' L' L''):LExt loc L L'':=fun b g hf=>(h2 b g (he.free_of hf)).trans (h1 b g hf)
theorem Put.trans {m1 m2:MT T} {loc1 loc2:Nat→Nat→Loc} {L1 L2:Nat→Nat→Nat} {o1 o2:Nat→Prop} (a:Put C O I w loc L m o1 m1 loc1 L1) (b:Put C O I w loc1 L1 m1 o2 m2 loc2 L2):Put C O I w loc L m (fun k=>o1 k∨o2 k) m2 loc2 L2:=
 ⟨b.mem,b.wf,a.ext.trans b.ext,a.lext.trans a.ext b.lext,fun k h=>by
  rcases b.own k h with q | q
  ·rcases a.own k q with q | q
   ·exact .inl q
   ·exact .inr (.inl q)
  ·exact .inr (.inr q),Qab a.len b.len,fun q h=>⟨(b.keep q (Ql h a.len)).1.trans (a.keep q h).1,fun g=>((b.keep q (Ql h a.len)).2 g).trans ((a.keep q h).2 g)⟩⟩
theorem Put.sub {m':MT T} {loc':Nat→Nat→Loc} {L':Nat→Nat→Nat} (a:Put C O I w loc L m own' m' loc' L') (h:∀ k,own' k→own k):Put C O I w loc L m own m' loc' L':=
 ⟨a.mem,a.wf,a.ext,a.lext,fun k q=>(a.own k q).imp id (h k),a.len,a.keep⟩
theorem Put.add (hm:MRel O I loc (denM C m) w) (hw:WfM L m) (x:BoxT T) (l:Loc) (n:Nat) (hk:∀ k,l = .blk k→(denB C x).owned=true→own k) (ho:Mine C O I w loc m own) (hwx:WfB (updL L m.length 0 n) m.length x)
  (hx:RelB I w (locNew loc m.length l) m.length (denB C x)):Put C O I w loc L m own (m++[x]) (locNew loc m.length l) (updL L m.length 0 n):=by
 have hle:LocExt loc (locNew loc m.length l):=Var hm l
 have hb1:∀ b,b≠m.length→(denM C (m++[x])).bx b=(denM C m).bx b:=fun b e=>by simp only [denM,Vgf,if_neg e]
 have hb2:(denM C (m++[x])).bx m.length=denB C x:=by simp only [denM,Vgf,if_true]
 have hl1:∀ b g,b≠m.length→locNew loc m.length l b g=loc b g:=fun b g e=>by unfold locNew; rw [if_neg e]
 have hl2:∀ g k,locNew loc m.length l m.length g = .blk k→l = .blk k:=fun g k h=>by
  unfold locNew at h
  rw [if_pos rfl] at h
  split at h
  ·exact h
  ·cases h
 have hnb:(denM C (m++[x])).nb=m.length+1:=by simp [denM]
 have own2:∀ b g k,b < m.length+1→((denM C (m++[x])).bx b).owned=true→locNew loc m.length l b g = .blk k→(b≠m.length∧b < m.length∧((denM C m).bx b).owned=true∧loc b g = .blk k)∨(b=m.length∧own k):=fun b g k hb h1 h2=>by
  by_cases e:b=m.length
  ·subst e
   rw [hb2] at h1
   exact .inr ⟨rfl,hk k (hl2 g k h2) h1⟩
  ·rw [hb1 b e] at h1
   rw [hl1 b g e] at h2
   exact .inl ⟨e,by omega,h1,h2⟩
 refine ⟨⟨fun b hb=>?_,fun b g hb=>?_,fun b g k hb h1 h2=>?_,fun b b' g g' k hb hb' h1 h1' h2 h2'=>?_,hm.imm,hm.up⟩,Vft hm hw hwx,hle,LExt.upd (hm.free _ _ (Qv _)),fun k h=>?_,by simp,fun b hb=>⟨by rw [Vgf,if_neg (by omega)],fun g=>hl1 b g (by omega)⟩⟩
 ·rw [hnb] at hb
  by_cases e:b=m.length
  ·subst e; rw [hb2]; exact hx
  ·rw [hb1 b e]
   exact Va5 (.refl _ _) hle (fun g=>hl1 b g e) (fun _ _ _ _=>rfl) (hm.box b (by show b < m.length; omega))
 ·rw [hnb] at hb
  rw [hl1 b g (by omega)]
  exact hm.free b g (by show m.length≤b; omega)
 ·rw [hnb] at hb
  rcases own2 b g k hb h1 h2 with ⟨_,q1,q2,q3⟩ | ⟨_,q⟩
  ·exact hm.own b g k q1 q2 q3
  ·exact ho.facts k q
 ·rw [hnb] at hb hb'
  rcases own2 b g k hb h1 h2 with ⟨_,q1,q2,q3⟩ | ⟨e,q⟩
  ·rcases own2 b' g' k hb' h1' h2' with ⟨_,p1,p2,p3⟩ | ⟨e',p⟩
   ·exact hm.inj b b' g g' k q1 p1 q2 p2 q3 p3
   ·exact absurd ⟨b,g,q1,q2,q3⟩ (ho.apart k p)
  ·rcases own2 b' g' k hb' h1' h2' with ⟨_,p1,p2,p3⟩ | ⟨e',p⟩
   ·exact absurd ⟨b',g',p1,p2,p3⟩ (ho.apart k q)
   ·rw [e,e']
 ·obtain ⟨b,g,q1,q2,q3⟩:=h
  rw [Qa8,Qag,Qbe] at q1
  rcases own2 b g k q1 q2 q3 with ⟨_,p1,p2,p3⟩ | ⟨_,p⟩
  ·exact .inl ⟨b,g,p1,p2,p3⟩
  ·exact .inr p
theorem Vh9 (hm:MRel O I loc (denM C m) w) (hw:WfM L m) {c:Nat} {l:List (T c)} {v:Value} (hs:SVO C I w c l v own) (ho:Mine C O I w loc m own) :
  ∃ loc' L',Put C O I w loc L m own (m++[.arr 0 c l]) loc' L'∧V I w (den C (.bw m.length 0 c l.length:DT T)) loc' v∧WfD L' (.bw m.length 0 c l.length:DT T):=by
 rcases hs with ⟨rfl,rfl⟩ | ⟨k,o,cap,cells,el,fz,rfl,h2,h3,h4,h4',h5,h6,h7,h8⟩
 ·refine ⟨_,_,Put.add hm hw (.arr 0 c []) .nil 0 (fun k h=>by cases h) ho (by simp [WfB,updL]) ?_,?_,by simp [WfD,updL]⟩
  ·simp only [denB,RelB]
   exact ⟨⟨fun g hg=>by omega,fun g hg=>by simp [locNew]; omega⟩,.inl ⟨by simp [locNew],rfl⟩⟩
  ·simp [den,V,locNew]
 ·refine ⟨_,_,Put.add hm hw (.arr 0 c l) (.blk k) l.length (fun k' h _=>by cases h; exact h7) ho (by simp [WfB,updL]) ?_,?_,by simp [WfD,updL]⟩
  ·simp only [denB,RelB]
   exact ⟨⟨fun g hg=>by omega,fun g hg=>by simp [locNew]; omega⟩,.inr ⟨k,cells,el,fz,by simp [locNew],h5,h6,by simpa using h4',h8⟩⟩
  ·simp only [den,V,locNew,if_true]
   exact ⟨o,cap,rfl,h2,by rcases h3 with h | h<;>simp [h],by rw [rowSize,h5]; simpa using h4⟩
theorem Via (hm:MRel O I loc (denM C m) w) (hw:WfM L m) {cs:List (DT T)} {vs:List Value} {v:Value} (hs:SVP w vs v own) (hv:VL I w (denL C cs) loc vs) (hwf:WfL L cs) (ho:Mine C O I w loc m own) :
  ∃ loc' L',Put C O I w loc L m own (m++[.var cs]) loc' L'∧V I w (den C (.bp m.length 0:DT T)) loc' v:=by
 obtain ⟨k,cells,el,fz,rfl,h2,h3,h4,h5,h6⟩:=hs
 have hle:LocExt loc (locNew loc m.length (.blk k)):=Var hm _
 refine ⟨_,_,Put.add hm hw (.var cs) (.blk k) 0 (fun k' h _=>by cases h; exact h5) ho (Vfa (LExt.upd (hm.free _ _ (Qv _))) cs vs hv hwf) ?_,?_⟩
 ·simp only [denB,RelB]
  refine ⟨fun g hg=>by simp [locNew,hg],k,cells,el,fz,by simp [locNew],h2,h3,h4,?_⟩
  rw [h6]; exact Vah (.refl _ _) _ _ _ _ hle hv
 ·simp [den,V,locNew]
theorem put_f (hC:CdOk C) (hm:MRel O I loc (denM C m) w) (hw:WfM L m) {f:Fld} {x:f.ty T} {vs:List Value} (hs:SVF C I w f x vs own) (ho:Mine C O I w loc m own) :
  ∃ loc' L',Put C O I w loc L m own (m++(encF C m.length f x).2) loc' L'∧VL I w (denL C (encF C m.length f x).1) loc' vs∧WfL L' (encF C m.length f x).1:=by
 cases f with
 | v t=>exact ⟨loc,L,by simpa [encF] using (Put.refl hm hw).sub (fun _ h=>h.elim),Vcr hs,Vat _ (Vaq hC t x)⟩
 | own c=>
  obtain ⟨v,rfl,h⟩:=hs
  obtain ⟨loc',L',h1,h2,h3⟩:=Vh9 hm hw h ho
  exact ⟨loc',L',h1,by simp only [encF,denL,VL]; exact ⟨v,[],rfl,h2,rfl⟩,⟨h3,trivial⟩⟩
 | pt t=>
  obtain ⟨v,cs,rfl,h1,h2⟩:=hs
  obtain ⟨loc',L',g1,g2⟩:=Via hm hw h1 (Vcr h2) (Vat _ (Vaq hC t x)) ho
  exact ⟨loc',L',g1,by simp only [encF,denL,VL]; exact ⟨v,[],rfl,g2,rfl⟩,⟨trivial,trivial⟩⟩
 | st a c b=>
  obtain ⟨u,v,z,rfl,h1,h2,h3⟩:=hs
  obtain ⟨loc',L',g1,g2,g3⟩:=Vh9 hm hw h2 ho
  refine ⟨loc',L',g1,?_,?_⟩
  ·simp only [encF,Vcu,denL]
   refine Va0 (Vcr h1) ?_
   simp only [VL]
   exact ⟨v,z,rfl,g2,Vcr h3⟩
  ·simp only [encF,WfL_iff,Q1,Qbk]
   rintro d (hd | rfl | hd)
   ·exact WfL_iff.1 (Vat _ (Vaq hC a x.1)) d hd
   ·exact g3
   ·exact WfL_iff.1 (Vat _ (Vaq hC b x.2.2)) d hd
 | fp f t=>
  obtain ⟨v,cs,rfl,h1,h2⟩:=hs
  obtain ⟨loc',L',g1,g2⟩:=Via hm hw h1 (Vcr h2) (Vat _ (Vaq hC t x)) ho
  exact ⟨loc',L',g1,by simp only [encF,denL,VL,den,V]; exact ⟨_,[],rfl,⟨[v],rfl,v,[],rfl,by simpa only [den,V] using g2,rfl⟩,rfl⟩,⟨⟨trivial,trivial⟩,trivial⟩⟩
theorem Vtx (hC:CdOk C):∀ (fs:List Fld) {m:MT T} {loc:Nat→Nat→Loc} {L:Nat→Nat→Nat} {x:tyFs T fs} {vs:List Value} {own:Nat→Prop},MRel O I loc (denM C m) w→WfM L m→SVFs C I w fs x vs own→Mine C O I w loc m own →
  ∃ loc' L',Put C O I w loc L m own (m++(encFs C m.length fs x).2) loc' L'∧VL I w (denL C (encFs C m.length fs x).1) loc' vs∧WfL L' (encFs C m.length fs x).1
 | [],m,loc,L,x,vs,own,hm,hw,hs,ho=>⟨loc,L,by simpa [encFs] using (Put.refl hm hw).sub (fun _ h=>h.elim),by have h:vs=[]:=hs; simp [encFs,denL,VL,h],trivial⟩
 | f::fs,m,loc,L,x,vs,own,hm,hw,hs,ho=>by
  obtain ⟨a,b,o1,o2,rfl,h1,h2,h3,h4,h5⟩:=hs
  obtain ⟨loc1,L1,p1,p2,p3⟩:=put_f hC hm hw h1 (ho.sub h3)
  obtain ⟨loc2,L2,q1,q2,q3⟩:=Vtx hC fs p1.mem p1.wf (h2.keep (.imm fun _ h=>h)) ((ho.sub h4).put p1 h5)
  have hlen:(m++(encF C m.length f x.1).2).length=m.length+(encF C m.length f x.1).2.length:=by simp
  rw [hlen] at q1 q2 q3
  refine ⟨loc2,L2,?_,?_,?_⟩
  ·have:=(p1.trans q1).sub (own:=own) (fun k h=>h.elim (h3 k) (h4 k))
   simpa [encFs,Qad] using this
  ·simp only [encFs,Vcu]
   exact Va0 (Vah (.refl _ _) _ _ _ _ q1.ext p2) q2
  ·simp only [encFs,WfL_iff,Q1]
   rintro d (hd | hd)
   ·exact WfL_iff.1 (Vfa q1.lext _ _ p2 p3) d hd
   ·exact WfL_iff.1 q3 d hd
theorem Vz4 (hC:CdOk C) (t:VT) (x:t.ty T):WfD L (encV C t x):=by
 have hc:=Vaq hC t x
 cases t with
 | agg c=>exact Vat (L:=L) _ hc
 | nil=>trivial
 | cons a b=>
  show WfD L ((encC C (.cons a b) x).headD .dead)
  cases h:encC C (.cons a b) x with
  | nil=>trivial
  | cons d r=>rw [h] at hc; simp only [cleanL,Qb] at hc; exact Vo0 d hc.1
 | fn f cs=>exact Vat (L:=L) _ (Vaq hC cs x)
 | _=>trivial
theorem put_v (hC:CdOk C) (hm:MRel O I loc (denM C m) w) (hw:WfM L m) {f:Fld} {x:f.ty T} {v:Value} (hs:SVV C I w f x v own) (ho:Mine C O I w loc m own) :
  ∃ loc' L',Put C O I w loc L m own (m++(encFV C m.length f x).2) loc' L'∧V I w (den C (encFV C m.length f x).1) loc' v∧WfD L' (encFV C m.length f x).1:=by
 cases f with
 | v t=>exact ⟨loc,L,by simpa [encFV] using (Put.refl hm hw).sub (fun _ h=>h.elim),Von hs,Vz4 hC t x⟩
 | own c=>
  obtain ⟨loc',L',h1,h2,h3⟩:=Vh9 hm hw hs ho
  exact ⟨loc',L',h1,h2,h3⟩
 | pt t=>
  obtain ⟨cs,h1,h2⟩:=hs
  obtain ⟨loc',L',g1,g2⟩:=Via hm hw h1 (Vcr h2) (Vat _ (Vaq hC t x)) ho
  exact ⟨loc',L',g1,g2,trivial⟩
 | st a c b=>
  obtain ⟨vs,rfl,q,u,v,z,rfl,h1,h2,h3⟩:=hs
  obtain ⟨loc',L',g1,g2,g3⟩:=Vh9 hm hw h2 ho
  refine ⟨loc',L',g1,?_,?_⟩
  ·simp only [encFV,den,V,Vcu,denL]
   refine ⟨_,rfl,q,Va0 (Vcr h1) ?_⟩
   simp only [VL]
   exact ⟨v,z,rfl,g2,Vcr h3⟩
  ·show WfL L' _
   simp only [WfL_iff,Q1,Qbk]
   rintro d (hd | rfl | hd)
   ·exact WfL_iff.1 (Vat _ (Vaq hC a x.1)) d hd
   ·exact g3
   ·exact WfL_iff.1 (Vat _ (Vaq hC b x.2.2)) d hd
 | fp f t=>
  obtain ⟨p,cs,rfl,h1,h2⟩:=hs
  obtain ⟨loc',L',g1,g2⟩:=Via hm hw h1 (Vcr h2) (Vat _ (Vaq hC t x)) ho
  exact ⟨loc',L',g1,by simp only [encFV,den,denL,V,VL]; exact ⟨[p],rfl,p,[],rfl,by simpa only [den,V] using g2,rfl⟩,⟨trivial,trivial⟩⟩
theorem Vty (hC:CdOk C):∀ (fs:List Fld) {m:MT T} {loc:Nat→Nat→Loc} {L:Nat→Nat→Nat} {x:tyFs T fs} {vs:List Value} {own:Nat→Prop},MRel O I loc (denM C m) w→WfM L m→SVVs C I w fs x vs own→Mine C O I w loc m own →
  ∃ loc' L',Put C O I w loc L m own (m++(encFVs C m.length fs x).2) loc' L'∧VL I w (denL C (encFVs C m.length fs x).1) loc' vs∧WfL L' (encFVs C m.length fs x).1
 | [],m,loc,L,x,vs,own,hm,hw,hs,ho=>⟨loc,L,by simpa [encFVs] using (Put.refl hm hw).sub (fun _ h=>h.elim),by have h:vs=[]:=hs; simp [encFVs,denL,VL,h],trivial⟩
 | f::fs,m,loc,L,x,vs,own,hm,hw,hs,ho=>by
  obtain ⟨v,vr,o1,o2,rfl,h1,h2,h3,h4,h5⟩:=hs
  obtain ⟨loc1,L1,p1,p2,p3⟩:=put_v hC hm hw h1 (ho.sub h3)
  obtain ⟨loc2,L2,q1,q2,q3⟩:=Vty hC fs p1.mem p1.wf (h2.keep (.imm fun _ h=>h)) ((ho.sub h4).put p1 h5)
  have hlen:(m++(encFV C m.length f x.1).2).length=m.length+(encFV C m.length f x.1).2.length:=by simp
  rw [hlen] at q1 q2 q3
  refine ⟨loc2,L2,?_,?_,?_⟩
  ·have:=(p1.trans q1).sub (own:=own) (fun k h=>h.elim (h3 k) (h4 k))
   simpa [encFVs,Qad] using this
  ·simp only [encFVs,denL,VL]
   exact ⟨v,vr,rfl,Va4 (.refl _ _) _ _ _ _ q1.ext p2,q2⟩
  ·simp only [encFVs,WfL]
   exact ⟨Vkw q1.lext _ _ p2 p3,q3⟩
theorem put_s (hC:CdOk C) (hm:MRel O I loc (denM C m) w) (hw:WfM L m) {s:Slot} {x:s.ty T} {v:Value} (hs:SVS C I w s x v own) (ho:Mine C O I w loc m own) :
  ∃ loc' L',Put C O I w loc L m own (m++(encS C m.length s x).2) loc' L'∧V I w (den C (encS C m.length s x).1) loc' v∧WfD L' (encS C m.length s x).1:=by
 cases s with
 | f f=>exact put_v hC hm hw hs ho
 | ptr fs=>
  obtain ⟨cs,o1,o2,h1,h2,h3,h4,h5⟩:=hs
  obtain ⟨loc1,L1,p1,p2,p3⟩:=Vtx hC fs hm hw h2 (ho.sub h4)
  obtain ⟨loc2,L2,q1,q2⟩:=Via p1.mem p1.wf h1 p2 p3 ((ho.sub h3).put p1 (fun k a b=>h5 k b a))
  have hlen:(m++(encFs C m.length fs x).2).length=m.length+(encFs C m.length fs x).2.length:=by simp
  rw [hlen] at q2
  refine ⟨loc2,L2,?_,q2,trivial⟩
  have:=(p1.trans q1).sub (own:=own) (fun k h=>h.elim (h4 k) (h3 k))
  simpa [encS,Qad] using this
 | inp c=>exact Vh9 hm hw hs ho
 | iter=>
  obtain ⟨k,rfl,h2,h3⟩:=hs
  refine ⟨_,_,Put.add hm hw (.iter x.1 x.2) (.blk k) 0 (fun k' h _=>by cases h; exact h3) ho trivial ?_,?_,trivial⟩
  ·simp only [denB,RelB]
   exact ⟨fun g hg=>by simp [locNew,hg],k,by simp [locNew],h2⟩
  ·simp [encS,den,V,locNew]
 | mset a c=>
  obtain ⟨k,es,ck,rfl,h2,h3,h4⟩:=hs
  refine ⟨_,_,Put.add hm hw (.mset a c x) (.blk k) 0 (fun k' h _=>by cases h; exact h3) ho trivial ?_,?_,trivial⟩
  ·simp only [denB,RelB]
   exact ⟨fun g hg=>by simp [locNew,hg],k,es,ck,by simp [locNew],h2,h4⟩
  ·simp [encS,den,V,locNew]
 | lar c=>
  change List (T c) at x
  obtain ⟨k,cells,el,fz,rfl,h2,h3,h4,h5,h6⟩:=hs
  refine ⟨_,_,Put.add hm hw (.arr 0 c x) (.blk k) (List.length x) (fun k' h _=>by cases h; exact h5) ho (by simp [WfB,updL]) ?_,?_,trivial⟩
  ·simp only [denB,RelB]
   exact ⟨⟨fun g hg=>by omega,fun g hg=>by simp [locNew]; omega⟩,.inr ⟨k,cells,el,fz,by simp [locNew],h3,h4,by rw [Q8]; exact h2,h6⟩⟩
  ·simp [encS,den,V,locNew]
theorem Vtz (hC:CdOk C):∀ (ss:List Slot) {m:MT T} {loc:Nat→Nat→Loc} {L:Nat→Nat→Nat} {x:tySs T ss} {vs:List Value} {own:Nat→Prop},MRel O I loc (denM C m) w→WfM L m→SVSs C I w ss x vs own→Mine C O I w loc m own →
  ∃ loc' L',Put C O I w loc L m own (m++(encSs C m.length ss x).2) loc' L'∧VL I w (denL C (encSs C m.length ss x).1) loc' vs∧WfL L' (encSs C m.length ss x).1
 | [],m,loc,L,x,vs,own,hm,hw,hs,ho=>⟨loc,L,by simpa [encSs] using (Put.refl hm hw).sub (fun _ h=>h.elim),by have h:vs=[]:=hs; simp [encSs,denL,VL,h],trivial⟩
 | f::fs,m,loc,L,x,vs,own,hm,hw,hs,ho=>by
  obtain ⟨v,vr,o1,o2,rfl,h1,h2,h3,h4,h5⟩:=hs
  obtain ⟨loc1,L1,p1,p2,p3⟩:=put_s hC hm hw h1 (ho.sub h3)
  obtain ⟨loc2,L2,q1,q2,q3⟩:=Vtz hC fs p1.mem p1.wf (h2.keep (.imm fun _ h=>h)) ((ho.sub h4).put p1 h5)
  have hlen:(m++(encS C m.length f x.1).2).length=m.length+(encS C m.length f x.1).2.length:=by simp
  rw [hlen] at q1 q2 q3
  refine ⟨loc2,L2,?_,?_,?_⟩
  ·have:=(p1.trans q1).sub (own:=own) (fun k h=>h.elim (h3 k) (h4 k))
   simpa [encSs,Qad] using this
  ·simp only [encSs,denL,VL]
   exact ⟨v,vr,rfl,Va4 (.refl _ _) _ _ _ _ q1.ext p2,q2⟩
  ·simp only [encSs,WfL]
   exact ⟨Vkw q1.lext _ _ p2 p3,q3⟩
end
section
variable {T:Nat→Type}
def resV:List Value→Value
 | [x]=>x
 | l=>.tuple l.toArray
def SVOuts (C:Cd T) (I:Nat→Prop) (w:World):(ss:List Slot)→tyO T ss→List Value→(Nat→Prop)→Prop
 | [],_,_,_=>True
 | .ptr fs::r,x,vs,own=>∃ v vr o1 o2,vs=v::vr∧SVS C I w (.ptr fs) x.1 v o1∧SVOuts C I w r x.2 vr o2∧(∀ k,o1 k→own k)∧(∀ k,o2 k→own k)∧(∀ k,o1 k→¬ o2 k)
 | .inp c::r,x,vs,own=>∃ v vr o1 o2,vs=v::vr∧SVO C I w c x.1 v o1∧SVOuts C I w r x.2 vr o2∧(∀ k,o1 k→own k)∧(∀ k,o2 k→own k)∧(∀ k,o1 k→¬ o2 k)
 | .f _::r,x,vs,own=>∃ v vr,vs=v::vr∧SVOuts C I w r x vr own
 | .iter::r,x,vs,own=>∃ v vr,vs=v::vr∧SVOuts C I w r x vr own
 | .lar _::r,x,vs,own=>∃ v vr,vs=v::vr∧SVOuts C I w r x vr own
 | .mset _ _::r,x,vs,own=>∃ v vr,vs=v::vr∧SVOuts C I w r x vr own
def SoundT (P:Program) (C:Cd T) (G:Nat→Option (List D)) (f:FuncId) (S:FSpec T):Prop:=
 (∃ fn, P.funcs[f]? = some fn ∧ fn.body.isSome = true ∧ (fn.name == "runtime.NumGoroutine") = false) ∧
 ∀ (I own:Nat→Prop) (w:World) (args:List Value) (x:tySs T S.ps) (r:tyO T S.ps×tyFs T S.rs),
  (∀ k,I k→k < w.heap.size)→(∀ k,own k→¬ I k∧k < w.heap.size)→Glob G I w→SVSs C I w S.ps x args own→S.fn x=some r →
  Calls P f args.toArray w fun e w'=>∃ vs I' o1 o2,e = .returned (resV vs)∧Fr (fun k=>own k∨w.heap.size≤k) w w'∧(∀ b,rowSize w b≤rowSize w' b)∧(∀ k,I k→I' k)∧(∀ k,I' k→I k∨own k∨w.heap.size≤k)∧(∀ k,I' k→k < w'.heap.size) ∧
   (∀ k,o1 k∨o2 k→(own k∨w.heap.size≤k)∧¬ I' k∧k < w'.heap.size)∧(∀ k,o1 k→¬ o2 k)∧SVOuts C I' w' S.ps r.1 args o1∧SVVs C I' w' S.rs r.2 vs o2
variable {C:Cd T} {O I I':Nat→Prop} {w w':World} {loc:Nat→Nat→Loc} {L:Nat→Nat→Nat} {m m0:MT T} {R:Type} {own own':Nat→Prop} {P:Program}
mutual
theorem Vfl {I2:Nat→Prop} {w2:World} {loc2:Nat→Nat→Loc}:∀ (d:D) (v:Value),d.flat=true→V I w d loc v→V I2 w2 d loc2 v
 | .bool _,_,_,h=>by simpa only [V] using h
 | .int _ _,_,_,h=>by simpa only [V] using h
 | .str _,_,_,h=>by simpa only [V] using h
 | .lit _,_,_,h=>by simpa only [V] using h
 | .nilp,_,_,h=>by simpa only [V] using h
 | .nils,_,_,h=>by simpa only [V] using h
 | .agg cs,v,hf,h=>by
  simp only [V] at h ⊢
  obtain ⟨vs,h1,h2,h3⟩:=h
  exact ⟨vs,h1,h2,VLfl cs vs hf h3⟩
 | .tup cs,v,hf,h=>by
  simp only [V] at h ⊢
  obtain ⟨vs,h1,h3⟩:=h
  exact ⟨vs,h1,VLfl cs vs hf h3⟩
 | .dead,_,_,_=>trivial
 | .rp _,_,hf,_=>by cases hf
 | .bp _ _,_,hf,_=>by cases hf
 | .ap _ _ _ _ _,_,hf,_=>by cases hf
 | .rs _ _,_,hf,_=>by cases hf
 | .bs _ _ _ _ _,_,hf,_=>by cases hf
 | .fn _ _,_,hf,_=>by cases hf
theorem VLfl {I2:Nat→Prop} {w2:World} {loc2:Nat→Nat→Loc}:∀ (ds:List D) (vs:List Value),flatL ds=true→VL I w ds loc vs→VL I2 w2 ds loc2 vs
 | [],vs,_,h=>by simpa only [VL] using h
 | d::r,vs,hf,h=>by
  simp only [flatL,Qb] at hf
  simp only [VL] at h ⊢
  obtain ⟨v,vr,rfl,h1,h2⟩:=h
  exact ⟨v,vr,rfl,Vfl d v hf.1 h1,VLfl r vr hf.2 h2⟩
end
theorem Vz5 {I2:Nat→Prop} {ds:List D} {b o:Nat} (hf:flatL ds=true) (h:VC I w ds b o):VC I2 w ds b o:=by
 obtain ⟨vs,h1,h2,h3⟩:=Vc8 h
 exact Vdm (VLfl ds vs hf h1) h2 h3
def FlOk (C:Cd T) (fl:Nat→Bool):Prop:=∀ c,fl c=true→∀ x,flatL (C.encD c x)=true
theorem Vwq {fl:Nat→Bool} (hfl:FlOk C fl) {I2:Nat→Prop} {c:Nat} {l:List (T c)} {v:Value} (hf:fl c=true) (h:SVO C I w c l v own):SVO C I2 w c l v own:=by
 rcases h with h | ⟨k,o,cap,cells,el,fz,h1,h2,h3,h4,h4',h5,h6,h7,h8⟩
 ·exact .inl h
 ·refine .inr ⟨k,o,cap,cells,el,fz,h1,h2,h3,h4,h4',h5,h6,h7,?_⟩
  rw [Vl2] at h8 ⊢
  intro i row hi
  obtain ⟨q1,q2⟩:=h8 i row hi
  rw [Qa9,Qaf] at hi
  obtain ⟨x,_,rfl⟩:=hi
  exact ⟨q1,Vz5 (hfl c hf x) q2⟩
theorem Vml (hC:CdOk C) {fl:Nat→Bool} (hfl:FlOk C fl) {t:VT} (x:t.ty T) (hf:(Fld.v t).flat fl=true):flatL (denL C (encC C t x))=true:=by
 cases t<;>simp only [Fld.flat,VT.flat] at hf<;>first | (cases hf; done) | rfl | skip
 rename_i c
 show flatL (denL C (C.enc c x))=true
 exact (congrArg (fun q=>flatL q=true) (hC.enc c x)).mpr (hfl c hf x)
theorem Vt0 (hC:CdOk C) {fl:Nat→Bool} (hfl:FlOk C fl) {t:VT} (x:t.ty T) (hf:(Fld.v t).flat fl=true):(den C (encV C t x)).flat=true:=by
 have:=Vml hC hfl x hf
 cases t<;>simp only [Fld.flat,VT.flat] at hf<;>first | (cases hf; done) | rfl | skip
 exact this
theorem Vwr (hC:CdOk C) {fl:Nat→Bool} (hfl:FlOk C fl) {I2:Nat→Prop} {f:Fld} {x:f.ty T} {v:Value} (hf:f.flat fl=true) (h:SVV C I w f x v own):SVV C I2 w f x v own:=by
 cases f with
 | v t=>exact Vfl _ v (Vt0 hC hfl x hf) h
 | own c=>exact Vwq hfl hf h
 | pt t=>
  obtain ⟨cs,h1,h2⟩:=h
  refine ⟨cs,h1,VLfl _ cs (Vml hC hfl x ?_) h2⟩
  cases t<;>exact hf
 | st a c b=>cases hf
 | fp f t=>cases hf
theorem Vib (hC:CdOk C) {fl:Nat→Bool} (hfl:FlOk C fl) {I2:Nat→Prop}:∀ {fs:List Fld} {x:tyFs T fs} {vs:List Value} {own:Nat→Prop},fs.all (Fld.flat fl)=true→SVVs C I w fs x vs own→SVVs C I2 w fs x vs own
 | [],x,vs,own,hf,h=>h
 | f::r,x,vs,own,hf,h=>by
  simp only [Q6,Qb] at hf
  obtain ⟨v,vr,o1,o2,h1,h2,h3,h4⟩:=h
  exact ⟨v,vr,o1,o2,h1,Vwr hC hfl hf.1 h2,Vib hC hfl hf.2 h3,h4⟩
theorem Vo6 (hC:CdOk C) (hm:MRel O I loc (denM C m) w) (hw:WfM L m) {t:VT} {d:DT T} {v:Value} {K:List (DT T)→Option R} {r:R} (hwf:WfD L d) (hv:V I w (den C d) loc v) (ha:d.as (.v t)=true) (h:mapK (purK C m true 8) d.cells K=some r) :
  ∃ cs,(∀ x,decC C t cs=some x→V (fun k=>k < w.heap.size) w (den C (encV C t x)) free v)∧K cs=some r:=by
 rw [Vbs,Qd] at h
 obtain ⟨cs,h1,h2⟩:=h
 have hc:=Vcv (Vh8 ha) hv
 have h3:=Vh1 (purK C m true 8) (fun d=>purK C m true 8 d some) (fun x K=>Vfq C m true 8 x K) d.cells cs h1
 have hw2:=Vbp hwf
 have:=Vks (J:=fun k=>k < w.heap.size) (loc':=free) d.cells cs _ h3 hc (fun q q' u hq hp hu=>Vnk hC hm hw hm.imm true 8 q q' u (.inl fun _ h=>h) hp (WfL_iff.1 hw2 q hq) hu)
 exact ⟨cs,fun x hx=>V_as ha hv (Vtp hC t cs x hx _ w _ this.1),h2⟩
theorem look_ok (hC:CdOk C) (hm:MRel O I loc (denM C m) w) (hw:WfM L m):∀ (ss:List Slot) {ds:List (DT T)} {vs:List Value} {K:tySs T ss→Option R} {r:R},WfL L ds→VL I w (denL C ds) loc vs→decVsK C m ss ds K=some r →
  ∃ x,SVSs C (fun k=>k < w.heap.size) w ss x vs none'∧K x=some r
 | [],ds,vs,K,r,hwf,hv,h=>by
  simp only [decVsK] at h
  split at h
  ·simp only [denL,VL] at hv
   exact ⟨(),hv,h⟩
  ·cases h
 | .f (.v t)::ss,[],vs,K,r,hwf,hv,h=>by simp [decVsK] at h
 | .f (.v t)::ss,d::ds,vs,K,r,hwf,hv,h=>by
  simp only [decVsK] at h
  split at h
  case h_2=>cases h
  rename_i ha
  simp only [denL,VL] at hv
  obtain ⟨v,vr,rfl,hv1,hv2⟩:=hv
  obtain ⟨cs,h1,h2⟩:=Vo6 hC hm hw hwf.1 hv1 ha h
  split at h2
  case h_2=>cases h2
  rename_i x hx
  obtain ⟨y,g1,g2⟩:=look_ok hC hm hw ss hwf.2 hv2 h2
  exact ⟨(x,y),⟨v,vr,none',none',rfl,h1 x hx,g1,fun _ h=>h.elim,fun _ h=>h.elim,fun _ h=>h.elim⟩,g2⟩
 | .f (.own c)::ss,ds,vs,K,r,hwf,hv,h=>by simp [decVsK] at h
 | .f (.pt c)::ss,ds,vs,K,r,hwf,hv,h=>by simp [decVsK] at h
 | .f (.st _ _ _)::ss,ds,vs,K,r,hwf,hv,h=>by simp [decVsK] at h
 | .f (.fp _ _)::ss,ds,vs,K,r,hwf,hv,h=>by simp [decVsK] at h
 | .ptr fs::ss,ds,vs,K,r,hwf,hv,h=>by simp [decVsK] at h
 | .inp c::ss,ds,vs,K,r,hwf,hv,h=>by simp [decVsK] at h
 | .iter::ss,ds,vs,K,r,hwf,hv,h=>by simp [decVsK] at h
 | .lar _::ss,ds,vs,K,r,hwf,hv,h=>by simp [decVsK] at h
 | .mset _ _::ss,ds,vs,K,r,hwf,hv,h=>by simp [decVsK] at h
theorem Vws (h:Fr (fun k=>none' k∨w.heap.size≤k) w w'):Fr none' w w':=
 ⟨h.os,h.tape,h.output,h.size,fun b hb _=>h.block b hb (fun q=>q.elim (fun q=>q.elim) (fun q=>by omega))⟩
theorem MRel.stepO {M:Mem} (hm:MRel O I loc M w) (hf:Fr (fun k=>own k∨w.heap.size≤k) w w') (hr:∀ b,rowSize w b≤rowSize w' b) (hI:∀ k,I k→I' k) (hI2:∀ k,I' k→I k∨own k∨w.heap.size≤k) (hI3:∀ k,I' k→k < w'.heap.size)
  (h1:∀ k,own k→¬ I k) (h2:∀ b g k,b < M.nb→(M.bx b).owned=true→loc b g = .blk k→¬ own k):MRel O I' loc M w'∧Ext I I' w w':=by
 have hsame:∀ k,k < w.heap.size→¬ own k→w'.heap[k]? = w.heap[k]?:=fun k hk ho=>hf.block k hk (fun q=>q.elim ho (fun q=>by omega))
 have he:Ext I I' w w':=⟨hI,fun k hk=>hsame k (hm.imm k hk) (fun q=>h1 k q hk),hr⟩
 refine ⟨⟨fun b hb=>Va5 he (.refl _) (fun _=>rfl) (fun ho g k hk=>hsame k (hm.own b g k hb ho hk).2.2 (h2 b g k hb ho hk)) (hm.box b hb),hm.free,fun b g k hb ho hk=>?_,hm.inj,hI3,fun k hk=>hm.up k (Qab hf.size hk)⟩,he⟩
 have:=hm.own b g k hb ho hk
 refine ⟨this.1,fun q=>?_,Ql this.2.2 hf.size⟩
 rcases hI2 k q with q | q | q
 ·exact this.2.1 q
 ·exact h2 b g k hb ho hk q
 ·omega
def LentP (m:MT T) (loc:Nat→Nat→Loc) (b:Nat) (v:Value):Prop:=b < m.length∧m.get b = .lent∧∃ k,v = .pointer (some ⟨k,0,none⟩)∧loc b 0 = .blk k∧∀ g,g≠0→loc b g = .free
def LentA (m0 m:MT T) (loc:Nat→Nat→Loc) (L:Nat→Nat→Nat) (b c:Nat) (v:Value):Prop:=
 b < m.length∧m.get b = .lent∧∃ g l0,m0.get b = .arr g c l0∧(∀ g',g' < g→loc b g' = .stale)∧(∀ g',g < g'→loc b g' = .free)∧∃ a n cap,v = .slice a n cap∧L b g=n∧((loc b g = .nil∧a=none)∨∃ k o,loc b g = .blk k∧a=some ⟨k,o,none⟩)
def Lent (m0 m:MT T) (loc:Nat→Nat→Loc) (L:Nat→Nat→Nat):List Slot→List Nat→List Value→Prop
 | [],ids,_=>ids=[]
 | .ptr _::r,ids,vs=>∃ b ir v vr,ids=b::ir∧vs=v::vr∧LentP m loc b v∧(∀ b'∈ir,b'≠b)∧Lent m0 m loc L r ir vr
 | .inp c::r,ids,vs=>∃ b ir v vr,ids=b::ir∧vs=v::vr∧LentA m0 m loc L b c v∧(∀ b'∈ir,b'≠b)∧Lent m0 m loc L r ir vr
 | .f _::r,ids,vs=>∃ v vr,vs=v::vr∧Lent m0 m loc L r ids vr
 | .iter::r,ids,vs=>∃ v vr,vs=v::vr∧Lent m0 m loc L r ids vr
 | .lar _::r,ids,vs=>∃ v vr,vs=v::vr∧Lent m0 m loc L r ids vr
 | .mset _ _::r,ids,vs=>∃ v vr,vs=v::vr∧Lent m0 m loc L r ids vr
theorem Took.lend (hm:MRel O I loc (denM C m) w) (hw:WfM L m) {b:Nat} (hb:b < m.length) (ho:(denB C (m.get b)).owned=true):Took C O I w loc L m (fun k=>∃ g,loc b g = .blk k) I (m.put b .lent) loc:=by
 have hbx:∀ b',(denM C (m.put b .lent)).bx b'=if b'=b then .lent else (denM C m).bx b':=fun b'=>by
  simp only [denM,Vbd hb]
  split<;>rfl
 have hnb:(denM C (m.put b .lent)).nb=m.length:=by simp [denM,Vb0]
 have hne:∀ {b'},((denM C (m.put b .lent)).bx b').owned=true→b'≠b∧((denM C m).bx b').owned=true:=fun {b'} h=>by
  rw [hbx] at h
  by_cases e:b'=b
  ·rw [if_pos e] at h; cases h
  ·rw [if_neg e] at h; exact ⟨e,h⟩
 refine ⟨⟨fun b' hb'=>?_,fun b' g hb'=>?_,fun b' g k hb' ho' hk=>?_,fun b1 b2 g1 g2 k h1 h2 o1 o2 k1 k2=>?_,hm.imm,hm.up⟩,Vds hb hw trivial,fun _ h=>h,fun _ h=>.inl h,.refl _,fun k h=>?_,fun k h=>?_,Vb0,fun b' h=>⟨?_,fun _=>rfl⟩,fun b' g c l h=>?_⟩
 ·rw [hnb] at hb'
  rw [hbx]
  by_cases e:b'=b
  ·rw [if_pos e]; trivial
  ·rw [if_neg e]; exact hm.box b' hb'
 ·rw [hnb] at hb'; exact hm.free b' g hb'
 ·rw [hnb] at hb'
  exact hm.own b' g k hb' (hne ho').2 hk
 ·rw [hnb] at h1 h2
  exact hm.inj b1 b2 g1 g2 k h1 h2 (hne o1).2 (hne o2).2 k1 k2
 ·obtain ⟨g,hg⟩:=h
  exact ⟨(hm.own b g k hb ho hg).2.1,b,g,hb,ho,hg⟩
 ·obtain ⟨b',g,q1,q2,q3⟩:=h
  rw [Vb0] at q1
  obtain ⟨e,h⟩:=hne (b':=b') q2
  exact ⟨fun ⟨g',hg'⟩=>e (hm.inj b' b g g' k q1 hb h ho q3 hg'),b',g,q1,h,q3⟩
 ·rw [Vbd hb]
  split
  ·rfl
  ·exact h
 ·rw [Vbd hb] at h
  split at h
  ·cases h
  ·exact h
theorem Vgh (hC:CdOk C) (m0:MT T):∀ (ss:List Slot) {m:MT T} {I:Nat→Prop} {loc:Nat→Nat→Loc} {ds:List (DT T)} {vs:List Value} {K:tySs T ss→List Nat→MT T→Option R} {r:R},MRel O I loc (denM C m) w→WfM L m→WfL L ds→VL I w (denL C ds) loc vs →
  (∀ b g c l,m.get b = .arr g c l→m0.get b = .arr g c l)→argsK C false ss m ds K=some r →
  ∃ x ids own I' m' loc',Took C O I w loc L m own I' m' loc'∧SVSs C I' w ss x vs own∧Lent m0 m' loc' L ss ids vs∧(∀ b∈ids,m.get b≠.lent)∧K x ids m'=some r
 | [],m,I,loc,ds,vs,K,r,hm,hw,hwf,hv,h0,h=>by
  simp only [argsK] at h
  split at h
  ·simp only [denL,VL] at hv
   exact ⟨(),[],none',I,m,loc,.refl hm hw,hv,rfl,by simp,h⟩
  ·cases h
 | .f (.v t)::ss,m,I,loc,[],vs,K,r,hm,hw,hwf,hv,h0,h=>by simp [argsK] at h
 | .f (.v t)::ss,m,I,loc,d::ds,vs,K,r,hm,hw,hwf,hv,h0,h=>by
  simp only [argsK] at h
  split at h
  case h_2=>cases h
  rename_i ha
  simp only [denL,VL] at hv
  obtain ⟨v,vr,rfl,hv1,hv2⟩:=hv
  obtain ⟨x,o1,I1,m1,loc1,h1,h2,h3⟩:=Vk2 hC hm hw hwf.1 hv1 ha h
  obtain ⟨y,ids,o2,I2,m2,loc2,g1,g2,g3,g4,g5⟩:=Vgh hC m0 ss h1.mem h1.wf hwf.2 (Vah (Vag h1.imm0) _ _ _ _ h1.ext hv2) (fun b g c l hb=>h0 b g c l (h1.arrs b g c l hb)) h3
  refine ⟨(x,y),ids,_,I2,m2,loc2,h1.trans g1,⟨v,vr,o1,o2,rfl,SVV.keep (.imm g1.imm0) h2,g2,fun _ h=>.inl h,fun _ h=>.inr h,h1.disj g1⟩,⟨v,vr,rfl,g3⟩,fun b hb hl=>g4 b hb (h1.lent b hl).1,g5⟩
 | .f (.own c)::ss,m,I,loc,[],vs,K,r,hm,hw,hwf,hv,h0,h=>by simp [argsK] at h
 | .f (.own c)::ss,m,I,loc,d::ds,vs,K,r,hm,hw,hwf,hv,h0,h=>by
  simp only [argsK] at h
  simp only [denL,VL] at hv
  obtain ⟨v,vr,rfl,hv1,hv2⟩:=hv
  obtain ⟨x,o1,I1,m1,loc1,h1,h2,h3⟩:=Vh7 hm hw hwf.1 hv1 h
  obtain ⟨y,ids,o2,I2,m2,loc2,g1,g2,g3,g4,g5⟩:=Vgh hC m0 ss h1.mem h1.wf hwf.2 (Vah (Vag h1.imm0) _ _ _ _ h1.ext hv2) (fun b g c l hb=>h0 b g c l (h1.arrs b g c l hb)) h3
  exact ⟨(x,y),ids,_,I2,m2,loc2,h1.trans g1,⟨v,vr,o1,o2,rfl,SVO.keep (.imm g1.imm0) h2,g2,fun _ h=>.inl h,fun _ h=>.inr h,h1.disj g1⟩,⟨v,vr,rfl,g3⟩,fun b hb hl=>g4 b hb (h1.lent b hl).1,g5⟩
 | .f (.pt c)::ss,m,I,loc,ds,vs,K,r,hm,hw,hwf,hv,h0,h=>by simp [argsK] at h
 | .f (.st _ _ _)::ss,m,I,loc,ds,vs,K,r,hm,hw,hwf,hv,h0,h=>by simp [argsK] at h
 | .f (.fp f t)::ss,m,I,loc,[],vs,K,r,hm,hw,hwf,hv,h0,h=>by simp [argsK] at h
 | .f (.fp f t)::ss,m,I,loc,d::ds,vs,K,r,hm,hw,hwf,hv,h0,h=>by
  simp only [argsK] at h
  split at h
  case h_2=>cases h
  rename_i ha
  simp only [denL,VL] at hv
  obtain ⟨v,vr,rfl,hv1,hv2⟩:=hv
  obtain ⟨x,o1,I1,m1,loc1,h1,h2,h3⟩:=Vk2 hC hm hw hwf.1 hv1 ha h
  obtain ⟨y,ids,o2,I2,m2,loc2,g1,g2,g3,g4,g5⟩:=Vgh hC m0 ss h1.mem h1.wf hwf.2 (Vah (Vag h1.imm0) _ _ _ _ h1.ext hv2) (fun b g c l hb=>h0 b g c l (h1.arrs b g c l hb)) h3
  exact ⟨(x,y),ids,_,I2,m2,loc2,h1.trans g1,⟨v,vr,o1,o2,rfl,SVV.keep (.imm g1.imm0) h2,g2,fun _ h=>.inl h,fun _ h=>.inr h,h1.disj g1⟩,⟨v,vr,rfl,g3⟩,fun b hb hl=>g4 b hb (h1.lent b hl).1,g5⟩
 | .ptr fs::ss,m,I,loc,[],vs,K,r,hm,hw,hwf,hv,h0,h=>by simp [argsK] at h
 | .ptr fs::ss,m,I,loc,d::ds,vs,K,r,hm,hw,hwf,hv,h0,h=>by
  simp only [argsK] at h
  split at h
  case h_2=>cases h
  rename_i b
  split at h
  case h_2=>cases h
  rename_i cells hb
  simp only [denL,VL] at hv
  obtain ⟨v,vr,rfl,hv1,hv2⟩:=hv
  obtain ⟨hlt,us,q1,q2⟩:=Vo5 hm hb hv1
  have hr:=Vb9 hm hlt
  rw [hb] at hr
  simp only [denB,RelB] at hr
  obtain ⟨hfr,kk,_,_,_,hk0,_⟩:=hr
  have tk:=Took.lend hm hw hlt (by rw [hb]; rfl)
  have hwb:=hw b
  rw [hb] at hwb
  obtain ⟨x,o2,I1,m1,loc1,h1,h2,h3⟩:=Vtv hC fs tk.mem tk.wf hwb q2 h
  have t1:=tk.trans h1
  obtain ⟨y,ids,o3,I2,m2,loc2,g1,g2,g3,g4,g5⟩:=Vgh hC m0 ss t1.mem t1.wf hwf.2 (Vah (Vag t1.imm0) _ _ _ _ t1.ext hv2) (fun b g c l hb=>h0 b g c l (t1.arrs b g c l hb)) h3
  have hl0:(m.put b .lent).get b = .lent:=by rw [Vbd hlt,if_pos rfl]
  have hl1:=h1.lent b hl0
  have hl2:=g1.lent b hl1.1
  have hv0:v = .pointer (some ⟨kk,0,none⟩):=by
   have:=hv1
   simp only [den,V,hk0] at this
   exact this
  refine ⟨(x,y),b::ids,_,I2,m2,loc2,t1.trans g1,⟨v,vr,_,o3,rfl,⟨us,_,o2,q1,h2.keep (.imm g1.imm0),fun _ h=>.inl h,fun _ h=>.inr h,tk.disj h1⟩,g2,fun _ h=>.inl h,fun _ h=>.inr h,t1.disj g1⟩,
   ⟨b,ids,v,vr,rfl,rfl,⟨by rw [g1.len,t1.len]; exact hlt,hl2.1,kk,hv0,by rw [hl2.2,hl1.2]; exact hk0,fun g hg=>by rw [hl2.2,hl1.2]; exact hfr g hg⟩,fun b' hb' e=>g4 b' hb' (by rw [e]; exact hl1.1),g3⟩,fun b' hb' hl=>?_,g5⟩
  rcases List.mem_cons.1 hb' with e | e
  ·rw [e,hb] at hl; cases hl
  ·exact g4 b' e (t1.lent b' hl).1
 | .inp c::ss,m,I,loc,[],vs,K,r,hm,hw,hwf,hv,h0,h=>by simp [argsK] at h
 | .inp c::ss,m,I,loc,d::ds,vs,K,r,hm,hw,hwf,hv,h0,h=>by
  simp only [argsK] at h
  split at h
  case h_2=>cases h
  rename_i b g c' n
  split at h
  case h_2=>cases h
  rename_i hc
  have hc:=Qc hc
  subst hc
  split at h
  case h_2=>cases h
  rename_i l hl
  have hb:=Vbu hl
  simp only [denL,VL] at hv
  obtain ⟨v,vr,rfl,hv1,hv2⟩:=hv
  have hlt:b < m.length:=by
   simp only [den,V] at hv1
   exact Va6 (C:=C) (g:=g) hm (by intro e; simp [e] at hv1)
  have hr:=Vb9 hm hlt
  rw [hb] at hr
  simp only [denB,RelB] at hr
  have hwb:=hw b
  rw [hb] at hwb
  simp only [WfB] at hwb
  have hwn:=hwf.1
  simp only [WfD] at hwn
  have hn:n=l.length:=by rw [← hwn,hwb]
  have tk:=Took.lend hm hw hlt (by rw [hb]; rfl)
  obtain ⟨y,ids,o3,I2,m2,loc2,g1,g2,g3,g4,g5⟩:=Vgh hC m0 ss tk.mem tk.wf hwf.2 hv2 (fun b g c l hb=>h0 b g c l (tk.arrs b g c l hb)) h
  have hl0:(m.put b .lent).get b = .lent:=by rw [Vbd hlt,if_pos rfl]
  have hl2:=g1.lent b hl0
  have hsv:SVO C I w c' l v (fun k=>∃ g,loc b g = .blk k)∧∃ a cap,v = .slice a n cap∧((loc b g = .nil∧a=none)∨∃ k o,loc b g = .blk k∧a=some ⟨k,o,none⟩):=by
   simp only [den,V] at hv1
   rcases hr.2 with ⟨h1,h2⟩ | ⟨k,cells,el,fz,h1,h2,h3,h4,h5⟩
   ·simp only [h1] at hv1
    obtain ⟨_,q2,q3⟩:=hv1
    subst q2
    exact ⟨.inl ⟨by simpa using h2,q3⟩,none,0,q3,.inl ⟨h1,rfl⟩⟩
   ·simp only [h1] at hv1
    obtain ⟨o,cap,rfl,q1,q2,q3⟩:=hv1
    exact ⟨.inr ⟨k,o,cap,cells,el,fz,by rw [hn],by rw [← hn]; exact q1,by simpa using q2,by simpa [rowSize,h2] using q3,by simpa using h4,h2,h3,⟨g,h1⟩,h5⟩,_,cap,rfl,.inr ⟨k,o,h1,rfl⟩⟩
  obtain ⟨hs1,a,cap,hs2,hs3⟩:=hsv
  refine ⟨(l,y),b::ids,_,I2,m2,loc2,tk.trans g1,⟨v,vr,_,o3,rfl,SVO.keep (.imm g1.imm0) hs1,g2,fun _ h=>.inl h,fun _ h=>.inr h,tk.disj g1⟩,
   ⟨b,ids,v,vr,rfl,rfl,⟨by rw [g1.len,tk.len]; exact hlt,hl2.1,g,l,h0 b g _ l hb,fun g' hg=>by rw [hl2.2]; exact hr.1.1 g' hg,fun g' hg=>by rw [hl2.2]; exact hr.1.2 g' hg,a,n,cap,hs2,hwn,?_⟩,fun b' hb' e=>g4 b' hb' (by rw [e]; exact hl0),g3⟩,fun b' hb' hl=>?_,g5⟩
  ·rw [hl2.2]; exact hs3
  ·rcases List.mem_cons.1 hb' with e | e
   ·rw [e,hb] at hl; cases hl
   ·exact g4 b' e (tk.lent b' hl).1
 | .iter::ss,m,I,loc,ds,vs,K,r,hm,hw,hwf,hv,h0,h=>by simp [argsK] at h
 | .lar _::ss,m,I,loc,ds,vs,K,r,hm,hw,hwf,hv,h0,h=>by simp [argsK] at h
 | .mset _ _::ss,m,I,loc,ds,vs,K,r,hm,hw,hwf,hv,h0,h=>by simp [argsK] at h
end
section
variable {T:Nat→Type} {C:Cd T} {O I I':Nat→Prop} {w w':World} {loc:Nat→Nat→Loc} {L:Nat→Nat→Nat} {m m0:MT T} {R:Type} {own own':Nat→Prop} {P:Program} {G:Nat→Option (List D)}
theorem Vt1 (hm:MRel O I loc (denM C m) w) (hw:WfM L m) {b:Nat} {x:BoxT T} (hb:b < m.length) (hl:m.get b = .lent) (hx:RelB I w loc b (denB C x)) (hwx:WfB L b x) (ho:Mine C O I w loc m own) (hk:∀ g k,loc b g = .blk k→own k) :
  MRel O I loc (denM C (m.put b x)) w∧WfM L (m.put b x)∧∀ k,Owned C (m.put b x) loc k→Owned C m loc k∨own k:=by
 have hbx:∀ b',(denM C (m.put b x)).bx b'=if b'=b then denB C x else (denM C m).bx b':=fun b'=>by
  simp only [denM,Vbd hb]
  split<;>rfl
 have hnb:(denM C (m.put b x)).nb=m.length:=by simp [denM,Vb0]
 have own2:∀ b' g k,((denM C (m.put b x)).bx b').owned=true→loc b' g = .blk k→(b'≠b∧((denM C m).bx b').owned=true)∨(b'=b∧own k):=fun b' g k h1 h2=>by
  rw [hbx] at h1
  by_cases e:b'=b
  ·subst e; exact .inr ⟨rfl,hk g k h2⟩
  ·rw [if_neg e] at h1; exact .inl ⟨e,h1⟩
 refine ⟨⟨fun b' hb'=>?_,fun b' g hb'=>?_,fun b' g k hb' h1 h2=>?_,fun b1 b2 g1 g2 k h1 h2 o1 o2 k1 k2=>?_,hm.imm,hm.up⟩,Vds hb hw hwx,fun k h=>?_⟩
 ·rw [hnb] at hb'
  rw [hbx]
  by_cases e:b'=b
  ·subst e; rw [if_pos rfl]; exact hx
  ·rw [if_neg e]; exact hm.box b' hb'
 ·rw [hnb] at hb'; exact hm.free b' g hb'
 ·rw [hnb] at hb'
  rcases own2 b' g k h1 h2 with ⟨_,q⟩ | ⟨_,q⟩
  ·exact hm.own b' g k hb' q h2
  ·exact ho.facts k q
 ·rw [hnb] at h1 h2
  rcases own2 b1 g1 k o1 k1 with ⟨_,q⟩ | ⟨e,q⟩
  ·rcases own2 b2 g2 k o2 k2 with ⟨_,p⟩ | ⟨e',p⟩
   ·exact hm.inj b1 b2 g1 g2 k h1 h2 q p k1 k2
   ·exact absurd ⟨b1,g1,h1,q,k1⟩ (ho.apart k p)
  ·rcases own2 b2 g2 k o2 k2 with ⟨_,p⟩ | ⟨e',p⟩
   ·exact absurd ⟨b2,g2,h2,p,k2⟩ (ho.apart k q)
   ·rw [e,e']
 ·obtain ⟨b',g,q1,q2,q3⟩:=h
  rw [Vb0] at q1
  rcases own2 b' g k q2 q3 with ⟨_,p⟩ | ⟨_,p⟩
  ·exact .inl ⟨b',g,q1,p,q3⟩
  ·exact .inr p
theorem Lent.mono {m':MT T} {loc':Nat→Nat→Loc} {L':Nat→Nat→Nat} (hlen:m.length≤m'.length) (hL:LExt loc L L'):∀ {ss:List Slot} {ids:List Nat} {vs:List Value},(∀ b∈ids,m'.get b=m.get b∧∀ g,loc' b g=loc b g)→Lent m0 m loc L ss ids vs→Lent m0 m' loc' L' ss ids vs
 | [],ids,vs,h,hl=>hl
 | .ptr fs::r,ids,vs,h,hl=>by
  obtain ⟨b,ir,v,vr,rfl,rfl,⟨h1,h2,k,h3,h4,h5⟩,hn,hr⟩:=hl
  obtain ⟨q1,q2⟩:=h b (by simp)
  exact ⟨b,ir,v,vr,rfl,rfl,⟨Ql h1 hlen,by rw [q1]; exact h2,k,h3,by rw [q2]; exact h4,fun g hg=>by rw [q2]; exact h5 g hg⟩,hn,Lent.mono hlen hL (fun b hb=>h b (by simp [hb])) hr⟩
 | .inp c::r,ids,vs,h,hl=>by
  obtain ⟨b,ir,v,vr,rfl,rfl,⟨h1,h2,g,l0,h3,h4,h5,a,n,cap,h6,h7,h8⟩,hn,hr⟩:=hl
  obtain ⟨q1,q2⟩:=h b (by simp)
  refine ⟨b,ir,v,vr,rfl,rfl,⟨Ql h1 hlen,by rw [q1]; exact h2,g,l0,h3,fun g' hg=>by rw [q2]; exact h4 g' hg,fun g' hg=>by rw [q2]; exact h5 g' hg,a,n,cap,h6,?_,?_⟩,hn,Lent.mono hlen hL (fun b hb=>h b (by simp [hb])) hr⟩
  ·rw [← h7]
   refine hL b g ?_
   rcases h8 with ⟨h,_⟩ | ⟨k,o,h,_⟩<;>rw [h]<;>simp
  ·rw [q2]; exact h8
 | .f _::r,ids,vs,h,hl=>by
  obtain ⟨v,vr,rfl,hr⟩:=hl
  exact ⟨v,vr,rfl,Lent.mono hlen hL h hr⟩
 | .iter::r,ids,vs,h,hl=>by
  obtain ⟨v,vr,rfl,hr⟩:=hl
  exact ⟨v,vr,rfl,Lent.mono hlen hL h hr⟩
 | .lar _::r,ids,vs,h,hl=>by
  obtain ⟨v,vr,rfl,hr⟩:=hl
  exact ⟨v,vr,rfl,Lent.mono hlen hL h hr⟩
 | .mset _ _::r,ids,vs,h,hl=>by
  obtain ⟨v,vr,rfl,hr⟩:=hl
  exact ⟨v,vr,rfl,Lent.mono hlen hL h hr⟩
theorem Vfb:∀ {ss:List Slot} {ids:List Nat} {vs:List Value},Lent m0 m loc L ss ids vs→∀ b∈ids,m.length≤b→False
 | [],ids,vs,h,b,hb,_=>by
  have:ids=[]:=h
  subst this; simp at hb
 | .ptr fs::r,ids,vs,h,b,hb,hh=>by
  obtain ⟨b',ir,v,vr,rfl,rfl,h1,_,hr⟩:=h
  rcases List.mem_cons.1 hb with e | e
  ·subst e; have:=h1.1; omega
  ·exact Vfb hr b e hh
 | .inp c::r,ids,vs,h,b,hb,hh=>by
  obtain ⟨b',ir,v,vr,rfl,rfl,h1,_,hr⟩:=h
  rcases List.mem_cons.1 hb with e | e
  ·subst e; have:=h1.1; omega
  ·exact Vfb hr b e hh
 | .f _::r,ids,vs,h,b,hb,hh=>by
  obtain ⟨v,vr,rfl,hr⟩:=h
  exact Vfb hr b hb hh
 | .iter::r,ids,vs,h,b,hb,hh=>by
  obtain ⟨v,vr,rfl,hr⟩:=h
  exact Vfb hr b hb hh
 | .lar _::r,ids,vs,h,b,hb,hh=>by
  obtain ⟨v,vr,rfl,hr⟩:=h
  exact Vfb hr b hb hh
 | .mset _ _::r,ids,vs,h,b,hb,hh=>by
  obtain ⟨v,vr,rfl,hr⟩:=h
  exact Vfb hr b hb hh
theorem back_ok (hC:CdOk C) (m0:MT T):∀ (ss:List Slot) {m m2:MT T} {loc:Nat→Nat→Loc} {L:Nat→Nat→Nat} {ids:List Nat} {x:tyO T ss} {args:List Value} {o1:Nat→Prop},MRel O I loc (denM C m) w→WfM L m→SVOuts C I w ss x args o1→Mine C O I w loc m o1→Lent m0 m loc L ss ids args→backO C m0 ss ids x m=some m2 →
  ∃ loc' L',MRel O I loc' (denM C m2) w∧WfM L' m2∧LocExt loc loc'∧LExt loc L L'∧(∀ k,Owned C m2 loc' k→Owned C m loc k∨o1 k)∧m.length≤m2.length
 | [],m,m2,loc,L,ids,x,args,o1,hm,hw,hs,ho,hl,h=>by
  simp only [backO,Qa] at h
  subst h
  exact ⟨loc,L,hm,hw,.refl _,.refl _ _,fun _ h=>.inl h,Qv _⟩
 | .f _::r,m,m2,loc,L,ids,x,args,o1,hm,hw,hs,ho,hl,h=>by
  obtain ⟨v,vr,rfl,hs⟩:=hs
  obtain ⟨v',vr',e,hl⟩:=hl
  cases e
  exact back_ok hC m0 r hm hw hs ho hl h
 | .iter::r,m,m2,loc,L,ids,x,args,o1,hm,hw,hs,ho,hl,h=>by
  obtain ⟨v,vr,rfl,hs⟩:=hs
  obtain ⟨v',vr',e,hl⟩:=hl
  cases e
  exact back_ok hC m0 r hm hw hs ho hl h
 | .lar _::r,m,m2,loc,L,ids,x,args,o1,hm,hw,hs,ho,hl,h=>by
  obtain ⟨v,vr,rfl,hs⟩:=hs
  obtain ⟨v',vr',e,hl⟩:=hl
  cases e
  exact back_ok hC m0 r hm hw hs ho hl h
 | .mset _ _::r,m,m2,loc,L,ids,x,args,o1,hm,hw,hs,ho,hl,h=>by
  obtain ⟨v,vr,rfl,hs⟩:=hs
  obtain ⟨v',vr',e,hl⟩:=hl
  cases e
  exact back_ok hC m0 r hm hw hs ho hl h
 | .ptr fs::r,m,m2,loc,L,ids,x,args,o1,hm,hw,hs,ho,hl,h=>by
  obtain ⟨v,vr,oa,ob,rfl,⟨cs,p1,p2,s1,s2,s3,s4,s5⟩,hs,a1,a2,a3⟩:=hs
  obtain ⟨b,ir,v',vr',rfl,e,⟨l1,l2,k,l3,l4,l5⟩,hn,hl⟩:=hl
  cases e
  simp only [backO] at h
  obtain ⟨loc1,L1,q1,q2,q3⟩:=Vtx hC fs hm hw s2 ((ho.sub a1).sub s4)
  have hk:=q1.keep b l1
  have hb1:b < (m++(encFs C m.length fs x.1).2).length:=Ql l1 q1.len
  obtain ⟨kk,cells,el,fz,t1,t2,t3,t4,t5,t6⟩:=s1
  have hkk:k=kk:=by rw [l3] at t1; cases t1; rfl
  subst hkk
  have hmine:Mine C O I w loc1 (m++(encFs C m.length fs x.1).2) p1:=((ho.sub a1).sub s3).put q1 (fun k u v=>s5 k v u)
  obtain ⟨b1,b2,b3⟩:=Vt1 (x:=.var (encFs C m.length fs x.1).1) q1.mem q1.wf hb1 (hk.1.trans l2) (by
   simp only [denB,RelB]
   exact ⟨fun g hg=>by rw [hk.2]; exact l5 g hg,k,cells,el,fz,by rw [hk.2]; exact l4,t2,t3,t4,by rw [t6]; exact q2⟩) q3 hmine (fun g k' hg=>by
   rw [hk.2] at hg
   by_cases e:g=0
   ·subst e; rw [l4] at hg; cases hg; exact t5
   ·rw [l5 g e] at hg; cases hg)
  have hown:∀ k,Owned C ((m++(encFs C m.length fs x.1).2).put b (.var (encFs C m.length fs x.1).1)) loc1 k→Owned C m loc k∨oa k:=fun k h=>by
   rcases b3 k h with h | h
   ·exact (q1.own k h).imp id (s4 k)
   ·exact .inr (s3 k h)
  have hlen:m.length≤((m++(encFs C m.length fs x.1).2).put b (.var (encFs C m.length fs x.1).1)).length:=by rw [Vb0]; exact q1.len
  obtain ⟨loc2,L2,c1,c2,c3,c4,c5,c6⟩:=back_ok hC m0 r b1 b2 hs ⟨fun k h=>ho.facts k (a2 k h),fun k h hq=>by
   rcases hown k hq with q | q
   ·exact ho.apart k (a2 k h) q
   ·exact a3 k q h⟩ (hl.mono hlen q1.lext fun b' hb'=>by
    have hne:=hn b' hb'
    have hb'l:b' < m.length∨m.length≤b':=Q4 _ _
    rcases hb'l with hh | hh
    ·rw [Vbd hb1,if_neg hne]; exact q1.keep b' hh
    ·exact absurd hb' (fun hb'=>Vfb hl b' hb' hh)) h
  exact ⟨loc2,L2,c1,c2,q1.ext.trans c3,q1.lext.trans q1.ext c4,fun k h=>by
   rcases c5 k h with h | h
   ·exact (hown k h).imp id (a1 k)
   ·exact .inr (a2 k h),Qab hlen c6⟩
 | .inp c::r,m,m2,loc,L,ids,x,args,o1,hm,hw,hs,ho,hl,h=>by
  obtain ⟨v,vr,oa,ob,rfl,s1,hs,a1,a2,a3⟩:=hs
  obtain ⟨b,ir,v',vr',rfl,e,⟨l1,l2,g,l0,l3,l4,l5,a,n,cap,l6,l7,l8⟩,hn,hl⟩:=hl
  cases e
  simp only [backO,l3] at h
  have hlen:x.1.length=n:=by
   rcases s1 with ⟨h1,h2⟩ | ⟨k,o,cap',cells,el,fz,t1,_⟩
   ·rw [h2] at l6; cases l6; rw [h1]; rfl
   ·rw [t1] at l6; cases l6; rfl
  obtain ⟨b1,b2,b3⟩:=Vt1 (x:=.arr g c x.1) hm hw l1 l2 (by
   simp only [denB,RelB]
   refine ⟨⟨l4,l5⟩,?_⟩
   rcases s1 with ⟨h1,h2⟩ | ⟨k,o,cap',cells,el,fz,t1,t2,t3,t4,t4',t5,t6,t7,t8⟩
   ·rw [h2] at l6; cases l6
    rcases l8 with ⟨q,_⟩ | ⟨k,o,_,q⟩
    ·exact .inl ⟨q,by rw [h1]; rfl⟩
    ·cases q
   ·rw [t1] at l6; cases l6
    rcases l8 with ⟨_,q⟩ | ⟨k',o',q,q'⟩
    ·cases q
    ·cases q'
     exact .inr ⟨k,cells,el,fz,q,t5,t6,by simpa using t4',t8⟩) (by simp only [WfB]; rw [l7,hlen]) (ho.sub a1) (fun g' k' hg=>by
   have hg':g'=g:=by
    rcases Nat.lt_trichotomy g' g with h | h | h
    ·rw [l4 g' h] at hg; cases hg
    ·exact h
    ·rw [l5 g' h] at hg; cases hg
   subst hg'
   rcases s1 with ⟨h1,h2⟩ | ⟨k,o,cap',cells,el,fz,t1,t2,t3,t4,t4',t5,t6,t7,t8⟩
   ·rw [h2] at l6; cases l6
    rcases l8 with ⟨q,_⟩ | ⟨k,o,_,q⟩
    ·rw [q] at hg; cases hg
    ·cases q
   ·rw [t1] at l6; cases l6
    rcases l8 with ⟨_,q⟩ | ⟨k2,o',q,q'⟩
    ·cases q
    ·cases q'
     rw [q] at hg; cases hg
     exact t7)
  obtain ⟨loc2,L2,c1,c2,c3,c4,c5,c6⟩:=back_ok hC m0 r b1 b2 hs ⟨fun k h=>ho.facts k (a2 k h),fun k h hq=>by
   rcases b3 k hq with q | q
   ·exact ho.apart k (a2 k h) q
   ·exact a3 k q h⟩ (hl.mono (by rw [Vb0]; exact Qv _) (.refl _ _) fun b' hb'=>by rw [Vbd l1,if_neg (hn b' hb')]; exact ⟨rfl,fun _=>rfl⟩) h
  exact ⟨loc2,L2,c1,c2,c3,c4,fun k h=>by
   rcases c5 k h with h | h
   ·exact (b3 k h).imp id (a1 k)
   ·exact .inr (a2 k h),by rw [Vb0] at c6; exact c6⟩
structure EnvOk (P:Program) (E:Env T):Prop where
 cd:CdOk E.C
 tys:TysOk P E.Y
 fl:FlOk E.C E.fl
 fns:∀ f ds S,E.F f ds=some S→SoundT P E.C (fun g=>(E.G g).map (denL E.C)) f S
def GD (E:Env T):Nat→Option (List D):=fun g=>(E.G g).map (denL E.C)
def FollowsT (P:Program) (E:Env T) (O I:Nat → Prop) (loc:Nat → Nat → Loc) (L:Nat → Nat → Nat) (w:World) (o:Oper) (r:Result Next) (d:DT T) (m':MT T):Prop:=
  ∀ (a:Act) (next:Act → World → Prop) (Q:Exit → Act → World → Prop),(∀ v w' I' loc' L',MRel O I' loc' (denM E.C m') w' → WfM L' m' → Glob (GD E) I' w' → V I' w' (den E.C d) loc' v → WfD L' d → Ext I I' w w' → (∀ k,I' k → I k ∨ O k) → LocExt loc loc' → LExt loc L L' → Fr O w w' → next (a.put o.dst v) w') →
    o.upon P a next Q r
theorem FollowsT.of_res {E:Env T} {o:Oper} {r:Result Next} {d:DT T} {m':MT T} (hG:Glob (GD E) I w) (h:ResT E.C O I loc L w r d m'):FollowsT P E O I loc L w o r d m':=by
 obtain ⟨v,w',I',loc',L',h1,h2,h3,h4,h5,h6,h7,h8,h9,h10⟩:=h
 intro a next Q hn
 have:=hn v w' I' loc' L' h2 h3 (Va1 hG h6) h4 h5 h6 h7 h8 h9 h10
 rcases h1 with rfl | ⟨rfl,rfl⟩
 ·exact this
 ·exact this
theorem FollowsT.of_D {E:Env T} {o:Oper} {r:Result Next} {d:DT T} (hm:MRel O I loc (denM E.C m) w) (hw:WfM L m) (hd:WfD L d) (h:Follows P ⟨GD E,fun _=>none⟩ O I loc w o r (den E.C d) (denM E.C m)):FollowsT P E O I loc L w o r d m:=by
 intro a next Q hn
 refine h a next Q fun v w' I' loc' h1 h2 h3 h4 h5 h6 h7=>?_
 exact hn v w' I' loc' L h1 hw h2 h3 hd h4 (fun k hk=>(h5 k hk).imp id (hm.up k)) h6 (.refl _ _) h7
theorem Vx5 {fs:List Fld} {x:tyFs T fs} {vs:List Value} {base:Nat} {loc':Nat→Nat→Loc} (h:VL I w (denL C (encFVs C base fs x).1) loc' vs) (hw:WfL L (encFVs C base fs x).1):V I w (den C (oneOf (encFVs C base fs x).1)) loc' (resV vs)∧WfD L (oneOf (encFVs C base fs x).1):=by
 match hq:(encFVs C base fs x).1 with
 | []=>rw [hq] at h hw; simp only [denL,VL] at h; subst h; exact ⟨by simp only [oneOf,den,denL,V,resV]; exact ⟨[],rfl,rfl⟩,hw⟩
 | [d]=>
  rw [hq] at h hw
  simp only [denL,VL] at h
  obtain ⟨v,vr,rfl,h1,rfl⟩:=h
  exact ⟨h1,hw.1⟩
 | d::e::r=>
  rw [hq] at h hw
  have h2:=h
  simp only [denL,VL] at h2
  obtain ⟨v,vr,rfl,h1,v2,vr2,rfl,h3,h4⟩:=h2
  refine ⟨?_,hw⟩
  simp only [oneOf,den,V,resV]
  exact ⟨_,rfl,h⟩
theorem Vo7 {fl:Nat→Bool}:∀ {rs:List Fld},rs.all (fun r=>r.isV&&r.flat fl)=true→rs.all (Fld.flat fl)=true∧∀ (C:Cd T) (base:Nat) (x:tyFs T rs),(encFVs C base rs x).2=[]∧∀ base',(encFVs C base rs x).1=(encFVs C base' rs x).1
 | [],h=>⟨rfl,fun C base x=>⟨rfl,fun _=>rfl⟩⟩
 | f::r,h=>by
  simp only [Q6,Qb] at h
  obtain ⟨⟨h1,h2⟩,h3⟩:=h
  obtain ⟨g1,g2⟩:=Vo7 h3
  refine ⟨by simp only [Q6,h2,g1,Bool.and_self],fun C base x=>?_⟩
  cases f with
  | v t=>
   refine ⟨by simp only [encFVs,encFV,Qbc]; exact (g2 C _ x.2).1,fun base'=>?_⟩
   simp only [encFVs,encFV]
   rw [(g2 C _ x.2).2 (base'+([]:List (BoxT T)).length)]
  | own c=>cases h1
  | pt t=>cases h1
  | st a c b=>cases h1
  | fp f t=>cases h1
theorem Vt2 {E:Env T} (hE:EnvOk P E) (hm:MRel O I loc (denM E.C m) w) (hw:WfM L m) (hG:Glob (GD E) I w) {e:Operand→DT T} {ρ:Operand→Value} (he:∀ x,V I w (den E.C (e x)) loc (ρ x)) (hwe:∀ x,WfD L (e x)) {f:Nat} (hfn:e (.func f) = .fn f []) {args:Array Operand} {at':Array TypeId} {dst:Option Tmp} {ty:TypeId} {pos:String} {af:Array Edge} {gd:Option (Nat×Bool)} {K:DT T→Option R} {r:R}
  (h:callR E f (args.toList.map e) m K=some r):∃ d,FollowsT P E O I loc L w ⟨dst,.call ⟨.value (.func f),args,at'⟩,ty,pos,af,gd⟩ ((execOp ρ ⟨dst,.call ⟨.value (.func f),args,at'⟩,ty,pos,af,gd⟩).run P w) d m∧K d=some r:=by
 unfold callR at h
 split at h
 case h_2=>cases h
 rename_i S hS
 split at h
 case h_2=>cases h
 rename_i hfl
 simp only [Qb] at hfl
 have hwl:WfL L (args.toList.map e):=WfL_iff.2 fun d hd=>by
  simp only [Qz] at hd
  obtain ⟨x,_,rfl⟩:=hd; exact hwe x
 have hvl:VL I w (denL E.C (args.toList.map e)) loc (args.toList.map ρ):=by
  rw [Vau,Qay]
  exact Vgr he _
 obtain ⟨x,h1,h2⟩:=look_ok hE.cd hm hw S.ps hwl hvl h
 rw [Qd] at h2
 obtain ⟨res,h3,h4⟩:=h2
 refine ⟨_,?_,h4⟩
 obtain ⟨hb,hsnd⟩:=hE.fns f _ S hS
 have hv:=he (.func f)
 rw [hfn] at hv
 simp only [den,denL,V,VL] at hv
 obtain ⟨us,hv1,rfl⟩:=hv
 rw [Vka hv1 hb]
 intro a next Q hn
 simp only [Oper.upon,Qaj]
 refine (hsnd (fun k=>k < w.heap.size) none' w _ x res (fun _ h=>h) (fun _ h=>h.elim) (Va1 hG (Vag hm.imm)) h1 h3).mono ?_
 rintro _ w' ⟨vs,I',o1,o2,rfl,f1,f2,f3,f4,f5,f6,f7,f8,f9⟩
 obtain ⟨g1,g2⟩:=Vo7 (T:=T) hfl.2
 have hfr:=Vws f1
 have hm2:=hm.step hfr
 have hx:=Vhu hfr hm.imm (fun _ h=>h)
 have f9':SVVs E.C I w' S.rs res.2 vs o2:=Vib hE.cd hE.fl g1 f9
 obtain ⟨loc',L',p1,p2,p3⟩:=Vty (O:=O) hE.cd S.rs (m:=([]:MT T)) (loc:=free) (L:=fun _ _=>0) (own:=o2) ⟨fun b hb=>absurd hb (Qr _),fun _ _ _=>rfl,fun b _ _ hb=>absurd hb (Qr _),fun b _ _ _ _ hb=>absurd hb (Qr _),hm2.imm,hm2.up⟩ (fun b=>trivial) f9'
  ⟨fun k hk=>by
   obtain ⟨q1,q2,q3⟩:=f6 k (.inr hk)
   refine ⟨?_,fun hI=>?_,q3⟩
   ·rcases q1 with q | q
    ·exact q.elim
    ·exact hm.up k q
   ·exact q2 (f3 k (hm.imm k hI)),fun k _ ⟨b,g,q1,_⟩=>absurd q1 (Qr _)⟩
 have e0:=(g2 E.C 0 res.2).1
 simp only [Qbe] at p1 p2 p3
 rw [e0] at p1
 have hl0:loc'=free:=by funext b g; exact p1.mem.free b g (Nat.zero_le _)
 subst hl0
 obtain ⟨r1,r2⟩:=Vx5 p2 p3
 refine hn _ w' I loc L hm2 hw (Va1 hG hx) (Von r1) (Vo2 _ _ r1) hx (fun _ h=>.inl h) (.refl _) (.refl _ _) hfr.weaken
theorem Vo8 (hC:CdOk C) (hm:MRel O I loc (denM C m) w) (hw:WfM L m):∀ (ss:List Slot) {ds:List (DT T)} {vs:List Value} {K:tySs T ss→List Nat→MT T→Option R} {r:R},ss.all Slot.isV=true→WfL L ds→VL I w (denL C ds) loc vs→argsK C true ss m ds K=some r →
  ∃ x,SVSs C (fun k=>k < w.heap.size) w ss x vs none'∧K x [] m=some r
 | [],ds,vs,K,r,ha,hwf,hv,h=>by
  simp only [argsK] at h
  split at h
  ·simp only [denL,VL] at hv
   exact ⟨(),hv,h⟩
  ·cases h
 | .f (.v t)::ss,[],vs,K,r,ha,hwf,hv,h=>by simp [argsK] at h
 | .f (.v t)::ss,d::ds,vs,K,r,hall,hwf,hv,h=>by
  simp only [argsK] at h
  split at h
  case h_2=>cases h
  rename_i ha
  simp only [denL,VL] at hv
  obtain ⟨v,vr,rfl,hv1,hv2⟩:=hv
  obtain ⟨cs,h1,h2⟩:=Vo6 hC hm hw hwf.1 hv1 ha h
  split at h2
  case h_2=>cases h2
  rename_i x hx
  simp only [Q6,Qb] at hall
  obtain ⟨y,g1,g2⟩:=Vo8 hC hm hw ss hall.2 hwf.2 hv2 h2
  exact ⟨(x,y),⟨v,vr,none',none',rfl,h1 x hx,g1,fun _ h=>h.elim,fun _ h=>h.elim,fun _ h=>h.elim⟩,g2⟩
 | .f (.own c)::ss,ds,vs,K,r,ha,hwf,hv,h=>by simp [Slot.isV,Fld.isV] at ha
 | .f (.pt c)::ss,ds,vs,K,r,ha,hwf,hv,h=>by simp [Slot.isV,Fld.isV] at ha
 | .f (.st _ _ _)::ss,ds,vs,K,r,ha,hwf,hv,h=>by simp [Slot.isV,Fld.isV] at ha
 | .f (.fp _ _)::ss,ds,vs,K,r,ha,hwf,hv,h=>by simp [Slot.isV,Fld.isV] at ha
 | .ptr fs::ss,ds,vs,K,r,ha,hwf,hv,h=>by simp [Slot.isV] at ha
 | .inp c::ss,ds,vs,K,r,ha,hwf,hv,h=>by simp [Slot.isV] at ha
 | .iter::ss,ds,vs,K,r,ha,hwf,hv,h=>by simp [Slot.isV] at ha
 | .lar _::ss,ds,vs,K,r,ha,hwf,hv,h=>by simp [Slot.isV] at ha
 | .mset _ _::ss,ds,vs,K,r,ha,hwf,hv,h=>by simp [Slot.isV] at ha
theorem Vx6:∀ {ss:List Slot} {x:tySs T ss} {y:tyO T ss} {vs:List Value} {J own:Nat→Prop} {I2:Nat→Prop} {w2:World},ss.all Slot.isV=true→SVSs C J w ss x vs own→SVOuts C I2 w2 ss y vs none'∧Lent m0 m loc L ss [] vs∧backO C m0 ss [] y m=some m
 | [],x,y,vs,J,own,I2,w2,_,_=>⟨trivial,rfl,rfl⟩
 | .f f::ss,x,y,vs,J,own,I2,w2,ha,h=>by
  simp only [Q6,Qb] at ha
  obtain ⟨v,vr,o1,o2,rfl,_,h2,_⟩:=h
  obtain ⟨g1,g2,g3⟩:=Vx6 (ss:=ss) (y:=y) (I2:=I2) (w2:=w2) ha.2 h2
  exact ⟨⟨v,vr,rfl,g1⟩,⟨v,vr,rfl,g2⟩,g3⟩
 | .ptr fs::ss,x,y,vs,J,own,I2,w2,ha,h=>by simp [Slot.isV] at ha
 | .inp c::ss,x,y,vs,J,own,I2,w2,ha,h=>by simp [Slot.isV] at ha
 | .iter::ss,x,y,vs,J,own,I2,w2,ha,h=>by simp [Slot.isV] at ha
 | .lar _::ss,x,y,vs,J,own,I2,w2,ha,h=>by simp [Slot.isV] at ha
 | .mset _ _::ss,x,y,vs,J,own,I2,w2,ha,h=>by simp [Slot.isV] at ha
theorem Vqc {E:Env T} (hE:EnvOk P E) (hm:MRel O I loc (denM E.C m) w) (hw:WfM L m) (hG:Glob (GD E) I w) {e:Operand→DT T} {ρ:Operand→Value} (he:∀ x,V I w (den E.C (e x)) loc (ρ x)) (hwe:∀ x,WfD L (e x)) {f:Operand} {k:Nat} {cap:List (DT T)} (hfn:e f = .fn k cap) {args:Array Operand} {at':Array TypeId} {dst:Option Tmp} {ty:TypeId} {pos:String} {af:Array Edge} {gd:Option (Nat×Bool)} {K:DT T→MT T→Option R} {r:R}
  (h:callW E k (args.toList.map e++cap) m K=some r):∃ d m',FollowsT P E O I loc L w ⟨dst,.call ⟨.value f,args,at'⟩,ty,pos,af,gd⟩ ((execOp ρ ⟨dst,.call ⟨.value f,args,at'⟩,ty,pos,af,gd⟩).run P w) d m'∧K d m'=some r:=by
 unfold callW at h
 split at h
 case h_2=>cases h
 rename_i S hS
 have hv:=he f
 rw [hfn] at hv
 have hwf:=hwe f
 rw [hfn] at hwf
 simp only [WfD] at hwf
 simp only [den,V] at hv
 obtain ⟨us,hv1,hv2⟩:=hv
 have hwl:WfL L (args.toList.map e++cap):=WfL_iff.2 fun d hd=>by
  simp only [Q1,Qz] at hd
  rcases hd with ⟨x,_,rfl⟩ | hd
  ·exact hwe x
  ·exact WfL_iff.1 hwf d hd
 have hvl:VL I w (denL E.C (args.toList.map e++cap)) loc (args.toList.map ρ++us):=by
  rw [Vcu]
  refine Va0 ?_ hv2
  rw [Vau,Qay]
  exact Vgr he _
 obtain ⟨hb,hsnd⟩:=hE.fns k _ S hS
 rw [Vka hv1 hb]
 -- what the call hands back is laid into the memory
 have fin:∀ {I1 Ic I' own o1 o2:Nat→Prop} {m1 m2:MT T} {loc1:Nat→Nat→Loc} {ids:List Nat} {vs:List Value} {res:tyO T S.ps×tyFs T S.rs} {w':World},Took E.C O I w loc L m own I1 m1 loc1→Lent m m1 loc1 L S.ps ids (args.toList.map ρ++us) →
   Fr (fun k=>own k∨w.heap.size≤k) w w'→(∀ b,rowSize w b≤rowSize w' b)→(∀ k,I1 k→I' k)→(∀ k,I' k→I1 k∨own k∨w.heap.size≤k)→(∀ k,I' k→k < w'.heap.size)→(∀ k,o1 k∨o2 k→(own k∨w.heap.size≤k)∧¬ I' k∧k < w'.heap.size)→(∀ k,o1 k→¬ o2 k) →
   SVOuts E.C I' w' S.ps res.1 (args.toList.map ρ++us) o1→SVVs E.C I' w' S.rs res.2 vs o2→backO E.C m S.ps ids res.1 m1=some m2 →
   ∃ loc' L',MRel O I' loc' (denM E.C (m2++(encFVs E.C m2.length S.rs res.2).2)) w'∧WfM L' (m2++(encFVs E.C m2.length S.rs res.2).2)∧V I' w' (den E.C (oneOf (encFVs E.C m2.length S.rs res.2).1)) loc' (resV vs)∧WfD L' (oneOf (encFVs E.C m2.length S.rs res.2).1)∧Ext I I' w w'∧(∀ k,I' k→I k∨O k)∧LocExt loc loc'∧LExt loc L L'∧Fr O w w':=by
  intro I1 Ic I' own o1 o2 m1 m2 loc1 ids vs res w' tk hl f1 f2 f3 f4 f5 f6 f7 f8 f9 hbk
  have hoI:∀ k,own k→¬ I1 k:=fun k h=>(tk.got k h).1
  have hOwn:∀ k,own k→O k∧k < w.heap.size:=fun k h=>⟨((tk.got k h).2.facts hm).1,((tk.got k h).2.facts hm).2.2⟩
  obtain ⟨q1,q2⟩:=tk.mem.stepO f1 f2 f3 f4 f5 hoI (fun b g k hb ho hk q=>(tk.rest k ⟨b,g,hb,ho,hk⟩).1 q)
  have hmine:∀ {o:Nat→Prop},(∀ k,o k→o1 k∨o2 k)→Mine E.C O I' w' loc1 m1 o:=fun {o} ho=>⟨fun k hk=>by
    obtain ⟨u1,u2,u3⟩:=f6 k (ho k hk)
    refine ⟨?_,u2,u3⟩
    rcases u1 with u | u
    ·exact (hOwn k u).1
    ·exact hm.up k u,fun k hk hq=>by
    obtain ⟨u1,u2,u3⟩:=f6 k (ho k hk)
    rcases u1 with u | u
    ·exact (tk.rest k hq).1 u
    ·have:=(hq.facts tk.mem).2.2; omega⟩
  obtain ⟨loc2,L2,c1,c2,c3,c4,c5,c6⟩:=back_ok hE.cd m S.ps q1 tk.wf f8 (hmine fun k h=>.inl h) hl hbk
  obtain ⟨loc3,L3,d1,d2,d3⟩:=Vty hE.cd S.rs c1 c2 f9 ⟨(hmine (o:=o2) fun k h=>.inr h).facts,fun k hk hq=>by
   rcases c5 k hq with q | q
   ·exact (hmine (o:=o2) fun k h=>.inr h).apart k hk q
   ·exact f7 k q hk⟩
  obtain ⟨r1,r2⟩:=Vx5 d2 d3
  refine ⟨loc3,L3,d1.mem,d1.wf,r1,r2,(Vag tk.imm0).trans q2,fun k hk=>?_,(tk.ext.trans c3).trans d1.ext,?_,?_⟩
  ·rcases f4 k hk with h | h | h
   ·rcases tk.imm1 k h with h | h
    ·exact .inl h
    ·exact .inr (h.facts hm).1
   ·exact .inr (hOwn k h).1
   ·exact .inr (hm.up k h)
  ·have:=c4.trans c3 d1.lext
   exact fun b g hne=>this b g (tk.ext.free_of hne)
  ·exact ⟨f1.os,f1.tape,f1.output,f1.size,fun b hb hO=>f1.block b hb (fun q=>q.elim (fun q=>hO (hOwn b q).1) (fun q=>by omega))⟩
 cases hsn:(S.ps.all Slot.isV&&S.rs.all (Fld.flat E.fl)) with
 | false=>
  rw [hsn] at h
  obtain ⟨x,ids,own,I1,m1,loc1,tk,h2,h3,h4,h5⟩:=Vgh hE.cd m S.ps hm hw hwl hvl (fun b g c l h=>h) h
  rw [Qd] at h5
  obtain ⟨res,h6,h7⟩:=h5
  split at h7
  case h_2=>cases h7
  rename_i m2 hbk
  refine ⟨_,_,?_,h7⟩
  intro a next Q hn
  simp only [Oper.upon]
  refine (hsnd I1 own w _ x res tk.mem.imm (fun k h=>⟨(tk.got k h).1,((tk.got k h).2.facts hm).2.2⟩) (Va1 hG (Vag tk.imm0)) h2 h6).mono ?_
  rintro _ w' ⟨vs,I',o1,o2,rfl,f1,f2,f3,f4,f5,f6,f7,f8,f9⟩
  obtain ⟨loc',L',z1,z2,z3,z4,z5,z6,z7,z8,z9⟩:=fin (Ic:=I) tk h3 f1 f2 f3 f4 f5 f6 f7 f8 f9 hbk
  exact hn _ w' I' loc' L' z1 z2 (Va1 hG z5) z3 z4 z5 z6 z7 z8 z9
 | true=>
  rw [hsn] at h
  simp only [Qb] at hsn
  obtain ⟨x,h2,h5⟩:=Vo8 hE.cd hm hw S.ps hsn.1 hwl hvl h
  rw [Qd] at h5
  obtain ⟨res,h6,h7⟩:=h5
  split at h7
  case h_2=>cases h7
  rename_i m2 hbk
  refine ⟨_,_,?_,h7⟩
  intro a next Q hn
  simp only [Oper.upon]
  refine (hsnd (fun k=>k < w.heap.size) none' w _ x res (fun _ h=>h) (fun _ h=>h.elim) (Va1 hG (Vag hm.imm)) h2 h6).mono ?_
  rintro _ w' ⟨vs,I',o1,o2,rfl,f1,f2,f3,f4,f5,f6,f7,f8,f9⟩
  obtain ⟨n1,n2,_⟩:=Vx6 (C:=E.C) (m0:=m) (m:=m) (loc:=loc) (L:=L) (y:=res.1) (I2:=I) (w2:=w') hsn.1 h2
  obtain ⟨loc',L',z1,z2,z3,z4,z5,z6,z7,z8,z9⟩:=fin (Ic:=I) (I':=I) (o1:=none') (o2:=o2) (Took.refl hm hw) n2 f1 f2 (fun _ h=>h) (fun _ h=>.inl h) (fun k hk=>Ql (hm.imm k hk) f1.size)
   (fun k hk=>by
    have hk:o2 k:=hk.elim (fun q=>q.elim) id
    obtain ⟨u1,u2,u3⟩:=f6 k (.inr hk)
    exact ⟨u1,fun hI=>u2 (f3 k (hm.imm k hI)),u3⟩) (fun _ h=>h.elim) n1 (Vib hE.cd hE.fl hsn.2 f9) hbk
  exact hn _ w' I loc' L' z1 z2 (Va1 hG z5) z3 z4 z5 z6 z7 z8 z9
end
section
variable {T:Nat→Type} {C:Cd T} {O I:Nat→Prop} {w:World} {loc:Nat→Nat→Loc} {L:Nat→Nat→Nat} {m:MT T} {P:Program} {Y:Nat→Option TI} {R:Type}
theorem Vnr (hC:CdOk C) (hY:TysOk P Y) (hm:MRel O I loc (denM C m) w) (hw:WfM L m) {t:Nat} {e:DT T} {ρ:Operand→Value} {x:Operand} (hwe:WfD L e) (he:V I w (den C e) loc (ρ x)) {K:DT T→MT T→Option R} {r:R} (h:sliceVarK Y C t e m K=some r)
  (dst:Option Tmp) (type:TypeId) (pos:String) (after:Array Edge) (guard:Option (Nat×Bool)):∃ d m',ResT C O I loc L w ((execOp ρ ⟨dst,.slice t x none none none,type,pos,after,guard⟩).run P w) d m'∧K d m'=some r:=by
 unfold sliceVarK at h
 split at h
 case h_2=>cases h
 rename_i b
 split at h
 case h_2=>cases h
 rename_i cs hb
 split at h
 case h_2=>cases h
 rename_i n el s ha
 have ha:=Vdo hY ha
 split at h
 case h_2=>cases h
 rename_i j hj
 split at h
 case h_2=>cases h
 rename_i hs
 have hs:=Qc hs
 subst hs
 simp only [den,V] at he
 have hlt:b < m.length:=Va6 (C:=C) (g:=0) hm (by intro e; simp [e] at he)
 have hr:=Vb9 hm hlt
 rw [hb] at hr
 simp only [denB,RelB] at hr
 obtain ⟨_,k,cells,ct,fz,hl,hk,hfz,hone,hv⟩:=hr
 simp only [hl] at he
 have hwb:=hw b
 rw [hb] at hwb
 obtain ⟨cs',m1,I1,g1,g2,g3,g4,g5,g6,g7,g8,h⟩:=Vjm hC hm hw hwb hv h
 have g4':=Vme hm g4
 split at h
 case h_2=>cases h
 rename_i l hel
 obtain ⟨q1,q2,q3⟩:=Veg hC n _ l hel
 have hb1:m1.get b = .var cs:=by
  rcases g8 b with e | ⟨g,c,l',e,_⟩
  ·rw [e,hb]
  ·rw [hb] at e; cases e
 have hlt1:b < m1.length:=by omega
 have tk:=Took.box g1 g2 hlt1 (by rw [hb1]; rfl)
 have hown:∀ k',(∃ g,loc b g = .blk k')→k'=k:=by
  rintro k' ⟨g,hg⟩
  have hr1:=Vb9 g1 hlt1
  rw [hb1] at hr1
  simp only [denB,RelB] at hr1
  by_cases e:g=0
  ·subst e; rw [hl] at hg; cases hg; rfl
  ·rw [hr1.1 g e] at hg; cases hg
 have hIk:¬ I1 k∧k < w.heap.size:=by
  have:=g1.own b 0 k hlt1 (by rw [show (denM C m1).bx b=denB C (m1.get b) from rfl,hb1]; rfl) hl
  exact ⟨this.2.1,this.2.2⟩
 have mine:Mine C O I1 w (locOut loc b) (m1.put b .gone) (fun k'=>∃ g,loc b g = .blk k'):=by
  refine ⟨fun k' hk'=>?_,fun k' hk' hq=>(tk.rest k' hq).1 hk'⟩
  have h1:=tk.got k' hk'
  have h2:=h1.2.facts g1
  exact h2
 have hvl:=Vaf g5
 have hcl:l.length * C.sz j.code≤cells.size:=by
  have h1:=Vaf (q3 I1 w _ g5)
  have hsz:∀ row∈l.map (C.encD j.code),row.length=C.sz j.code:=by
   intro row hrow
   obtain ⟨y,_,rfl⟩:=List.mem_map.1 hrow
   exact hC.len _ y
  rw [Vai _ hsz,Q8] at h1
  have h2:cells.toList.length=cells.size:=by simp
  omega
 have hvr:VR I1 w (C.sz j.code) (l.map (C.encD j.code)) k 0:=by
  refine Vbb (fun row hrow=>?_) (q3 I1 w _ g5) hone fun i y hy=>?_
  ·obtain ⟨y,_,rfl⟩:=List.mem_map.1 hrow
   exact hC.len _ y
  ·simp only [World.cell?,hk,Qn]
   simpa using hy
 have pt:=Put.add (own:=fun k'=>∃ g,loc b g = .blk k') tk.mem tk.wf (.arr 0 j.code l) (.blk k) l.length (fun k' hk' _=>by cases hk'; exact ⟨0,hl⟩) mine (by simp [WfB,updL]) (by
  simp only [denB,RelB]
  exact ⟨⟨fun g hg=>by omega,fun g hg=>by simp [locNew]; omega⟩,.inr ⟨k,cells,ct,fz,by simp [locNew],hk,hfz,by rw [Q8]; exact hcl,hvr⟩⟩)
 have hlen:(m1.put b .gone).length=m1.length:=by simp [MT.put]
 refine ⟨_,_,⟨.slice (some ⟨k,0,none⟩) n n,w,I1,_,_,.inl ?_,pt.mem,pt.wf,?_,?_,Vag g3,g4',tk.ext.trans pt.ext,?_,.refl _ _⟩,h⟩
 ·simp [execOp,Instr.sliceAt,run_underlying (Vc7 ha.1),he,Instr.sureAddr,run_sizeOf' ha.2,Instr.sliceBounds]
  cases n<;>simp [Vav]
 ·rw [hlen]
  simp only [den,V,locNew,if_true]
  refine ⟨0,n,by rw [q1],by omega,.inr (by omega),?_⟩
  rw [rowSize,hk]
  simp only [Qn]
  rw [← q1]; exact hcl
 ·rw [hlen]
  simp [WfD,updL]
 ·intro b' g' hne
  unfold updL
  split
  ·rename_i e
   rw [e.1,e.2] at hne
   rw [hlen] at hne
   exact absurd (g1.free _ _ (Qv _)) hne
  ·rfl
end
structure SF (T:Nat→Type) where
 t:Nat→DT T
 m:MT T
section
variable {T:Nat→Type}
def SF.put (σ:SF T) (dst:Option Nat) (d:DT T):SF T:=
 match dst with
 | some k=>{ σ with t:=upd σ.t k d }
 | none=>σ
def semT (E:Env T) (o:Op) (e:Operand→DT T) (m:MT T):Option (DT T×MT T):=opK E o e m fun d m=>some (d,m)
def gdT (ops:Array Oper) (o:Oper) (t:Nat→DT T):Option Bool:=
 match gslot ops o with
 | none=>some true
 | some (some k,want)=>match t k with
  | .bool b=>some (b == want)
  | .tup []=>some false
  | _=>none
 | some (none,_)=>none
def stepOT (E:Env T) (ops:Array Oper) (o:Oper) (σ:SF T):Option (SF T):=
 match gdT ops o σ.t with
 | none=>none
 | some false=>some (σ.put o.dst (.tup []))
 | some true=>match semT E o.op (evT E.G σ.t) σ.m with
  | some (d,m')=>some ({ σ with m:=m' }.put o.dst d)
  | none=>none
def runOpsT (E:Env T) (ops:Array Oper):List Nat→SF T→Option (SF T)
 | [],σ=>some σ
 | i::r,σ=>match ops[i]? with
  | some o=>match stepOT E ops o σ with
   | some σ'=>runOpsT E ops r σ'
   | none=>none
  | none=>none
def indepT (E:Env T) (ops:Array Oper) (x y:Oper):Bool:=x.apart ops y&&!(clsT E x.op).clash (clsT E y.op)
def pairsAtT (E:Env T) (ops:Array Oper) (ms:List Nat) (i:Nat):Bool:=
 match ops[i]? with
  | some oi=>(oi.after.all fun e=>!Region.binds .any e||decide (e.on < i)) &&
    (Qw i).all fun j=>match ops[j]? with
     | some oj=>(ms.getD i 0).testBit j||indepT E ops oj oi
     | none=>false
  | none=>false
def pairsOkT (E:Env T) (ops:Array Oper):Bool:=
 (Qw ops.size).all (pairsAtT E ops (masks ops.toList []))
variable {E:Env T} {ops:Array Oper} {P:Program}
theorem Vwt {R:Type} {e e':Operand→DT T} {o:Op} {K:DT T→Option R} (h:∀ x∈o.operands,e x=e' x):nK E.Y E.C o e K=nK E.Y E.C o e' K:=by
 cases o<;>simp only [Op.operands] at h<;>simp only [nK]
 case build t ps=>
  have:(ps.toList.map fun p=>(p.1,e p.2))=(ps.toList.map fun p=>(p.1,e' p.2)):=Qx fun p hp=>by
   rw [h p.2 (by simp; exact ⟨p.1,by simpa using hp⟩)]
  rw [this]
 case slice t x lo hi mx=>
  cases mx with
  | some _=>rfl
  | none=>
   have h1:e x=e' x:=h x (by simp)
   have h2:lo.map e=lo.map e':=by cases lo with
    | none=>rfl
    | some y=>simp only [Q0]; rw [h y (by simp)]
   have h3:hi.map e=hi.map e':=by cases hi with
    | none=>rfl
    | some y=>simp only [Q0]; rw [h y (by simp)]
   simp only [h1,h2,h3]
 case makeFunc fn first cap=>
  cases fn<;>simp only []
  have:cap.toList.map e=cap.toList.map e':=Qx fun x hx=>h x (by simp; right; simpa using hx)
  rw [this]
 case call c=>
  obtain ⟨callee,args,at'⟩:=c
  have ha:args.toList.map e=args.toList.map e':=Qx fun x hx=>h x (by simp [Call.operands]; right; simpa using hx)
  cases callee with
  | builtin b=>
   cases b<;>simp only [ha]
   case len=>
    split
    ·rename_i x t hx ht
     rw [h x (by simp [Call.operands]; rw [← Qam,hx]; simp)]
    ·rfl
   case cap=>
    split
    ·rename_i x t hx ht
     rw [h x (by simp [Call.operands]; rw [← Qam,hx]; simp)]
    ·rfl
  | value f=>rfl
  | invoke r n=>rfl
 all_goals first | rfl | (simp at h; simp only [h])
theorem Vwu {R:Type} {e e':Operand→DT T} {m:MT T} {o:Op} {K:DT T→Option R} (h:∀ x∈o.operands,e x=e' x):rK E.Y E.C o e m K=rK E.Y E.C o e' m K:=by
 cases o<;>simp only [Op.operands] at h<;>simp only [rK]
 case load t x=>simp at h; simp only [h]
 case slice t x lo hi mx=>
  cases lo with
  | some _=>rfl
  | none=>cases hi with
   | some _=>rfl
   | none=>cases mx with
    | some _=>rfl
    | none=>simp at h; simp only [h]
 case convert src dst x=>simp at h; simp only [h]
 case lookup t x ix ok=>
  cases ok with
  | true=>rfl
  | false=>simp at h; simp only [h.1,h.2]
 case call c=>
  obtain ⟨callee,args,at'⟩:=c
  have hm:∀ x∈args.toList,e x=e' x:=fun x hx=>h x (by simp [Call.operands]; right; simpa using hx)
  cases callee with
  | builtin b=>
   cases b<;>simp only []
   split
   ·rename_i x t hx ht
    rw [hm x (by rw [hx]; simp)]
   ·rfl
  | value f=>rfl
  | invoke r n=>rfl
theorem Vwv {R:Type} {e e':Operand→DT T} {m:MT T} {o:Op} {K:DT T→MT T→Option R} (h:∀ x∈o.operands,e x=e' x):wK E.Y E.C o e m K=wK E.Y E.C o e' m K:=by
 cases o<;>simp only [Op.operands] at h<;>simp only [wK]
 case box t x=>simp at h; simp only [h]
 case store t x y=>simp at h; simp only [h]
 case range t x=>simp at h; simp only [h]
 case convert src dst x=>simp at h; simp only [h]
 case makeSlice t a b=>simp at h; simp only [h]
 case next x q=>simp at h; cases q<;>simp only [h]
 case makeMap t r=>cases r<;>rfl
 case mapUpdate t x ix y=>simp at h; simp only [h.1,h.2.1,h.2.2]
 case buildSlice t n ps=>
  have:(ps.toList.map fun p=>(p.1,e p.2))=(ps.toList.map fun p=>(p.1,e' p.2)):=Qx fun p hp=>by
   rw [h p.2 (by simp; exact ⟨p.1,by simpa using hp⟩)]
  simp only [this]
 case call c=>
  obtain ⟨callee,args,at'⟩:=c
  have hm:∀ x∈args.toList,e x=e' x:=fun x hx=>h x (by simp [Call.operands]; right; simpa using hx)
  cases callee with
  | builtin b=>
   cases b<;>simp only []
   all_goals
    split
    ·rename_i s x t t' hx ht
     have h1:e s=e' s:=hm s (by rw [hx]; simp)
     have h2:e x=e' x:=hm x (by rw [hx]; simp)
     simp only [h1,h2]
    ·rfl
  | invoke r n=>rfl
  | value f=>rfl
theorem Vjo {e e':Operand→DT T} {m:MT T} {o:Op} (h:∀ x∈o.operands,e x=e' x):semT E o e m=semT E o e' m:=by
 unfold semT opK
 split
 ·exact Vwt h
 ·split
  ·rename_i f args at' _
   have ha:args.toList.map e=args.toList.map e':=Qx fun x hx=>h x (by simp [Op.operands,Call.operands]; right; simpa using hx)
   rw [ha]
  ·exact Vwu h
 ·split
  ·rename_i f args at' _
   have ha:args.toList.map e=args.toList.map e':=Qx fun x hx=>h x (by simp [Op.operands,Call.operands]; right; simpa using hx)
   have hf:e f=e' f:=h f (by simp [Op.operands,Call.operands])
   rw [ha,hf]
  ·rename_i t x _
   rw [h x (by simp [Op.operands])]
  ·exact Vwv h
theorem Vt3 {σ:SF T} {dst:Option Nat} {d:DT T} {x:Operand} (h:∀ k,dst=some k→x≠.tmp k):evT E.G (σ.put dst d).t x=evT E.G σ.t x:=by
 cases dst with
 | none=>rfl
 | some k=>
  cases x with
  | tmp t=>
   have:t≠k:=fun e=>h k rfl (e ▸ rfl)
   simp [evT,SF.put,upd,this]
  | _=>rfl
theorem Vg8 {σ:SF T} {dst:Option Nat} {d:DT T} {o:Oper} {m:MT T} (h:∀ k,dst=some k→k∉o.looksAt ops):semT E o.op (evT E.G (σ.put dst d).t) m=semT E o.op (evT E.G σ.t) m:=
 Vjo fun x hx=>Vt3 fun k hk e=>h k hk (Vl6 (by rw [← e]; exact hx))
theorem Vz6 {t:Nat→DT T} {k:Nat} {d:DT T} {o:Oper} (h:k∉o.looksAt ops):gdT ops o (upd t k d)=gdT ops o t:=by
 unfold gdT gslot
 cases hg:o.guard with
 | none=>rfl
 | some p=>
  obtain ⟨j,want⟩:=p
  simp only
  cases hd:(ops[j]?).bind (·.dst) with
  | none=>rfl
  | some q=>
   have:q≠k:=fun e=>h (by
    unfold Oper.looksAt
    rw [Q1]
    right
    simp [hg,hd,e])
   simp [upd,this]
theorem SF.put_comm (σ:SF T) {x y:Option Nat} (d d':DT T) (h:∀ k,x=some k→y≠some k):(σ.put x d).put y d'=(σ.put y d').put x d:=by
 cases x with
 | none=>rfl
 | some k=>
  cases y with
  | none=>rfl
  | some q=>
   have hne:k≠q:=fun e=>h k rfl (by rw [e])
   simp only [SF.put]
   congr 1
   funext j
   simp only [upd]
   by_cases h1:j=k
   ·subst h1; simp [hne]
   ·simp [h1]
theorem Vbg {σ:SF T} {dst:Option Nat} {d:DT T} {o:Oper} (h:∀ k,dst=some k→k∉o.looksAt ops):gdT ops o (σ.put dst d).t=gdT ops o σ.t:=by
 cases dst with
 | none=>rfl
 | some k=>exact Vz6 (h k rfl)
theorem Vo9 {o:Op} {e:Operand→DT T} {m m':MT T} {d:DT T} (hc:clsT E o = .n) (h:semT E o e m=some (d,m')):m'=m∧∀ m2,semT E o e m2=some (d,m2):=by
 unfold semT opK at *
 rw [hc] at h ⊢
 simp only at h ⊢
 rw [Vox,Qd] at h
 obtain ⟨x,hx,hp⟩:=h
 simp only [Qa,Qm] at hp
 refine ⟨hp.2.symm,fun m2=>?_⟩
 rw [Vox,hx,← hp.1]; rfl
theorem Vic (f:Nat) (ds:List (DT T)) (m:MT T) {R:Type} (K:DT T→Option R):callR E f ds m K=(callR E f ds m some).bind K:=by
 have look : ∀ (ss : List Slot) (ds : List (DT T)) {R : Type} (K : tySs T ss→Option R), decVsK E.C m ss ds K = (decVsK E.C m ss ds some).bind K := by
  intro ss
  induction ss with
  | nil=>intro ds R K; simp only [decVsK]; split<;>rfl
  | cons s r ih=>
   intro ds R K
   cases s with
   | f f =>
    cases f with
    | v t =>
     cases ds with
     | nil=>rfl
     | cons d ds=>
      simp only [decVsK]
      split
      ·rw [Vbs,Vbs (R:=tySs T (.f (.v t)::r))]
       simp only [Qf]
       congr 1; funext cs
       split
       ·rw [ih ds,ih ds (R:=tySs T (.f (.v t)::r))]
        rw [Qf]; rfl
       ·rfl
      ·rfl
    | own c=>simp [decVsK]
    | pt c=>simp [decVsK]
    | st a c b=>simp [decVsK]
    | fp f t=>simp [decVsK]
   | ptr fs=>simp [decVsK]
   | inp c=>simp [decVsK]
   | iter=>simp [decVsK]
   | lar c=>simp [decVsK]
   | mset a c=>simp [decVsK]
 unfold callR
 split
 ·split
  ·rw [look,look (R:=DT T)]
   simp only [Qf,Qk]
  ·rfl
 ·rfl
theorem Vt4 {o:Op} {e:Operand→DT T} {m m':MT T} {d:DT T} (hc:clsT E o = .r) (h:semT E o e m=some (d,m')):m'=m:=by
 unfold semT opK at *
 rw [hc] at h
 simp only at h
 split at h
 ·rw [Vic,Qd] at h
  obtain ⟨x,hx,hp⟩:=h
  simp only [Qa,Qm] at hp
  exact hp.2.symm
 ·rw [Vtj,Qd] at h
  obtain ⟨x,hx,hp⟩:=h
  simp only [Qa,Qm] at hp
  exact hp.2.symm
theorem Vev (t:Nat→DT T) (m1 m2 m3:MT T) {x y:Option Nat} (dx dy:DT T) (h:∀ k,y=some k→x≠some k) :
  ({ t:=(({ t:=t,m:=m1 }:SF T).put y dy).t,m:=m2 }:SF T).put x dx=({ t:=(({ t:=t,m:=m3 }:SF T).put x dx).t,m:=m2 }:SF T).put y dy:=by
 cases x with
 | none=>cases y<;>rfl
 | some k=>
  cases y with
  | none=>rfl
  | some q=>
   have hne:q≠k:=fun e=>h q rfl (by rw [e])
   simp only [SF.put]
   congr 1
   funext j
   simp only [upd]
   by_cases h1:j=k
   ·subst h1; simp [Ne.symm hne]
   ·simp [h1]
theorem Vqd {x y:Oper} {σ σ1 σ2:SF T} (hi:indepT E ops x y=true) (h1:stepOT E ops x σ=some σ1) (h2:stepOT E ops y σ1=some σ2) :
  ∃ τ,stepOT E ops y σ=some τ∧stepOT E ops x τ=some σ2:=by
 unfold indepT at hi
 simp only [Qb,Qq] at hi
 obtain ⟨hap,hcl⟩:=hi
 obtain ⟨a1,a2,a3⟩:=Oper.apart_spec hap
 have a2':∀ k,y.dst=some k→x.dst≠some k:=fun k hk e=>a2 k e hk
 unfold stepOT at h1 h2
 -- x
 split at h1
 ·cases h1
 ·-- x is passed over
  rename_i hgx
  simp only [Qa] at h1; subst h1
  rw [Vbg a1] at h2
  split at h2
  ·cases h2
  ·rename_i hgy
   simp only [Qa] at h2; subst h2
   refine ⟨σ.put y.dst (.tup []),by simp [stepOT,hgy],?_⟩
   unfold stepOT
   rw [Vbg a3,hgx]
   simp only
   rw [SF.put_comm σ _ _ a2']
  ·rename_i hgy
   rw [Vg8 a1] at h2
   split at h2
   case h_2=>cases h2
   rename_i d m' hs
   simp only [Qa] at h2; subst h2
   have hs':semT E y.op (evT E.G σ.t) σ.m=some (d,m'):=by
    rw [← hs]; cases x.dst<;>rfl
   refine ⟨({ σ with m:=m' }:SF T).put y.dst d,by simp [stepOT,hgy,hs'],?_⟩
   unfold stepOT
   rw [Vbg a3]
   simp only [hgx]
   have:=Vev σ.t m' m' σ.m (DT.tup []) d a2'
   have hm2:(({ σ with m:=m' }:SF T).put y.dst d).m=m':=by cases y.dst<;>rfl
   have e:(({ σ with m:=m' }:SF T).put y.dst d)=({ t:=(({ σ with m:=m' }:SF T).put y.dst d).t,m:=m' }:SF T):=by cases y.dst<;>rfl
   rw [e]
   exact congrArg some this
 ·-- x runs
  rename_i hgx
  split at h1
  case h_2=>cases h1
  rename_i dx mx hsx
  simp only [Qa] at h1; subst h1
  rw [Vbg a1] at h2
  simp only at h2
  split at h2
  ·cases h2
  ·rename_i hgy
   simp only [Qa] at h2; subst h2
   refine ⟨σ.put y.dst (.tup []),by simp [stepOT,hgy],?_⟩
   unfold stepOT
   rw [Vbg a3,hgx]
   simp only
   rw [Vg8 a3]
   have:(σ.put y.dst (DT.tup [])).m=σ.m:=by cases y.dst<;>rfl
   rw [this,hsx]
   simp only [Qa]
   have h3:=Vev σ.t σ.m mx mx dx (DT.tup []) a2'
   have e:(({ σ with m:=mx }:SF T).put x.dst dx)=({ t:=(({ σ with m:=mx }:SF T).put x.dst dx).t,m:=mx }:SF T):=by cases x.dst<;>rfl
   rw [e]
   exact h3
  ·rename_i hgy
   rw [Vg8 a1] at h2
   have hmx:(({ σ with m:=mx }:SF T).put x.dst dx).m=mx:=by cases x.dst<;>rfl
   rw [hmx] at h2
   split at h2
   case h_2=>cases h2
   rename_i dy my hsy
   simp only [Qa] at h2; subst h2
   have key:∃ m1,semT E y.op (evT E.G σ.t) σ.m=some (dy,m1)∧semT E x.op (evT E.G σ.t) m1=some (dx,my):=by
    cases hcx:clsT E x.op with
    | n=>
     obtain ⟨e1,e2⟩:=Vo9 hcx hsx
     subst e1
     exact ⟨my,hsy,e2 my⟩
    | r=>
     have e1:=Vt4 hcx hsx
     subst e1
     cases hcy:clsT E y.op with
     | n=>obtain ⟨e3,_⟩:=Vo9 hcy hsy; subst e3; exact ⟨_,hsy,hsx⟩
     | r=>have e3:=Vt4 hcy hsy; subst e3; exact ⟨_,hsy,hsx⟩
     | w=>rw [hcx,hcy] at hcl; simp [Cls.clash] at hcl
    | w=>
     cases hcy:clsT E y.op with
     | n=>obtain ⟨e3,e4⟩:=Vo9 hcy hsy; subst e3; exact ⟨σ.m,e4 _,hsx⟩
     | r=>rw [hcx,hcy] at hcl; simp [Cls.clash] at hcl
     | w=>rw [hcx,hcy] at hcl; simp [Cls.clash] at hcl
   obtain ⟨m1,k1,k2⟩:=key
   refine ⟨({ σ with m:=m1 }:SF T).put y.dst dy,by simp [stepOT,hgy,k1],?_⟩
   unfold stepOT
   rw [Vbg a3]
   simp only [hgx]
   rw [Vg8 a3]
   have hm1:(({ σ with m:=m1 }:SF T).put y.dst dy).m=m1:=by cases y.dst<;>rfl
   simp only [hm1,k2,Qa]
   exact Vev σ.t m1 my mx dx dy a2'
theorem Vfu {i:Nat} {oi:Oper} (hoi:ops[i]? = some oi):∀ (l r:List Nat) (σ σ':SF T),(∀ j∈l,∃ oj,ops[j]? = some oj∧indepT E ops oj oi=true)→runOpsT E ops (l++i::r) σ=some σ'→runOpsT E ops (i::(l++r)) σ=some σ'
 | [],r,σ,σ',_,h=>h
 | j::l,r,σ,σ',hl,h=>by
  obtain ⟨oj,hoj,hin⟩:=hl j (by simp)
  simp only [Qah,runOpsT,hoj] at h
  split at h
  case h_2=>cases h
  rename_i σ1 h1
  have h2:=Vfu hoi l r σ1 σ' (fun k hk=>hl k (by simp [hk])) h
  simp only [runOpsT,hoi] at h2
  split at h2
  case h_2=>cases h2
  rename_i σ2 h3
  obtain ⟨τ,h4,h5⟩:=Vqd hin h1 h3
  simp only [Qah,runOpsT,hoi,h4,hoj,h5]
  exact h2
theorem Vid (hp:pairsOkT E ops=true) {i:Nat} {oi:Oper} (hi:ops[i]? = some oi) :
  (∀ e∈oi.after,Region.binds .any e=true→e.on < i)∧∀ j,j < i→∃ oj,ops[j]? = some oj∧(((masks ops.toList []).getD i 0).testBit j=true∨indepT E ops oj oi=true):=by
 have hlt:i < ops.size:=by
  rcases Q4 i ops.size with h | h
  ·exact h
  ·rw [Q2 h] at hi; cases hi
 unfold pairsOkT at hp
 have:=List.all_eq_true.1 hp i (by simpa using hlt)
 simp only [pairsAtT,hi,Qb] at this
 obtain ⟨h1,h2⟩:=this
 refine ⟨fun e he hb=>?_,fun j hj=>?_⟩
 ·have:=Array.all_eq_true'.1 h1 e he
  simpa [hb] using this
 ·have:=List.all_eq_true.1 h2 j (by simpa using hj)
  split at this
  ·rename_i oj hoj
   exact ⟨oj,hoj,by simpa using this⟩
  ·cases this
theorem Vt5 (hp:pairsOkT E ops=true):∀ (fuel t:Nat) (listed:Array Bool) (σ σ':SF T),listed.size=ops.size→(left ops.size listed).length≤fuel →
  (∀ (k:Nat) (o:Oper),ops[k]? = some o→listed.getD k false=true→∀ e∈o.after,Region.binds .any e=true→listed.getD e.on false=true) →
  runOpsT E ops (left ops.size listed) σ=some σ'→runOpsT E ops (Region.linearise.go .any ops fuel t listed []) σ=some σ'
 | 0,t,listed,σ,σ',hsz,hf,hcl,h=>by
  have:left ops.size listed=[]:=Qaq (by omega)
  rw [this] at h
  simpa [Region.linearise.go] using h
 | fuel+1, t, listed, σ, σ', hsz, hf, hcl, h => by
  simp only [Region.linearise.go]
  change runOpsT E ops (match (Region.ready .any ops listed)[t % (Region.ready .any ops listed).length]? with
   | some i=>Region.linearise.go .any ops fuel (t / (Region.ready .any ops listed).length) (listed.setIfInBounds i true) [i]
   | none=>[].reverse) σ=some σ'
  have hready:∀ i,i∈Region.ready .any ops listed↔i∈left ops.size listed∧∃ o,ops[i]? = some o∧∀ e∈o.after,Region.binds .any e=true→listed.getD e.on false=true:=by
   intro i
   unfold Region.ready
   simp only [Qbd,Q3,Qb,Qq,mem_left]
   constructor
   ·rintro ⟨h1,h2,h3⟩
    refine ⟨⟨h1,h2⟩,ops[i],by simp [h1],fun e he hb=>?_⟩
    simp only [Qas h1,Q0,Qae,Qac] at h3
    have:=h3 e he
    simpa [hb] using this
   ·rintro ⟨⟨h1,h2⟩,o,ho,h3⟩
    refine ⟨h1,h2,?_⟩
    simp only [ho,Q0,Qae,Qac]
    intro e he
    cases hb:Region.binds .any e with
    | false=>simp
    | true=>simp [h3 e he hb]
  cases hi:(Region.ready .any ops listed)[t % (Region.ready .any ops listed).length]? with
  | none=>
   have hnil:Region.ready .any ops listed=[]:=by
    cases hr:Region.ready .any ops listed with
    | nil=>rfl
    | cons x xs=>
     rw [hr] at hi
     have hlt:t % (x::xs).length < (x::xs).length:=Nat.mod_lt _ (by simp)
     rw [Qp hlt] at hi
     cases hi
   have hl : left ops.size listed = [] := by
    cases hr:left ops.size listed with
    | nil=>rfl
    | cons x xs=>
     exfalso
     have hx:x∈left ops.size listed:=by rw [hr]; simp
     obtain ⟨hxl,hxf⟩:=mem_left.1 hx
     have hox:ops[x]? = some ops[x]:=by simp [hxl]
     have:x∈Region.ready .any ops listed:=by
      rw [hready]
      refine ⟨hx,ops[x],hox,fun e he hb=>?_⟩
      have hlt:=(Vid hp hox).1 e he hb
      -- e.on < x and x is the least that is left
      rcases hle:listed.getD e.on true with _ | _
      ·have hme:e.on∈left ops.size listed:=mem_left.2 ⟨by omega,hle⟩
       obtain ⟨l,r,e1,e2,_⟩:=Ver hsz hme
       have:x=(l++e.on::r).head (by simp):=by
        have:=congrArg List.head? (hr.symm.trans e1)
        simp at this
        cases l with
        | nil=>simpa using this
        | cons y ys=>simpa using this
       cases l with
       | nil=>simp at this; omega
       | cons y ys=>
        simp at this
        have:=(e2 y (by simp)).1
        omega
      ·have:e.on < listed.size:=by rw [hsz]; omega
       simp [Qe,this] at hle ⊢
       exact hle
     rw [hnil] at this
     cases this
   rw [hl] at h
   simpa using h
  | some i=>
   simp only []
   have hir:=(hready i).1 (Qao hi)
   obtain ⟨hil,oi,hoi,hdep⟩:=hir
   obtain ⟨l,r,e1,e2,e3⟩:=Ver hsz hil
   rw [linearise_go_acc,Qax,Qa4]
   rw [e1] at h
   have hfr:=Vfu hoi l r σ σ' (fun j hj=>by
    obtain ⟨hji,hjf⟩:=e2 j hj
    obtain ⟨oj,hoj,hor⟩:=(Vid hp hoi).2 j hji
    refine ⟨oj,hoj,hor.resolve_left fun hre=>?_⟩
    have:=Vgb ops.toList [] (fun k _=>by simp) (fun k hk=>by simp at hk) (fun k _=>by simp) i listed hcl oi hoi hdep j hre
    have hjl:j < listed.size:=by
     rw [hsz]
     rcases Q4 j ops.size with h | h
     ·exact h
     ·rw [Q2 h] at hoj; cases hoj
    simp [Qe,hjl] at this hjf
    rw [this] at hjf; cases hjf) h
   simp only [runOpsT,hoi] at hfr ⊢
   split at hfr
   case h_2=>cases hfr
   rename_i σ1 h1
   have hlen:(left ops.size listed).length=(l++r).length+1:=by rw [e1]; simp; omega
   refine Vt5 hp fuel _ _ σ1 σ' (by simpa using hsz) (by rw [e3]; omega) (fun k o hk hlk e he hb=>?_) (by rw [e3]; exact hfr)
   have hset:∀ q,listed.getD q false=true→(listed.setIfInBounds i true).getD q false=true:=fun q hq=>by
    simp only [Qe,Qg] at hq ⊢
    by_cases hqi:i=q
    ·subst hqi
     rw [if_pos rfl]
     by_cases hqs:i < listed.size
     ·simp [hqs]
     ·simp [hqs] at hq
    ·rw [if_neg hqi]; exact hq
   by_cases hki:k=i
   ·subst hki
    rw [hoi] at hk; cases hk
    exact hset _ (hdep e he hb)
   ·refine hset _ (hcl k o hk ?_ e he hb)
    simpa [Qe,Qg,Ne.symm hki] using hlk
theorem Vk3 (hmix:P.follows .mixedOrders=true) (hp:pairsOkT E ops=true) (t:Nat) {σ σ':SF T} (h:runOpsT E ops (Qw ops.size) σ=some σ') :
  runOpsT E ops (Region.schedule (P.follows .mixedOrders) ops t) σ=some σ':=by
 simp only [Region.schedule,hmix,Qbo,if_true,Region.linearise]
 have hl:left ops.size (Qai ops.size false)=Qw ops.size:=by
  unfold left
  rw [Qa6]
  intro i hi
  simp only [Q3] at hi
  simp [Qe,hi]
 refine Vt5 hp ops.size t _ σ σ' (by simp) (by rw [hl]; simp) (fun k o hk hlk=>?_) (by rw [hl]; exact h)
 simp [Qe] at hlk
 by_cases hk2:k < ops.size
 ·simp [hk2] at hlk
 ·simp [hk2] at hlk
end
section
variable {T:Nat→Type}
structure RelT (E:Env T) (O I0:Nat→Prop) (w0:World) (n:Nat) (kp:List (Nat×Value)) (I:Nat→Prop) (loc:Nat→Nat→Loc) (L:Nat→Nat→Nat) (σ:SF T) (a:Act) (w:World):Prop where
 size:a.tmps.size=n
 defers:a.defers=[]
 tmp:∀ i,V I w (den E.C (σ.t i)) loc (a.tmps.getD i undef)
 wf:∀ i,WfD L (σ.t i)
 mem:MRel O I loc (denM E.C σ.m) w
 wfm:WfM L σ.m
 glob:Glob (GD E) I w
 fr:Fr O w0 w
 rows:∀ b,rowSize w0 b≤rowSize w b
 imm0:∀ k,I0 k→I k
 imm1:∀ k,I k→I0 k∨O k
 kept:∀ p∈kp,a.tmps.getD p.1 undef=p.2
variable {P:Program} {E:Env T} {O I0 I:Nat→Prop} {w0 w:World} {n:Nat} {kp:List (Nat×Value)} {loc:Nat→Nat→Loc} {L:Nat→Nat→Nat} {σ:SF T} {a:Act} {R:Type} {C:Cd T}
theorem Vt6 {k:IntKind} {n:Int} (h:inK k n=true):den C (mkInt k n:DT T) = .int k n:=by
 simp only [inK,Qb,decide_eq_true_eq] at h
 obtain ⟨h1,h2⟩:=h
 cases k<;>simp only [mkInt,den]<;>simp only [Q7] at h2<;>congr 1
 ·have:(UInt8.ofBitVec (Qbj 8 n)).toNat=(Qbj 8 n).toNat:=rfl
  rw [this,Qaa]; omega
 ·rw [Qaa]; omega
 ·rw [Qaa]; omega
 ·rw [Qaa]; omega
theorem Vww {k:IntKind} {n:Int}:WfD L (mkInt k n:DT T):=by cases k<;>trivial
mutual
theorem Vt7:∀ v:Value,V I w (den C (ofVT v:DT T)) loc v∧WfD L (ofVT v:DT T)
 | .bool b=>by simp [ofVT,den,V,WfD]
 | .int k n=>by
  simp only [ofVT]
  split
  ·exact ⟨by simp [den,V],trivial⟩
  ·split
   ·rename_i h
    rw [Vt6 h]
    exact ⟨by simp [V],Vww⟩
   ·exact ⟨trivial,trivial⟩
 | .string s=>by simp [ofVT,den,V,WfD]
 | .pointer none=>by simp [ofVT,den,V,WfD]
 | .pointer (some a)=>by simp [ofVT,den,V,WfD]
 | .slice none 0 0=>by simp [ofVT,den,V,WfD]
 | .slice none 0 (n+1)=>by simp [ofVT,den,V,WfD]
 | .slice none (n+1) _=>by simp [ofVT,den,V,WfD]
 | .slice (some _) _ _=>by simp [ofVT,den,V,WfD]
 | .agg ⟨cs⟩=>by
  simp only [ofVT]
  split
  ·rename_i h
   simp only [den,V,WfD]
   exact ⟨⟨cs,rfl,fun x hx=>by simpa using List.all_eq_true.1 h x hx,(Vg9 cs).1⟩,(Vg9 cs).2⟩
  ·exact ⟨trivial,trivial⟩
 | .nilFunc=>by simp [ofVT,den,V,WfD]
 | .nilIface=>by simp [ofVT,den,V,WfD]
 | .map none=>by simp [ofVT,den,V,WfD]
 | .map (some _)=>by simp [ofVT,den,V,WfD]
 | .float _ _=>by simp [ofVT,den,V,WfD]
 | .complex _ _ _=>by simp [ofVT,den,V,WfD]
 | .chan _=>by simp [ofVT,den,V,WfD]
 | .func _ _ _=>by simp [ofVT,den,V,WfD]
 | .iface _ _=>by simp [ofVT,den,V,WfD]
 | .tuple _=>by simp [ofVT,den,V,WfD]
theorem Vg9:∀ vs:List Value,VL I w (denL C (ofVTs vs:List (DT T))) loc vs∧WfL L (ofVTs vs:List (DT T))
 | []=>by simp [ofVTs,denL,VL,WfL]
 | v::r=>by
  simp only [ofVTs,denL,VL,WfL]
  exact ⟨⟨v,r,rfl,(Vt7 v).1,(Vg9 r).1⟩,(Vt7 v).2,(Vg9 r).2⟩
end
theorem Vie (h:RelT E O I0 w0 n kp I loc L σ a w) (x:Operand):V I w (den E.C (evT E.G σ.t x)) loc (a.eval x)∧WfD L (evT E.G σ.t x):=by
 cases x with
 | tmp t=>exact ⟨h.tmp t,h.wf t⟩
 | const v=>exact Vt7 v
 | global g=>
  simp only [evT,Act.eval]
  cases hg:E.G g with
  | none=>exact ⟨trivial,trivial⟩
  | some cs=>
   simp only [den,V,WfD,and_true]
   have hq:=h.glob g (denL E.C cs) (by simp [GD,hg])
   exact ⟨g,0,rfl,hq.1,hq.2.1⟩
 | func f=>exact ⟨by simp only [evT,Act.eval,den,denL,V]; exact ⟨[],rfl,by simp [VL]⟩,trivial⟩
theorem RelT.put (h:RelT E O I0 w0 n kp I loc L σ a w) {m':MT T} {w':World} {I':Nat→Prop} {loc':Nat→Nat→Loc} {L':Nat→Nat→Nat} {d:DT T} {v:Value} (dst:Option Nat) (hd:∀ k,dst=some k→k < n∧∀ p∈kp,p.1≠k)
  (hm:MRel O I' loc' (denM E.C m') w') (hwm:WfM L' m') (hG:Glob (GD E) I' w') (hv:V I' w' (den E.C d) loc' v) (hwd:WfD L' d) (he:Ext I I' w w') (hI:∀ k,I' k→I k∨O k) (hl:LocExt loc loc') (hL:LExt loc L L') (hf:Fr O w w') :
  RelT E O I0 w0 n kp I' loc' L' ({ σ with m:=m' }.put dst d) (a.put dst v) w':=by
 have hold:∀ i,V I' w' (den E.C (σ.t i)) loc' (a.tmps.getD i undef):=fun i=>Va4 he _ loc loc' _ hl (h.tmp i)
 have holw:∀ i,WfD L' (σ.t i):=fun i=>Vkw hL _ _ (h.tmp i) (h.wf i)
 have hi1:∀ k,I' k→I0 k∨O k:=fun k hk=>(hI k hk).elim (h.imm1 k) .inr
 have hrows:∀ b,rowSize w0 b≤rowSize w' b:=fun b=>Qab (h.rows b) (he.rows b)
 cases dst with
 | none=>exact ⟨h.size,h.defers,hold,holw,hm,hwm,hG,h.fr.trans hf,hrows,fun k hk=>he.imm k (h.imm0 k hk),hi1,h.kept⟩
 | some k=>
  obtain ⟨hk,hkp⟩:=hd k rfl
  have get1:(a.tmps.setIfInBounds k v).getD k undef=v:=by
   simp [Qe,Qg,h.size,hk]
  have get2:∀ i,i≠k→(a.tmps.setIfInBounds k v).getD i undef=a.tmps.getD i undef:=fun i e=>by
   simp [Qe,Qg,Ne.symm e]
  refine ⟨by simp [Act.put,h.size],h.defers,fun i=>?_,fun i=>?_,hm,hwm,hG,h.fr.trans hf,hrows,fun k hk=>he.imm k (h.imm0 k hk),hi1,fun p hp=>?_⟩
  ·simp only [SF.put,Act.put,upd]
   by_cases e:i=k
   ·subst e
    rw [if_pos rfl,get1]; exact hv
   ·rw [if_neg e,get2 i e]; exact hold i
  ·simp only [SF.put,upd]
   by_cases e:i=k
   ·rw [if_pos e]; exact hwd
   ·rw [if_neg e]; exact holw i
  ·simp only [Act.put]
   rw [get2 p.1 (hkp p hp)]
   exact h.kept p hp
theorem Vx7 (hE:EnvOk P E) (h:RelT E O I0 w0 n kp I loc L σ a w) {o:Oper} {K:DT T→MT T→Option R} {r:R} (hk:opK E o.op (evT E.G σ.t) σ.m K=some r) :
  ∃ d m',FollowsT P E O I loc L w o ((execOp a.eval o).run P w) d m'∧K d m'=some r:=by
 have he:=fun x=>(Vie h x).1
 have hwe:=fun x=>(Vie h x).2
 obtain ⟨dst,op,type,pos,after,guard⟩:=o
 simp only at hk
 unfold opK at hk
 split at hk
 ·obtain ⟨d,h1,h2,h3⟩:=nK_ok (L:=L) hE.tys hE.cd hwe hk
  exact ⟨d,σ.m,.of_D h.mem h.wfm h2 (Follows.of_res h.glob (Res.of_same h.mem (Vs1 (o:=⟨dst,op,type,pos,after,guard⟩) he h1))),h3⟩
 ·split at hk
  ·rename_i f args at' _
   obtain ⟨d,h1,h2⟩:=Vt2 hE h.mem h.wfm h.glob he hwe (f:=f) rfl hk
   exact ⟨d,σ.m,h1,h2⟩
  ·obtain ⟨d,h1,h2,h3⟩:=rK_ok (P:=P) (o:=⟨dst,op,type,pos,after,guard⟩) hE.cd hE.tys h.mem h.wfm h.glob he hwe hk
   exact ⟨d,σ.m,.of_D h.mem h.wfm h2 h1,h3⟩
 ·split at hk
  ·split at hk
   case h_2=>cases hk
   rename_i f args at' _ k cap hf
   exact Vqc hE h.mem h.wfm h.glob he hwe hf hk
  ·rename_i t x _
   obtain ⟨d,m',h1,h2⟩:=Vnr (P:=P) (R:=R) (ρ:=a.eval) (x:=x) hE.cd hE.tys h.mem h.wfm (hwe x) (he x) hk dst type pos after guard
   exact ⟨d,m',.of_res h.glob h1,h2⟩
  ·obtain ⟨d,m',h1,h2⟩:=wK_ok (P:=P) (o:=⟨dst,op,type,pos,after,guard⟩) hE.cd hE.tys h.mem h.wfm he hwe hk
   exact ⟨d,m',.of_res h.glob h1,h2⟩
theorem Vpa (h:RelT E O I0 w0 n kp I loc L σ a w) {ops:Array Oper} {o:Oper} {b:Bool} (hg:gdT ops o σ.t=some b):Region.wanted o (yielded ops a.tmps)=b:=by
 unfold gdT gslot at hg
 unfold Region.wanted
 cases hgd:o.guard with
 | none=>simp only [hgd,Qa] at hg; subst hg; rfl
 | some p=>
  obtain ⟨j,want⟩:=p
  simp only [hgd] at hg
  cases hk:(ops[j]?).bind (·.dst) with
  | none=>simp [hk] at hg
  | some k=>
   simp only [hk] at hg
   split at hg
   ·rename_i q hd
    have hv:=h.tmp k
    rw [hd] at hv; simp only [den,V] at hv
    have hy:a.tmps[k]? = some (.bool q):=by
     rw [Qe] at hv
     cases hz:a.tmps[k]? with
     | none=>rw [hz] at hv; simp [undef] at hv
     | some x=>rw [hz] at hv; simp at hv; rw [hv]
    simp only [yielded,hk,Qk,hy]
    simp only [Qa] at hg; subst hg
    cases q<;>cases want<;>rfl
   ·rename_i hd
    have hv:=h.tmp k
    rw [hd] at hv; simp only [den,denL,V,VL] at hv
    obtain ⟨vs,hv,rfl⟩:=hv
    simp only [Qa] at hg; subst hg
    simp only [yielded,hk,Qk]
    rw [Qe] at hv
    cases hz:a.tmps[k]? with
    | none=>simp
    | some x=>
     rw [hz] at hv; simp at hv; subst hv
     simp
   ·cases hg
theorem Vt8 (hE:EnvOk P E) (h:RelT E O I0 w0 n kp I loc L σ a w) {ops:Array Oper} {i:Nat} {o:Oper} (hi:ops[i]? = some o) (hd:∀ k,o.dst=some k→k < n∧∀ p∈kp,p.1≠k) {σ':SF T} (hs:stepOT E ops o σ=some σ')
  {K:Act→World→Prop} {Q:Exit→Act→World→Prop} (hK:∀ a' w' I' loc' L',RelT E O I0 w0 n kp I' loc' L' σ' a' w'→K a' w'):wpOp P ops Q i K a w:=by
 unfold stepOT at hs
 unfold wpOp
 simp only [hi]
 split at hs
 ·cases hs
 ·rename_i hg
  rw [Vpa h hg]
  simp only [Qa] at hs; subst hs
  simp only [Qs,if_false]
  refine hK _ _ I loc L ?_
  exact h.put (d:=.tup []) (v:=undef) o.dst hd h.mem h.wfm h.glob (by simp only [den,denL,V,VL]; exact ⟨[],rfl,rfl⟩) trivial (.refl _ _) (fun _ h=>.inl h) (.refl _) (.refl _ _) (.refl _ _)
 ·rename_i hg
  rw [Vpa h hg]
  simp only [if_true]
  split at hs
  case h_2=>cases hs
  rename_i d m' hsem
  simp only [Qa] at hs; subst hs
  left
  unfold semT at hsem
  obtain ⟨d1,m1,h1,h2⟩:=Vx7 hE h hsem
  simp only [Qa,Qm] at h2
  obtain ⟨rfl,rfl⟩:=h2
  refine h1 a K Q fun v w' I' loc' L' z1 z2 z3 z4 z5 z6 z7 z8 z9 z10=>?_
  exact hK _ _ I' loc' L' (h.put o.dst hd z1 z2 z3 z4 z5 z6 z7 z8 z9 z10)
theorem Vgi (hE:EnvOk P E) {ops:Array Oper} (hd:∀ (i:Nat) (o:Oper) (k:Nat),ops[i]? = some o→o.dst=some k→k < n∧∀ p∈kp,p.1≠k) {Q:Exit→Act→World→Prop}:∀ (l:List Nat) {σ σ':SF T} {I:Nat→Prop} {loc:Nat→Nat→Loc} {L:Nat→Nat→Nat} {a:Act} {w:World},
  RelT E O I0 w0 n kp I loc L σ a w→runOpsT E ops l σ=some σ'→(∀ a' w' I' loc' L',RelT E O I0 w0 n kp I' loc' L' σ' a' w'→Q .normal a' w')→wpOps P ops Q l a w
 | [],σ,σ',I,loc,L,a,w,h,hr,hQ=>by
  simp only [runOpsT,Qa] at hr; subst hr
  exact hQ _ _ _ _ _ h
 | i::r,σ,σ',I,loc,L,a,w,h,hr,hQ=>by
  simp only [runOpsT] at hr
  split at hr
  case h_2=>cases hr
  rename_i o ho
  split at hr
  case h_2=>cases hr
  rename_i σ1 hs
  rw [wpOps_cons]
  exact Vt8 hE h ho (fun k hk=>hd i o k ho hk) hs fun a' w' I' loc' L' h'=>Vgi hE hd r h' hr hQ
theorem RelT.drew (h:RelT E O I0 w0 n kp I loc L σ a w):RelT E O I0 w0 n kp I loc L σ a { w with drawn:=w.drawn+1 }:=by
 have he:Ext I I w { w with drawn:=w.drawn+1 }:=Ext.of_heap rfl
 exact ⟨h.size,h.defers,fun i=>Va4 he _ loc loc _ (.refl _) (h.tmp i),h.wf,MRel.of_heap (w:=w) rfl h.mem,h.wfm,Va1 h.glob he,h.fr.trans ⟨rfl,rfl,rfl,Qv _,fun _ _ _=>rfl⟩,fun b=>Qab (h.rows b) (he.rows b),h.imm0,h.imm1,h.kept⟩
end
section
variable {T:Nat→Type} {R:Type} {E:Env T} {ops:Array Oper} {P:Program}
theorem Vaw (C:Cd T) (sn:Bool):∀ (ss:List Slot) (m:MT T) (ds:List (DT T)) {R:Type} (K:tySs T ss→List Nat→MT T→Option R),argsK C sn ss m ds K=(argsK C sn ss m ds fun a b c=>some (a,b,c)).bind fun p=>K p.1 p.2.1 p.2.2
 | [],m,ds,R,K=>by simp only [argsK]; split<;>rfl
 | .f (.v t)::r,m,[],R,K=>by simp [argsK]
 | .f (.v t)::r,m,d::ds,R,K=>by
  simp only [argsK]
  split
  ·split
   ·rw [Vbs,Vbs (R:=tySs T (.f (.v t)::r)×List Nat×MT T)]
    simp only [Qf]
    congr 1; funext cs
    split
    ·rw [Vaw C _ r m ds,Vaw C _ r m ds (R:=tySs T (.f (.v t)::r)×List Nat×MT T)]
     simp only [Qf,Qk]
    ·rfl
   ·rw [Vdf,Vdf (R:=tySs T (.f (.v t)::r)×List Nat×MT T)]
    simp only [Qf]
    congr 1; funext q
    rw [Vaw C _ r _ ds,Vaw C _ r _ ds (R:=tySs T (.f (.v t)::r)×List Nat×MT T)]
    simp only [Qf,Qk]
  ·rfl
 | .f (.own c)::r,m,[],R,K=>by simp [argsK]
 | .f (.own c)::r,m,d::ds,R,K=>by
  simp only [argsK]
  rw [Vee,Vee (R:=tySs T (.f (.own c)::r)×List Nat×MT T)]
  simp only [Qf]
  congr 1; funext q
  rw [Vaw C _ r _ ds,Vaw C _ r _ ds (R:=tySs T (.f (.own c)::r)×List Nat×MT T)]
  simp only [Qf,Qk]
 | .f (.pt c)::r,m,ds,R,K=>by simp [argsK]
 | .f (.st _ _ _)::r,m,ds,R,K=>by simp [argsK]
 | .f (.fp f t)::r,m,[],R,K=>by simp [argsK]
 | .f (.fp f t)::r,m,d::ds,R,K=>by
  simp only [argsK]
  split
  ·rw [Vdf,Vdf (R:=tySs T (.f (.fp f t)::r)×List Nat×MT T)]
   simp only [Qf]
   congr 1; funext q
   rw [Vaw C _ r _ ds,Vaw C _ r _ ds (R:=tySs T (.f (.fp f t)::r)×List Nat×MT T)]
   simp only [Qf,Qk]
  ·rfl
 | .ptr fs::r,m,[],R,K=>by simp [argsK]
 | .ptr fs::r,m,d::ds,R,K=>by
  simp only [argsK]
  split
  ·split
   ·rw [Vet,Vet (R:=tySs T (.ptr fs::r)×List Nat×MT T)]
    simp only [Qf]
    congr 1; funext q
    rw [Vaw C _ r _ ds,Vaw C _ r _ ds (R:=tySs T (.ptr fs::r)×List Nat×MT T)]
    simp only [Qf,Qk]
   ·rfl
  ·rfl
 | .inp c::r,m,[],R,K=>by simp [argsK]
 | .inp c::r,m,d::ds,R,K=>by
  simp only [argsK]
  split
  ·split
   ·split
    ·rw [Vaw C _ r _ ds,Vaw C _ r _ ds (R:=tySs T (.inp c::r)×List Nat×MT T)]
     simp only [Qf,Qk]
    ·rfl
   ·rfl
  ·rfl
 | .iter::r,m,ds,R,K=>by simp [argsK]
 | .lar _::r,m,ds,R,K=>by simp [argsK]
 | .mset _ _::r,m,ds,R,K=>by simp [argsK]
theorem Vt9 (f:Nat) (ds:List (DT T)) (m:MT T) {R:Type} (K:DT T→MT T→Option R):callW E f ds m K=(callW E f ds m fun a b=>some (a,b)).bind fun p=>K p.1 p.2:=by
 unfold callW
 split
 ·rw [Vaw,Vaw (R:=DT T×MT T)]
  simp only [Qf]
  congr 1; funext q
  congr 1; funext r
  split
  ·rfl
  ·rfl
 ·rfl
theorem Vk4 (Y:Nat→Option TI) (C:Cd T) (t:Nat) (x:DT T) (m:MT T) {R:Type} (K:DT T→MT T→Option R):sliceVarK Y C t x m K=(sliceVarK Y C t x m fun a b=>some (a,b)).bind fun p=>K p.1 p.2:=by
 unfold sliceVarK
 split
 ·split
  ·split
   ·split
    ·split
     ·rw [Vcf,Vcf (R:=DT T×MT T)]
      simp only [Qf]
      congr 1; funext p
      split<;>rfl
     ·rfl
    ·rfl
   ·rfl
  ·rfl
 ·rfl
theorem Vbh (o:Op) (e:Operand→DT T) (m:MT T) {R:Type} (K:DT T→MT T→Option R):opK E o e m K=(semT E o e m).bind fun p=>K p.1 p.2:=by
 unfold semT opK
 split
 ·rw [Vox,Vox (R:=DT T×MT T),Qf]; rfl
 ·split
  ·rw [Vic,Vic (R:=DT T×MT T),Qf]; rfl
  ·rw [Vtj,Vtj (R:=DT T×MT T),Qf]; rfl
 ·split
  ·split
   ·rw [Vt9]
   ·rfl
  ·rw [Vk4]
  ·rw [Vdxa]
def ST.f (σ:ST T):SF T:=⟨tget σ.ts,σ.m⟩
theorem Vdg (l:List (Nat×DT T)) (k:Nat) (d:DT T):tget ((k,d)::l)=upd (tget l) k d:=by
 funext j
 simp only [tget,upd]
 by_cases h:j=k
 ·subst h; simp
 ·rw [if_neg h]
  have:Nat.beq j k=false:=by
   cases hb:Nat.beq j k with
   | false=>rfl
   | true=>exact absurd (Qc hb) h
  rw [this]
theorem Vk5 (σ:ST T) (dst:Option Nat) (d:DT T):(σ.put dst d).f=σ.f.put dst d:=by
 cases dst with
 | none=>rfl
 | some k=>simp only [ST.put,ST.f,SF.put,Vdg]
theorem Vpb (t:Nat→DT T) (k:Nat):upd t k (t k)=t:=by funext j; simp only [upd]; split<;>simp_all
theorem Vns:∀ (l:List Oper) (is:List Nat) (σ:ST T) (K:ST T→Option R) (r:R),l.map some=is.map (ops[·]?)→runT E ops l σ K=some r→∃ σ',runOpsT E ops is σ.f=some σ'.f∧K σ'=some r
 | [],is,σ,K,r,hl,h=>by
  have:is=[]:=by simpa using hl.symm
  subst this
  exact ⟨σ,rfl,h⟩
 | o::l,is,σ,K,r,hl,h=>by
  cases is with
  | nil=>simp at hl
  | cons i is=>
   simp only [Qo,List.cons.injEq] at hl
   obtain ⟨ho,hl⟩:=hl
   have step:∀ σ1:ST T,σ1.f=σ.f→gdT ops o σ.f.t=some true→stepT E o σ1 (fun σ'=>runT E ops l σ' K)=some r→∃ σ',runOpsT E ops (i::is) σ.f=some σ'.f∧K σ'=some r:=by
    intro σ1 h1 hg h
    unfold stepT at h
    rw [Vbh,Qd] at h
    obtain ⟨⟨d,m'⟩,h2,h3⟩:=h
    obtain ⟨σ',g1,g2⟩:=Vns l is _ K r hl h3
    refine ⟨σ',?_,g2⟩
    have h2':semT E o.op (evT E.G σ.f.t) σ.f.m=some (d,m'):=by rw [← h1]; exact h2
    simp only [runOpsT,← ho,stepOT,hg,h2']
    rw [Vk5] at g1
    have:({ σ.f with m:=m' }:SF T)=(⟨σ1.ts,m'⟩:ST T).f:=by rw [← h1]; rfl
    rw [this]; exact g1
   have skip:∀ σ1:ST T,σ1.f=σ.f→gdT ops o σ.f.t=some false→runT E ops l (ST.put σ1 o.dst (.tup [])) K=some r→∃ σ',runOpsT E ops (i::is) σ.f=some σ'.f∧K σ'=some r:=by
    intro σ1 h1 hg h
    obtain ⟨σ',g1,g2⟩:=Vns l is _ K r hl h
    refine ⟨σ',?_,g2⟩
    simp only [runOpsT,← ho,stepOT,hg]
    rw [Vk5,h1] at g1
    exact g1
   have same:∀ (k:Nat) (d:DT T),tget σ.ts k=d→(⟨(k,d)::σ.ts,σ.m⟩:ST T).f=σ.f:=fun k d hd=>by
    simp only [ST.f,Vdg]
    rw [← hd,Vpb]
   simp only [runT] at h
   split at h
   ·rename_i hg
    exact step σ rfl (by simp [gdT,hg]) h
   ·rename_i k hg
    split at h
    ·rename_i b hb
     cases b with
     | true=>exact step _ (same k _ hb) (by simp [gdT,hg,ST.f,hb]) h
     | false=>exact skip _ (same k _ hb) (by simp [gdT,hg,ST.f,hb]) h
    ·rename_i hb
     exact skip _ rfl (by simp [gdT,hg,ST.f,hb]) h
    ·cases h
   ·rename_i k hg
    split at h
    ·rename_i b hb
     cases b with
     | true=>exact skip _ (same k _ hb) (by simp [gdT,hg,ST.f,hb]) h
     | false=>exact step _ (same k _ hb) (by simp [gdT,hg,ST.f,hb]) h
    ·rename_i hb
     exact skip _ rfl (by simp [gdT,hg,ST.f,hb]) h
    ·cases h
   ·cases h
variable {O I0 I:Nat→Prop} {w0 w:World} {n:Nat} {kp:List (Nat×Value)} {loc:Nat→Nat→Loc} {L:Nat→Nat→Nat} {a:Act}
theorem Vpc {E:Env T}:∀ (s:Shape) (ds:List (DT T)) (vs:List Value),VL I w (denL E.C ds) loc vs→WfL L ds→vs=s.map (fun p=>a.tmps.getD p.1 undef)→∀ i,V I w (den E.C (tget ((s.map (·.1)).zip ds) i)) loc (a.tmps.getD i undef)∧WfD L (tget ((s.map (·.1)).zip ds) i)
 | [],ds,vs,hv,hw,hs,i=>⟨trivial,trivial⟩
 | p::s,[],vs,hv,hw,hs,i=>⟨trivial,trivial⟩
 | p::s,d::ds,vs,hv,hw,hs,i=>by
  simp only [denL,VL] at hv
  obtain ⟨v,vr,rfl,h1,h2⟩:=hv
  simp only [Qo,List.cons.injEq] at hs
  simp only [Qo,Qa7,Vdg,upd]
  by_cases e:i=p.1
  ·subst e
   rw [if_pos rfl]
   rw [← hs.1]
   exact ⟨h1,hw.1⟩
  ·rw [if_neg e]
   exact Vpc s ds vr h2 hw.2 hs.2 i
theorem Vpd {C:Cd T} (hI:∀ k,I k→k < w.heap.size) (hO:∀ k,w.heap.size≤k→O k):MRel O I free (denM C ([]:MT T)) w:=
 ⟨fun b hb=>absurd hb (Qr _),fun _ _ _=>rfl,fun b _ _ hb=>absurd hb (Qr _),fun b _ _ _ _ hb=>absurd hb (Qr _),hI,hO⟩
theorem Vfv (hC:CdOk E.C) {σ:ST T} (h:RelT E O I0 w0 n kp I loc L σ.f a w) {s:Shape} {K:tySs T s.slots→Option R} {r:R} (hk:takeK E.C s σ K=some r) :
  ∃ x I' loc' L',RelT E O I0 w0 n kp I' loc' L' (lay E.C s x).f a w∧K x=some r:=by
 unfold takeK at hk
 have hv:VL I w (denL E.C (s.map fun p=>tget σ.ts p.1)) loc (s.map fun p=>a.tmps.getD p.1 undef):=by
  rw [Vau,Qay]
  exact Vgr (fun p:Nat×Slot=>h.tmp p.1) s
 have hw:WfL L (s.map fun p=>tget σ.ts p.1):=WfL_iff.2 fun d hd=>by
  simp only [Qz] at hd
  obtain ⟨p,_,rfl⟩:=hd
  exact h.wf p.1
 obtain ⟨x,own,I',m',loc',h1,h2,h3⟩:=Vx4 hC s.slots h.mem h.wfm hw hv hk
 obtain ⟨loc2,L2,p1,p2,p3⟩:=Vtz hC s.slots (m:=([]:MT T)) (loc:=free) (L:=fun _ _=>0) (Vpd h1.mem.imm h1.mem.up) (fun b=>trivial) h2
  ⟨fun k hk=>⟨((h1.got k hk).2.facts h.mem).1,(h1.got k hk).1,((h1.got k hk).2.facts h.mem).2.2⟩,fun k _ ⟨b,g,q,_⟩=>absurd q (Qr _)⟩
 refine ⟨x,I',loc2,L2,?_,h3⟩
 have key:=Vpc (E:=E) (a:=a) s (encSs E.C 0 s.slots x).1 _ p2 p3 rfl
 have hx:Ext I I' w w:=Vag h1.imm0
 exact ⟨h.size,h.defers,fun i=>(key i).1,fun i=>(key i).2,p1.mem,p1.wf,Va1 h.glob hx,h.fr,h.rows,fun k hk=>h1.imm0 k (h.imm0 k hk),fun k hk=>(h1.imm1 k hk).elim (h.imm1 k) (fun q=>.inr (q.facts h.mem).1),h.kept⟩
theorem Vx8 {m:MT T} {b:Nat} (h:m.get b≠.gone):b < m.length:=by
 by_cases hb:b < m.length
 ·exact hb
 ·exfalso
  apply h
  unfold MT.get
  rw [Qi,Qak (by omega)]
  rfl
def srcV (a:Act) (w:World) (k off:Nat):Value:=
 match a.tmps.getD k undef with
 | .pointer (some ⟨b,0,none⟩)=>match w.heap[b]? with
  | some (.cells c _ _)=>c.toList.getD off undef
  | _=>undef
 | v=>v
theorem Vua {c b g c' n:Nat} {d:DT T} (h:bwOf c d = .bw b g c' n):c'=c∧d = .bw b g c n:=by
 cases d<;>simp only [bwOf] at h<;>try cases h
 rename_i b1 g1 c1 n1
 cases hc:Nat.beq c1 c<;>rw [hc] at h
 ·cases h
 ·have:=Qc hc
  subst this
  simp only [DT.bw.injEq] at h
  obtain ⟨rfl,rfl,rfl,rfl⟩:=h
  exact ⟨rfl,rfl⟩
theorem VL_at {C:Cd T}:∀ {cs:List (DT T)} {vs:List Value} {off:Nat} {d:DT T},VL I w (denL C cs) loc vs→cs[off]? = some d→V I w (den C d) loc (vs.getD off undef)
 | [],vs,off,d,h,hd=>by simp at hd
 | d'::r,vs,0,d,h,hd=>by
  simp only [denL,VL] at h
  obtain ⟨v,vr,rfl,h1,h2⟩:=h
  simp only [Qy,Qa] at hd
  subst hd
  exact h1
 | d'::r,vs,off+1,d,h,hd=>by
  simp only [denL,VL] at h
  obtain ⟨v,vr,rfl,h1,h2⟩:=h
  simp only [Qav] at hd
  rw [List.getD_cons_succ]
  exact VL_at (off:=off) h2 hd
theorem Vx9 {σ:ST T} (h:RelT E O I0 w0 n kp I loc L σ.f a w) {k off c b g c' nn:Nat} (hd:cpD σ k off c = .bw b g c' nn) :
  c'=c∧V I w (.bs b g (E.C.sz c) 0 nn) loc (srcV a w k off)∧L b g=nn:=by
 have hk:=h.tmp k
 have hw:=h.wf k
 simp only [ST.f] at hk hw
 have other:bwOf c (tget σ.ts k) = .bw b g c' nn→c'=c∧V I w (.bs b g (E.C.sz c) 0 nn) loc (srcV a w k off)∧L b g=nn:=by
  intro hd
  obtain ⟨e1,e2⟩:=Vua hd
  rw [e2] at hk hw
  refine ⟨e1,?_,hw⟩
  have hk':V I w (.bs b g (E.C.sz c) 0 nn) loc (a.tmps.getD k undef):=hk
  have:srcV a w k off=a.tmps.getD k undef:=by
   unfold srcV
   generalize a.tmps.getD k undef=v at hk'
   simp only [V] at hk'
   split at hk'
   ·obtain ⟨_,_,rfl,_⟩:=hk'; rfl
   ·obtain ⟨_,_,rfl⟩:=hk'; rfl
   ·obtain ⟨_,_,rfl,_⟩:=hk'; rfl
   ·exact hk'.elim
  rw [this]
  exact hk'
 unfold cpD at hd
 split at hd
 ·rename_i b1 e1
  rw [e1] at hk
  split at hd
  ·rename_i cs e2
   split at hd
   ·rename_i d e3
    obtain ⟨e4,e5⟩:=Vua hd
    subst e5
    have hlt:b1 < σ.m.length:=Vx8 (by rw [e2]; simp)
    have hb:=h.mem.box b1 hlt
    have hb':RelB I w loc b1 (denB E.C (σ.m.get b1)):=hb
    rw [e2] at hb'
    simp only [denB,RelB] at hb'
    obtain ⟨_,kk,cc,el,fz,f1,f2,f3,f4,f5⟩:=hb'
    simp only [den,V,f1] at hk
    have:srcV a w k off=cc.toList.getD off undef:=by
     unfold srcV
     rw [hk]
     simp only [f2]
    rw [this]
    refine ⟨e4,VL_at f5 e3,?_⟩
    have hwb:=h.wfm b1
    simp only [ST.f] at hwb
    rw [e2] at hwb
    exact (WfL_iff.1 hwb) _ (Qao e3)
   ·cases hd
  ·cases hd
 ·exact other hd
theorem Vz7 {σ:ST T} {I':Nat→Prop} {loc':Nat→Nat→Loc} {L':Nat→Nat→Nat} {τ:ST T} (h:RelT E O I0 w0 n kp I loc L σ.f a w) (h':RelT E O I0 w0 n kp I' loc' L' τ.f a w) {t k off c:Nat} (hc:chkC σ (t,k,off,c)=true) :
  V I' w (den E.C (cpD τ k off c)) loc' (a.tmps.getD t undef)∧WfD L' (cpD τ k off c):=by
 have hnew:cpD τ k off c = .dead∨∃ b g n,cpD τ k off c = .bw b g c n:=by
  have:∀ d:DT T,bwOf c d = .dead∨∃ b g n,bwOf c d = .bw b g c n:=by
   intro d
   cases d<;>first | exact Or.inl rfl | skip
   rename_i b1 g1 c1 n1
   simp only [bwOf]
   cases hc:Nat.beq c1 c
   ·exact Or.inl rfl
   ·have:=Qc hc
    subst this
    exact Or.inr ⟨_,_,_,rfl⟩
  unfold cpD
  split
  ·split
   ·split
    ·exact this _
    ·exact Or.inl rfl
   ·exact Or.inl rfl
  ·exact this _
 rcases hnew with e | ⟨b',g',n',e'⟩
 ·rw [e]; exact ⟨trivial,trivial⟩
 obtain ⟨_,q2,q3⟩:=Vx9 h' e'
 unfold chkC at hc
 dsimp only at hc
 split at hc
 ·rename_i b g c1 n1 e1
  obtain ⟨rfl,p2,p3⟩:=Vx9 h e1
  split at hc
  ·rename_i b2 g2 c2 n2 e2
   simp only [Qb] at hc
   obtain ⟨⟨u1,u2,u3⟩,u4⟩:=hc
   have:=Qc u1
   have:=Qc u2
   have:=Qc u3
   subst b2 g2 c2
   have ht:=h.tmp t
   have hw:=h.wf t
   simp only [ST.f] at ht hw
   rw [e2] at ht hw
   have hw':L b g=n2:=hw
   have:n2=n1:=hw'.symm.trans p3
   subst this
   unfold isArr at u4
   split at u4
   ·rename_i g3 c3 l e3
    simp only [Qb] at u4
    have:=Qc u4.1
    have:=Qc u4.2
    subst g3 c3
    have hlt:b < σ.m.length:=Vx8 (by rw [e3]; simp)
    have hb:RelB I w loc b (denB E.C (σ.m.get b)):=h.mem.box b hlt
    rw [e3] at hb
    simp only [denB,RelB] at hb
    have ht':V I w (.bs b g (E.C.sz c1) 0 n2) loc (a.tmps.getD t undef):=ht
    rw [e']
    refine ⟨?_,q3⟩
    show V I' w (.bs b' g' (E.C.sz c1) 0 n') loc' (a.tmps.getD t undef)
    rcases hb.2 with ⟨f1,_⟩ | ⟨kk,cc,el,fz,f1,_⟩
    ·simp only [V,f1] at ht' p2
     rw [ht'.2.2,← p2.2.2]
     exact q2
    ·simp only [V,f1] at ht' p2
     obtain ⟨o1,cap1,r1,r2,r3,r4⟩:=ht'
     obtain ⟨o2,cap2,s1,s2,s3,s4⟩:=p2
     rw [s1] at q2
     rw [r1]
     simp only [V] at q2 ⊢
     split at q2
     ·obtain ⟨a1,cap3,w1,w2,w3⟩:=q2
      simp only [Value.slice.injEq] at w1
      obtain ⟨_,w5,_⟩:=w1
      exact ⟨_,_,by rw [← w5],by omega,fun h=>by cases h⟩
     ·obtain ⟨w1,w2,w3⟩:=q2
      simp only [Value.slice.injEq] at w3
      cases w3.1
     ·obtain ⟨o3,cap3,w1,w2,w3,w4⟩:=q2
      simp only [Value.slice.injEq,Qa,Addr.mk.injEq] at w1
      obtain ⟨⟨w5,_,_⟩,w6,_⟩:=w1
      subst w5
      exact ⟨_,_,by rw [← w6],by omega,r3,r4⟩
     ·exact q2.elim
   ·cases u4
  ·cases hc
 ·cases hc
theorem Vub {σ τ:ST T} {I':Nat→Prop} {loc':Nat→Nat→Loc} {L':Nat→Nat→Nat} (h:RelT E O I0 w0 n kp I loc L σ.f a w) (h':RelT E O I0 w0 n kp I' loc' L' τ.f a w):∀ (cp:List Cp),cp.all (chkC σ)=true→∀ i,V I' w (den E.C (tget (cpTs τ cp τ.ts) i)) loc' (a.tmps.getD i undef)∧WfD L' (tget (cpTs τ cp τ.ts) i)
 | [],_,i=>⟨h'.tmp i,h'.wf i⟩
 | (t,k,off,c)::r,hc,i=>by
  simp only [Q6,Qb] at hc
  simp only [cpTs,Vdg,upd]
  by_cases e:i=t
  ·subst e
   rw [if_pos rfl]
   exact Vz7 h h' hc.1
  ·rw [if_neg e]
   exact Vub h h' r hc.2 i
theorem Vpe (hC:CdOk E.C) {σ:ST T} (h:RelT E O I0 w0 n kp I loc L σ.f a w) {s:Shape} {cp:List Cp} {K:tySs T s.slots→Option R} {r:R} (hk:takeC E.C s cp σ K=some r) :
  ∃ x I' loc' L',RelT E O I0 w0 n kp I' loc' L' (layC E.C s cp x).f a w∧K x=some r:=by
 unfold takeC at hk
 split at hk
 ·rename_i hc
  obtain ⟨x,I',loc',L',h1,h2⟩:=Vfv hC h hk
  refine ⟨x,I',loc',L',?_,h2⟩
  have key:=Vub h h1 cp hc
  exact ⟨h1.size,h1.defers,fun i=>(key i).1,fun i=>(key i).2,h1.mem,h1.wfm,h1.glob,h1.fr,h1.rows,h1.imm0,h1.imm1,h1.kept⟩
 ·cases hk
end
section
variable {T:Nat→Type} {P:Program} {E:Env T} {O I0 I I':Nat→Prop} {w0 w w':World} {n:Nat} {kp:List (Nat×Value)} {loc loc':Nat→Nat→Loc} {L L':Nat→Nat→Nat} {a:Act} {R:Type} {C:Cd T} {m:MT T} {ρ:Nat→Nat}
theorem has_iff {Φ:List Nat} {k:Nat}:has Φ k=true↔k∈Φ:=by
 unfold has
 rw [List.any_eq_true]
 constructor
 ·rintro ⟨x,h1,h2⟩; rw [Qc h2]; exact h1
 ·intro h; exact ⟨k,h,by simp⟩
mutual
theorem V_ren:∀ (d:DT T) (v:Value),(∀ b∈d.ids,∀ g,loc' (ρ b) g=loc b g)→V I w (den C d) loc v→V I w (den C (d.ren ρ)) loc' v
 | .dead,_,_,h=>h
 | .bool _,_,_,h=>h
 | .int _ _,_,_,h=>h
 | .u8 _,_,_,h=>h
 | .u16 _,_,_,h=>h
 | .u32 _,_,_,h=>h
 | .u64 _,_,_,h=>h
 | .str _,_,_,h=>h
 | .lit _,_,_,h=>h
 | .nilp,_,_,h=>h
 | .nils,_,_,h=>h
 | .rp _,_,_,h=>by simpa only [DT.ren,den,V] using h
 | .rs _ _,_,_,h=>by simpa only [DT.ren,den,V] using h
 | .rn _ l,_,_,h=>by cases l<;>simpa only [DT.ren,den,Qbn,Qo,rnD,V] using h
 | .bp b o,v,hb,h=>by
  simp only [DT.ren,den,V] at h ⊢
  rw [hb b (by simp [DT.ids]) 0]; exact h
 | .mp b,v,hb,h=>by
  simp only [DT.ren,den,V] at h ⊢
  rw [hb b (by simp [DT.ids]) 0]; exact h
 | .ap b g c i o,v,hb,h=>by
  simp only [DT.ren,den,V] at h ⊢
  rw [hb b (by simp [DT.ids]) g]; exact h
 | .bs b g c i n,v,hb,h=>by
  simp only [DT.ren,den,V] at h ⊢
  rw [hb b (by simp [DT.ids]) g]; exact h
 | .bw b g c n,v,hb,h=>by
  simp only [DT.ren,den,V] at h ⊢
  rw [hb b (by simp [DT.ids]) g]; exact h
 | .agg cs,v,hb,h=>by
  simp only [DT.ren,den,V] at h ⊢
  obtain ⟨vs,h1,h2,h3⟩:=h
  exact ⟨vs,h1,h2,Vmm cs vs hb h3⟩
 | .tup cs,v,hb,h=>by
  simp only [DT.ren,den,V] at h ⊢
  obtain ⟨vs,h1,h3⟩:=h
  exact ⟨vs,h1,Vmm cs vs hb h3⟩
 | .fn f cs,v,hb,h=>by
  simp only [DT.ren,den,V] at h ⊢
  obtain ⟨vs,h1,h3⟩:=h
  exact ⟨vs,h1,Vmm cs vs hb h3⟩
theorem Vmm:∀ (ds:List (DT T)) (vs:List Value),(∀ b∈idsL ds,∀ g,loc' (ρ b) g=loc b g)→VL I w (denL C ds) loc vs→VL I w (denL C (renL ρ ds)) loc' vs
 | [],vs,_,h=>by simpa only [renL,denL,VL] using h
 | d::r,vs,hb,h=>by
  simp only [renL,denL,VL] at h ⊢
  obtain ⟨v,vr,h1,h2,h3⟩:=h
  exact ⟨v,vr,h1,V_ren d v (fun b hd=>hb b (by simp [idsL,hd])) h2,Vmm r vr (fun b hd=>hb b (by simp [idsL,hd])) h3⟩
end
mutual
theorem Vuc:∀ (d:DT T),(∀ b∈d.ids,∀ g,L' (ρ b) g=L b g)→WfD L d→WfD L' (d.ren ρ)
 | .dead,_,h=>h
 | .bool _,_,h=>h
 | .int _ _,_,h=>h
 | .u8 _,_,h=>h
 | .u16 _,_,h=>h
 | .u32 _,_,h=>h
 | .u64 _,_,h=>h
 | .str _,_,h=>h
 | .lit _,_,h=>h
 | .nilp,_,h=>h
 | .nils,_,h=>h
 | .rp _,_,h=>h
 | .rs _ _,_,h=>h
 | .rn _ _,_,h=>h
 | .bp b o,_,h=>h
 | .mp b,_,h=>h
 | .ap b g c i o,_,h=>h
 | .bs b g c i n,_,h=>h
 | .bw b g c n,hb,h=>by
  simp only [DT.ren,WfD] at h ⊢
  rw [hb b (by simp [DT.ids]) g]; exact h
 | .agg cs,hb,h=>Vif cs hb h
 | .tup cs,hb,h=>Vif cs hb h
 | .fn f cs,hb,h=>Vif cs hb h
theorem Vif:∀ (ds:List (DT T)),(∀ b∈idsL ds,∀ g,L' (ρ b) g=L b g)→WfL L ds→WfL L' (renL ρ ds)
 | [],_,h=>h
 | d::r,hb,h=>⟨Vuc d (fun b hd=>hb b (by simp [idsL,hd])) h.1,Vif r (fun b hd=>hb b (by simp [idsL,hd])) h.2⟩
end
mutual
theorem Vya:∀ (d:DT T),(∀ b∈d.ids,ρ b=b)→d.ren ρ=d
 | .dead,_=>rfl
 | .bool _,_=>rfl
 | .int _ _,_=>rfl
 | .u8 _,_=>rfl
 | .u16 _,_=>rfl
 | .u32 _,_=>rfl
 | .u64 _,_=>rfl
 | .str _,_=>rfl
 | .lit _,_=>rfl
 | .nilp,_=>rfl
 | .nils,_=>rfl
 | .rp _,_=>rfl
 | .rs _ _,_=>rfl
 | .rn _ _,_=>rfl
 | .bp b o,hb=>by simp only [DT.ren]; rw [hb b (by simp [DT.ids])]
 | .mp b,hb=>by simp only [DT.ren]; rw [hb b (by simp [DT.ids])]
 | .ap b g c i o,hb=>by simp only [DT.ren]; rw [hb b (by simp [DT.ids])]
 | .bs b g c i n,hb=>by simp only [DT.ren]; rw [hb b (by simp [DT.ids])]
 | .bw b g c n,hb=>by simp only [DT.ren]; rw [hb b (by simp [DT.ids])]
 | .agg cs,hb=>by simp only [DT.ren]; rw [Vig cs hb]
 | .tup cs,hb=>by simp only [DT.ren]; rw [Vig cs hb]
 | .fn f cs,hb=>by simp only [DT.ren]; rw [Vig cs hb]
theorem Vig:∀ (ds:List (DT T)),(∀ b∈idsL ds,ρ b=b)→renL ρ ds=ds
 | [],_=>rfl
 | d::r,hb=>by simp only [renL]; rw [Vya d (fun b hd=>hb b (by simp [idsL,hd])),Vig r (fun b hd=>hb b (by simp [idsL,hd]))]
end
theorem Vqe {x:BoxT T} (h:∀ b∈x.ids,ρ b=b):x.ren ρ=x:=by
 cases x<;>simp only [BoxT.ren]
 rw [Vig _ h]
theorem Vwx {b1 b2:Nat} {x:BoxT T} (hb:∀ g,loc' b2 g=loc b1 g) (hi:∀ b∈x.ids,∀ g,loc' (ρ b) g=loc b g) (h:RelB I w loc b1 (denB C x)):RelB I w loc' b2 (denB C (x.ren ρ)):=by
 cases x with
 | var cs=>
  simp only [BoxT.ren,denB,RelB] at h ⊢
  obtain ⟨h0,k,c,el,fz,h1,h2,h3,h4,h5⟩:=h
  exact ⟨fun g hg=>by rw [hb]; exact h0 g hg,k,c,el,fz,by rw [hb]; exact h1,h2,h3,h4,Vmm cs _ hi h5⟩
 | _=>simp only [BoxT.ren,denB,RelB,hb] at h ⊢; try exact h
theorem Vz8 {b1 b2:Nat} {x:BoxT T} (hb:∀ g,L' b2 g=L b1 g) (hi:∀ b∈x.ids,∀ g,L' (ρ b) g=L b g) (h:WfB L b1 x):WfB L' b2 (x.ren ρ):=by
 cases x with
 | var cs=>exact Vif cs hi h
 | _=>simp only [BoxT.ren,WfB,hb] at h ⊢; try exact h
theorem Veh {x:BoxT T}:(denB C (x.ren ρ)).owned=(denB C x).owned:=by cases x<;>rfl
theorem Vew (Φ:List Nat):∀ (k:Nat) (m:MT T),(keepM Φ k m).length=m.length
 | _,[]=>rfl
 | k,x::r=>by simp [keepM,Vew Φ (k+1) r]
theorem Vdt (x:BoxT T) (r:MT T):MT.get (x::r) 0=x:=rfl
theorem Vdu (x:BoxT T) (r:MT T) (b:Nat):MT.get (x::r) (b+1)=MT.get r b:=rfl
theorem Vfw (Φ:List Nat):∀ (k:Nat) (m:MT T) (b:Nat),b < m.length→(keepM Φ k m).get b=if has Φ (k+b)=true then m.get b else .lent
 | _,[],b,h=>by simp at h
 | k,x::r,0,h=>by
  simp only [keepM,Vdt,Qa2]
  cases has Φ k<;>rfl
 | k,x::r,b+1,h=>by
  simp only [keepM,Vdu]
  rw [Vfw Φ (k+1) r b (by simpa using h)]
  rw [show k+1+b=k+(b+1) by omega]
theorem Vcw (Φ:List Nat) (N base wd:Nat) (m':MT T):∀ (k:Nat) (m:MT T),(mergeM Φ N base wd m' k m).length=m.length
 | _,[]=>rfl
 | k,x::r=>by simp [mergeM,Vcw Φ N base wd m' (k+1) r]
theorem Vei (Φ:List Nat) (N base wd:Nat) (m':MT T):∀ (k:Nat) (m:MT T) (b:Nat),b < m.length→(mergeM Φ N base wd m' k m).get b =
  if inGap base wd (k+b)=true then (m'.get (N+(k+b - base))).ren (renG N base) else if has Φ (k+b)=true then (m'.get (k+b)).ren (renG N base) else m.get b
 | _,[],b,h=>by simp at h
 | k,x::r,0,h=>by
  simp only [mergeM,Vdt,Qa2]
  cases inGap base wd k<;>cases has Φ k<;>rfl
 | k,x::r,b+1,h=>by
  simp only [mergeM,Vdu]
  rw [Vei Φ N base wd m' (k+1) r b (by simpa using h)]
  rw [show k+1+b=k+(b+1) by omega]
theorem Vgt {b:Nat} (h:m.length≤b):m.get b = .gone:=by
 unfold MT.get
 rw [Qi,Qak h]; rfl
theorem isLent_iff {x:BoxT T}:x.isLent=true↔x = .lent:=by cases x<;>simp [BoxT.isLent]
end
set_option maxHeartbeats 800000
section
variable {T:Nat→Type} {P:Program} {E:Env T} {O I0 I I':Nat→Prop} {w0 w w':World} {n:Nat} {kp:List (Nat×Value)} {loc loc':Nat→Nat→Loc} {L L':Nat→Nat→Nat} {a:Act} {R:Type} {C:Cd T} {m:MT T}
theorem blt_iff {b N:Nat}:Qa1 b N=true↔b < N:=by
 show Nat.ble (b+1) N=true↔b < N
 rw [Nat.ble_eq]; omega
theorem inGap_iff {base wd b:Nat}:inGap base wd b=true↔base≤b∧b < base+wd:=by
 unfold inGap
 rw [Qb,blt_iff,Nat.ble_eq]
theorem Vnt {N base b:Nat} (h:b < N):renG N base b=b:=by
 unfold renG; rw [blt_iff.2 h]
theorem Vud {N base b:Nat} (h:N≤b):renG N base b=base+(b - N):=by
 unfold renG
 cases hb:Qa1 b N with
 | true=>have:=blt_iff.1 hb; omega
 | false=>rfl
theorem Vih {Φ:List Nat} {N base wd b:Nat} (h:okG Φ N base wd b=true):(b < N∧has Φ b=true∧inGap base wd b=false)∨(N≤b∧b < N+wd):=by
 unfold okG at h
 cases hb:Qa1 b N with
 | true=>
  rw [hb] at h
  simp only [Qb,Qq] at h
  exact .inl ⟨blt_iff.1 hb,h.1,h.2⟩
 | false=>
  rw [hb] at h
  refine .inr ⟨?_,blt_iff.1 h⟩
  rcases Q4 b N with q | q
  ·rw [blt_iff.2 q] at hb; cases hb
  ·exact q
theorem Vwy {x:BoxT T} {ρ:Nat→Nat} (h:x.ren ρ = .lent):x = .lent:=by cases x<;>simp_all [BoxT.ren]
structure Chk (Φ:List Nat) (N base wd:Nat) (d:DT T) (m m':MT T):Prop where
 ids:∀ b∈d.ids,okG Φ N base wd b=true
 len:m'.length≤N+wd
 gap:base+wd≤N
 box:∀ b∈Φ,(∀ q∈(m'.get b).ids,okG Φ N base wd q=true)∧m.get b≠.lent∧m'.get b≠.lent
 new:∀ j,j < wd→(∀ q∈(m'.get (N+j)).ids,okG Φ N base wd q=true)∧m.get (base+j) = .lent∧m'.get (N+j)≠.lent
theorem Vyb {Φ:List Nat} {N base wd:Nat} {d:DT T} {m m':MT T} (h:chkG Φ N base wd d m m'=true):Chk Φ N base wd d m m':=by
 simp only [chkG,Qb,Q5,Qq] at h
 obtain ⟨⟨h1,h2,h3⟩,h4,h5⟩:=h
 have nl:∀ x:BoxT T,x.isLent=false→x≠.lent:=fun x hx e=>by rw [e] at hx; cases hx
 exact ⟨h1,Qal h2,Qal h3,fun b hb=>⟨(h4 b hb).1,nl _ (h4 b hb).2.1,nl _ (h4 b hb).2.2⟩,fun j hj=>by
  have:=h5 j (by simpa using hj)
  exact ⟨this.1,isLent_iff.1 this.2.1,nl _ this.2.2⟩⟩
def locG (Φ:List Nat) (N base wd:Nat) (loc loc':Nat→Nat→Loc):Nat→Nat→Loc:=fun b g=>
 if b < N then if inGap base wd b=true then loc' (N+(b - base)) g else if has Φ b=true then loc' b g else loc b g else .free
def lenG (Φ:List Nat) (N base wd:Nat) (L L':Nat→Nat→Nat):Nat→Nat→Nat:=fun b g=>
 if inGap base wd b=true then L' (N+(b - base)) g else if has Φ b=true then L' b g else L b g
theorem Vpf (hE:EnvOk P E) {σ:SF T} (h:RelT E O I0 w0 n kp I loc L σ a w) (hlent:∀ b,σ.m.get b = .lent→∀ g,loc b g = .free) {o:Oper} {Φ:List Nat} {base wd:Nat} {d:DT T} {m' m2:MT T}
  (hs:semT E o.op (evT E.G σ.t) (keepM Φ 0 σ.m)=some (d,m')) (hc:Chk Φ σ.m.length base wd d σ.m m') (hlen:m2.length=σ.m.length)
  (hm2:∀ b,b < σ.m.length→m2.get b=if inGap base wd b=true then (m'.get (σ.m.length+(b - base))).ren (renG σ.m.length base) else if has Φ b=true then (m'.get b).ren (renG σ.m.length base) else σ.m.get b)
  (hd:∀ k,o.dst=some k→k < n∧∀ p∈kp,p.1≠k) {K:Act→World→Prop} {Q:Exit→Act→World→Prop}
  (hK:∀ a' w' I' loc' L',RelT E O I0 w0 n kp I' loc' L' (({ σ with m:=m2 }:SF T).put o.dst (d.ren (renG σ.m.length base))) a' w'→(∀ b,m2.get b = .lent→∀ g,loc' b g = .free)→K a' w') :
  o.upon P a K Q ((execOp a.eval o).run P w):=by
 generalize hN:σ.m.length=N at *
 let O':Nat→Prop:=fun k=>O k∧∀ b g,b < N→has Φ b=false→(denB E.C (σ.m.get b)).owned=true→loc b g≠.blk k
 have hm:=h.mem
 have kget:∀ b,b < N→(keepM Φ 0 σ.m).get b=if has Φ b=true then σ.m.get b else .lent:=fun b hb=>by
  have:=Vfw Φ 0 σ.m b (by omega)
  rwa [Qn] at this
 have hbx:∀ b,(denM E.C σ.m).bx b=denB E.C (σ.m.get b):=fun _=>rfl
 have kown:∀ b,b < N→(denB E.C ((keepM Φ 0 σ.m).get b)).owned=true→has Φ b=true∧(denB E.C (σ.m.get b)).owned=true:=fun b hb ho=>by
  rw [kget b hb] at ho
  split at ho
  ·rename_i hq; exact ⟨hq,ho⟩
  ·cases ho
 have hkm:MRel O' I loc (denM E.C (keepM Φ 0 σ.m)) w:=by
  have hnb:(denM E.C (keepM Φ 0 σ.m)).nb=N:=by simp [denM,Vew,hN]
  have hnb0:(denM E.C σ.m).nb=N:=by simp [denM,hN]
  refine ⟨fun b hb=>?_,fun b g hb=>?_,fun b g k hb ho hk=>?_,fun b b' g g' k h1 h2 o1 o2 k1 k2=>?_,hm.imm,fun k hk=>⟨hm.up k hk,fun b g hb hq ho e=>?_⟩⟩
  ·rw [hnb] at hb
   show RelB I w loc b (denB E.C ((keepM Φ 0 σ.m).get b))
   rw [kget b hb]
   split
   ·exact hm.box b (by rw [hnb0]; exact hb)
   ·trivial
  ·rw [hnb] at hb; exact hm.free b g (by rw [hnb0]; exact hb)
  ·rw [hnb] at hb
   obtain ⟨q1,q2⟩:=kown b hb ho
   obtain ⟨p1,p2,p3⟩:=hm.own b g k (by rw [hnb0]; exact hb) q2 hk
   refine ⟨⟨p1,fun b' g' hb' hq' ho' e=>?_⟩,p2,p3⟩
   have:=hm.inj b b' g g' k (by rw [hnb0]; exact hb) (by rw [hnb0]; exact hb') q2 ho' hk e
   rw [this,hq'] at q1; cases q1
  ·rw [hnb] at h1 h2
   exact hm.inj b b' g g' k (by rw [hnb0]; exact h1) (by rw [hnb0]; exact h2) (kown b h1 o1).2 (kown b' h2 o2).2 k1 k2
  ·have:=(hm.own b g k (by rw [hnb0]; exact hb) ho e).2.2
   omega
 have hkw:WfM L (keepM Φ 0 σ.m):=fun b=>by
  by_cases hb:b < N
  ·rw [kget b hb]
   split
   ·exact h.wfm b
   ·trivial
  ·rw [Vgt (by rw [Vew]; omega)]; trivial
 have hR:RelT E O' I w n kp I loc L ⟨σ.t,keepM Φ 0 σ.m⟩ a w:=⟨h.size,h.defers,h.tmp,h.wf,hkm,hkw,h.glob,.refl _ _,fun _=>Qv _,fun _ h=>h,fun _ h=>.inl h,h.kept⟩
 unfold semT at hs
 obtain ⟨d1,m1,hf,he⟩:=Vx7 hE hR hs
 simp only [Qa,Qm] at he
 obtain ⟨e1,e2⟩:=he
 replace e1:=e1.symm
 replace e2:=e2.symm
 subst e1
 subst e2
 refine hf a K Q fun v w' I' loc' L' z1 z2 z3 z4 z5 z6 z7 z8 z9 z10=>?_
 -- where the boxes lie now
 have hok:∀ b,okG Φ N base wd b=true→∀ g,locG Φ N base wd loc loc' (renG N base b) g=loc' b g:=fun b hb g=>by
  rcases Vih hb with ⟨h1,h2,h3⟩ | ⟨h1,h2⟩
  ·rw [Vnt h1]; unfold locG
   rw [if_pos h1,if_neg (by rw [h3]; simp),if_pos h2]
  ·rw [Vud h1]; unfold locG
   have:=hc.gap
   rw [if_pos (by omega),if_pos (inGap_iff.2 ⟨by omega,by omega⟩)]
   congr 1; omega
 have hokL:∀ b,okG Φ N base wd b=true→∀ g,lenG Φ N base wd L L' (renG N base b) g=L' b g:=fun b hb g=>by
  rcases Vih hb with ⟨h1,h2,h3⟩ | ⟨h1,h2⟩
  ·rw [Vnt h1]; unfold lenG
   rw [if_neg (by rw [h3]; simp),if_pos h2]
  ·rw [Vud h1]; unfold lenG
   rw [if_pos (inGap_iff.2 ⟨by omega,by omega⟩)]
   congr 1; omega
 have gapLent:∀ b,inGap base wd b=true→σ.m.get b = .lent:=fun b hb=>by
  obtain ⟨h1,h2⟩:=inGap_iff.1 hb
  have:=(hc.new (b - base) (by omega)).2.1
  rwa [show base+(b - base)=b by omega] at this
 have gapFree:∀ b,inGap base wd b=true→∀ g,loc b g = .free:=fun b hb=>hlent b (gapLent b hb)
 have hle:LocExt loc (locG Φ N base wd loc loc'):=fun b g=>by
  unfold locG
  split
  ·split
   ·rename_i hg; exact .inl (gapFree b hg g)
   ·split
    ·exact z8 b g
    ·exact .inr (.inr rfl)
  ·rename_i hb
   exact .inl (hm.free b g (by simp [denM]; omega))
 have hLe:LExt loc L (lenG Φ N base wd L L'):=fun b g hne=>by
  unfold lenG
  split
  ·rename_i hg; exact absurd (gapFree b hg g) hne
  ·split
   ·exact z9 b g hne
   ·rfl
 have box':∀ b,RelB I' w' loc' b (denB E.C (m'.get b)):=fun b=>by
  by_cases hb:b < m'.length
  ·exact z1.box b hb
  ·rw [Vgt (by omega)]
   exact fun g=>.inr (z1.free b g (by simp [denM]; omega))
 have lt':∀ b,(denB E.C (m'.get b)).owned=true→b < m'.length:=fun b ho=>by
  rcases Q4 b m'.length with q | q
  ·exact q
  ·rw [Vgt q] at ho; cases ho
 -- the three kinds of boxes
 have three:∀ b,b < N→(∃ b1,m2.get b=(m'.get b1).ren (renG N base)∧(∀ g,locG Φ N base wd loc loc' b g=loc' b1 g)∧(∀ g,lenG Φ N base wd L L' b g=L' b1 g)∧(∀ q∈(m'.get b1).ids,okG Φ N base wd q=true)∧m'.get b1≠.lent ∧
    ((inGap base wd b=true∧b1=N+(b - base))∨(inGap base wd b=false∧has Φ b=true∧b1=b))) ∨
   (inGap base wd b=false∧has Φ b=false∧m2.get b=σ.m.get b∧(∀ g,locG Φ N base wd loc loc' b g=loc b g)∧∀ g,lenG Φ N base wd L L' b g=L b g):=fun b hb=>by
  have e:=hm2 b hb
  cases hg:inGap base wd b with
  | true=>
   rw [hg,if_pos rfl] at e
   obtain ⟨h1,h2⟩:=inGap_iff.1 hg
   have hn:=hc.new (b - base) (by omega)
   exact .inl ⟨N+(b - base),e,fun g=>by unfold locG; rw [if_pos hb,hg,if_pos rfl],fun g=>by unfold lenG; rw [hg,if_pos rfl],hn.1,hn.2.2,.inl ⟨rfl,rfl⟩⟩
  | false=>
   rw [hg] at e
   simp only [Qs,if_false] at e
   cases hp:has Φ b with
   | true=>
    rw [hp,if_pos rfl] at e
    have hn:=hc.box b (has_iff.1 hp)
    exact .inl ⟨b,e,fun g=>by unfold locG; rw [if_pos hb,hg,hp]; simp,fun g=>by unfold lenG; rw [hg,hp]; simp,hn.1,hn.2.2,.inr ⟨rfl,rfl,rfl⟩⟩
   | false=>
    rw [hp] at e
    simp only [Qs,if_false] at e
    exact .inr ⟨rfl,rfl,e,fun g=>by unfold locG; rw [if_pos hb,hg,hp]; simp,fun g=>by unfold lenG; rw [hg,hp]; simp⟩
 have src_inj:∀ b b',b < N→b' < N→∀ b1 b1',((inGap base wd b=true∧b1=N+(b - base))∨(inGap base wd b=false∧has Φ b=true∧b1=b))→((inGap base wd b'=true∧b1'=N+(b' - base))∨(inGap base wd b'=false∧has Φ b'=true∧b1'=b'))→b1=b1'→b=b':=by
  rintro b b' hb hb' b1 b1' (⟨q1,q2⟩ | ⟨q1,_,q2⟩) (⟨p1,p2⟩ | ⟨p1,_,p2⟩) e
  ·have:=inGap_iff.1 q1; have:=inGap_iff.1 p1; omega
  ·omega
  ·omega
  ·omega
 have nb2:(denM E.C m2).nb=N:=by simp [denM,hlen]
 have old:∀ b g k,b < N→has Φ b=false→(denB E.C (σ.m.get b)).owned=true→loc b g = .blk k→¬ O' k:=fun b g k hb hq ho hk hO=>hO.2 b g hb hq ho hk
 have hI2:∀ k,I' k→I k∨O k:=fun k hk=>(z7 k hk).imp id (·.1)
 have hfr:Fr O w w':=⟨z10.os,z10.tape,z10.output,z10.size,fun b hb hO=>z10.block b hb (fun q=>hO q.1)⟩
 have hmem:MRel O I' (locG Φ N base wd loc loc') (denM E.C m2) w':=by
  refine ⟨fun b hb=>?_,fun b g hb=>?_,fun b g k hb ho hk=>?_,fun b b' g g' k h1 h2 o1 o2 k1 k2=>?_,z1.imm,fun k hk=>(z1.up k hk).1⟩
  ·rw [nb2] at hb
   show RelB I' w' _ b (denB E.C (m2.get b))
   rcases three b hb with ⟨b1,e1,e2,e3,e4,e5,e6⟩ | ⟨q1,q2,e1,e2,e3⟩
   ·rw [e1]
    exact Vwx e2 (fun q hq=>hok q (e4 q hq)) (box' b1)
   ·rw [e1]
    refine Va5 z6 hle e2 (fun ho g k hk=>?_) (hm.box b (by simp [denM]; omega))
    have hlt:=(hm.own b g k (by simp [denM]; omega) ho hk).2.2
    exact z10.block k hlt (old b g k hb q2 ho hk)
  ·rw [nb2] at hb
   unfold locG
   rw [if_neg (by omega)]
  ·rw [nb2] at hb
   have ho':(denB E.C (m2.get b)).owned=true:=ho
   rcases three b hb with ⟨b1,e1,e2,e3,e4,e5,e6⟩ | ⟨q1,q2,e1,e2,e3⟩
   ·rw [e1,Veh] at ho'
    rw [e2] at hk
    have:=z1.own b1 g k (lt' b1 ho') ho' hk
    exact ⟨this.1.1,this.2⟩
   ·rw [e1] at ho'
    rw [e2] at hk
    have:=hm.own b g k (by simp [denM]; omega) ho' hk
    refine ⟨this.1,fun hI=>?_,Ql this.2.2 z10.size⟩
    rcases z7 k hI with q | q
    ·exact this.2.1 q
    ·exact old b g k hb q2 ho' hk q
  ·rw [nb2] at h1 h2
   have o1':(denB E.C (m2.get b)).owned=true:=o1
   have o2':(denB E.C (m2.get b')).owned=true:=o2
   rcases three b h1 with ⟨b1,e1,e2,e3,e4,e5,e6⟩ | ⟨q1,q2,e1,e2,e3⟩<;>rcases three b' h2 with ⟨b1',e1',e2',e3',e4',e5',e6'⟩ | ⟨q1',q2',e1',e2',e3'⟩
   ·rw [e1,Veh] at o1'; rw [e1',Veh] at o2'
    rw [e2] at k1; rw [e2'] at k2
    exact src_inj b b' h1 h2 b1 b1' e6 e6' (z1.inj b1 b1' g g' k (lt' _ o1') (lt' _ o2') o1' o2' k1 k2)
   ·rw [e1,Veh] at o1'; rw [e1'] at o2'
    rw [e2] at k1; rw [e2'] at k2
    exact absurd (z1.own b1 g k (lt' _ o1') o1' k1).1 (old b' g' k h2 q2' o2' k2)
   ·rw [e1] at o1'; rw [e1',Veh] at o2'
    rw [e2] at k1; rw [e2'] at k2
    exact absurd (z1.own b1' g' k (lt' _ o2') o2' k2).1 (old b g k h1 q2 o1' k1)
   ·rw [e1] at o1'; rw [e1'] at o2'
    rw [e2] at k1; rw [e2'] at k2
    exact hm.inj b b' g g' k (by simp [denM]; omega) (by simp [denM]; omega) o1' o2' k1 k2
 have hwfm:WfM (lenG Φ N base wd L L') m2:=fun b=>by
  by_cases hb:b < N
  ·rcases three b hb with ⟨b1,e1,e2,e3,e4,e5,e6⟩ | ⟨q1,q2,e1,e2,e3⟩
   ·rw [e1]; exact Vz8 e3 (fun q hq=>hokL q (e4 q hq)) (z2 b1)
   ·rw [e1]; exact Vno hm hLe h.wfm b (by omega)
  ·rw [Vgt (by omega)]; trivial
 have:=h.put (m':=m2) (w':=w') (I':=I') (loc':=locG Φ N base wd loc loc') (L':=lenG Φ N base wd L L') (d:=d.ren (renG N base)) (v:=v) o.dst hd hmem hwfm z3
  (V_ren d v (fun b hb=>hok b (hc.ids b hb)) z4) (Vuc d (fun b hb=>hokL b (hc.ids b hb)) z5) z6 hI2 hle hLe hfr
 refine hK _ _ _ _ _ this fun b hb g=>?_
 by_cases hlt:b < N
 ·rcases three b hlt with ⟨b1,e1,e2,e3,e4,e5,e6⟩ | ⟨q1,q2,e1,e2,e3⟩
  ·rw [e1] at hb
   exact absurd (Vwy hb) e5
  ·rw [e2]; exact hlent b (by rw [← e1]; exact hb) g
 ·unfold locG; rw [if_neg hlt]
end
section
variable {T:Nat→Type} {P:Program} {E:Env T} {ops:Array Oper} {R:Type} {m:MT T} {acc:List (List Nat×Nat)}
theorem Vue {R:Type} (x:BoxT T) (K:BoxT T→Option R):forceB x K=K x:=by cases x<;>rfl
theorem Vii {R:Type}:∀ (m:MT T) (K:MT T→Option R),forceM m K=K m
 | [],_=>rfl
 | x::r,K=>by simp only [forceM,Vue]; exact Vii r _
theorem Vwz {R:Type} (o:Op) (e:Operand→DT T) (m:MT T) (Φ:List Nat) (base:Nat) (K:DT T→MT T→Option R):semGK E o e m Φ base K=semGK0 E o e m Φ base K:=by
 unfold semGK semGK0
 split<;>simp only [Vii]
def semG (E:Env T) (o:Op) (e:Operand→DT T) (m:MT T) (Φ:List Nat) (base:Nat):Option (DT T×MT T):=semGK0 E o e m Φ base fun d m=>some (d,m)
theorem Vuf (o:Op) (e:Operand→DT T) (m:MT T) (Φ:List Nat) (base:Nat) (K:DT T→MT T→Option R):semGK E o e m Φ base K=(semG E o e m Φ base).bind fun p=>K p.1 p.2:=by
 rw [Vwz]
 unfold semG semGK0
 split
 ·rw [Vbh,Vbh (R:=DT T×MT T),Qf]; rfl
 ·rw [Vbh,Vbh (R:=DT T×MT T),Qf]
  congr 1; funext p
  split<;>rfl
 ·rw [Vbh,Vbh (R:=DT T×MT T),Qf]
  congr 1; funext p
  split<;>rfl
theorem Vug {o:Op} {e:Operand→DT T} {m m':MT T} {d:DT T} {Φ:List Nat} {base:Nat} (hc:clsT E o = .n) (h:semG E o e m Φ base=some (d,m')):m'=m∧∀ m2,semG E o e m2 Φ base=some (d,m2):=by
 have eq:∀ m2,semG E o e m2 Φ base=semT E o e m2:=fun m2=>by unfold semG semGK0; rw [hc]; rfl
 rw [eq] at h
 obtain ⟨h1,h2⟩:=Vo9 hc h
 exact ⟨h1,fun m2=>by rw [eq]; exact h2 m2⟩
theorem Vyc {m1 m2:MT T} (hl:m1.length=m2.length) (h:∀ b,b < m1.length→m1.get b=m2.get b):m1=m2:=by
 apply List.ext_getElem hl
 intro i h1 h2
 have:=h i h1
 simpa [MT.get,Qaw,h1,h2] using this
theorem Vjp {Φ:List Nat} {m1 m2:MT T} (hl:m2.length=m1.length) (h:∀ b∈Φ,m2.get b=m1.get b):keepM Φ 0 m2=keepM Φ 0 m1:=by
 refine Vyc (by rw [Vew,Vew,hl]) fun b hb=>?_
 rw [Vew] at hb
 rw [Vfw Φ 0 m2 b hb,Vfw Φ 0 m1 b (by omega)]
 split
 ·rename_i hq; exact h b (by rw [Qn] at hq; exact has_iff.1 hq)
 ·rfl
theorem Vmn {Φ:List Nat} {N base wd:Nat} {d:DT T} {m1 m2 m':MT T} (h:∀ b∈Φ,m2.get b=m1.get b) (hg:∀ j,j < wd→m2.get (base+j)=m1.get (base+j)):chkG Φ N base wd d m2 m'=chkG Φ N base wd d m1 m':=by
 unfold chkG
 congr 1
 congr 1
 ·rw [Qbg,Q5,Q5]
  constructor
  ·intro q b hb; rw [← h b hb]; exact q b hb
  ·intro q b hb; rw [h b hb]; exact q b hb
 ·rw [Qbg,Q5,Q5]
  constructor
  ·intro q j hj; rw [← hg j (by simpa using hj)]; exact q j hj
  ·intro q j hj; rw [hg j (by simpa using hj)]; exact q j hj
theorem Vuh {o:Op} {e:Operand→DT T} {m m':MT T} {d:DT T} {Φ:List Nat} {base:Nat} (hc:clsT E o = .r) (h:semG E o e m Φ base=some (d,m')) :
  m'=m∧∀ m2:MT T,m2.length=m.length→(∀ b∈Φ,m2.get b=m.get b)→semG E o e m2 Φ base=some (d,m2):=by
 unfold semG semGK0 at *
 rw [hc] at h ⊢
 simp only at h ⊢
 rw [Vbh,Qd] at h
 obtain ⟨⟨d1,m1⟩,h1,h2⟩:=h
 simp only at h2
 split at h2
 ·rename_i hk
  simp only [Qa,Qm] at h2
  obtain ⟨rfl,rfl⟩:=h2
  refine ⟨rfl,fun m2 hl ha=>?_⟩
  rw [Vbh,Vjp hl ha,h1]
  simp only [Qk]
  rw [hl,Vmn ha (fun j hj=>by omega),hk]
 ·cases h2
def full (Φ:List Nat) (base wd:Nat):List Nat:=Φ++(Qw wd).map (base+·)
theorem mem_full {Φ:List Nat} {base wd b:Nat}:b∈full Φ base wd↔b∈Φ∨inGap base wd b=true:=by
 unfold full
 rw [Q1,inGap_iff]
 constructor
 ·rintro (h | h)
  ·exact .inl h
  ·simp only [Qz,Q3] at h
   obtain ⟨j,hj,rfl⟩:=h
   exact .inr ⟨by omega,by omega⟩
 ·rintro (h | h)
  ·exact .inl h
  ·right
   simp only [Qz,Q3]
   exact ⟨b - base,by omega,by omega⟩
theorem Vui {o:Op} {e:Operand→DT T} {m m':MT T} {d:DT T} {Φ:List Nat} {base:Nat} (hc:clsT E o = .w) (h:semG E o e m Φ base=some (d,m')) :
  m'.length=m.length∧(∀ b,b∉full Φ base (wdOf o)→m'.get b=m.get b)∧∀ m2:MT T,m2.length=m.length→(∀ b∈full Φ base (wdOf o),m2.get b=m.get b) →
   ∃ m2':MT T,semG E o e m2 Φ base=some (d,m2')∧m2'.length=m2.length∧(∀ b∈full Φ base (wdOf o),m2'.get b=m'.get b)∧∀ b,b∉full Φ base (wdOf o)→m2'.get b=m2.get b:=by
 unfold semG semGK0 at *
 rw [hc] at h ⊢
 simp only at h ⊢
 rw [Vbh,Qd] at h
 obtain ⟨⟨d1,m1⟩,h1,h2⟩:=h
 simp only at h2
 split at h2
 case h_2=>cases h2
 rename_i hk
 simp only [Qa,Qm] at h2
 obtain ⟨rfl,rfl⟩:=h2
 have out:∀ (q:MT T) b,b∉full Φ base (wdOf o)→(mergeM Φ m.length base (wdOf o) m1 0 q).get b=q.get b:=fun q b hb=>by
  rw [mem_full] at hb
  by_cases hlt:b < q.length
  ·rw [Vei _ _ _ _ _ _ _ _ hlt,Qn,if_neg (fun h=>hb (.inr h)),if_neg (fun h=>hb (.inl (has_iff.1 h)))]
  ·rw [Vgt (by rw [Vcw]; omega),Vgt (by omega)]
 refine ⟨Vcw _ _ _ _ _ _ _,out m,fun m2 hl ha=>?_⟩
 have ha1:∀ b∈Φ,m2.get b=m.get b:=fun b hb=>ha b (mem_full.2 (.inl hb))
 refine ⟨mergeM Φ m.length base (wdOf o) m1 0 m2,?_,Vcw _ _ _ _ _ _ _,fun b hb=>?_,out m2⟩
 ·rw [Vbh,Vjp hl ha1,h1]
  simp only [Qk]
  rw [hl,Vmn ha1 (fun j hj=>ha _ (mem_full.2 (.inr (inGap_iff.2 ⟨by omega,by omega⟩)))),hk]
 ·by_cases hlt:b < m.length
  ·rw [Vei _ _ _ _ _ _ _ _ (by omega),Vei _ _ _ _ _ _ _ _ hlt]
   split
   ·rfl
   ·split
    ·rfl
    ·exact ha b hb
  ·rw [Vgt (by rw [Vcw]; omega),Vgt (by rw [Vcw]; omega)]
def stepOG (E:Env T) (ops:Array Oper) (acc:List (List Nat×Nat)) (i:Nat) (o:Oper) (σ:SF T):Option (SF T):=
 match gdT ops o σ.t with
 | none=>none
 | some false=>some (σ.put o.dst (.tup []))
 | some true=>match semG E o.op (evT E.G σ.t) σ.m (acc.getD i ([],0)).1 (acc.getD i ([],0)).2 with
  | some (d,m')=>some ({ σ with m:=m' }.put o.dst d)
  | none=>none
def runOpsG (E:Env T) (ops:Array Oper) (acc:List (List Nat×Nat)):List Nat→SF T→Option (SF T)
 | [],σ=>some σ
 | i::r,σ=>match ops[i]? with
  | some o=>match stepOG E ops acc i o σ with
   | some σ'=>runOpsG E ops acc r σ'
   | none=>none
  | none=>none
theorem Vqf {e e':Operand→DT T} {m:MT T} {o:Op} {Φ:List Nat} {base:Nat} (h:∀ x∈o.operands,e x=e' x):semG E o e m Φ base=semG E o e' m Φ base:=by
 have key:∀ (m:MT T) {R:Type} (K:DT T→MT T→Option R),opK E o e m K=opK E o e' m K:=fun m R K=>(Vbh o e m K).trans (by rw [Vjo h]; exact (Vbh o e' m K).symm)
 unfold semG semGK0
 split<;>exact key _ _
theorem Vha {σ:SF T} {dst:Option Nat} {d:DT T} {o:Oper} {m:MT T} {Φ:List Nat} {base:Nat} (h:∀ k,dst=some k→k∉o.looksAt ops):semG E o.op (evT E.G (σ.put dst d).t) m Φ base=semG E o.op (evT E.G σ.t) m Φ base:=
 Vqf fun x hx=>Vt3 fun k hk e=>h k hk (Vl6 (by rw [← e]; exact hx))
theorem Vuj {a b:List Nat} (h:disj a b=true):∀ x∈a,x∉b:=fun x hx hb=>by
 have:=List.all_eq_true.1 h x hx
 rw [has_iff.2 hb] at this
 cases this
theorem Vhb {o:Oper} {i:Nat} (hc:clsT E o.op = .w):fullG E acc o i=full (acc.getD i ([],0)).1 (acc.getD i ([],0)).2 (wdOf o.op):=by
 unfold fullG widthG full
 rw [hc]
theorem Vuk {o:Oper} {i:Nat} (hc:clsT E o.op = .r):fullG E acc o i=(acc.getD i ([],0)).1:=by
 unfold fullG widthG
 rw [hc]
 simp
theorem Vqg {i j:Nat} {x y:Oper} {σ σ1 σ2:SF T} (hi:indepG E ops acc j x i y=true) (h1:stepOG E ops acc j x σ=some σ1) (h2:stepOG E ops acc i y σ1=some σ2) :
  ∃ τ,stepOG E ops acc i y σ=some τ∧stepOG E ops acc j x τ=some σ2:=by
 unfold indepG at hi
 simp only [Qb,Bool.or_eq_true,Qq] at hi
 obtain ⟨hap,hcl⟩:=hi
 obtain ⟨a1,a2,a3⟩:=Oper.apart_spec hap
 have a2':∀ k,y.dst=some k→x.dst≠some k:=fun k hk e=>a2 k e hk
 unfold stepOG at h1 h2
 -- x
 split at h1
 ·cases h1
 ·-- x is passed over
  rename_i hgx
  simp only [Qa] at h1; subst h1
  rw [Vbg a1] at h2
  split at h2
  ·cases h2
  ·rename_i hgy
   simp only [Qa] at h2; subst h2
   refine ⟨σ.put y.dst (.tup []),by simp [stepOG,hgy],?_⟩
   unfold stepOG
   rw [Vbg a3,hgx]
   simp only
   rw [SF.put_comm σ _ _ a2']
  ·rename_i hgy
   rw [Vha a1] at h2
   split at h2
   case h_2=>cases h2
   rename_i d m' hs
   simp only [Qa] at h2; subst h2
   have hs':semG E y.op (evT E.G σ.t) σ.m (acc.getD i ([],0)).1 (acc.getD i ([],0)).2=some (d,m'):=by
    rw [← hs]; cases x.dst<;>rfl
   refine ⟨({ σ with m:=m' }:SF T).put y.dst d,by simp only [stepOG,hgy,hs'],?_⟩
   unfold stepOG
   rw [Vbg a3]
   simp only [hgx]
   have:=Vev σ.t m' m' σ.m (DT.tup []) d a2'
   have hm2:(({ σ with m:=m' }:SF T).put y.dst d).m=m':=by cases y.dst<;>rfl
   have e:(({ σ with m:=m' }:SF T).put y.dst d)=({ t:=(({ σ with m:=m' }:SF T).put y.dst d).t,m:=m' }:SF T):=by cases y.dst<;>rfl
   rw [e]
   exact congrArg some this
 ·-- x runs
  rename_i hgx
  split at h1
  case h_2=>cases h1
  rename_i dx mx hsx
  simp only [Qa] at h1; subst h1
  rw [Vbg a1] at h2
  simp only at h2
  split at h2
  ·cases h2
  ·rename_i hgy
   simp only [Qa] at h2; subst h2
   refine ⟨σ.put y.dst (.tup []),by simp [stepOG,hgy],?_⟩
   unfold stepOG
   rw [Vbg a3,hgx]
   simp only
   rw [Vha a3]
   have:(σ.put y.dst (DT.tup [])).m=σ.m:=by cases y.dst<;>rfl
   rw [this,hsx]
   simp only [Qa]
   have h3:=Vev σ.t σ.m mx mx dx (DT.tup []) a2'
   have e:(({ σ with m:=mx }:SF T).put x.dst dx)=({ t:=(({ σ with m:=mx }:SF T).put x.dst dx).t,m:=mx }:SF T):=by cases x.dst<;>rfl
   rw [e]
   exact h3
  ·rename_i hgy
   rw [Vha a1] at h2
   have hmx:(({ σ with m:=mx }:SF T).put x.dst dx).m=mx:=by cases x.dst<;>rfl
   rw [hmx] at h2
   split at h2
   case h_2=>cases h2
   rename_i dy my hsy
   simp only [Qa] at h2; subst h2
   have key:∃ m1,semG E y.op (evT E.G σ.t) σ.m (acc.getD i ([],0)).1 (acc.getD i ([],0)).2=some (dy,m1)∧semG E x.op (evT E.G σ.t) m1 (acc.getD j ([],0)).1 (acc.getD j ([],0)).2=some (dx,my):=by
    have dis:(clsT E x.op).clash (clsT E y.op)=true→∀ b∈fullG E acc x j,b∉fullG E acc y i:=fun hcl'=>by
     rcases hcl with q | q
     ·rw [hcl'] at q; cases q
     ·exact Vuj q
    cases hcx:clsT E x.op with
    | n=>
     obtain ⟨e1,e2⟩:=Vug hcx hsx
     subst e1
     exact ⟨my,hsy,e2 my⟩
    | r =>
     obtain ⟨e1,e2⟩:=Vuh hcx hsx
     subst e1
     cases hcy:clsT E y.op with
     | n=>obtain ⟨e3,_⟩:=Vug hcy hsy; subst e3; exact ⟨_,hsy,hsx⟩
     | r=>obtain ⟨e3,_⟩:=Vuh hcy hsy; subst e3; exact ⟨_,hsy,hsx⟩
     | w=>
      have dis:=dis (by rw [hcx,hcy]; rfl)
      rw [Vuk hcx,Vhb hcy] at dis
      obtain ⟨f1,f2,_⟩:=Vui hcy hsy
      exact ⟨my,hsy,e2 my f1 fun b hb=>f2 b (dis b hb)⟩
    | w =>
     obtain ⟨f1,f2,f3⟩:=Vui hcx hsx
     cases hcy:clsT E y.op with
     | n=>obtain ⟨e3,e4⟩:=Vug hcy hsy; subst e3; exact ⟨σ.m,e4 _,hsx⟩
     | r=>
      have dis:=dis (by rw [hcx,hcy]; rfl)
      rw [Vuk hcy,Vhb hcx] at dis
      obtain ⟨e3,e4⟩:=Vuh hcy hsy
      subst e3
      exact ⟨σ.m,e4 σ.m f1.symm fun b hb=>(f2 b (fun q=>dis b q hb)).symm,hsx⟩
     | w =>
      have dis:=dis (by rw [hcx,hcy]; rfl)
      rw [Vhb hcy,Vhb hcx] at dis
      obtain ⟨g1,g2,g3⟩:=Vui hcy hsy
      obtain ⟨m1,k1,k2,k3,k4⟩:=g3 σ.m f1.symm fun b hb=>(f2 b (fun q=>dis b q hb)).symm
      obtain ⟨m3,l1,l2,l3,l4⟩:=f3 m1 k2 fun b hb=>k4 b (dis b hb)
      refine ⟨m1,k1,?_⟩
      have:m3=my:=Vyc (by omega) fun b hb=>by
       by_cases hx:b∈full (acc.getD j ([],0)).1 (acc.getD j ([],0)).2 (wdOf x.op)
       ·rw [l3 b hx,g2 b (dis b hx)]
       ·rw [l4 b hx]
        by_cases hy:b∈full (acc.getD i ([],0)).1 (acc.getD i ([],0)).2 (wdOf y.op)
        ·exact k3 b hy
        ·rw [k4 b hy,g2 b hy,f2 b hx]
      rw [← this]; exact l1
   obtain ⟨m1,k1,k2⟩:=key
   refine ⟨({ σ with m:=m1 }:SF T).put y.dst dy,by simp only [stepOG,hgy,k1],?_⟩
   unfold stepOG
   rw [Vbg a3]
   simp only [hgx]
   rw [Vha a3]
   have hm1:(({ σ with m:=m1 }:SF T).put y.dst dy).m=m1:=by cases y.dst<;>rfl
   simp only [hm1,k2,Qa]
   exact Vev σ.t m1 my mx dx dy a2'
theorem Vfx {i:Nat} {oi:Oper} (hoi:ops[i]? = some oi):∀ (l r:List Nat) (σ σ':SF T),(∀ j∈l,∃ oj,ops[j]? = some oj∧indepG E ops acc j oj i oi=true)→runOpsG E ops acc (l++i::r) σ=some σ'→runOpsG E ops acc (i::(l++r)) σ=some σ'
 | [],r,σ,σ',_,h=>h
 | j::l,r,σ,σ',hl,h=>by
  obtain ⟨oj,hoj,hin⟩:=hl j (by simp)
  simp only [Qah,runOpsG,hoj] at h
  split at h
  case h_2=>cases h
  rename_i σ1 h1
  have h2:=Vfx hoi l r σ1 σ' (fun k hk=>hl k (by simp [hk])) h
  simp only [runOpsG,hoi] at h2
  split at h2
  case h_2=>cases h2
  rename_i σ2 h3
  obtain ⟨τ,h4,h5⟩:=Vqg hin h1 h3
  simp only [Qah,runOpsG,hoi,h4,hoj,h5]
  exact h2
theorem Vij (hp:pairsOkG E ops acc=true) {i:Nat} {oi:Oper} (hi:ops[i]? = some oi) :
  (∀ e∈oi.after,Region.binds .any e=true→e.on < i)∧∀ j,j < i→∃ oj,ops[j]? = some oj∧(((masks ops.toList []).getD i 0).testBit j=true∨indepG E ops acc j oj i oi=true):=by
 have hlt:i < ops.size:=by
  rcases Q4 i ops.size with h | h
  ·exact h
  ·rw [Q2 h] at hi; cases hi
 unfold pairsOkG at hp
 have:=List.all_eq_true.1 hp i (by simpa using hlt)
 simp only [pairsAtG,hi,Qb] at this
 obtain ⟨h1,h2⟩:=this
 refine ⟨fun e he hb=>?_,fun j hj=>?_⟩
 ·have:=Array.all_eq_true'.1 h1 e he
  simpa [hb] using this
 ·have:=List.all_eq_true.1 h2 j (by simpa using hj)
  split at this
  ·rename_i oj hoj
   exact ⟨oj,hoj,by simpa using this⟩
  ·cases this
theorem Vul (hp:pairsOkG E ops acc=true):∀ (fuel t:Nat) (listed:Array Bool) (σ σ':SF T),listed.size=ops.size→(left ops.size listed).length≤fuel →
  (∀ (k:Nat) (o:Oper),ops[k]? = some o→listed.getD k false=true→∀ e∈o.after,Region.binds .any e=true→listed.getD e.on false=true) →
  runOpsG E ops acc (left ops.size listed) σ=some σ'→runOpsG E ops acc (Region.linearise.go .any ops fuel t listed []) σ=some σ'
 | 0,t,listed,σ,σ',hsz,hf,hcl,h=>by
  have:left ops.size listed=[]:=Qaq (by omega)
  rw [this] at h
  simpa [Region.linearise.go] using h
 | fuel+1, t, listed, σ, σ', hsz, hf, hcl, h => by
  simp only [Region.linearise.go]
  change runOpsG E ops acc (match (Region.ready .any ops listed)[t % (Region.ready .any ops listed).length]? with
   | some i=>Region.linearise.go .any ops fuel (t / (Region.ready .any ops listed).length) (listed.setIfInBounds i true) [i]
   | none=>[].reverse) σ=some σ'
  have hready:∀ i,i∈Region.ready .any ops listed↔i∈left ops.size listed∧∃ o,ops[i]? = some o∧∀ e∈o.after,Region.binds .any e=true→listed.getD e.on false=true:=by
   intro i
   unfold Region.ready
   simp only [Qbd,Q3,Qb,Qq,mem_left]
   constructor
   ·rintro ⟨h1,h2,h3⟩
    refine ⟨⟨h1,h2⟩,ops[i],by simp [h1],fun e he hb=>?_⟩
    simp only [Qas h1,Q0,Qae,Qac] at h3
    have:=h3 e he
    simpa [hb] using this
   ·rintro ⟨⟨h1,h2⟩,o,ho,h3⟩
    refine ⟨h1,h2,?_⟩
    simp only [ho,Q0,Qae,Qac]
    intro e he
    cases hb:Region.binds .any e with
    | false=>simp
    | true=>simp [h3 e he hb]
  cases hi:(Region.ready .any ops listed)[t % (Region.ready .any ops listed).length]? with
  | none=>
   have hnil:Region.ready .any ops listed=[]:=by
    cases hr:Region.ready .any ops listed with
    | nil=>rfl
    | cons x xs=>
     rw [hr] at hi
     have hlt:t % (x::xs).length < (x::xs).length:=Nat.mod_lt _ (by simp)
     rw [Qp hlt] at hi
     cases hi
   have hl : left ops.size listed = [] := by
    cases hr:left ops.size listed with
    | nil=>rfl
    | cons x xs=>
     exfalso
     have hx:x∈left ops.size listed:=by rw [hr]; simp
     obtain ⟨hxl,hxf⟩:=mem_left.1 hx
     have hox:ops[x]? = some ops[x]:=by simp [hxl]
     have:x∈Region.ready .any ops listed:=by
      rw [hready]
      refine ⟨hx,ops[x],hox,fun e he hb=>?_⟩
      have hlt:=(Vij hp hox).1 e he hb
      -- e.on < x and x is the least that is left
      rcases hle:listed.getD e.on true with _ | _
      ·have hme:e.on∈left ops.size listed:=mem_left.2 ⟨by omega,hle⟩
       obtain ⟨l,r,e1,e2,_⟩:=Ver hsz hme
       have:x=(l++e.on::r).head (by simp):=by
        have:=congrArg List.head? (hr.symm.trans e1)
        simp at this
        cases l with
        | nil=>simpa using this
        | cons y ys=>simpa using this
       cases l with
       | nil=>simp at this; omega
       | cons y ys=>
        simp at this
        have:=(e2 y (by simp)).1
        omega
      ·have:e.on < listed.size:=by rw [hsz]; omega
       simp [Qe,this] at hle ⊢
       exact hle
     rw [hnil] at this
     cases this
   rw [hl] at h
   simpa using h
  | some i=>
   simp only []
   have hir:=(hready i).1 (Qao hi)
   obtain ⟨hil,oi,hoi,hdep⟩:=hir
   obtain ⟨l,r,e1,e2,e3⟩:=Ver hsz hil
   rw [linearise_go_acc,Qax,Qa4]
   rw [e1] at h
   have hfr:=Vfx hoi l r σ σ' (fun j hj=>by
    obtain ⟨hji,hjf⟩:=e2 j hj
    obtain ⟨oj,hoj,hor⟩:=(Vij hp hoi).2 j hji
    refine ⟨oj,hoj,hor.resolve_left fun hre=>?_⟩
    have:=Vgb ops.toList [] (fun k _=>by simp) (fun k hk=>by simp at hk) (fun k _=>by simp) i listed hcl oi hoi hdep j hre
    have hjl:j < listed.size:=by
     rw [hsz]
     rcases Q4 j ops.size with h | h
     ·exact h
     ·rw [Q2 h] at hoj; cases hoj
    simp [Qe,hjl] at this hjf
    rw [this] at hjf; cases hjf) h
   simp only [runOpsG,hoi] at hfr ⊢
   split at hfr
   case h_2=>cases hfr
   rename_i σ1 h1
   have hlen:(left ops.size listed).length=(l++r).length+1:=by rw [e1]; simp; omega
   refine Vul hp fuel _ _ σ1 σ' (by simpa using hsz) (by rw [e3]; omega) (fun k o hk hlk e he hb=>?_) (by rw [e3]; exact hfr)
   have hset:∀ q,listed.getD q false=true→(listed.setIfInBounds i true).getD q false=true:=fun q hq=>by
    simp only [Qe,Qg] at hq ⊢
    by_cases hqi:i=q
    ·subst hqi
     rw [if_pos rfl]
     by_cases hqs:i < listed.size
     ·simp [hqs]
     ·simp [hqs] at hq
    ·rw [if_neg hqi]; exact hq
   by_cases hki:k=i
   ·subst hki
    rw [hoi] at hk; cases hk
    exact hset _ (hdep e he hb)
   ·refine hset _ (hcl k o hk ?_ e he hb)
    simpa [Qe,Qg,Ne.symm hki] using hlk
theorem Vk6 (hmix:P.follows .mixedOrders=true) (hp:pairsOkG E ops acc=true) (t:Nat) {σ σ':SF T} (h:runOpsG E ops acc (Qw ops.size) σ=some σ') :
  runOpsG E ops acc (Region.schedule (P.follows .mixedOrders) ops t) σ=some σ':=by
 simp only [Region.schedule,hmix,Qbo,if_true,Region.linearise]
 have hl:left ops.size (Qai ops.size false)=Qw ops.size:=by
  unfold left
  rw [Qa6]
  intro i hi
  simp only [Q3] at hi
  simp [Qe,hi]
 refine Vul hp ops.size t _ σ σ' (by simp) (by rw [hl]; simp) (fun k o hk hlk=>?_) (by rw [hl]; exact h)
 simp [Qe] at hlk
 by_cases hk2:k < ops.size
 ·simp [hk2] at hlk
 ·simp [hk2] at hlk
end
section
variable {T:Nat→Type} {P:Program} {E:Env T} {O I0 I I':Nat→Prop} {w0 w w':World} {n:Nat} {kp:List (Nat×Value)} {loc loc':Nat→Nat→Loc} {L L':Nat→Nat→Nat} {a:Act} {R:Type} {ops:Array Oper} {acc:List (List Nat×Nat)}
def LentFree (m:MT T) (loc:Nat→Nat→Loc):Prop:=∀ b,m.get b = .lent→∀ g,loc b g = .free
theorem Vum (σ:SF T) (dst:Option Nat) (d:DT T):(σ.put dst d).m=σ.m:=by cases dst<;>rfl
theorem Vz9 (hE:EnvOk P E) {σ:SF T} (h:RelT E O I0 w0 n kp I loc L σ a w) (hl:LentFree σ.m loc) {o:Oper} {Φ:List Nat} {base:Nat} {d:DT T} {m2:MT T} (hs:semG E o.op (evT E.G σ.t) σ.m Φ base=some (d,m2))
  (hd:∀ k,o.dst=some k→k < n∧∀ p∈kp,p.1≠k) {K:Act→World→Prop} {Q:Exit→Act→World→Prop}
  (hK:∀ a' w' I' loc' L',RelT E O I0 w0 n kp I' loc' L' (({ σ with m:=m2 }:SF T).put o.dst d) a' w'→LentFree m2 loc'→K a' w'):o.upon P a K Q ((execOp a.eval o).run P w):=by
 unfold semG semGK0 at hs
 split at hs
 ·rename_i hc
  unfold opK at hs
  rw [hc] at hs
  simp only at hs
  obtain ⟨d1,h1,h2,h3⟩:=nK_ok (L:=L) hE.tys hE.cd (fun x=>(Vie h x).2) hs
  simp only [Qa,Qm] at h3
  obtain ⟨rfl,rfl⟩:=h3
  obtain ⟨v,hv1,hv2⟩:=Vs1 (P:=P) (o:=o) (fun x=>(Vie h x).1) h1
  rw [hv1]
  exact hK _ _ _ _ _ (h.put o.dst hd h.mem h.wfm h.glob hv2 h2 (.refl _ _) (fun _ h=>.inl h) (.refl _) (.refl _ _) (.refl _ _)) hl
 ·rename_i hc
  rw [Vbh,Qd] at hs
  obtain ⟨⟨d1,m1⟩,h1,h2⟩:=hs
  simp only at h2
  split at h2
  case h_2=>cases h2
  rename_i hk
  simp only [Qa,Qm] at h2
  obtain ⟨rfl,rfl⟩:=h2
  have hck:=Vyb hk
  have hm1:=Vt4 hc h1
  have ids_lt:∀ b,okG Φ σ.m.length 0 0 b=true→renG σ.m.length 0 b=b:=fun b hb=>by
   rcases Vih hb with ⟨q,_⟩ | ⟨q1,q2⟩
   ·exact Vnt q
   ·omega
  have hdr:d1.ren (renG σ.m.length 0)=d1:=Vya d1 fun b hb=>ids_lt b (hck.ids b hb)
  have:=Vpf hE h hl (m2:=σ.m) (Q:=Q) (K:=K) h1 hck rfl (fun b hb=>by
   have hg:inGap 0 0 b=false:=by
    cases hq:inGap 0 0 b with
    | false=>rfl
    | true=>have:=inGap_iff.1 hq; omega
   rw [hg]
   simp only [Qs,if_false]
   split
   ·rename_i hp
    have hm':m1.get b=σ.m.get b:=by
     rw [hm1,Vfw Φ 0 σ.m b hb,Qn,if_pos hp]
    rw [Vqe fun q hq=>ids_lt q ((hck.box b (has_iff.1 hp)).1 q hq),hm']
   ·rfl) hd (by rw [hdr]; exact hK)
  exact this
 ·rename_i hc
  rw [Vbh,Qd] at hs
  obtain ⟨⟨d1,m1⟩,h1,h2⟩:=hs
  simp only at h2
  split at h2
  case h_2=>cases h2
  rename_i hk
  simp only [Qa,Qm] at h2
  obtain ⟨rfl,rfl⟩:=h2
  exact Vpf hE h hl h1 (Vyb hk) (Vcw _ _ _ _ _ _ _) (fun b hb=>by rw [Vei _ _ _ _ _ _ _ _ hb,Qn]) hd hK
theorem Vun (hE:EnvOk P E) {σ:SF T} (h:RelT E O I0 w0 n kp I loc L σ a w) (hl:LentFree σ.m loc) {i:Nat} {o:Oper} (hi:ops[i]? = some o) (hd:∀ k,o.dst=some k→k < n∧∀ p∈kp,p.1≠k) {σ':SF T} (hs:stepOG E ops acc i o σ=some σ')
  {K:Act→World→Prop} {Q:Exit→Act→World→Prop} (hK:∀ a' w' I' loc' L',RelT E O I0 w0 n kp I' loc' L' σ' a' w'→LentFree σ'.m loc'→K a' w'):wpOp P ops Q i K a w:=by
 unfold stepOG at hs
 unfold wpOp
 simp only [hi]
 split at hs
 ·cases hs
 ·rename_i hg
  rw [Vpa h hg]
  simp only [Qa] at hs; subst hs
  simp only [Qs,if_false]
  refine hK _ _ I loc L ?_ (by rw [Vum]; exact hl)
  exact h.put (d:=.tup []) (v:=undef) o.dst hd h.mem h.wfm h.glob (by simp only [den,denL,V,VL]; exact ⟨[],rfl,rfl⟩) trivial (.refl _ _) (fun _ h=>.inl h) (.refl _) (.refl _ _) (.refl _ _)
 ·rename_i hg
  rw [Vpa h hg]
  simp only [if_true]
  split at hs
  case h_2=>cases hs
  rename_i d m' hsem
  simp only [Qa] at hs; subst hs
  left
  exact Vz9 hE h hl hsem hd fun a' w' I' loc' L' z1 z2=>hK a' w' I' loc' L' z1 (by rw [Vum]; exact z2)
theorem Vjq (hE:EnvOk P E) (hd:∀ (i:Nat) (o:Oper) (k:Nat),ops[i]? = some o→o.dst=some k→k < n∧∀ p∈kp,p.1≠k) {Q:Exit→Act→World→Prop}:∀ (l:List Nat) {σ σ':SF T} {I:Nat→Prop} {loc:Nat→Nat→Loc} {L:Nat→Nat→Nat} {a:Act} {w:World},
  RelT E O I0 w0 n kp I loc L σ a w→LentFree σ.m loc→runOpsG E ops acc l σ=some σ'→(∀ a' w' I' loc' L',RelT E O I0 w0 n kp I' loc' L' σ' a' w'→LentFree σ'.m loc'→Q .normal a' w')→wpOps P ops Q l a w
 | [],σ,σ',I,loc,L,a,w,h,hl,hr,hQ=>by
  simp only [runOpsG,Qa] at hr; subst hr
  exact hQ _ _ _ _ _ h hl
 | i::r,σ,σ',I,loc,L,a,w,h,hl,hr,hQ=>by
  simp only [runOpsG] at hr
  split at hr
  case h_2=>cases hr
  rename_i o ho
  split at hr
  case h_2=>cases hr
  rename_i σ1 hs
  rw [wpOps_cons]
  exact Vun hE h hl ho (fun k hk=>hd i o k ho hk) hs fun a' w' I' loc' L' h' hl'=>Vjq hE hd r h' hl' hr hQ
theorem Vpg:∀ (l:List Oper) (is:List Nat) (base:Nat) (acc:List (List Nat×Nat)) (σ:ST T) (K:List (List Nat×Nat)→ST T→Option R) (r:R),l.map some=is.map (ops[·]?)→is=Qan acc.length l.length→runGK E ops l base acc σ K=some r →
  ∃ acc' σ',(∀ j,j < acc.length→acc'[j]? = acc[j]?)∧runOpsG E ops acc' is σ.f=some σ'.f∧K acc' σ'=some r
 | [],is,base,acc,σ,K,r,hl,hi,h=>by
  have:is=[]:=by simpa using hl.symm
  subst this
  exact ⟨acc,σ,fun _ _=>rfl,rfl,h⟩
 | o::l,is,base,acc,σ,K,r,hl,hi,h=>by
  simp only [Qag,Qba] at hi
  subst hi
  simp only [Qo,List.cons.injEq] at hl
  obtain ⟨ho,hl⟩:=hl
  have nx:∀ (p:List Nat×Nat) (σ1:ST T),runGK E ops l (base+widthG E o.op) (acc++[p]) σ1 K=some r→∃ acc' σ',(∀ j,j < acc.length→acc'[j]? = acc[j]?)∧acc'.getD acc.length ([],0)=p∧runOpsG E ops acc' (Qan (acc.length+1) l.length) σ1.f=some σ'.f∧K acc' σ'=some r:=fun p σ1 h=>by
   obtain ⟨acc',σ',g1,g2,g3⟩:=Vpg l _ _ (acc++[p]) σ1 K r hl (by simp) h
   refine ⟨acc',σ',fun j hj=>?_,?_,g2,g3⟩
   ·rw [g1 j (by simp; omega),List.getElem?_append_left hj]
   ·rw [Qi,g1 acc.length (by simp)]
    simp
  have step:∀ σ1:ST T,σ1.f=σ.f→gdT ops o σ.f.t=some true→stepGK E o base σ1 (fun Φ σ'=>runGK E ops l (base+widthG E o.op) (acc++[(Φ,base)]) σ' K)=some r →
    ∃ acc' σ',(∀ j,j < acc.length→acc'[j]? = acc[j]?)∧runOpsG E ops acc' (acc.length::Qan (acc.length+1) l.length) σ.f=some σ'.f∧K acc' σ'=some r:=by
   intro σ1 h1 hg h
   unfold stepGK at h
   rw [Vuf,Qd] at h
   obtain ⟨⟨d,m'⟩,h2,h3⟩:=h
   obtain ⟨acc',σ',g1,g2,g3,g4⟩:=nx _ _ h3
   refine ⟨acc',σ',g1,?_,g4⟩
   have h2':semG E o.op (evT E.G σ.f.t) σ.f.m (acc'.getD acc.length ([],0)).1 (acc'.getD acc.length ([],0)).2=some (d,m'):=by rw [← h1,g2]; exact h2
   simp only [runOpsG,← ho,stepOG,hg,h2']
   rw [Vk5] at g3
   have:({ σ.f with m:=m' }:SF T)=(⟨σ1.ts,m'⟩:ST T).f:=by rw [← h1]; rfl
   rw [this]; exact g3
  have skip:∀ σ1:ST T,σ1.f=σ.f→gdT ops o σ.f.t=some false→runGK E ops l (base+widthG E o.op) (acc++[([],base)]) (ST.put σ1 o.dst (.tup [])) K=some r →
    ∃ acc' σ',(∀ j,j < acc.length→acc'[j]? = acc[j]?)∧runOpsG E ops acc' (acc.length::Qan (acc.length+1) l.length) σ.f=some σ'.f∧K acc' σ'=some r:=by
   intro σ1 h1 hg h
   obtain ⟨acc',σ',g1,g2,g3,g4⟩:=nx _ _ h
   refine ⟨acc',σ',g1,?_,g4⟩
   simp only [runOpsG,← ho,stepOG,hg]
   rw [Vk5,h1] at g3
   exact g3
  have same:∀ (k:Nat) (d:DT T),tget σ.ts k=d→(⟨(k,d)::σ.ts,σ.m⟩:ST T).f=σ.f:=fun k d hd=>by
   simp only [ST.f,Vdg]
   rw [← hd,Vpb]
  simp only [runGK] at h
  split at h
  ·rename_i hg
   exact step σ rfl (by simp [gdT,hg]) h
  ·rename_i k hg
   split at h
   ·rename_i b hb
    cases b with
    | true=>exact step _ (same k _ hb) (by simp [gdT,hg,ST.f,hb]) h
    | false=>exact skip _ (same k _ hb) (by simp [gdT,hg,ST.f,hb]) h
   ·rename_i hb
    exact skip _ rfl (by simp [gdT,hg,ST.f,hb]) h
   ·cases h
  ·rename_i k hg
   split at h
   ·rename_i b hb
    cases b with
    | true=>exact skip _ (same k _ hb) (by simp [gdT,hg,ST.f,hb]) h
    | false=>exact step _ (same k _ hb) (by simp [gdT,hg,ST.f,hb]) h
   ·rename_i hb
    exact skip _ rfl (by simp [gdT,hg,ST.f,hb]) h
   ·cases h
  ·cases h
theorem Vmo:∀ (m:MT T),(clearM m).length=m.length
 | []=>rfl
 | x::r=>by simp [clearM,Vmo r]
theorem Vfy:∀ (m:MT T) (b:Nat),(clearM m).get b=if (m.get b).isLent=true then .gone else m.get b
 | [],b=>by simp [clearM,MT.get,BoxT.isLent]
 | x::r,0=>by
  simp only [clearM,Vdt]
  cases x<;>simp [BoxT.isLent]
 | x::r,b+1=>by
  simp only [clearM,Vdu]
  exact Vfy r b
theorem RelT.clear {σ:SF T} (h:RelT E O I0 w0 n kp I loc L σ a w) (hl:LentFree σ.m loc):RelT E O I0 w0 n kp I loc L ⟨σ.t,clearM σ.m⟩ a w:=by
 have hm:=h.mem
 have hnb:(denM E.C (clearM σ.m)).nb=(denM E.C σ.m).nb:=by simp [denM,Vmo]
 have ho:∀ b,((denM E.C (clearM σ.m)).bx b).owned=true→((denM E.C σ.m).bx b).owned=true:=fun b q=>by
  simp only [denM] at q ⊢
  rw [Vfy] at q
  split at q
  ·cases q
  ·exact q
 refine ⟨h.size,h.defers,h.tmp,h.wf,⟨fun b hb=>?_,fun b g hb=>hm.free b g (by rw [← hnb]; exact hb),fun b g k hb q hk=>hm.own b g k (by rw [← hnb]; exact hb) (ho b q) hk,fun b b' g g' k h1 h2 o1 o2=>hm.inj b b' g g' k (by rw [← hnb]; exact h1) (by rw [← hnb]; exact h2) (ho b o1) (ho b' o2),hm.imm,hm.up⟩,fun b=>?_,h.glob,h.fr,h.rows,h.imm0,h.imm1,h.kept⟩
 ·rw [hnb] at hb
  show RelB I w loc b (denB E.C ((clearM σ.m).get b))
  rw [Vfy]
  split
  ·rename_i hq; exact fun g=>.inr (hl b (isLent_iff.1 hq) g)
  ·exact hm.box b hb
 ·rw [Vfy]
  split
  ·trivial
  ·exact h.wfm b
theorem Vk7 {m:MT T} {k b:Nat}:MT.get (m++Qh k .lent) b=if b < m.length then m.get b else if b < m.length+k then .lent else .gone:=by
 unfold MT.get
 rw [Qi,List.getElem?_append]
 split
 ·simp [Qaw]
 ·rw [List.getElem?_replicate]
  split
  ·rw [if_pos (by omega)]; rfl
  ·rw [if_neg (by omega)]; rfl
theorem RelT.gaps {σ:SF T} (h:RelT E O I0 w0 n kp I loc L σ a w) (hn:(List.all σ.m fun x=>!x.isLent)=true) (k:Nat):RelT E O I0 w0 n kp I loc L ⟨σ.t,σ.m++Qh k .lent⟩ a w∧LentFree (σ.m++Qh k .lent) loc:=by
 have hm:=h.mem
 have nl:∀ b,b < σ.m.length→σ.m.get b≠.lent:=fun b hb e=>by
  have:=List.all_eq_true.1 hn (σ.m.get b) (by
   unfold MT.get
   rw [Qi,Qp hb]
   exact Qbb hb)
  rw [e] at this; cases this
 have hfree:∀ b g,σ.m.length≤b→loc b g = .free:=fun b g hb=>hm.free b g (by simpa [denM] using hb)
 have low:∀ b,b < σ.m.length+k→((denM E.C (σ.m++Qh k .lent)).bx b).owned=true→b < σ.m.length∧((denM E.C σ.m).bx b).owned=true:=fun b hb q=>by
  simp only [denM,Vk7] at q ⊢
  split at q
  ·rename_i hq; exact ⟨hq,q⟩
  ·first | (cases q; done) | (split at q<;>cases q)
 have hnb:(denM E.C (σ.m++Qh k .lent)).nb=σ.m.length+k:=by simp [denM]
 have hnb0:(denM E.C σ.m).nb=σ.m.length:=rfl
 refine ⟨⟨h.size,h.defers,h.tmp,h.wf,⟨fun b hb=>?_,fun b g hb=>hfree b g (by rw [hnb] at hb; omega),fun b g q hb o hk=>?_,fun b b' g g' q h1 h2 o1 o2 k1 k2=>?_,hm.imm,hm.up⟩,fun b=>?_,h.glob,h.fr,h.rows,h.imm0,h.imm1,h.kept⟩,fun b hb g=>?_⟩
 ·show RelB I w loc b (denB E.C (MT.get (σ.m++Qh k .lent) b))
  rw [Vk7]
  split
  ·rename_i hq; exact hm.box b hq
  ·split
   ·trivial
   ·exact fun g=>.inr (hfree b g (by omega))
 ·rw [hnb] at hb
  obtain ⟨q1,q2⟩:=low b hb o
  exact hm.own b g q q1 q2 hk
 ·rw [hnb] at h1 h2
  obtain ⟨q1,q2⟩:=low b h1 o1
  obtain ⟨p1,p2⟩:=low b' h2 o2
  exact hm.inj b b' g g' q q1 p1 q2 p2 k1 k2
 ·show WfB L b (MT.get (σ.m++Qh k .lent) b)
  rw [Vk7]
  split
  ·exact h.wfm b
  ·split<;>trivial
 ·rw [Vk7] at hb
  split at hb
  ·rename_i hq; exact absurd hb (nl b hq)
  ·exact hfree b g (by omega)
theorem Vqh (hmix:P.follows .mixedOrders=true) (hE:EnvOk P E) (hd:∀ (i:Nat) (o:Oper) (k:Nat),ops[i]? = some o→o.dst=some k→k < n∧∀ p∈kp,p.1≠k) {σ:ST T} (h:RelT E O I0 w0 n kp I loc L σ.f a w) {K:ST T→Option R} {r:R} (hr:regionG E ops σ K=some r) {id:Nat} {draw:Bool} {Q:Exit→Act→World→Prop}
  (hQ:∀ τ a' w' I' loc' L',RelT E O I0 w0 n kp I' loc' L' τ.f a' w'→K τ=some r→Q .normal a' w'):(Code.region id ops draw).wp P Q a w:=by
 unfold regionG at hr
 simp only [Vii] at hr
 split at hr
 case h_2=>cases hr
 rename_i hn
 obtain ⟨acc,τ,_,h1,h2⟩:=Vpg ops.toList (Qw ops.size) _ [] _ _ r (Vl7 ops) (by simp [Qa5]) hr
 split at h2
 case h_2=>cases h2
 rename_i hp
 have fin:∀ (l:List Nat) (a:Act) (w:World),RelT E O I0 w0 n kp I loc L σ.f a w→runOpsG E ops acc l (⟨σ.ts,σ.m++Qh (widths E ops.toList) .lent⟩:ST T).f=some τ.f→wpOps P ops Q l a w:=fun l a w h hl=>by
  obtain ⟨g1,g2⟩:=h.gaps hn (widths E ops.toList)
  exact Vjq hE hd l g1 g2 hl fun a' w' I' loc' L' z1 z2=>hQ ⟨τ.ts,clearM τ.m⟩ _ _ _ _ _ (z1.clear z2) h2
 cases draw with
 | false=>exact wp_region (fin _ _ _ h h1)
 | true=>exact wp_region_draw fun t=>fin _ _ _ h.drew (Vk6 hmix hp t h1)
end
section
variable {T:Nat→Type} {P:Program} {E:Env T} {O I0 I:Nat→Prop} {w0 w:World} {n:Nat} {kp:List (Nat×Value)} {loc:Nat→Nat→Loc} {L:Nat→Nat→Nat} {a:Act} {R:Type}
def Ex.con:Ex→Exit
 | .normal=>.normal
 | .exit id=>.exit id
 | .ret=>.ret
theorem Vyd {e e':Ex} (h:exB e e'=true):e=e':=by
 cases e<;>cases e'<;>simp only [exB] at h<;>first | rfl | (cases h; done) | (rw [Qc h])
def atX (C:Cd T):(xs:List (Ex×Shape))→tyX T xs→Ex×ST T
 | []=>fun x=>nomatch x
 | [(e,s)]=>fun x=>(e,lay C s x)
 | (e,s)::p::r=>Sum.elim (fun x=>(e,lay C s x)) (atX C (p::r))
theorem Vuo (C:Cd T):∀ (xs:List (Ex×Shape)) (K:Ex→ST T→Option R) (y:tyX T xs),outX C xs K y=K (atX C xs y).1 (atX C xs y).2
 | [],K,y=>nomatch y
 | [(e,s)],K,y=>rfl
 | (e,s)::p::r,K,y=>by
  cases y with
  | inl x=>rfl
  | inr x=>exact Vuo C (p::r) K x
theorem Vye (hC:CdOk E.C) {σ:ST T} (h:RelT E O I0 w0 n kp I loc L σ.f a w):∀ (xs:List (Ex×Shape)) {e:Ex} {K:tyX T xs→Option R} {r:R},inX E.C xs e σ K=some r →
  ∃ y I' loc' L',(atX E.C xs y).1=e∧RelT E O I0 w0 n kp I' loc' L' (atX E.C xs y).2.f a w∧K y=some r
 | [],e,K,r,hk=>by simp [inX] at hk
 | [(e',s)],e,K,r,hk=>by
  simp only [inX] at hk
  split at hk
  ·rename_i he
   obtain ⟨x,I',loc',L',h1,h2⟩:=Vfv hC h hk
   exact ⟨x,I',loc',L',Vyd he,h1,h2⟩
  ·cases hk
 | (e',s)::p::xs,e,K,r,hk=>by
  simp only [inX] at hk
  split at hk
  ·rename_i he
   obtain ⟨x,I',loc',L',h1,h2⟩:=Vfv hC h hk
   exact ⟨.inl x,I',loc',L',Vyd he,h1,h2⟩
  ·obtain ⟨y,I',loc',L',h1,h2,h3⟩:=Vye hC h (p::xs) hk
   exact ⟨.inr y,I',loc',L',h1,h2,h3⟩
def LoopOk (P:Program) (E:Env T) (n:Nat) (kq:List Nat) (b:Code) (S:LSpec T):Prop:=
 ∀ (O I0:Nat→Prop) (w0:World) (kp:List (Nat×Value)) (I:Nat→Prop) (loc:Nat→Nat→Loc) (L:Nat→Nat→Nat) (a:Act) (w:World) (x:tySs T S.head.slots) (y:tyX T S.outs) (QC:Exit→Act→World→Prop),
  (∀ p∈kp,p.1∈kq)→RelT E O I0 w0 n kp I loc L (layC E.C S.head S.cp x).f a w→S.go x=some y →
  (∀ I' loc' L' a' w',RelT E O I0 w0 n kp I' loc' L' (atX E.C S.outs y).2.f a' w'→QC (atX E.C S.outs y).1.con a' w')→(Code.loop b).wp P QC a w
def dstOk (n:Nat) (kq:List Nat) (ops:Array Oper):Bool:=
 ops.toList.all fun o=>match o.dst with
  | some k=>Qa1 k n&&kq.all fun q=>!Nat.beq q k
  | none=>true
def codeOkT (E:Env T) (A:Loc2 T) (n:Nat) (kq done:List Nat):Code→Bool
 | .region id ops draw=>dstOk n kq ops&&(A.gr id||(!draw||pairsOkT E ops))
 | .seq a b=>codeOkT E A n kq done a&&codeOkT E A n kq done b
 | .cond _ a b=>codeOkT E A n kq done a&&codeOkT E A n kq done b
 | .block id b=>match A.lp id with
  | some _=>done.any (Nat.beq id)
  | none=>codeOkT E A n kq done b
 | _=>true
def strip (A:Loc2 T) (c0:Code):Code→Code
 | .seq a b=>.seq (strip A c0 a) (strip A c0 b)
 | .cond c a b=>.cond c (strip A c0 a) (strip A c0 b)
 | .block id b=>match A.lp id with
  | some _=>.block id (.loop (loopAt id c0))
  | none=>.block id (strip A c0 b)
 | c=>c
theorem Vqi {ops:Array Oper} {kq:List Nat} (h:dstOk n kq ops=true) (hq:∀ p∈kp,p.1∈kq) (i:Nat) (o:Oper) (k:Nat) (hi:ops[i]? = some o) (hk:o.dst=some k):k < n∧∀ p∈kp,p.1≠k:=by
 unfold dstOk at h
 have:=List.all_eq_true.1 h o (by rw [Qam]; exact Array.mem_of_getElem? hi)
 simp only [hk,Qb] at this
 refine ⟨by have h3:=this.1; simp [Qa1] at h3; omega,fun p hp e=>?_⟩
 have h2:=List.all_eq_true.1 this.2 p.1 (hq p hp)
 rw [e] at h2
 simp at h2
variable {A:Loc2 T} {kq done:List Nat} {c0:Code}
theorem Vej (hmix:P.follows .mixedOrders=true) (hE:EnvOk P E) (hq:∀ p∈kp,p.1∈kq) (hlp:∀ id∈done,∀ S,A.lp id=some S→LoopOk P E n kq (loopAt id c0) S) :
  ∀ (c:Code) {R:Type} {σ:ST T} {I:Nat→Prop} {loc:Nat→Nat→Loc} {L:Nat→Nat→Nat} {a:Act} {w:World} {K:Ex→ST T→Option R} {r:R} {QC:Exit→Act→World→Prop},
  codeOkT E A n kq done c=true→strip A c0 c=c→RelT E O I0 w0 n kp I loc L σ.f a w→run E A c σ K=some r →
  (∀ e τ I' loc' L' a' w',RelT E O I0 w0 n kp I' loc' L' τ.f a' w'→K e τ=some r→QC e.con a' w')→c.wp P QC a w
 | .skip,R,σ,I,loc,L,a,w,K,r,QC,hok,hs,h,hr,hQ=>wp_skip (hQ .normal _ _ _ _ _ _ h hr)
 | .label l,R,σ,I,loc,L,a,w,K,r,QC,hok,hs,h,hr,hQ=>wp_label (hQ .normal _ _ _ _ _ _ h hr)
 | .exit id,R,σ,I,loc,L,a,w,K,r,QC,hok,hs,h,hr,hQ=>wp_exit (hQ (.exit id) _ _ _ _ _ _ h hr)
 | .ret,R,σ,I,loc,L,a,w,K,r,QC,hok,hs,h,hr,hQ=>wp_ret (hQ .ret _ _ _ _ _ _ h hr)
 | .region id ops draw,R,σ,I,loc,L,a,w,K,r,QC,hok,hs,h,hr,hQ=>by
  simp only [run] at hr
  simp only [codeOkT,Qb] at hok
  obtain ⟨hok1,hok2⟩:=hok
  have hd:=Vqi hok1 hq
  split at hr
  ·exact Vqh hmix hE hd h hr fun τ a' w' I' loc' L' h' hk=>hQ .normal _ _ _ _ _ _ h' hk
  rename_i hgr
  rw [hgr,Qbl] at hok2
  obtain ⟨σ',h1,h2⟩:=Vns ops.toList (Qw ops.size) σ _ r (Vl7 ops) hr
  cases draw with
  | false=>exact wp_region (Vgi hE hd _ h h1 fun a' w' I' loc' L' h'=>hQ .normal _ _ _ _ _ _ h' h2)
  | true=>
   refine wp_region_draw fun t=>?_
   exact Vgi hE hd _ h.drew (Vk3 hmix (by simpa using hok2) t h1) fun a' w' I' loc' L' h'=>hQ .normal _ _ _ _ _ _ h' h2
 | .seq x y,R,σ,I,loc,L,a,w,K,r,QC,hok,hs,h,hr,hQ=>by
  simp only [codeOkT,Qb] at hok
  simp only [strip,Code.seq.injEq] at hs
  simp only [run] at hr
  split at hr
  ·refine wp_seq (Vej hmix hE hq hlp x hok.1 hs.1 h hr fun e τ I' loc' L' a' w' h' hk=>?_)
   cases e with
   | normal=>exact Vej hmix hE hq hlp y hok.2 hs.2 h' hk hQ
   | exit id=>exact hQ (.exit id) _ _ _ _ _ _ h' hk
   | ret=>exact hQ .ret _ _ _ _ _ _ h' hk
  ·rename_i s hj
   rw [Qd] at hr
   obtain ⟨u,hu,hr⟩:=hr
   refine wp_seq (Vej hmix hE hq hlp x hok.1 hs.1 h hu fun e τ I' loc' L' a' w' h' hk=>?_)
   cases e with
   | normal=>
    obtain ⟨x,I2,loc2,L2,g1,g2⟩:=Vfv hE.cd h' hk
    simp only [Qa] at g2
    subst g2
    exact Vej hmix hE hq hlp y hok.2 hs.2 g1 hr hQ
   | exit id=>
    rw [Qd] at hk
    obtain ⟨z,hz,hk⟩:=hk
    simp only [Qa] at hk
    subst hk
    simp only [Qa0,Qa] at hr
    subst hr
    exact hQ (.exit id) _ _ _ _ _ _ h' hz
   | ret=>
    rw [Qd] at hk
    obtain ⟨z,hz,hk⟩:=hk
    simp only [Qa] at hk
    subst hk
    simp only [Qa0,Qa] at hr
    subst hr
    exact hQ .ret _ _ _ _ _ _ h' hz
  ·rename_i s hj
   rw [Qd] at hr
   obtain ⟨u,hu,hr⟩:=hr
   refine wp_seq (Vej hmix hE hq hlp x hok.1 hs.1 h hu fun e τ I' loc' L' a' w' h' hk=>?_)
   cases e with
   | normal=>
    obtain ⟨x,I2,loc2,L2,g1,g2⟩:=Vfv hE.cd h' hk
    simp only [Qa] at g2
    subst g2
    exact Vej hmix hE hq hlp y hok.2 hs.2 g1 hr hQ
   | exit id=>cases hk
   | ret=>cases hk
 | .cond c x y,R,σ,I,loc,L,a,w,K,r,QC,hok,hs,h,hr,hQ=>by
  simp only [codeOkT,Qb] at hok
  simp only [strip,Code.cond.injEq,true_and] at hs
  simp only [run] at hr
  have hv:=(Vie h c).1
  split at hr
  ·rename_i q hc
   have hc':evT E.G σ.f.t c = .bool q:=hc
   rw [hc'] at hv; simp only [den,V] at hv
   refine wp_cond hv ?_
   cases q
   ·exact Vej hmix hE hq hlp y hok.2 hs.2 h (by simpa using hr) hQ
   ·exact Vej hmix hE hq hlp x hok.1 hs.1 h (by simpa using hr) hQ
  ·cases hr
 | .block id b,R,σ,I,loc,L,a,w,K,r,QC,hok,hs,h,hr,hQ=>by
  have out:∀ (e:Ex) (τ:ST T) (I':Nat→Prop) (loc':Nat→Nat→Loc) (L':Nat→Nat→Nat) (a':Act) (w':World),RelT E O I0 w0 n kp I' loc' L' τ.f a' w'→(match e with
    | .exit j=>match Nat.beq j id with
     | true=>K .normal τ
     | false=>K (.exit j) τ
    | e=>K e τ)=some r→Exit.inBlock id QC e.con a' w':=by
   intro e τ I' loc' L' a' w' h' hk
   cases e with
   | normal=>exact hQ .normal _ _ _ _ _ _ h' hk
   | ret=>exact hQ .ret _ _ _ _ _ _ h' hk
   | exit j=>
    simp only [Ex.con,Exit.inBlock]
    simp only at hk
    split at hk
    ·rename_i hj
     rw [if_pos (Qc hj)]
     exact hQ .normal _ _ _ _ _ _ h' hk
    ·rename_i hj
     rw [if_neg (fun e=>by subst e; simp at hj)]
     exact hQ (.exit j) _ _ _ _ _ _ h' hk
  simp only [codeOkT] at hok
  simp only [strip] at hs
  simp only [run] at hr
  split at hr
  ·rename_i S hS
   rw [hS] at hok hs
   simp only at hok hs
   obtain ⟨j,hj1,hj2⟩:=List.any_eq_true.1 hok
   have hj:=Qc hj2
   subst hj
   simp only [Code.block.injEq,true_and] at hs
   subst hs
   obtain ⟨x,I1,loc1,L1,g1,g2⟩:=Vpe hE.cd h hr
   rw [Qd] at g2
   obtain ⟨y,g3,g4⟩:=g2
   rw [Vuo] at g4
   exact wp_block (hlp _ hj1 S hS O I0 w0 kp I1 loc1 L1 a w x y _ hq g1 g3 fun I' loc' L' a' w' h'=>out _ _ _ _ _ _ _ h' g4)
  ·rename_i hS
   rw [hS] at hok hs
   simp only at hok hs
   simp only [Code.block.injEq,true_and] at hs
   exact wp_block (Vej hmix hE hq hlp b hok hs h hr out)
 | .loop b,R,σ,I,loc,L,a,w,K,r,QC,hok,hs,h,hr,hQ=>by simp [run] at hr
 | .rangeFunc _ _ _ _,R,σ,I,loc,L,a,w,K,r,QC,hok,hs,h,hr,hQ=>by simp [run] at hr
 | .scope _,R,σ,I,loc,L,a,w,K,r,QC,hok,hs,h,hr,hQ=>by simp [run] at hr
 | .goto _,R,σ,I,loc,L,a,w,K,r,QC,hok,hs,h,hr,hQ=>by simp [run] at hr
 | .refuse _,R,σ,I,loc,L,a,w,K,r,QC,hok,hs,h,hr,hQ=>by simp [run] at hr
theorem Vk8 (hmix:P.follows .mixedOrders=true) (hE:EnvOk P E) (hlp:∀ id∈done,∀ S,A.lp id=some S→LoopOk P E n kq (loopAt id c0) S) {b:Code} {hd:Shape} {cp:List Cp} {outs:List (Ex×Shape)} {f:tySs T hd.slots→Option (tySs T hd.slots⊕tyX T outs)} {go:tySs T hd.slots→Option (tyX T outs)} (k:Nat)
  (hok:codeOkT E A n kq done b=true) (hs:strip A c0 b=b) (hf:∀ x,run E A b (layC E.C hd cp x) (roundK E.C hd cp outs)=f x) (hgo:∀ x,go x=iter f k x):LoopOk P E n kq b ⟨hd,outs,go,cp⟩:=by
 intro O I0 w0 kp I loc L a w x y QC hq h hx hQ
 simp only at x y h hx hQ
 rw [hgo] at hx
 refine wp_loop_rounds k ?_
 clear hgo
 induction k generalizing x I loc L a w with
 | zero=>simp [iter] at hx
 | succ k ih=>
  rw [rounds_succ]
  simp only [iter] at hx
  rw [Qd] at hx
  obtain ⟨u,hu,hx⟩:=hx
  rw [← hf] at hu
  refine Vej hmix hE hq hlp b hok hs h hu fun e τ I' loc' L' a' w' h' hk=>?_
  have leave:∀ e,e≠Ex.normal→inX E.C outs e τ (fun x=>some (Sum.inr x))=some u→QC e.con a' w':=by
   intro e _ hk
   obtain ⟨y',I2,loc2,L2,g1,g2,g3⟩:=Vye hE.cd h' outs hk
   simp only [Qa] at g3
   subst g3
   simp only [Qa0,Qa] at hx
   subst hx
   rw [← g1]
   exact hQ _ _ _ _ _ g2
  cases e with
  | normal=>
   simp only [roundK] at hk
   obtain ⟨x',I2,loc2,L2,g1,g2⟩:=Vpe hE.cd h' hk
   simp only [Qa] at g2
   subst g2
   exact ih _ _ _ _ _ x' g1 hx
  | exit id=>exact leave (.exit id) (fun h=>by cases h) hk
  | ret=>exact leave .ret (fun h=>by cases h) hk
end
section
variable {T:Nat→Type} {P:Program} {E:Env T} {O I0 I I':Nat→Prop} {w0 w:World} {n:Nat} {kp:List (Nat×Value)} {loc:Nat→Nat→Loc} {L:Nat→Nat→Nat} {a:Act} {R:Type} {C:Cd T} {m:MT T}
theorem Vnu (hE:EnvOk P E) {σ:ST T} (h:RelT E O I0 w0 n kp I loc L σ.f a w):∀ (rs:List ResultVar) {K:List (DT T)→Option R} {r:R},resK E σ rs K=some r →
  ∃ (ds:List (DT T)) (vs:List Value),(rs.mapM (rdv a)).run P w = .ok vs w∧VL I w (denL E.C ds) loc vs∧WfL L ds∧K ds=some r
 | [],K,r,hr=>⟨[],[],rfl,by simp [denL,VL],trivial,hr⟩
 | .tmp t::rs,K,r,hr=>by
  simp only [resK] at hr
  obtain ⟨ds,vs,h1,h2,h3,h4⟩:=Vnu hE h rs hr
  refine ⟨tget σ.ts t::ds,a.tmps.getD t undef::vs,?_,by simp only [denL,VL]; exact ⟨_,_,rfl,h.tmp t,h2⟩,⟨h.wf t,h3⟩,h4⟩
  simp only [Qbh,Qu,Qt,Qj,h1,rdv]
 | .cell x t::rs,K,r,hr=>by
  simp only [resK] at hr
  have hx:=(Vie h (.tmp x)).1
  have hwx:=(Vie h (.tmp x)).2
  obtain ⟨d,hd,hwd,hr⟩:=Vts (P:=P) hE.cd hE.tys h.mem h.wfm hwx hx _ _ rfl hr
  obtain ⟨ds,vs,h1,h2,h3,h4⟩:=Vnu hE h rs hr
  obtain ⟨z,hz,hv⟩:=Vl0 (P:=P) h.mem hx hd
  have hl:(do loadVar t (← asAddr (a.tmps.getD x undef)):Sem Value).run P w = .ok z w:=by
   have:∃ ad,a.tmps.getD x undef = .pointer (some ad):=by
    have hx:V I w (den E.C (evT E.G σ.f.t (.tmp x))) loc (a.tmps.getD x undef):=hx
    generalize den E.C (evT E.G σ.f.t (.tmp x))=q at hx hd
    unfold loadR at hd
    split at hd
    ·rename_i b off
     simp only [V] at hx
     cases hl:loc b 0<;>simp only [hl] at hx
     ·exact hx
     ·exact ⟨_,hx⟩
    ·rename_i b g s i off
     simp only [V] at hx
     cases hl:loc b g<;>simp only [hl] at hx
     ·exact hx
     ·exact ⟨_,hx⟩
    ·rename_i cs
     simp only [V] at hx
     obtain ⟨b,o,hx,_⟩:=hx
     exact ⟨_,hx⟩
    ·cases hd
   obtain ⟨ad,had⟩:=this
   have e:a.eval (.tmp x)=a.tmps.getD x undef:=rfl
   rw [e] at hz
   rw [had] at hz ⊢
   simpa [Instr.loadAt,Instr.sureAddr,asAddr] using hz
  refine ⟨d::ds,z::vs,?_,by simp only [denL,VL]; exact ⟨_,_,rfl,hv,h2⟩,⟨hwd,h3⟩,h4⟩
  have hl':(rdv a (.cell x t)).run P w = .ok z w:=hl
  simp only [Qbh,Qu,Qt,Qj,h1,hl']
theorem Vnv {fn:Func} {vs:List Value} (h:(fn.results.toList.mapM (rdv a)).run P w = .ok vs w):(results fn a.tmps).run P w = .ok (resV vs) w:=by
 have e:results fn a.tmps=(do
   let vs ← fn.results.mapM (rdv a)
   pure (if h:vs.size=1 then vs[0] else .tuple vs):Sem Value):=by
  unfold results
  congr 1
 rw [e,Array.mapM_eq_mapM_toList]
 simp only [Qu,Sem.run_map,Qt,h,Qj,Result.ok.injEq,and_true]
 match vs with
 | []=>rfl
 | [x]=>rfl
 | x::y::r=>simp [resV]
def KeptV (C:Cd T) (I:Nat→Prop) (w:World) (loc:Nat→Nat→Loc) (t:Nat→DT T):List Slot→Nat→List Value→Prop
 | [],_,_=>True
 | .ptr _::r,j,vs=>∃ v vr,vs=v::vr∧V I w (den C (t j)) loc v∧KeptV C I w loc t r (j+1) vr
 | .inp _::r,j,vs=>∃ v vr,vs=v::vr∧V I w (den C (t j)) loc v∧KeptV C I w loc t r (j+1) vr
 | .f _::r,j,vs=>∃ v vr,vs=v::vr∧KeptV C I w loc t r (j+1) vr
 | .iter::r,j,vs=>∃ v vr,vs=v::vr∧KeptV C I w loc t r (j+1) vr
 | .lar _::r,j,vs=>∃ v vr,vs=v::vr∧KeptV C I w loc t r (j+1) vr
 | .mset _ _::r,j,vs=>∃ v vr,vs=v::vr∧KeptV C I w loc t r (j+1) vr
theorem KeptV.mono {loc':Nat→Nat→Loc} {t:Nat→DT T} (hI:∀ k,I k→I' k) (hl:LocExt loc loc'):∀ {ss:List Slot} {j:Nat} {vs:List Value},KeptV C I w loc t ss j vs→KeptV C I' w loc' t ss j vs
 | [],j,vs,h=>trivial
 | .ptr _::r,j,vs,⟨v,vr,h1,h2,h3⟩=>⟨v,vr,h1,Va4 (Vag hI) _ loc loc' _ hl h2,h3.mono hI hl⟩
 | .inp _::r,j,vs,⟨v,vr,h1,h2,h3⟩=>⟨v,vr,h1,Va4 (Vag hI) _ loc loc' _ hl h2,h3.mono hI hl⟩
 | .f _::r,j,vs,⟨v,vr,h1,h3⟩=>⟨v,vr,h1,h3.mono hI hl⟩
 | .iter::r,j,vs,⟨v,vr,h1,h3⟩=>⟨v,vr,h1,h3.mono hI hl⟩
 | .lar _::r,j,vs,⟨v,vr,h1,h3⟩=>⟨v,vr,h1,h3.mono hI hl⟩
 | .mset _ _::r,j,vs,⟨v,vr,h1,h3⟩=>⟨v,vr,h1,h3.mono hI hl⟩
theorem SVOuts.keep (hI:∀ k,I k→I' k):∀ {ss:List Slot} {x:tyO T ss} {vs:List Value} {own:Nat→Prop},SVOuts C I w ss x vs own→SVOuts C I' w ss x vs own
 | [],x,vs,own,h=>trivial
 | .ptr fs::r,x,vs,own,⟨v,vr,o1,o2,h1,h2,h3,h4⟩=>⟨v,vr,o1,o2,h1,SVS.keep (s:=.ptr fs) (.imm hI) h2,SVOuts.keep hI h3,h4⟩
 | .inp c::r,x,vs,own,⟨v,vr,o1,o2,h1,h2,h3,h4⟩=>⟨v,vr,o1,o2,h1,SVO.keep (.imm hI) h2,SVOuts.keep hI h3,h4⟩
 | .f f::r,x,vs,own,⟨v,vr,h1,h2⟩=>⟨v,vr,h1,SVOuts.keep (ss:=r) hI h2⟩
 | .iter::r,x,vs,own,⟨v,vr,h1,h2⟩=>⟨v,vr,h1,SVOuts.keep (ss:=r) hI h2⟩
 | .lar _::r,x,vs,own,⟨v,vr,h1,h2⟩=>⟨v,vr,h1,SVOuts.keep (ss:=r) hI h2⟩
 | .mset _ _::r,x,vs,own,⟨v,vr,h1,h2⟩=>⟨v,vr,h1,SVOuts.keep (ss:=r) hI h2⟩
theorem Vfc (hC:CdOk C) {t:Nat→DT T} (ht:∀ i,WfD L (t i)):∀ (ss:List Slot) {j:Nat} {m:MT T} {I:Nat→Prop} {loc:Nat→Nat→Loc} {vs:List Value} {K:tyO T ss→MT T→Option R} {r:R},MRel O I loc (denM C m) w→WfM L m→KeptV C I w loc t ss j vs→outsK C t ss j m K=some r →
  ∃ x own I' m' loc',Took C O I w loc L m own I' m' loc'∧SVOuts C I' w ss x vs own∧K x m'=some r
 | [],j,m,I,loc,vs,K,r,hm,hw,hv,h=>⟨(),none',I,m,loc,.refl hm hw,trivial,h⟩
 | .ptr fs::ss,j,m,I,loc,vs,K,r,hm,hw,hv,h=>by
  obtain ⟨v,vr,rfl,hv1,hv2⟩:=hv
  have h':decSK C m (.ptr fs) (t j) (fun x m'=>outsK C t ss (j+1) m' fun y m''=>K (x,y) m'')=some r:=h
  obtain ⟨x,o1,I1,m1,loc1,h1,h2,h3⟩:=dec_s hC hm hw (ht j) hv1 h'
  obtain ⟨y,o2,I2,m2,loc2,g1,g2,g3⟩:=Vfc hC ht ss h1.mem h1.wf (hv2.mono h1.imm0 h1.ext) h3
  exact ⟨(x,y),_,I2,m2,loc2,h1.trans g1,⟨v,vr,o1,o2,rfl,h2.keep (.imm g1.imm0),g2,fun _ h=>.inl h,fun _ h=>.inr h,h1.disj g1⟩,g3⟩
 | .inp c::ss,j,m,I,loc,vs,K,r,hm,hw,hv,h=>by
  obtain ⟨v,vr,rfl,hv1,hv2⟩:=hv
  have h':decOK m c (t j) (fun x m'=>outsK C t ss (j+1) m' fun y m''=>K (x,y) m'')=some r:=by
   simp only [outsK] at h
   unfold decOK
   split at h
   ·rename_i hb; simp only [hb]; exact h
   ·cases h
  obtain ⟨x,o1,I1,m1,loc1,h1,h2,h3⟩:=Vh7 hm hw (ht j) hv1 h'
  obtain ⟨y,o2,I2,m2,loc2,g1,g2,g3⟩:=Vfc hC ht ss h1.mem h1.wf (hv2.mono h1.imm0 h1.ext) h3
  exact ⟨(x,y),_,I2,m2,loc2,h1.trans g1,⟨v,vr,o1,o2,rfl,h2.keep (.imm g1.imm0),g2,fun _ h=>.inl h,fun _ h=>.inr h,h1.disj g1⟩,g3⟩
 | .f f::ss,j,m,I,loc,vs,K,r,hm,hw,hv,h=>by
  obtain ⟨v,vr,rfl,hv2⟩:=hv
  obtain ⟨y,o2,I2,m2,loc2,g1,g2,g3⟩:=Vfc hC ht ss (K:=K) hm hw hv2 h
  exact ⟨y,o2,I2,m2,loc2,g1,⟨v,vr,rfl,g2⟩,g3⟩
 | .iter::ss,j,m,I,loc,vs,K,r,hm,hw,hv,h=>by
  obtain ⟨v,vr,rfl,hv2⟩:=hv
  obtain ⟨y,o2,I2,m2,loc2,g1,g2,g3⟩:=Vfc hC ht ss (K:=K) hm hw hv2 h
  exact ⟨y,o2,I2,m2,loc2,g1,⟨v,vr,rfl,g2⟩,g3⟩
 | .lar _::ss,j,m,I,loc,vs,K,r,hm,hw,hv,h=>by
  obtain ⟨v,vr,rfl,hv2⟩:=hv
  obtain ⟨y,o2,I2,m2,loc2,g1,g2,g3⟩:=Vfc hC ht ss (K:=K) hm hw hv2 h
  exact ⟨y,o2,I2,m2,loc2,g1,⟨v,vr,rfl,g2⟩,g3⟩
 | .mset _ _::ss,j,m,I,loc,vs,K,r,hm,hw,hv,h=>by
  obtain ⟨v,vr,rfl,hv2⟩:=hv
  obtain ⟨y,o2,I2,m2,loc2,g1,g2,g3⟩:=Vfc hC ht ss (K:=K) hm hw hv2 h
  exact ⟨y,o2,I2,m2,loc2,g1,⟨v,vr,rfl,g2⟩,g3⟩
def kqOf:List Slot→Nat→List Nat
 | [],_=>[]
 | .ptr _::r,j=>j::kqOf r (j+1)
 | .inp _::r,j=>j::kqOf r (j+1)
 | .f _::r,j=>kqOf r (j+1)
 | .iter::r,j=>kqOf r (j+1)
 | .lar _::r,j=>kqOf r (j+1)
 | .mset _ _::r,j=>kqOf r (j+1)
def kpOf (args:List Value) (kq:List Nat):List (Nat×Value):=kq.map fun j=>(j,args.getD j undef)
theorem Vph:∀ {ss:List Slot} {x:tySs T ss} {vs:List Value} {own:Nat→Prop},SVSs C I w ss x vs own→vs.length=ss.length
 | [],x,vs,own,h=>by have h:vs=[]:=h; simp [h]
 | s::r,x,vs,own,⟨v,vr,o1,o2,h1,h2,h3,h4⟩=>by subst h1; simp [Vph h3]
theorem Vmp (C:Cd T):∀ (ss:List Slot) (x:tySs T ss) (b:Nat),(encSs C b ss x).1.length=ss.length
 | [],x,b=>rfl
 | s::r,x,b=>by simp [encSs,Vmp C r x.2]
theorem Vqj (ds:List (DT T)):∀ (k:Nat) (i:Nat),tget ((Qan k ds.length).zip ds) (k+i)=ds.getD i .dead:=by
 induction ds with
 | nil=>intro k i; simp [tget]
 | cons d r ih=>
  intro k i
  simp only [Qag,Qba,Qa7,Vdg,upd]
  cases i with
  | zero=>simp
  | succ i=>
   rw [if_neg (by omega)]
   have:=ih (k+1) i
   rw [show k+1+i=k+(i+1) by omega] at this
   rw [this]; rfl
theorem Vjr (ds:List (DT T)) (i:Nat):tget ((Qw ds.length).zip ds) i=ds.getD i .dead:=by
 have:=Vqj ds 0 i
 rw [Qn] at this
 rw [Qa5]
 exact this
theorem Vhc (hmix : P.follows .mixedOrders = true) (hE : EnvOk P E) {A : Loc2 T} {done : List Nat} {f : FuncId} {fn : Func} {c : Code} {S : FSpec T} (hf : P.funcs[f]? = some fn) (hb : fn.body = some c) (hname : (fn.name == "runtime.NumGoroutine") = false) (hps : Nat.ble S.ps.length fn.ntmps = true)
  (hlp:∀ id∈done,∀ S',A.lp id=some S'→LoopOk P E fn.ntmps (kqOf S.ps 0) (loopAt id c) S') (hok:codeOkT E A fn.ntmps (kqOf S.ps 0) done c=true) (hs:strip A c c=c)
  (heq:∀ x,run E A c (enterT E.C S.ps x) (retK E fn.results.toList S.ps S.rs)=S.fn x):SoundT P E.C (fun g=>(E.G g).map (denL E.C)) f S:=by
 refine ⟨⟨fn,hf,by simp [hb],hname⟩,fun I own w args x r hI hown hG hsv hfn=>?_⟩
 have hlen:=Vph hsv
 have hps':S.ps.length≤fn.ntmps:=Qal hps
 obtain ⟨loc1,L1,p1,p2,p3⟩:=Vtz hE.cd S.ps (m:=([]:MT T)) (loc:=free) (L:=fun _ _=>0) (O:=fun k=>own k∨w.heap.size≤k) (Vpd hI (fun k h=>.inr h)) (fun b=>trivial) hsv
  ⟨fun k hk=>⟨.inl hk,(hown k hk).1,(hown k hk).2⟩,fun k _ ⟨b,g,q,_⟩=>absurd q (Qr _)⟩
 have hds:(encSs E.C 0 S.ps x).1.length=args.length:=by rw [Vmp,hlen]
 have getA:∀ i,(args.toArray++Qai (fn.ntmps - args.toArray.size) undef).getD i undef=args.getD i undef:=fun i=>by
  by_cases hi:i < args.length
  ·simp [Qe,Qaz,hi]
  ·simp only [Qe,Qaz,List.size_toArray,hi,if_false]
   rw [Qi,Qak (by omega),Array.getElem?_replicate]
   split<;>rfl
 have h0:RelT E (fun k=>own k∨w.heap.size≤k) I w fn.ntmps (kpOf args (kqOf S.ps 0)) I loc1 L1 (enterT E.C S.ps x).f { tmps:=args.toArray++Qai (fn.ntmps - args.toArray.size) undef,defers:=[] } w:=by
  have ht:∀ i,V I w (den E.C ((encSs E.C 0 S.ps x).1.getD i .dead)) loc1 (args.getD i undef)∧WfD L1 ((encSs E.C 0 S.ps x).1.getD i .dead):=fun i=>by
   by_cases hi:i < (encSs E.C 0 S.ps x).1.length
   ·have e1:(encSs E.C 0 S.ps x).1.getD i .dead=(encSs E.C 0 S.ps x).1[i]:=by simp [Qaw,hi]
    obtain ⟨v,g1,g2⟩:=Vsw (i:=i) (d:=den E.C (encSs E.C 0 S.ps x).1[i]) p2 (by simp [Vau,hi])
    have e2:args.getD i undef=v:=by rw [Qi,g1]; rfl
    rw [e1,e2]
    exact ⟨g2,WfL_iff.1 p3 _ (Qbb hi)⟩
   ·have e1:(encSs E.C 0 S.ps x).1.getD i .dead = .dead:=by simp [Qaw,hi]
    rw [e1]; exact ⟨trivial,trivial⟩
  refine ⟨by simp; omega,rfl,fun i=>?_,fun i=>?_,p1.mem,p1.wf,hG,.refl _ _,fun _=>Qv _,fun _ h=>h,fun _ h=>.inl h,fun p hp=>?_⟩
  ·rw [getA]
   show V I w (den E.C (tget ((Qw (encSs E.C 0 S.ps x).1.length).zip (encSs E.C 0 S.ps x).1) i)) loc1 _
   rw [Vjr]; exact (ht i).1
  ·show WfD L1 (tget ((Qw (encSs E.C 0 S.ps x).1.length).zip (encSs E.C 0 S.ps x).1) i)
   rw [Vjr]; exact (ht i).2
  ·simp only [kpOf,Qz] at hp
   obtain ⟨j,_,rfl⟩:=hp
   exact getA j
 refine calls_of_wp hf hb (Vej hmix hE (kq:=kqOf S.ps 0) (fun p hp=>by
  simp only [kpOf,Qz] at hp
  obtain ⟨j,hj,rfl⟩:=hp
  exact hj) hlp c hok hs h0 ((heq x).trans hfn) fun e τ I1 loc2 L2 a w' h hk=>?_)
 have fin:(resK E τ fn.results.toList fun ds=>outsK E.C (tget τ.ts) S.ps 0 τ.m fun x m=>decFVsK E.C S.rs m ds fun y _=>some (x,y))=some r →
   a.defers=[]∧∃ v,(results fn a.tmps).run P w' = .ok v w'∧∃ vs I' o1 o2,Ending.returned v = .returned (resV vs)∧Fr (fun k=>own k∨w.heap.size≤k) w w'∧(∀ b,rowSize w b≤rowSize w' b)∧(∀ k,I k→I' k)∧(∀ k,I' k→I k∨own k∨w.heap.size≤k)∧(∀ k,I' k→k < w'.heap.size) ∧
   (∀ k,o1 k∨o2 k→(own k∨w.heap.size≤k)∧¬ I' k∧k < w'.heap.size)∧(∀ k,o1 k→¬ o2 k)∧SVOuts E.C I' w' S.ps r.1 args o1∧SVVs E.C I' w' S.rs r.2 vs o2:=by
  intro hk
  obtain ⟨ds,vs,h1,h2,h3,h4⟩:=Vnu hE h _ hk
  have kept:∀ (ss:List Slot) (j:Nat),(∀ q∈kqOf ss j,q∈kqOf S.ps 0)→j+ss.length=args.length→KeptV E.C I1 w' loc2 (tget τ.ts) ss j (args.drop j):=by
   intro ss
   induction ss with
   | nil=>intro j _ _; trivial
   | cons s ss ih=>
    intro j hq hj
    have hj':j < args.length:=by simp at hj; omega
    have hd:args.drop j=args[j]::args.drop (j+1):=by rw [List.drop_eq_getElem_cons hj']
    have next:=ih (j+1) (fun q hq'=>hq q (by cases s<;>simp [kqOf,hq'])) (by simp at hj; omega)
    have val:j∈kqOf S.ps 0→V I1 w' (den E.C (tget τ.ts j)) loc2 args[j]:=fun hm=>by
     have e:=h.kept (j,args.getD j undef) (by simp only [kpOf,Qz]; exact ⟨j,hm,rfl⟩)
     have v:=h.tmp j
     simp only at e
     rw [e,Qi,Qp hj'] at v
     exact v
    rw [hd]
    cases s with
    | ptr fs=>exact ⟨_,_,rfl,val (hq j (by simp [kqOf])),next⟩
    | inp c=>exact ⟨_,_,rfl,val (hq j (by simp [kqOf])),next⟩
    | f g=>exact ⟨_,_,rfl,next⟩
    | iter=>exact ⟨_,_,rfl,next⟩
    | lar c=>exact ⟨_,_,rfl,next⟩
    | mset a c=>exact ⟨_,_,rfl,next⟩
  obtain ⟨x1,o1,I2,m2,loc3,g1,g2,g3⟩:=Vfc (t:=tget τ.ts) hE.cd h.wf S.ps h.mem h.wfm (vs:=args) (by simpa using kept S.ps 0 (fun _ h=>h) (by omega)) h4
  obtain ⟨y1,o2,I3,m3,loc4,k1,k2,k3⟩:=Vtw hE.cd S.rs g1.mem g1.wf h3 (Vah (Vag g1.imm0) _ _ _ _ g1.ext h2) g3
  simp only [Qa] at k3
  subst k3
  have tk:=g1.trans k1
  refine ⟨h.defers,_,Vnv h1,vs,I3,o1,o2,rfl,h.fr,h.rows,fun k hk=>tk.imm0 k (h.imm0 k hk),fun k hk=>?_,tk.mem.imm,fun k hk=>⟨((tk.got k hk).2.facts h.mem).1,(tk.got k hk).1,((tk.got k hk).2.facts h.mem).2.2⟩,g1.disj k1,SVOuts.keep k1.imm0 g2,k2⟩
  rcases tk.imm1 k hk with q | q
  ·exact h.imm1 k q
  ·exact .inr (q.facts h.mem).1
 cases e with
 | exit id=>cases hk
 | normal=>exact fin hk
 | ret=>exact fin hk
end
section
def zcOf:D→Option Zc
 | .bool false=>some .b
 | .int k 0=>some (.i k)
 | .str []=>some .s
 | .nilp=>some .np
 | .nils=>some .ns
 | .lit .nilFunc=>some .nf
 | .lit .nilIface=>some .ni
 | .lit (.map none)=>some .nm
 | _=>none
theorem Vaaa {d:D} {z:Zc} (h:zcOf d=some z):d=z.toD:=by
 unfold zcOf at h
 split at h<;>first | (cases h; done) | (simp only [Qa] at h; subst h; rfl)
def zcL:List D→Option (List Zc)
 | []=>some []
 | d::r=>match zcOf d,zcL r with
  | some z,some l=>some (z::l)
  | _,_=>none
theorem Vup:∀ {ds:List D} {l:List Zc},zcL ds=some l→ds=l.map Zc.toD
 | [],l,h=>by simp only [zcL,Qa] at h; subst h; rfl
 | d::r,l,h=>by
  simp only [zcL] at h
  split at h
  ·rename_i z q hz hq
   simp only [Qa] at h; subst h
   simp only [Qo]
   rw [← Vaaa hz,← Vup hq]
  ·cases h
def onat:Option Nat→Option Nat→Bool
 | some a,some b=>Nat.beq a b
 | none,none=>true
 | _,_=>false
theorem Vk9 {a b:Option Nat} (h:onat a b=true):a=b:=by
 cases a<;>cases b<;>simp only [onat] at h<;>first | rfl | (cases h; done) | (rw [Qc h])
def zeroOk (P:Program) (t:Nat) (i:TI):Bool:=
 match tzero P t with
 | some (.agg cs)=>i.kind.agg&&decide (zcL cs=some i.zero)
 | some d=>!i.kind.agg&&decide (zcL [d]=some i.zero)
 | none=>false
def fldsOk (P:Program) (t:Nat):Nat→List (Option (Nat×Nat))→Bool
 | _,[]=>true
 | k,none::r=>fldsOk P t (k+1) r
 | k,some p::r=>decide (tfld P t k=some p)&&fldsOk P t (k+1) r
theorem Vik {P:Program} {t:Nat}:∀ {fs:List (Option (Nat×Nat))} {k:Nat},fldsOk P t k fs=true→∀ j o ft,fs[j]? = some (some (o,ft))→tfld P t (k+j)=some (o,ft)
 | [],k,h,j,o,ft,hj=>by simp at hj
 | none::r,k,h,0,o,ft,hj=>by simp at hj
 | none::r,k,h,j+1,o,ft,hj=>by
  have:=Vik (fs:=r) (k:=k+1) h j o ft (by simpa using hj)
  rw [← this]; congr 1; omega
 | some p::r,k,h,0,o,ft,hj=>by
  simp only [fldsOk,Qb,decide_eq_true_eq] at h
  simp only [Qy,Qa] at hj
  rw [Qa2,h.1,hj]
 | some p::r,k,h,j+1,o,ft,hj=>by
  simp only [fldsOk,Qb,decide_eq_true_eq] at h
  have:=Vik (fs:=r) (k:=k+1) h.2 j o ft (by simpa using hj)
  rw [← this]; congr 1; omega
def kindOk (P:Program) (t:Nat) (i:TI):Bool:=
 match i.kind with
 | .int k=>decide (tint P t=some k)
 | .str=>tstr P t
 | .bool=>tbool P t
 | .ptr e=>match P.underlying t with
  | some (.pointer e')=>Nat.beq e' e
  | _=>false
 | .map k e=>match P.underlying t with
  | some (.map k' e')=>Nat.beq k' k&&Nat.beq e' e
  | _=>false
 | _=>true
def tiOk (P:Program) (t:Nat) (i:TI):Bool:=
 (onat (tsz P t) (some i.sz)&&onat (tbytes P t) (some i.bts)&&decide (tagg P t=some i.kind.agg)&&kindOk P t i) &&
 ((match i.kind with | .slice e=>onat (telem P t) (some e) | _=>onat (telem P t) none) &&
 (match i.kind with | .arr n e=>decide (tarr P t=some (n,e)) | _=>decide (tarr P t=none))) &&
 (zeroOk P t i&&Nat.beq i.zero.length i.sz&&(i.kind.agg||Nat.beq i.sz 1)&&fldsOk P t 0 i.flds) &&
 ((match i.kind with | .strct=>decide (tplaces P t=some i.places) | _=>decide (tplaces P t=none)) &&
 (match i.eqs with | some q=>decide (flatEq P t=some q) | none=>true))
theorem Vaba {P:Program} {t:Nat} {i:TI} (h:tiOk P t i=true):TIok P t i:=by
 simp only [tiOk,Qb,decide_eq_true_eq] at h
 obtain ⟨⟨⟨⟨⟨⟨h1,h2⟩,h3⟩,h4⟩,h5,h6⟩,⟨⟨h7,h8⟩,h9⟩,h10⟩,h11,h12⟩:=h
 refine ⟨Vk9 h1,Vk9 h2,h3,fun k hk=>?_,fun hk=>?_,fun hk=>?_,fun e hk=>?_,fun hk=>?_,fun n e hk=>?_,fun hk=>?_,fun e hk=>?_,?_,Qc h8,fun ha=>?_,fun k o ft hk=>?_,fun hk=>?_,fun hk=>?_,fun q hq=>?_,fun k e hk=>?_⟩
 ·simpa [kindOk,hk] using h4
 ·simpa [kindOk,hk] using h4
 ·simpa [kindOk,hk] using h4
 ·rw [hk] at h5; exact Vk9 h5
 ·split at h5
  ·rename_i e he; exact absurd he (hk e)
  ·exact Vk9 h5
 ·rw [hk] at h6; simpa using h6
 ·split at h6
  ·rename_i n e he; exact absurd he (hk n e)
  ·simpa using h6
 ·simp only [kindOk,hk] at h4
  split at h4
  ·rename_i e' he; rw [he,Qc h4]
  ·cases h4
 ·unfold zeroOk at h7
  split at h7
  ·rename_i cs hz
   simp only [Qb,decide_eq_true_eq] at h7
   rw [hz,if_pos h7.1,Vup h7.2]
  ·rename_i d hne hz
   simp only [Qb,decide_eq_true_eq,Qq] at h7
   rw [hz,if_neg (by rw [h7.1]; simp),← Vup h7.2]
   rfl
  ·cases h7
 ·rw [ha] at h9; simp only [Qbl] at h9; exact Qc h9
 ·have:=Vik h10 k o ft hk
  rwa [Qn] at this
 ·rw [hk] at h11; simpa using h11
 ·split at h11
  ·rename_i he; exact absurd he hk
  ·simpa using h11
 ·rw [hq] at h12; simpa using h12
 ·simp only [kindOk,hk] at h4
  split at h4
  ·rename_i k' e' he
   simp only [Qb] at h4
   rw [he,Qc h4.1,Qc h4.2]
  ·cases h4
def Tr.allB (p:Nat→TI→Bool):Tr→Bool
 | .leaf=>true
 | .node l k v r=>l.allB p&&(p k v&&r.allB p)
theorem Tr.allB_ok {p:Nat→TI→Bool} {q:Nat→TI→Prop} (hq:∀ t i,p t i=true→q t i):∀ {y:Tr},y.allB p=true→y.All q
 | .leaf,_=>trivial
 | .node l k v r,h=>by
  simp only [Tr.allB,Qb] at h
  exact ⟨Tr.allB_ok hq h.1,hq k v h.2.1,Tr.allB_ok hq h.2.2⟩
theorem Vd2a {P:Program} {y:Tr} (h:y.allB (tiOk P)=true):TysOk P y.find:=fun t i hf=>Tr.find_all (Tr.allB_ok (fun _ _ h=>Vaba h) h) hf
end
section
variable {T:Nat→Type}
section
variable {P:Program} {E:Env T} {A:Loc2 T} {n:Nat} {kq:List Nat} {c0:Code}
theorem Vaa:∀ id∈([]:List Nat),∀ S,A.lp id=some S→LoopOk P E n kq (loopAt id c0) S:=fun _ h=>by cases h
theorem Vab {id:Nat} {done:List Nat} {S0:LSpec T} (h0:A.lp id=some S0) (h:LoopOk P E n kq (loopAt id c0) S0) (hr:∀ id∈done,∀ S,A.lp id=some S→LoopOk P E n kq (loopAt id c0) S) :
  ∀ id'∈id::done,∀ S,A.lp id'=some S→LoopOk P E n kq (loopAt id' c0) S:=fun id' hm S hS=>by
 rcases List.mem_cons.1 hm with rfl | hm
 ·rw [h0] at hS; cases hS; exact h
 ·exact hr id' hm S hS
end
theorem envOk {P:Program} {E:Env T} (h1:CdOk E.C) (h2:TysOk P E.Y) (h3:FlOk E.C E.fl) (h4:∀ f ds S,E.F f ds=some S→SoundT P E.C (fun g=>(E.G g).map (denL E.C)) f S):EnvOk P E:=⟨h1,h2,h3,h4⟩
end
section
variable {T:Nat→Type}
structure Ct (T:Nat→Type) where
 f:Nat
 k:Option (Nat×Nat)
 S:FSpec T
 ro:Bool
def Ct.hit (c:Ct T) (f:Nat) (ds:List (DT T)):Bool:=bif Nat.beq c.f f then (match c.k with
 | none=>true
 | some q=>onat (fnAt ds q.1) (some q.2)) else false
def lookF:List (Ct T)→Nat→List (DT T)→Option (FSpec T)
 | [],_,_=>none
 | c::r,f,ds=>bif c.hit f ds then some c.S else lookF r f ds
def roA:List (Ct T)→Nat→Bool
 | [],_=>true
 | c::r,f=>bif Nat.beq c.f f then c.ro&&roA r f else roA r f
def mkE (Y:Nat→Option TI) (C:Cd T) (G:Nat→Option (List (DT T))) (fl:Nat→Bool) (fs:List (Ct T)):Env T:=⟨Y,C,G,fl,lookF fs,roA fs⟩
def asc {α:Type}:List (Nat×α)→Nat→Option α
 | [],_=>none
 | p::r,i=>bif Nat.beq p.1 i then some p.2 else asc r i
def asj:List (Nat×Shape×Bool)→Nat→Option (Shape×Bool)
 | [],_=>none
 | p::r,i=>bif Nat.beq p.1 i then some p.2 else asj r i
def asg:List Nat→Nat→Bool
 | [],_=>false
 | p::r,i=>bif Nat.beq p i then true else asg r i
def lcA (l:List (Nat×LSpec T)) (j:List (Nat×Shape×Bool)) (g:List Nat):Loc2 T:=⟨asc l,asj j,asg g⟩
abbrev bodyOf (fn:Func):Code:=fn.body.getD .skip
def fnChk (E:Env T) (A:Loc2 T) (fn:Func) (ps:List Slot) (done:List Nat):Bool:=
 fn.body.isSome && (!(fn.name == "runtime.NumGoroutine") && (Nat.ble ps.length fn.ntmps && codeOkT E A fn.ntmps (kqOf ps 0) done (bodyOf fn)))
variable {P:Program} {Y:Nat→Option TI} {C:Cd T} {G:Nat→Option (List (DT T))} {fl:Nat→Bool} {fs:List (Ct T)}
theorem eNil (h1:CdOk C) (h2:TysOk P Y) (h3:FlOk C fl):EnvOk P (mkE Y C G fl []):=⟨h1,h2,h3,fun _ _ _ h=>by cases h⟩
theorem eCons {f:Nat} {k:Option (Nat×Nat)} {S:FSpec T} {ro:Bool} (h:SoundT P C (fun g=>(G g).map (denL C)) f S) (hE:EnvOk P (mkE Y C G fl fs)):EnvOk P (mkE Y C G fl (⟨f,k,S,ro⟩::fs)):=by
 refine ⟨hE.cd,hE.tys,hE.fl,fun f' ds S' h'=>?_⟩
 have h2:lookF (⟨f,k,S,ro⟩::fs) f' ds=some S':=h'
 unfold lookF at h2
 cases hh:(Ct.hit ⟨f,k,S,ro⟩ f' ds)
 ·rw [hh] at h2
  exact hE.fns f' ds S' h2
 ·rw [hh] at h2
  have e:f=f':=by
   unfold Ct.hit at hh
   cases hb:Nat.beq f f'
   ·simp only [hb,cond_false] at hh; cases hh
   ·exact Qc hb
  have e2:S=S':=Option.some.inj h2
  subst e; subst e2
  exact h
variable {E:Env T}
theorem sndC (hmix:P.follows .mixedOrders=true) (hE:EnvOk P E) (A:Loc2 T) {done:List Nat} {f:FuncId} {fn:Func} {S:FSpec T} (hf:P.funcs[f]? = some fn)
  (hlp:∀ id∈done,∀ S',A.lp id=some S'→LoopOk P E fn.ntmps (kqOf S.ps 0) (loopAt id (bodyOf fn)) S') (hc:fnChk E A fn S.ps done=true) (hs:strip A (bodyOf fn) (bodyOf fn)=bodyOf fn)
  (heq:∀ x,run E A (bodyOf fn) (enterT E.C S.ps x) (retK E fn.results.toList S.ps S.rs)=S.fn x):SoundT P E.C (fun g=>(E.G g).map (denL E.C)) f S:=by
 unfold fnChk at hc
 simp only [Qb,Qq] at hc
 obtain ⟨h1,h2,h3,h4⟩:=hc
 obtain ⟨c,hb⟩:=Option.isSome_iff_exists.1 h1
 have e:bodyOf fn=c:=by unfold bodyOf; rw [hb]; rfl
 rw [e] at hlp h4 hs heq
 exact Vhc hmix hE hf hb h2 h3 hlp h4 hs heq
theorem lpC (hmix:P.follows .mixedOrders=true) (hE:EnvOk P E) (A:Loc2 T) {done:List Nat} {fn:Func} {kq:List Nat} (hlp:∀ id∈done,∀ S',A.lp id=some S'→LoopOk P E fn.ntmps kq (loopAt id (bodyOf fn)) S') (b:Nat) {S:LSpec T} {st:tySs T S.head.slots→Option (tySs T S.head.slots⊕tyX T S.outs)}
  (hgo:∀ x,S.go x=iter st rounds x) (hok:codeOkT E A fn.ntmps kq done (loopAt b (bodyOf fn))=true) (hs:strip A (bodyOf fn) (loopAt b (bodyOf fn))=loopAt b (bodyOf fn))
  (hf:∀ x,run E A (loopAt b (bodyOf fn)) (layC E.C S.head S.cp x) (roundK E.C S.head S.cp S.outs)=st x):LoopOk P E fn.ntmps kq (loopAt b (bodyOf fn)) S:=
 Vk8 hmix hE hlp rounds hok hs hf hgo
end
mutual
def DOk:D→Prop
 | .int k n=>(Lit.int k n).wf=true
 | .str l=>l.length≤maxLen
 | .rs _ rows=>rows.length≤maxLen∧DOkR rows
 | .agg cs=>DOkL cs
 | _=>True
def DOkL:List D→Prop
 | []=>True
 | d::r=>DOk d∧DOkL r
def DOkR:List (List D)→Prop
 | []=>True
 | d::r=>DOkL d∧DOkR r
end
section
variable {T:Nat→Type} {C:Cd T} {P:Program} {w:World}
abbrev All (w:World):Nat→Prop:=fun k=>k < w.heap.size
theorem Vgu (C:Cd T):∀ (a:List Lf) (x:tyLs T a),(encLD C a x).length=a.length
 | [],_=>rfl
 | l::r,x=>by
  show (encLD1 C l x.1::encLD C r x.2).length=_
  simp [Vgu C r x.2]
theorem Vw0 {I:Nat→Prop} {l:Lf} {x:l.ty T} {v:Value} (h:V I w (encLD1 C l x) free v):v.oneCell'=true:=by
 cases l<;>simp only [encLD1,V] at h
 case rs c=>
  rcases h with ⟨_,p,cap,rfl⟩ | ⟨b,o,cap,rfl,_⟩<;>rfl
 case rn c=>
  have h:=Vnm h
  simp only [V] at h
  rcases h with ⟨_,p,cap,rfl⟩ | ⟨b,o,cap,rfl,_⟩<;>rfl
 all_goals subst h; rfl
theorem VC_of {I:Nat→Prop} {b:Nat}:∀ (ls:List Lf) (x:tyLs T ls) (vs:List Value) (o:Nat),VL I w (encLD C ls x) free vs→(∀ i v,vs[i]? = some v→w.cell? ⟨b,o+i,none⟩=some v)→VC I w (encLD C ls x) b o
 | [],_,_,_,_,_=>by simp only [encLD,VC]
 | l::r,x,vs,o,h,hc=>by
  change VL I w (encLD1 C l x.1::encLD C r x.2) free vs at h
  show VC I w (encLD1 C l x.1::encLD C r x.2) b o
  simp only [VL] at h
  obtain ⟨v,vr,rfl,h1,h2⟩:=h
  simp only [VC]
  refine ⟨⟨v,by simpa using hc 0 v rfl,Vw0 h1,h1⟩,VC_of r x.2 vr (o+1) h2 fun i u hu=>?_⟩
  have:=hc (i+1) u (by simpa using hu)
  rwa [show o+(i+1)=o+1+i by omega] at this
def Opens (P:Program) (C:Cd T) (t:TypeId) (ls:List Lf):Prop:=
  ∀ (H:Type) (enc:TypeId × Value → H) (w:World) (spare:Nat → Bool) (held:Bool) (fuel:Nat) (cs:List Value) (x:DataW H × List MemPlace),DataW.trod enc P w 0 spare held fuel t cs=some x →
    ∃ y:tyLs T ls,VL (All w) w (encLD C ls y) free cs ∧ DOkL (encLD C ls y)
theorem Vuq {t:TypeId} {k:IntKind} (hu:P.underlying t=some (.int k)):Opens P C t [.int k]:=by
 intro H enc w spare held fuel cs x h
 obtain ⟨n,rfl,_,hw⟩:=DataW.trod_int hu h
 exact ⟨(n,()),by simp [encLD,encLD1,VL,V],by simp [encLD,encLD1,DOkL,DOk,hw]⟩
theorem Vd3a {k:IntKind} (hs:k.signed=false) {n:Int} (h:(Lit.int k n).wf=true):0≤n∧n < 2 ^ k.bits:=by
 cases k<;>simp [Q9] at hs<;>simp [Lit.wf,IntKind.min,Qbi,Q9,Q7] at h ⊢<;>omega
theorem Vw1 {t:TypeId} (hu:P.underlying t=some (.int .u8)):Opens P C t [.u8]:=by
 intro H enc w spare held fuel cs x h
 obtain ⟨n,rfl,_,hw⟩:=DataW.trod_int hu h
 have hr:=Vd3a rfl hw
 simp only [Q7] at hr
 have e:(((Qbm n.toNat).toNat:Nat):Int)=n:=by
  simp only [UInt8.toNat_ofNat']
  omega
 exact ⟨(Qbm n.toNat,()),by simp only [encLD,encLD1,VL,V,e]; exact ⟨_,_,rfl,rfl,rfl⟩,by simp only [encLD,encLD1,DOkL,DOk,e]; exact ⟨hw,trivial⟩⟩
theorem Vnw {t e:TypeId} {c:Nat} {ls:List Lf} {of:tyLs T ls→T c} (hu:P.underlying t=some (.slice e)) (ho:Opens P C e ls) (he:∀ y,C.encD c (of y)=encLD C ls y)
  (hs:P.cellsOf e=ls.length) (hz:C.sz c=ls.length) (hp:0 < ls.length):Opens P C t [.rs c]:=by
 intro H enc w spare held fuel cs x h
 rcases DataW.trod_slice hu h with ⟨rfl,rfl⟩ | ⟨a,len,cap,elems,rest,n,_,rfl,rfl,_,hl,hm,hlen,hel,_,_⟩
 ·refine ⟨([],()),?_,?_⟩
  ·simp only [encLD,encLD1,VL,V]
   exact ⟨_,_,rfl,.inl ⟨rfl,_,_,rfl⟩,rfl⟩
  ·simp [encLD,encLD1,DOkL,DOk,DOkR]
 ·-- each element
  have each:∀ i,i < len→∃ y:tyLs T ls,∃ cs',w.cells? 0 (a.add (i * ls.length)) ls.length=some cs'∧VL (All w) w (encLD C ls y) free cs'∧DOkL (encLD C ls y):=by
   intro i hi
   have h1:=hel i hi
   rw [hs,show elems[i]? = some (elems[i]'(by omega)) from Qp (by omega),Qd] at h1
   obtain ⟨cs',hc,ht⟩:=h1
   obtain ⟨y,hy,hd⟩:=ho H enc w spare held n cs' _ ht
   exact ⟨y,cs',hc,hy,hd⟩
  by_cases h0:len=0
  ·subst h0
   refine ⟨([],()),?_,?_⟩
   ·simp only [encLD,encLD1,VL,V]
    exact ⟨_,_,rfl,.inl ⟨rfl,_,_,rfl⟩,rfl⟩
   ·simp [encLD,encLD1,DOkL,DOk,DOkR]
  ·-- the address is a plain one
   obtain ⟨y0,cs0,hc0,_,_⟩:=each 0 (by omega)
   have hcell:=(World.cells?_some hc0).2.2 0 hp
   have hsp:a.spot=none∧a.block < w.heap.size:=by
    have e1:(a.add (0 * ls.length)).add 0=a:=by simp [Addr.add]
    rw [e1] at hcell
    have hlen0:cs0[0]?≠none:=by
     have hl0:=(World.cells?_some hc0).2.1
     simp only [ne_eq,List.getElem?_eq_none_iff]
     omega
    cases hv:cs0[0]? with
    | none=>exact absurd hv hlen0
    | some v=>
     rw [hv] at hcell
     unfold World.cell? at hcell
     split at hcell
     ·rename_i c t' fz hq
      constructor
      ·cases hs':a.spot with
       | none=>rfl
       | some k=>simp [hs'] at hcell
      ·exact (Array.getElem?_eq_some_iff.1 hq).1
     ·cases hcell
   obtain ⟨ab,ao,asp⟩:=a
   simp only at hsp
   obtain ⟨rfl,hblk⟩:=hsp
   have step : ∀ (m : Nat) (j : Nat), j+m = len→∃ l : List (T c), l.length = m∧VR (All w) w ls.length (l.map (C.encD c)) ab (ao+j * ls.length)∧DOkR (l.map (C.encD c)) := by
    intro m
    induction m with
    | zero=>intro j _; exact ⟨[],rfl,by simp [VR],by simp [DOkR]⟩
    | succ m ih=>
     intro j hj
     obtain ⟨l,hl1,hl2,hl3⟩:=ih (j+1) (by omega)
     obtain ⟨y,cs',hc,hv,hd⟩:=each j (by omega)
     refine ⟨of y::l,by simp [hl1],?_,?_⟩
     ·simp only [Qo,VR]
      refine ⟨by rw [he,Vgu],?_,?_⟩
      ·rw [he]
       refine VC_of ls y cs' _ hv fun i v hi=>?_
       have hcs:=World.cells?_some hc
       have hi':i < ls.length:=by
        have:=(List.getElem?_eq_some_iff.1 hi).1
        omega
       have:=hcs.2.2 i hi'
       rw [hi] at this
       rw [← this]
       congr 1
       simp only [Addr.add]
       split<;>split<;>simp_all<;>omega
      ·rwa [show ao+j * ls.length+ls.length=ao+(j+1) * ls.length by rw [Nat.succ_mul]; omega]
     ·simp only [Qo,DOkR]
      exact ⟨by rw [he]; exact hd,hl3⟩
   obtain ⟨l,hl1,hl2,hl3⟩:=step len 0 (by omega)
   refine ⟨(l,()),?_,?_⟩
   ·simp only [encLD,encLD1,VL,V]
    refine ⟨_,_,rfl,.inr ⟨ab,ao,cap,?_,?_,hblk,?_⟩,rfl⟩
    ·simp [hl1]
    ·simpa [hl1] using hl
    ·rw [hz]; simpa using hl2
   ·simp only [encLD,encLD1,DOkL,DOk]
    exact ⟨⟨by simp [hl1]; omega,hl3⟩,trivial⟩
def ArgOk (P:Program) (C:Cd T) (t:TypeId) (vt:VT):Prop:=
  ∀ (H:Type) (enc:TypeId × Value → H) (w:World) (r:Reach) (base:Nat) (v:Value) (d:DataW H) (p:List MemPlace),Value.okWide P w r base t v → DataW.Trod enc P w 0 (fun _=>true) true t v d p →
    ∃ x:vt.ty T,V (All w) w (den C (encV C vt x)) free v ∧ DOk (den C (encV C vt x))
theorem Vur {v:Value} (h:∀ cs,v≠.agg cs):v.cells.toList=[v]:=by
 cases v<;>first | rfl | exact absurd rfl (h _)
theorem Vla {t:TypeId} {w:World} {r:Reach} {base:Nat} {v:Value} (h:Value.okWide P w r base t v) (h1:∀ fs,P.underlying t≠some (.struct fs)) (h2:∀ n e,P.underlying t≠some (.array n e)):∀ cs,v≠.agg cs:=by
 rintro cs rfl
 unfold Value.okWide at h
 split at h
 ·rename_i fs hq; exact h1 _ hq
 ·rename_i n e hq; exact h2 _ _ hq
 ·unfold Cell.okWide at h
  split at h<;>simp_all [Cell.ok]
theorem Vfz {t:TypeId} {l:Lf} {vt:VT} (ho:Opens P C t [l]) (h1:∀ fs,P.underlying t≠some (.struct fs)) (h2:∀ n e,P.underlying t≠some (.array n e)) (of:l.ty T→vt.ty T) (he:∀ x,den C (encV C vt (of x))=encLD1 C l x):ArgOk P C t vt:=by
 intro H enc w r base v d p hok ⟨fuel,ht⟩
 obtain ⟨y,hy,hd⟩:=ho H enc w _ _ fuel _ _ ht
 rw [Vur (Vla hok h1 h2)] at hy
 refine ⟨of y.1,?_,?_⟩
 ·rw [he]
  change VL (All w) w (encLD1 C l y.1::encLD C [] y.2) free [v] at hy
  simp only [VL] at hy
  obtain ⟨v',vr,h3,h4,_⟩:=hy
  simp only [List.cons.injEq] at h3
  rw [h3.1]; exact h4
 ·rw [he]
  change DOkL (encLD1 C l y.1::encLD C [] y.2) at hd
  simp only [DOkL] at hd
  exact hd.1
def ArgsOk (P:Program) (C:Cd T):List TypeId→List VT→Prop
 | [],vs=>vs=[]
 | t::ts,vs=>∃ v r,vs=v::r∧ArgOk P C t v∧ArgsOk P C ts r
theorem Vqk:ArgsOk P C [] []:=rfl
theorem Vcx {t:TypeId} {ts:List TypeId} {v:VT} {r:List VT} (h:ArgOk P C t v) (h2:ArgsOk P C ts r):ArgsOk P C (t::ts) (v::r):=⟨v,r,rfl,h,h2⟩
def slots (vs:List VT):List Slot:=vs.map fun v=>.f (.v v)
def ArgD (C:Cd T):(vs:List VT)→tySs T (slots vs)→Prop
 | [],_=>True
 | v::r,x=>DOk (den C (encV C v x.1))∧ArgD C r x.2
theorem Vmq {H:Type} {enc:TypeId×Value→H} {rr:Reach} {base:Nat}:∀ {ts:List TypeId} {vts:List VT} {vs:List Value} {ds:List (DataW H)} {p:List MemPlace},ArgsOk P C ts vts→(∀ (j:Nat) (t:TypeId) (v:Value),ts[j]? = some t→vs[j]? = some v→Value.okWide P w rr base t v) →
  DataW.TrodAll enc P w 0 (fun _=>true) true ts vs ds p→∃ x:tySs T (slots vts),SVSs C (All w) w (slots vts) x vs none'∧ArgD C vts x
 | [],vts,vs,ds,p,ha,_,ht=>by
  cases ha
  cases vs<;>cases ds<;>simp only [DataW.TrodAll] at ht
  exact ⟨(),rfl,trivial⟩
 | t::ts,vts,vs,ds,p,ha,hok,ht=>by
  obtain ⟨vt,vr,rfl,h1,h2⟩:=ha
  cases vs with
  | nil=>simp only [DataW.TrodAll] at ht
  | cons v vs=>
   cases ds with
   | nil=>simp only [DataW.TrodAll] at ht
   | cons d ds=>
    obtain ⟨p1,q1,h3,h4,_⟩:=ht
    obtain ⟨x,hx1,hx2⟩:=h1 H enc w rr base v d p1 (hok 0 t v rfl rfl) h3
    obtain ⟨y,hy1,hy2⟩:=Vmq h2 (fun j t v a b=>hok (j+1) t v (by simpa using a) (by simpa using b)) h4
    exact ⟨(x,y),⟨v,vs,none',none',rfl,hx1,hy1,fun _ h=>h,fun _ h=>h,fun _ h=>h.elim⟩,hx2,hy2⟩
theorem Vus {G:Nat→Option (List D)} {f:FuncId} {S:FSpec T} {vts:List VT} {args:List Value} (hs:SoundT P C G f S) (hps:S.ps=slots vts) (hrs:S.rs=[.v .bool]) (x:tySs T (slots vts)) (hx:SVSs C (All w) w (slots vts) x args none')
  (hg:Glob G (All w) w) (hf:∀ r,S.fn (hps ▸ x)=r→∃ o b,r=some (o,b)∧b=(hrs ▸ (true,()))):Calls P f args.toArray w fun e w'=>e = .returned (.bool true)∧RowKit.Below w.heap.size w w':=by
 obtain ⟨ps,rs,F⟩:=S
 simp only at hps hrs
 subst hps; subst hrs
 obtain ⟨o,b,hr,hb⟩:=hf _ rfl
 simp only at hb hr
 refine (hs.2 (All w) none' w args x (o,b) (fun _ h=>h) (fun _ h=>h.elim) hg hx hr).mono ?_
 rintro e w' ⟨vs,I',o1,o2,rfl,hfr,_,_,_,_,_,_,_,hv⟩
 subst hb
 simp only [SVVs] at hv
 obtain ⟨v,vr,_,_,rfl,h1,rfl,_⟩:=hv
 simp only [SVV,encV,den,V] at h1
 subst h1
 exact ⟨rfl,hfr.os,hfr.tape,hfr.output,hfr.size,fun k hk=>hfr.block k hk (fun h=>by rcases h with h | h; exact h; omega)⟩
theorem Vgv {H:Type} {enc:TypeId×Value→H} {W W':World} (hl:laidOutB P=true) (hb:RowKit.Below W.heap.size W W'):∀ {ts:List TypeId} {vs:List Value} {ds:List (DataW H)} {p:List MemPlace},(∀ t∈ts,P.readableRec t=true∧t < P.types.size)→(∀ x∈p,x.block < W.heap.size) →
  DataW.TrodAll enc P W 0 (fun _=>true) true ts vs ds p→DataW.TrodAll enc P W' 0 (fun b=>decide (b < W.heap.size)) true ts vs ds p
 | [],vs,ds,p,_,_,h=>by
  cases vs<;>cases ds<;>simp only [DataW.TrodAll] at h ⊢
  exact h
 | t::ts,vs,ds,p,hr,hlt,h=>by
  cases vs with
  | nil=>simp only [DataW.TrodAll] at h
  | cons v vs=>
   cases ds with
   | nil=>simp only [DataW.TrodAll] at h
   | cons d ds=>
    obtain ⟨p1,q1,h3,h4,rfl⟩:=h
    have ht:=hr t (by simp)
    exact ⟨p1,q1,RowKit.Below.trod hl ht.1 ht.2 h3 hb (fun x hx=>hlt x (by simp [hx])),Vgv hl hb (fun t ht=>hr t (by simp [ht])) (fun x hx=>hlt x (by simp [hx])) h4,rfl⟩
end
end Go.Abs
namespace Go.Abs
open Go Go.ChangeShapes Go.WideShapes Go.ChangeAt Go.RowKit
open _root_.Option.some renaming injEq → Qa
open _root_.Bool renaming and_eq_true → Qb, not_eq_true' → Qq, false_eq_true → Qs, eq_iff_iff → Qbg, false_or → Qbl, true_or → Qbo
open _root_.Nat renaming eq_of_beq_eq_true → Qc, lt_of_lt_of_le → Ql, zero_add → Qn, not_lt_zero → Qr, le_refl → Qv, lt_or_ge → Q4, le_trans → Qab, le_of_ble_eq_true → Qal, mul_le_mul_right → Qap, blt → Qa1, add_zero → Qa2
open _root_.Option renaming bind_eq_some_iff → Qd, bind_assoc → Qf, bind_some → Qk, map_some → Q0, getD_some → Qae, map_eq_some_iff → Qaf
open _root_.Array renaming getD_eq_getD_getElem? → Qe, getElem?_setIfInBounds → Qg, getElem?_eq_none → Q2, all_eq_true' → Qac, replicate → Qai, mem_toList_iff → Qam, ext' → Qar, getElem?_eq_getElem → Qas, getElem?_append → Qaz
open _root_.List renaming replicate → Qh, getD_eq_getElem?_getD → Qi, map_cons → Qo, getElem?_eq_getElem → Qp, range → Qw, map_congr_left → Qx, getElem?_cons_zero → Qy, mem_map → Qz, mem_append → Q1, mem_range → Q3, all_eq_true → Q5, all_cons → Q6, length_map → Q8, append_assoc → Qad, length_cons → Qag, cons_append → Qah, append_nil → Qaj, getElem?_eq_none → Qak, range' → Qan, mem_of_getElem? → Qao, eq_nil_of_length_eq_zero → Qaq, eq_of_mem_replicate → Qau, getElem?_cons_succ → Qav, getD → Qaw, reverse_singleton → Qax, map_map → Qay, take_append_drop → Qa3, singleton_append → Qa4, range_eq_range' → Qa5, filter_eq_self → Qa6, zip_cons_cons → Qa7, length_append → Qa8, getElem?_map → Qa9, range'_succ → Qba, getElem_mem → Qbb, nil_append → Qbc, mem_filter → Qbd, length_nil → Qbe, headD_cons → Qbf, mapM_cons → Qbh, mem_cons → Qbk, map_nil → Qbn
open Go.Result renaming andThen_ok → Qj
open _root_.Prod.mk renaming injEq → Qm
open Go.Sem renaming run_pure → Qt, run_bind → Qu
open Go.IntKind renaming bits → Q7, signed → Q9, wrap → Qat, max → Qbi
open _root_.BitVec renaming toNat_ofInt → Qaa, ofInt → Qbj
open _root_.Sum renaming elim_inr → Qa0
open _root_.UInt8 renaming ofNat → Qbm
section
variable {T:Nat→Type} {C:Cd T} {P:Program}
theorem Vdv {H:Type} {enc:TypeId×Value→H} {w:World} {spare:Nat→Bool} {held:Bool}:∀ {ts:List TypeId} {vs:List Value} {ds:List (DataW H)} {p:List MemPlace},DataW.TrodAll enc P w 0 spare held ts vs ds p→ds.length=ts.length
 | [],vs,ds,p,h=>by cases vs<;>cases ds<;>simp only [DataW.TrodAll] at h<;>rfl
 | t::ts,vs,ds,p,h=>by
  cases vs with
  | nil=>simp only [DataW.TrodAll] at h
  | cons v vs=>
   cases ds with
   | nil=>simp only [DataW.TrodAll] at h
   | cons d ds=>
    obtain ⟨p1,q1,h3,h4,rfl⟩:=h
    simp [Vdv h4]
theorem Vw2 {G:Nat→Option (List D)} {f:FuncId} {fn:Func} {s:ChangeSpec} {ts:List TypeId} {tb:TypeId} {vts:List VT} {F:tySs T (slots vts)→Option (tyO T (slots vts)×tyFs T [.v .bool])} {H:Type} {enc:TypeId×Value→H} {W:World} {base:Nat} {args:Array Value} {ds gs:List (DataW H)} {before:List MemPlace}
  (hl:laidOutB P=true) (hpar:fn.params.toList=ts) (hres:fn.resultTypes = #[tb]) (hub:P.underlying tb=some .bool) (hr:(ts.all fun t=>P.readableRec t&&decide (t < P.types.size))=true) (hargs:ArgsOk P C ts vts)
  (hsv:s.vars=[]) (hsp:∀ ds:List (DataW H),ds.length=ts.length→s.fn H ds = { results:=[.lit (.bool true)],args:=ds })
  (hs:SoundT P C G f ⟨slots vts,[.v .bool],F⟩) (law:∀ x,ArgD C vts x→∃ o,F x=some (o,true,()))
  (hval:∀ (j:Nat) t v,fn.params[j]? = some t→args[j]? = some v→Value.okWide P W .any base t v) (hW:DataW.Whole enc P fn.params.toList s.vars false W args.toList ds gs before) (hg:Glob G (All W) W) :
  Calls P f args W fun e W'=>∃ v,e = .returned v∧s.post enc P fn false true false false W args v W':=by
 have hW':=hW
 obtain ⟨p,q,hA,hV,rfl,hfz,hnd⟩:=hW
 rw [hsv] at hV
 obtain ⟨rfl,rfl⟩:gs=[]∧q=[]:=by
  cases gs<;>simp only [DataW.TrodVars] at hV
  exact ⟨rfl,hV⟩
 rw [hpar] at hA
 obtain ⟨x,hx,hd⟩:=Vmq (C:=C) (rr:=.any) (base:=base) hargs (fun j t v a b=>hval j t v (by rw [← hpar] at a; simpa using a) (by simpa using b)) hA
 obtain ⟨o,ho⟩:=law x hd
 have hc:=Vus (P:=P) (S:=⟨slots vts,[.v .bool],F⟩) hs rfl rfl x hx hg (fun r hr=>⟨o,(true,()),by rw [← hr]; exact ho,rfl⟩)
 rw [show args.toList.toArray=args by simp] at hc
 refine hc.mono fun e W' ⟨he,bel⟩=>?_
 subst he
 have hlt:∀ x∈p,x.block < W.heap.size:=fun x hx=>by simpa using hW'.lt x (by simp [hx])
 have hst:=Vgv hl bel (fun t ht=>by
  have:=List.all_eq_true.1 hr t ht
  simpa using this) hlt hA
 refine ⟨_,rfl,ds,[],p++[],[],p,[],hW',?_,?_,?_,bel.frame _,fun h=>by cases h⟩
 ·rw [Qaj,hsp ds (Vdv hA),hres]
  exact trodAll_mk1 (shut_bool hub _)
 ·rw [Qaj,hsp ds (Vdv hA),hpar]
  exact hst
 ·rw [Qaj,hsp ds (Vdv hA),hsv]
  rfl
end
theorem Vac {n:Int} (h1:-9223372036854775808≤n) (h2:n < 9223372036854775808):Qat .i64 n=n:=by
 simp only [Qat,Q7,Q9]
 simp
 omega
theorem Vae:rounds=1180591620717411303424:=rfl
theorem Vad {α β:Type} (f:α→Option (α⊕β)) (n:Nat) (s:α):iter f (n+1) s=(f s).bind (Sum.elim (iter f n) some):=rfl
theorem Vaca {α β:Type} {f:α→Option (α⊕β)} (Inv:α→Prop) (μ:α→Nat) (Q:β→Prop)
  (h:∀ s,Inv s→(∃ t,f s=some (.inl t)∧Inv t∧μ t < μ s)∨∃ b,f s=some (.inr b)∧Q b):∀ (n:Nat) (s:α),Inv s→μ s < n→∃ b,iter f n s=some b∧Q b:=by
 intro n
 induction n with
 | zero=>intro s _ hm; omega
 | succ n ih=>
  intro s hs hm
  rw [Vad]
  rcases h s hs with ⟨t,h1,h2,h3⟩ | ⟨b,h1,h2⟩
  ·rw [h1]
   exact ih t h2 (by omega)
  ·rw [h1]
   exact ⟨b,rfl,h2⟩
theorem Vlb {α β:Type} {f:α→Option (α⊕β)} (Inv:α→Prop) (μ:α→Nat) (F:α→β)
  (h:∀ s,Inv s→(∃ t,f s=some (.inl t)∧Inv t∧μ t < μ s∧F s=F t)∨f s=some (.inr (F s))):∀ (n:Nat) (s:α),Inv s→μ s < n→iter f n s=some (F s):=by
 intro n
 induction n with
 | zero=>intro s _ hm; omega
 | succ n ih=>
  intro s hs hm
  rw [Vad]
  rcases h s hs with ⟨t,h1,h2,h3,h4⟩ | h1
  ·rw [h1,h4]
   exact ih t h2 (by omega)
  ·rw [h1]; rfl
def Ok {α:Type} (m:Option α) (Q:α→Prop):Prop:=∃ a,m=some a∧Q a
theorem Ok.some {α:Type} {a:α} {Q:α→Prop} (h:Q a):Ok (some a) Q:=⟨a,rfl,h⟩
theorem Ok.bind {α β:Type} {m:Option α} {f:α→Option β} {Q:β→Prop} (h:Ok m fun a=>Ok (f a) Q):Ok (m.bind f) Q:=by
 obtain ⟨a,rfl,h⟩:=h
 exact h
theorem Ok.cond {α:Type} {c:Bool} {a b:Option α} {Q:α→Prop} (h1:c=true→Ok a Q) (h2:c=false→Ok b Q):Ok (bif c then a else b) Q:=by
 cases c
 ·exact h2 rfl
 ·exact h1 rfl
theorem Ok.mono {α:Type} {m:Option α} {Q R:α→Prop} (h:Ok m Q) (hq:∀ a,Q a→R a):Ok m R:=by
 obtain ⟨a,h1,h2⟩:=h
 exact ⟨a,h1,hq a h2⟩
theorem Ok.get {α β:Type} {l:List α} {i:Nat} {f:α→Option β} {Q:β→Prop} (h:i < l.length) (h2:∀ x,Ok (f x) Q):Ok ((l[i]?).bind f) Q:=by
 rw [Qp h]
 exact h2 _
theorem Ok.iter {α β:Type} {f:α→Option (α⊕β)} {s:α} {n:Nat} {Q:β→Prop} (Inv:α→Prop) (μ:α→Nat) (h0:Inv s) (hn:μ s < n) (h:∀ s,Inv s→Ok (f s) (fun r=>match r with | .inl t=>Inv t∧μ t < μ s | .inr b=>Q b)):Ok (iter f n s) Q:=by
 refine Vaca Inv μ Q (fun s hs=>?_) n s h0 hn
 obtain ⟨r,h1,h2⟩:=h s hs
 cases r with
 | inl t=>exact .inl ⟨t,h1,h2⟩
 | inr b=>exact .inr ⟨b,h1,h2⟩
section
variable {T:Nat→Type} {C:Cd T} {P:Program}
theorem Vf0 {I:Nat→Prop} {w w2:World} {own own2:Nat→Prop} {I2:Nat→Prop}:∀ (vts:List VT) (o:tyO T (slots vts)) (x:tySs T (slots vts)) (args:List Value),SVSs C I w (slots vts) x args own→SVOuts C I2 w2 (slots vts) o args own2
 | [],_,_,_,_=>trivial
 | v::r,o,x,args,h=>by
  obtain ⟨v,vr,o1,o2,rfl,h1,h2,_⟩:=h
  exact ⟨v,vr,rfl,Vf0 r o x.2 vr h2⟩
theorem Vil {G:Nat→Option (List D)} {f:FuncId} {vts:List VT} {rts:List VT} {F:tySs T (slots vts)→Option (tyO T (slots vts)×tyFs T (rts.map Fld.v))}
  (hfn : ∃ fn, P.funcs[f]? = some fn ∧ fn.body.isSome = true ∧ (fn.name == "runtime.NumGoroutine") = false)
  (h:∀ (I own:Nat→Prop) (w:World) (args:List Value) (x:tySs T (slots vts)) (r:tyO T (slots vts)×tyFs T (rts.map Fld.v)),Glob G I w→SVSs C I w (slots vts) x args own→F x=some r →
   ∃ vs,(∀ (I':Nat→Prop) (w':World),SVVs C I' w' (rts.map Fld.v) r.2 vs none')∧Calls P f args.toArray w fun e w'=>e = .returned (resV vs)∧RowKit.Below w.heap.size w w') :
  SoundT P C G f ⟨slots vts,rts.map Fld.v,F⟩:=by
 refine ⟨hfn,fun I own w args x r hI hown hG hv hF=>?_⟩
 obtain ⟨vs,h1,h2⟩:=h I own w args x r hG hv hF
 refine h2.mono ?_
 rintro e w' ⟨rfl,hb⟩
 refine ⟨vs,I,none',none',rfl,⟨hb.os,hb.tape,hb.output,hb.size,fun b hb1 _=>hb.block b hb1⟩,?_,fun _ h=>h,fun _ h=>.inl h,fun k hk=>Ql (hI k hk) hb.size,fun k hk=>by rcases hk with hk | hk<;>exact hk.elim,fun k hk=>hk.elim,Vf0 vts _ _ _ hv,h1 I w'⟩
 intro b
 by_cases hlt:b < w.heap.size
 ·unfold rowSize; rw [hb.block b hlt]; exact Qv _
 ·unfold rowSize
  have:w.heap[b]? = none:=by simp; omega
  simp [this]
theorem Vjs {G : Nat → Option (List D)} {f : FuncId} {ps : List Slot} {rs : List Fld} (hfn : ∃ fn, P.funcs[f]? = some fn ∧ fn.body.isSome = true ∧ (fn.name == "runtime.NumGoroutine") = false) : SoundT P C G f ⟨ps, rs, fun _ => none⟩ :=
 ⟨hfn,fun _ _ _ _ _ _ _ _ _ _ h=>by cases h⟩
theorem Vyf {I:Nat→Prop} {w:World} {b:Nat}:∀ {cs:List D} {o i:Nat} {d:D},VC I w cs b o→cs[i]? = some d→∃ c,w.cell? ⟨b,o+i,none⟩=some c∧V I w d free c
 | [],_,_,_,_,h=>by simp at h
 | d::r,o,0,d',hv,h=>by
  simp only [VC] at hv
  obtain ⟨⟨c,h1,_,h2⟩,_⟩:=hv
  simp only [Qy,Qa] at h
  subst h
  exact ⟨c,h1,h2⟩
 | d::r,o,i+1,d',hv,h=>by
  simp only [VC] at hv
  obtain ⟨c,h1,h2⟩:=Vyf (o:=o+1) (i:=i) hv.2 (by simpa using h)
  exact ⟨c,by rw [show o+(i+1)=o+1+i by omega]; exact h1,h2⟩
theorem VC_mk {I:Nat→Prop} {w:World} {b:Nat}:∀ {cs:List D} {o:Nat},(∀ i d,cs[i]? = some d→∃ c,w.cell? ⟨b,o+i,none⟩=some c∧c.oneCell'=true∧V I w d free c)→VC I w cs b o
 | [],_,_=>by simp only [VC]
 | d::r,o,h=>by
  simp only [VC]
  refine ⟨?_,VC_mk fun i d' hi=>?_⟩
  ·exact h 0 d rfl
  ·have:=h (i+1) d' (by simpa using hi)
   rwa [show o+(i+1)=o+1+i by omega] at this
def byteD (c:UInt8):List D:=[.int .u8 c.toNat]
theorem Vpi {I:Nat→Prop} {w:World} {b:Nat}:∀ {l:List UInt8} {o i:Nat} {c:UInt8},VR I w 1 (l.map byteD) b o→l[i]? = some c→w.cell? ⟨b,o+i,none⟩=some (.int .u8 c.toNat)
 | [],_,_,_,_,h=>by simp at h
 | d::r,o,0,c,hv,h=>by
  simp only [Qo,VR,byteD,VC] at hv
  obtain ⟨_,⟨⟨v,h1,_,h2⟩,_⟩,_⟩:=hv
  simp only [V] at h2
  simp only [Qy,Qa] at h
  subst h
  rw [← h2]; exact h1
 | d::r,o,i+1,c,hv,h=>by
  simp only [Qo,VR] at hv
  have:=Vpi (o:=o+1) (i:=i) hv.2.2 (by simpa using h)
  rwa [show o+(i+1)=o+1+i by omega]
def tabD (k:IntKind) (l:List Int):List D:=l.map fun n=>.int k n
theorem Vlc {I:Nat→Prop} {w:World} {k:IntKind} {l:List Int} {b:Nat} (h:VC I w (tabD k l) b 0) {i:Nat} {n:Int} (hn:l[i]? = some n):w.cell? ⟨b,i,none⟩=some (.int k n):=by
 obtain ⟨c,h1,h2⟩:=Vyf (i:=i) (d:=.int k n) h (by simp [tabD,hn])
 simp only [V] at h2
 rw [← h2,← h1]
 simp
theorem Vld {w:World} {I:Nat→Prop} {k:IntKind} {l:List Int} {b:Nat} (h:∀ i n,l[i]? = some n→w.cell? ⟨b,i,none⟩=some (.int k n)):VC I w (tabD k l) b 0:=by
 refine VC_mk fun i d hi=>?_
 simp only [tabD,Qa9,Qaf] at hi
 obtain ⟨n,hn,rfl⟩:=hi
 exact ⟨_,by rw [Qn]; exact h i n hn,rfl,by simp [V]⟩
end
section
variable {T:Nat→Type} {C:Cd T} {P:Program}
end
def scan {γ A β:Type} (step:Nat→γ→A→A⊕β) (fin:A→β):Nat→List γ→A→β
 | _,[],a=>fin a
 | i,x::r,a=>match step i x a with
  | .inl a'=>scan step fin (i+1) r a'
  | .inr b=>b
theorem Vmr {σ γ A β:Type} {f:σ→Option (σ⊕β)} (mk:Int→A→σ) (l:List γ) (step:Nat→γ→A→A⊕β) (fin:A→β) (Inv:Nat→A→Prop)
  (h:∀ (i:Nat) x a,l[i]? = some x→Inv i a→f (mk i a)=some (Sum.map (mk ((i:Int)+1)) id (step i x a))∧∀ a',step i x a = .inl a'→Inv (i+1) a')
  (h2:∀ a,Inv l.length a→f (mk l.length a)=some (.inr (fin a))) (a0:A) (h0:Inv 0 a0) (n:Nat) (hn:l.length < n):iter f n (mk 0 a0)=some (scan step fin 0 l a0):=by
 have key:∀ (r:List γ) (i:Nat) (a:A) (n:Nat),l.drop i=r→i+r.length=l.length→Inv i a→r.length < n→iter f n (mk i a)=some (scan step fin i r a):=by
  intro r
  induction r with
  | nil=>
   intro i a n hd hl hi hn
   cases n with
   | zero=>omega
   | succ n=>
    have:i=l.length:=by simpa using hl
    subst this
    rw [Vad,h2 a hi]
    rfl
  | cons x r ih=>
   intro i a n hd hl hi hn
   cases n with
   | zero=>omega
   | succ n=>
    have hx:l[i]? = some x:=by
     have:=congrArg (fun z=>z[0]?) hd
     simpa using this
    have hd':l.drop (i+1)=r:=by
     have:=congrArg (fun z=>z.drop 1) hd
     simpa [Nat.add_comm] using this
    obtain ⟨e1,e2⟩:=h i x a hx hi
    rw [Vad,e1]
    unfold scan
    cases hs:step i x a with
    | inl a'=>
     simp only [Qag] at hl hn
     exact ih (i+1) a' n hd' (by omega) (e2 a' hs) (by omega)
    | inr b=>rfl
 exact key l 0 a0 n (by simp) (by simp) h0 hn
theorem Vim {γ A β:Type} (g:A→γ→A) (fin:A→β):∀ (l:List γ) (k:Nat) (a:A),scan (fun _ x a=>.inl (g a x)) fin k l a=fin (l.foldl g a)
 | [],_,_=>rfl
 | x::r,k,a=>Vim g fin r (k+1) (g a x)
theorem bindS {α β:Type} (a:α) (f:α→Option β):(some a).bind f=f a:=by
 cases h:f a<;>exact h
end Go.Abs
