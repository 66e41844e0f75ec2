/- The library of abstract values, part 6: see the remarks ahead of each part. No condition. -/
import Derived.Test.YtaddhgkhilmniaaGreatDoorLib5
set_option linter.unusedVariables false
set_option linter.unusedSimpArgs false
namespace Go.Abs
open Go
section
variable {T:Nat->Type} {C:Cd T} {O I:Nat->Prop} {w:World} {loc:Nat->Nat->Loc} {L:Nat->Nat->Nat} {m:MT T} {P:Program} {Y:Nat->Option TI} {R:Type} {G:Nat->Option (List D)}
theorem Vmo (hY:TysOk P Y) {t:Nat} {i:TI} (hi:Y t=some i):∃ z,tzero P t=some z/\z.fit=true/\z.cells=i.zero.map Zc.toD:=by
 have ht:=hY t i hi;refine ⟨_,ht.zero,?_⟩;cases hk:i.kind.agg with
 | true=>simp only [if_true]; exact ⟨rfl,rfl⟩
 | false=>
  have h1:=ht.zlen;rw [ht.one hk] at h1;match hzz:i.zero,h1 with
  | [q],_=>
   simp only [Bool.false_eq_true,if_false,List.map_cons,List.map_nil,List.headD_cons];cases q<;>exact ⟨rfl,rfl⟩
theorem Vln {cs:List (DT T)} {r:Result Next} (hm:MRel O I loc (denM C m) w) (hw:WfM L m) (hc:WfL L cs) (h:Res O I loc w r (.bp (denM C m).nb 0) ((denM C m).add (.var (denL C cs)))):ResT C O I loc L w r (.bp m.length 0) (m++[.var cs]):=
 ResT.of_res L (.refl _ _) trivial (Vui hw hc) (by rw [Ved]; exact h)
theorem Vmp {t:TypeId} {x:Operand} {d:DT T} (ρ:Operand->Value) (hm:MRel O I loc (denM C m) w) (hw:WfM L m) (hv:V I w (den C d) loc (ρ x)) (hf:d.fit=true) (hs:solidL d.cells=true) (dst:Option Tmp) (ty:TypeId) (pos:String) (af:Array Edge) (gd:Option (Nat×Bool)) :
  ResT C O I loc L w ((execOp ρ ⟨dst,.box t x,ty,pos,af,gd⟩).run P w) (.rp d.cells) m:=by
 have e0:(execOp ρ ⟨dst,.box t x,ty,pos,af,gd⟩).run P w = .ok (.value (.pointer (some ⟨w.heap.size,0,none⟩))) (w.alloc (.cells (ρ x).cells t)):=by
  simp [execOp,Instr.box,newVar,newRow]
 rw [e0];have hfr:Fr (O:=λ_=>False) w (w.alloc (.cells (ρ x).cells t)):=Vb6 _ _;have hsz:(w.alloc (.cells (ρ x).cells t)).heap.size=w.heap.size+1:=Array.size_push _;have he:Ext I (λk=>I k\/k=w.heap.size) w (w.alloc (.cells (ρ x).cells t)):=by
  have h:=Vbd hm.imm (.cells (ρ x).cells t);exact ⟨λ_ h=>.inl h,h.same,h.rows⟩
 have hm2:MRel O (λk=>I k\/k=w.heap.size) loc (denM C m) (w.alloc (.cells (ρ x).cells t)):=by
  refine ⟨λb hb=>Va3 he (.refl _) (λ_=>rfl) (λho g k hk=>hfr.block k (hm.own b g k hb ho hk).2.2 (λh=>h)) (hm.box b hb),hm.free,λb g k hb ho hk=>?_,hm.inj,λk hk=>?_,λk hk=>hm.up k (by omega)⟩
  ·have:=hm.own b g k hb ho hk;exact ⟨this.1,λh=>h.elim this.2.1 (λh=>by omega),by omega⟩
  ·rcases hk with h | h
   ·have:=hm.imm k h; omega
   ·omega
 refine ⟨_,_,_,loc,L,.inl rfl,hm2,hw,?_,trivial,he,λk hk=>?_,.refl _,.refl _ _,Vb6 _ _⟩
 ·simp only [den,V];refine ⟨w.heap.size,0,rfl,.inr rfl,?_⟩;obtain ⟨h1,h2⟩:=Vbj hv (Vbw C d hf);rw [Vbe] at h1;have h3:VL I w (denL C d.cells) free (ρ x).cells.toList:=Vg8 (Vca C _ (Vcy hs)) h1;refine Vc6 (Vaf he _ _ _ _ (.refl _) h3) h2 λj y hj=>?_;simp only [World.cell?,Va2,Nat.zero_add];simpa using hj
 ·rcases hk with h | h
  ·exact .inl h
  ·exact .inr (hm.up k (by omega))
theorem Vny (hC:CdOk C) {c:Nat} {l:List (T c)} {v:Value} {t:TypeId} (hm:MRel O I loc (denM C m) w) (hw:WfM L m) (hv:VL I w (l.map (C.encD c)).flatten free v.cells.toList) (h1:∀ x∈v.cells.toList,x.oneCell'=true) :
  ResT C O I loc L w (.ok (.value (.pointer (some ⟨w.heap.size,0,none⟩))) (w.alloc (.cells v.cells t))) (.ap m.length 0 c 0 0) (m++[.arr 0 c l]):=by
 have hs:∀ row∈l.map (C.encD c),row.length=C.sz c:=by
  intro row hr;obtain ⟨x,_,rfl⟩:=List.mem_map.1 hr;exact hC.len c x
 have hvl:=Vac hv;rw [Vad _ hs,List.length_map] at hvl;have he:=Vbd hm.imm (.cells v.cells t);have hnb:(denM C m).nb=m.length:=rfl;refine ⟨_,_,I,locNew loc (denM C m).nb (.blk w.heap.size),updL L m.length 0 l.length,.inl rfl,?_,Ve7 hm hw (by simp [WfB,updL]),?_,trivial,he,λ_ h=>.inl h,Vav hm _,LExt.upd (hm.free _ _ (Nat.le_refl _)),Vb6 _ _⟩
 ·rw [Ved];refine hm.alloc _ _ ?_;simp only [denB,RelB];refine ⟨⟨λg hg=>by omega,λg hg=>by simp [locNew]; omega⟩,.inr ⟨w.heap.size,_,t,(0,0),by simp [locNew],Va2 _ _,unfz0 _,?_,?_⟩⟩
  ·rw [List.length_map];simp at hvl;omega
  ·refine Va6 hs (Vaf he _ free free _ (.refl _) hv) h1 λj x hj=>?_;simp only [World.cell?,Va2,Nat.zero_add];simpa using hj
 ·simp only [den,V,locNew,hnb,if_true];simp
theorem Vnz {n:Int} (h0:0 < n) (hn:n<=9223372036854775807):IntKind.i64.wrap n=n:=by
 simp only [IntKind.wrap,IntKind.bits,IntKind.signed];simp;omega
theorem Vf7 {t t' el ty:TypeId} {k k':IntKind} {sz by':Nat} {z:List D} {n:Int}
    (ht:telem P t=some el) (ht':P.underlying t'=some (.int k')) (hsz:tsz P el=some sz) (hby:tbytes P el=some by') (hz:zrow P el sz=some z)
    (h0:0 < n) (hn:n <= 9223372036854775807) (hsm:small n.toNat by'=true) :
    ∃ newCap rest vs,n.toNat <= newCap /\ newCap * sz=(vs ++ rest).length /\ VL I w (List.replicate n.toNat z).flatten free vs /\ (∀ x ∈ vs,x.oneCell'=true) /\
      (Builtin.append_ #[t,t'] ty #[.slice none 0 0,.int k n]).run P w = .ok (.slice (some ⟨w.heap.size,0,none⟩) n.toNat newCap) ((dr w).alloc (.cells (vs ++ rest).toArray el)):=by
  obtain ⟨v,hv,rfl,hzl,hzp,hzf,hvz⟩:=Vdu hz w;unfold small at hsm;simp only [decide_eq_true_eq] at hsm;obtain ⟨hs1,hs2⟩:=hsm;unfold tbytes at hby;rw [Option.map_eq_some_iff] at hby;obtain ⟨info,hinfo,rfl⟩:=hby;have hti:∀ w,(typeInfo el).run P w = .ok info w:=λw=>by simp [typeInfo,hinfo]
  let need:=n.toNat
  let q:Question:=.appendCap (0 + need) 0 el;let newCap:=q.cut (w.tape w.drawn q);have hcap:need <= newCap:=by
    have:0 + need <= newCap:=by simp only [newCap,q,Question.cut]; exact Nat.le_add_right _ _
    omega
  let vs:=(List.replicate need v.cells.toList).flatten;let rest:=((List.replicate (newCap - need) v.cells.toList).flatten);have hlen:∀ n,((List.replicate n v.cells.toList).flatten).length=n * sz:=by
    intro n;rw [List.length_flatten]; simp [List.map_replicate,List.sum_replicate_nat,hvz]
  obtain ⟨hc1,hc2⟩:=Vbj (I:=I) (w:=w) (loc:=free) (ofV_V v) hzf;have hflat:∀ n,VL I w (List.replicate n (ofV v).cells).flatten free (List.replicate n v.cells.toList).flatten:=by
    intro n;induction n with
    | zero=>simp [VL]
    | succ n ih=>simp only [List.replicate_succ,List.flatten_cons]; exact Var hc1 ih
  have hone:∀ n,∀ x ∈ (List.replicate n v.cells.toList).flatten,x.oneCell'=true:=by
    intro n x hx;rw [List.mem_flatten] at hx;obtain ⟨l,hl,hx⟩:=hx;rw [List.eq_of_mem_replicate hl] at hx;exact hc2 x hx
  refine ⟨newCap,rest,vs,hcap,?_,hflat _,hone _,?_⟩
  · rw [List.length_append,hlen,hlen,<- Nat.add_mul]
    congr 1; omega
  · have hnx:Builtin.nextslicecap (0 + need) 0 * info.bytes <= 281474976710656:=by
      have h1:=Vfp (need:=0 + need) (cap:=0) (by omega);have h2:Builtin.nextslicecap (0 + need) 0 * info.bytes <= (2 * (0 + need) + 192) * info.bytes:=Nat.mul_le_mul_right _ h1;have h3:(2 * need + 192) * info.bytes <= 281474976710656:=hs2;have e:(2 * (0 + need) + 192)=(2 * need + 192):=by omega
      rw [e] at h2;omega
    have hnb:need * info.bytes <= 281474976710656:=by
      have h2:need * info.bytes <= (2 * need + 192) * info.bytes:=Nat.mul_le_mul_right _ (by omega);have h3:(2 * need + 192) * info.bytes <= 281474976710656:=hs2;omega
    have hbig:¬ (((0 + need:Nat)):Int) > IntKind.i64.max:=by
      have:need <= 70368744177664:=hs1;simp only [IntKind.max,IntKind.signed,IntKind.bits,if_true];omega
    have hwrap:IntKind.i64.wrap n=n:=Vnz h0 hn;have hneg:¬ n < 0:=by omega
    have hlb:¬ n * (info.bytes:Int) > 2 ^ 48:=by
      have e:n=(need:Int):=by omega
      rw [e];have:((need * info.bytes:Nat):Int) <= ((281474976710656:Nat):Int):=Int.ofNat_le.2 hnb;rw [Int.natCast_mul] at this;have h48:(2:Int) ^ 48=281474976710656:=by decide
      rw [h48];exact Int.not_lt.2 this
    have hno:¬ 0 + need <= 0:=by omega
    have hold:=(Vdv (P:=P) (I:=I) (w:=w) (s:=sz) (a:=none) (cap:=0)).first (dr w) rfl
    have hvw:(zeroValue el).run P (dr w) = .ok v (dr w):=by
      have h1:(zeroValue el).run P w = .ok v w:=hv;simp only [zeroValue,Sem.run_bind,hti,Result.andThen_ok] at h1 |-;split at h1
      · simp only [Sem.run_pure,Result.ok.injEq,and_true] at h1
        subst h1; rfl
      · simp at h1
    have hzc:Builtin.zeroCells v.cells (newCap - (0 + need))=rest.toArray:=by
      have:=Vb2 v.cells.toList (newCap - (0 + need));simpa [rest] using this
    have hzv:Builtin.zeroCells v.cells need=vs.toArray:=by
      have:=Vb2 v.cells.toList need;simpa [vs] using this
    have hm2:¬ (Builtin.nextslicecap (0 + need) 0 * info.bytes > 2 ^ 48):=by
      have h48:(2:Nat) ^ 48=281474976710656:=by decide
      rw [h48]; omega
    have hch:(choose q).run P w = .ok newCap (dr w):=by
      rw [run_choose]; rfl
    have happ:(if need * sz=0 then (pure #[]:Sem (Array Value)) else do pure (Builtin.zeroCells (<- zeroValue el).cells need)).run P (dr w) = .ok vs.toArray (dr w):=by
      by_cases h:need * sz=0
      · rw [if_pos h]
        have:vs=[]:=List.length_eq_zero_iff.1 (by rw [<- h]; exact hlen need);rw [this]; rfl
      · rw [if_neg h]
        simp only [Sem.run_bind,hvw,Result.andThen_ok,Sem.run_pure,hzv]
    unfold Builtin.append_;have hai:∀ w,(Go.asInt (.int k n)).run P w = .ok n w:=λ_=>rfl;simp only [Sem.run_bind,List.getElem?_toArray,List.getElem?_cons_zero,List.getElem?_cons_succ,run_underlying (Vag ht),Result.andThen_ok,run_sizeOf' hsz,run_underlying ht',Sem.run_pure,if_true,hai,hwrap,hti,Bool.not_true,Bool.false_eq_true,if_false,Sem.run_ite,run_askRoom];rw [if_neg hneg,if_neg hlb];change (if 0 + need <= 0 then _ else _)=_;rw [if_neg hno];rw [if_neg (λh=>hbig h.1),if_neg hm2];change ((choose q).run P w).andThen _=_;rw [hch];simp only [Sem.run_ite,Sem.run_bind,Sem.run_pure] at happ;simp only [Result.andThen_ok,hold];change ((if need * sz=0 then _ else _:Result (Array Value))).andThen _=_;rw [happ];simp only [Result.andThen_ok,hvw];change ((newRow el (([]:List Value).toArray ++ vs.toArray ++ Builtin.zeroCells v.cells (newCap - (0 + need)))).run P (dr w)).andThen _=_;rw [hzc];simp only [newRow,Sem.run_bind,run_newObj,Result.andThen_ok,Sem.run_pure,World.alloc_eq,List.append_toArray,List.nil_append,Nat.zero_add];rfl
theorem Vo5 {t t' el ty:TypeId} {k k':IntKind} {sz by':Nat} {z:List D} {n:Int}
  (ht:telem P t=some el) (ht':P.underlying t'=some (.int k')) (hsz:tsz P el=some sz) (hby:tbytes P el=some by') (hz:zrow P el sz=some z)
  {z2:List D} (hz2:z2.length=sz) (himp:∀ vs,VL I w z free vs->VL I w z2 free vs)
  (h0:0<=n) (hn:n<=9223372036854775807) (hsm0:small n.toNat by'=true):∃ vs,More P I w t t' ty el sz by' (List.replicate n.toNat z2) vs (.int k n):=by
 obtain ⟨v,hv,rfl,hzl,hzp,hzf,hvz⟩:=Vdu hz w;unfold small at hsm0;simp only [decide_eq_true_eq] at hsm0;obtain ⟨hs1,hs2⟩:=hsm0;unfold tbytes at hby;rw [Option.map_eq_some_iff] at hby;obtain ⟨info,hinfo,rfl⟩:=hby;have hti:∀ w,(typeInfo el).run P w = .ok info w:=λw=>by simp [typeInfo,hinfo]
 let more:=n.toNat
 let vs:=(List.replicate more v.cells.toList).flatten;have hlen:∀ n,((List.replicate n v.cells.toList).flatten).length=n * sz:=by
  intro n;rw [List.length_flatten]; simp [List.map_replicate,List.sum_replicate_nat,hvz]
 obtain ⟨hc1,hc2⟩:=Vbj (I:=I) (w:=w) (loc:=free) (ofV_V v) hzf;have hflat:∀ n,VL I w (List.replicate n z2).flatten free (List.replicate n v.cells.toList).flatten:=by
  intro n;induction n with
  | zero=>simp [VL]
  | succ n ih=>simp only [List.replicate_succ,List.flatten_cons]; exact Var (himp _ hc1) ih
 have hone:∀ n,∀ x∈(List.replicate n v.cells.toList).flatten,x.oneCell'=true:=by
  intro n x hx;rw [List.mem_flatten] at hx;obtain ⟨l,hl,hx⟩:=hx;rw [List.eq_of_mem_replicate hl] at hx;exact hc2 x hx
 have hnb:more * info.bytes<=281474976710656:=by
  have h2:more * info.bytes<=(2 * more+192) * info.bytes:=Nat.mul_le_mul_right _ (by omega);have h3:(2 * more+192) * info.bytes<=281474976710656:=hs2;omega
 have hwrap:IntKind.i64.wrap n=n:=by
  rcases Int.lt_or_eq_of_le h0 with h | h
  ·exact Vnz h hn
  ·rw [<- h]; rfl
 have hneg:¬ n < 0:=by omega
 have hlb:¬ n * (info.bytes:Int) > 2 ^ 48:=by
  have e:n=(more:Int):=by omega
  rw [e];have:((more * info.bytes:Nat):Int)<=((281474976710656:Nat):Int):=Int.ofNat_le.2 hnb;rw [Int.natCast_mul] at this;have h48:(2:Int) ^ 48=281474976710656:=by decide
  rw [h48];exact Int.not_lt.2 this
 have hvw:∀ w2,(zeroValue el).run P w2 = .ok v w2:=λw2=>by
  have h1:(zeroValue el).run P w = .ok v w:=hv;simp only [zeroValue,Sem.run_bind,hti,Result.andThen_ok] at h1 |-;split at h1
  ·simp only [Sem.run_pure,Result.ok.injEq,and_true] at h1;subst h1; rfl
  ·simp at h1
 have hzv:Builtin.zeroCells v.cells more=vs.toArray:=by
  have:=Vb2 v.cells.toList more;simpa [vs] using this
 have happ:∀ w2,(if more * sz=0 then (pure #[]:Sem (Array Value)) else do pure (Builtin.zeroCells (<- zeroValue el).cells more)).run P w2 = .ok vs.toArray w2:=λw2=>by
  by_cases h:more * sz=0
  ·rw [if_pos h];have:vs=[]:=List.length_eq_zero_iff.1 (by rw [<- h]; exact hlen more);rw [this]; rfl
  ·rw [if_neg h];simp only [Sem.run_bind,hvw,Result.andThen_ok,Sem.run_pure,hzv]
 have hai:∀ w,(Go.asInt (.int k n)).run P w = .ok n w:=λ_=>rfl;have hrl:(List.replicate n.toNat z2).length=more:=by simp [more]
 refine ⟨vs,hflat _,hone _,λrow hr=>by rw [List.eq_of_mem_replicate hr]; exact hz2,λ{u m cap a rows us} hu hs hm hg hsm=>?_,λ{m cap a w'} hg hst=>?_⟩
 ·subst hu;rw [hrl] at hg hsm |-;unfold small at hsm;simp only [decide_eq_true_eq] at hsm;obtain ⟨hs3,hs4⟩:=hsm;let need:=m+more;let q:Question:=.appendCap need cap el;let newCap:=q.cut (w.tape w.drawn q);have hcap:need<=newCap:=by simp only [newCap,q,Question.cut]; exact Nat.le_add_right _ _
  let rest:=((List.replicate (newCap - need) v.cells.toList).flatten);have hul:us.length=m * sz:=by rw [Vac hs.vl,Vad rows hs.row,hm]
  refine ⟨newCap,rest,hcap,?_,?_⟩
  ·rw [List.length_append,List.length_append,hul,hlen,hlen,<- Nat.add_mul,<- Nat.add_mul];congr 1;show newCap=m+more+(newCap - (m+more));have:m+more<=newCap:=hcap;omega
  ·have hm2:¬ (Builtin.nextslicecap need cap * info.bytes > 2 ^ 48):=by
    have h1:=Vfp hg;have h2:Builtin.nextslicecap need cap * info.bytes<=(2 * need+192) * info.bytes:=Nat.mul_le_mul_right _ h1;have h3:(2 * need+192) * info.bytes<=281474976710656:=hs4;have h48:(2:Nat) ^ 48=281474976710656:=by decide
    rw [h48]; omega
   have hbig:¬ ((need:Nat):Int) > IntKind.i64.max:=by
    have:need<=70368744177664:=hs3;simp only [IntKind.max,IntKind.signed,IntKind.bits,if_true];omega
   have hno:¬ need<=cap:=by show ¬ (m+more<=cap); omega
   have hold:=hs.first (dr w) rfl
   rw [hm] at hold;have hzc:Builtin.zeroCells v.cells (newCap - need)=rest.toArray:=by
    have:=Vb2 v.cells.toList (newCap - need);simpa [rest] using this
   have hch:(choose q).run P w = .ok newCap (dr w):=by
    rw [run_choose]; rfl
   have ha:=happ (dr w);unfold Builtin.append_;simp only [Sem.run_bind,List.getElem?_toArray,List.getElem?_cons_zero,List.getElem?_cons_succ,run_underlying (Vag ht),Result.andThen_ok,run_sizeOf' hsz,run_underlying ht',Sem.run_pure,if_true,hai,hwrap,hti,Bool.not_true,Bool.false_eq_true,if_false,Sem.run_ite,run_askRoom];rw [if_neg hneg,if_neg hlb];change (if need<=cap then _ else _)=_;rw [if_neg hno];rw [if_neg (λh=>hbig h.1),if_neg hm2];change ((choose q).run P w).andThen _=_;rw [hch];simp only [Sem.run_ite,Sem.run_bind,Sem.run_pure] at ha;simp only [Result.andThen_ok,hold];change ((if more * sz=0 then _ else _:Result (Array Value))).andThen _=_;rw [ha];simp only [Result.andThen_ok,hvw];change ((newRow el (us.toArray++vs.toArray++Builtin.zeroCells v.cells (newCap - need))).run P (dr w)).andThen _=_;rw [hzc];simp only [newRow,Sem.run_bind,run_newObj,Result.andThen_ok,Sem.run_pure,World.alloc_eq,List.append_toArray];rfl
 ·rw [hrl] at hg |-;have ha:=happ w;unfold Builtin.append_;simp only [Sem.run_bind,List.getElem?_toArray,List.getElem?_cons_zero,List.getElem?_cons_succ,run_underlying (Vag ht),Result.andThen_ok,run_sizeOf' hsz,run_underlying ht',Sem.run_pure,if_true,hai,hwrap,hti,Bool.not_true,Bool.false_eq_true,if_false,Sem.run_ite];rw [if_neg hneg,if_neg hlb];change (if m+more<=cap then _ else _)=_;rw [if_pos hg];simp only [Sem.run_ite,Sem.run_bind,Sem.run_pure] at ha;change ((if more * sz=0 then _ else _:Result (Array Value))).andThen _=_;rw [ha];simp only [Result.andThen_ok];cases a with
  | none=>
   simp only [Sem.run_pure,Result.ok.injEq,true_and] at hst;subst hst;rfl
  | some a=>
   have:(storeCells (a.add (m * sz)) vs).run P w = .ok () w':=hst;simp only [Sem.run_bind,this,Result.andThen_ok];rfl
theorem wK_ok (hC:CdOk C) (hY:TysOk P Y) (hm:MRel O I loc (denM C m) w) (hw:WfM L m) {e:Operand->DT T} {ρ:Operand->Value} (he:∀ x,V I w (den C (e x)) loc (ρ x)) (hwe:∀ x,WfD L (e x)) {o:Oper} {K:DT T->MT T->Option R} {r:R}
  (h:wK Y C o.op e m K=some r):∃ d m',ResT C O I loc L w ((execOp ρ o).run P w) d m'/\K d m'=some r:=by
 obtain ⟨dst,op,type,pos,after,guard⟩:=o;simp only at h;have h0:=h;unfold wK at h;split at h
 ·-- alloc
  rename_i t;split at h
  case h_2=>cases h
  rename_i i hi;obtain ⟨z,z1,z2,z3⟩:=Vmo hY hi;split at h
  ·rename_i c hla;split at h
   case h_2=>cases h
   rename_i n hn;split at h
   case h_2=>cases h
   rename_i l hl;obtain ⟨q1,q2,q3⟩:=Vd0 hC n _ l hl;obtain ⟨v,hv,hzv⟩:=run_zero' z1 w;obtain ⟨c1,c2⟩:=Vbj (I:=I) (w:=w) (loc:=free) (ofV_V v) (by rw [<- hzv]; exact z2);rw [<- hzv,z3,<- Vdw (C:=C)] at c1;refine ⟨_,_,?_,h⟩;have:=Vny (t:=t) hC hm hw (q3 I w _ c1) c2;have e0:(execOp ρ ⟨dst,.alloc t,type,pos,after,guard⟩).run P w = .ok (.value (.pointer (some ⟨w.heap.size,0,none⟩))) (w.alloc (.cells v.cells t)):=by
    simp [execOp,Instr.alloc,hv,newVar,newRow]
   rw [e0];exact this
  refine ⟨_,_,Vln hm hw (Vjj _) ?_,h⟩;rw [Vdw,<- z3];exact Vtx hm z1 z2 ρ _ _ _ _ _
 ·-- box
  rename_i t x;split at h
  case h_2=>cases h
  rename_i hf;split at h
  ·split at h
   case h_2=>cases h
   rename_i hs;exact ⟨_,_,Vmp ρ hm hw (he x) hf hs _ _ _ _ _,h⟩
  ·split at h
   ·rename_i c hla;split at h
    case h_2=>cases h
    rename_i n hn;have hcs:=Vcm hf (he x);obtain ⟨cs',m1,I1,g1,g2,g3,g4,g5,g6,g7,g8,h⟩:=Vis hC hm hw (Vbp (hwe x)) hcs h;have g4:=Vlk hm g4;split at h
    case h_2=>cases h
    rename_i l hl;obtain ⟨q1,q2,q3⟩:=Vd0 hC n _ l hl;have:=Vny (t:=t) (v:=ρ x) hC g1 g2 (q3 I1 w _ g5) (Vbj (he x) (Vbw C _ hf)).2;have e0:(execOp ρ ⟨dst,.box t x,type,pos,after,guard⟩).run P w = .ok (.value (.pointer (some ⟨w.heap.size,0,none⟩))) (w.alloc (.cells (ρ x).cells t)):=by
     simp [execOp,Instr.box,newVar,newRow]
    rw [e0];exact ⟨_,_,this.pre g3 g4,h⟩
   refine ⟨_,_,Vln hm hw (Vbp (hwe x)) ?_,h⟩;rw [<- Vbe];exact Vafa hm ρ (he x) (Vbw C _ hf) _ _ _ _ _
 ·-- store
  rename_i t x y;obtain ⟨m',w',I',h1,h2,h3,h4,h5,h6,h7⟩:=Vw9 (P:=P) hC hY hm hw (hwe x) (hwe y) (he x) (he y) e x y rfl rfl h0;exact ⟨.dead,m',⟨undef,w',I',loc,L,.inr ⟨by simp [execOp,h1],rfl⟩,h2,h3,trivial,trivial,h4,h5,.refl _,.refl _ _,h6⟩,h7⟩
 ·-- a literal of a slice
  split at h
  case h_2=>cases h
  rename_i el hel;split at h
  case h_2=>cases h
  rename_i j hj;split at h
  case h_2=>cases h
  rename_i z hz;split at h
  case h_2=>cases h
  rename_i hn;obtain ⟨rows,m',h1,h2⟩:=Vjz (P:=P) hC hY hm hw he hwe hel hj hz (by simpa using hn) h;exact ⟨_,_,h1,h2⟩
 ·-- range
  rename_i t x;split at h
  case h_2=>cases h
  rename_i l hl;split at h
  case h_2=>cases h
  rename_i hs;refine ⟨.bp m.length 0,m++[.iter l 0],ResT.of_res L (.refl _ _) trivial (Vui (x:=.iter l 0) hw trivial) ?_,h⟩;have hx:=he x;rw [hl] at hx; simp only [den,V] at hx;have:(execOp ρ ⟨dst,.range t x,type,pos,after,guard⟩).run P w = .ok (.value (.pointer (some ⟨w.heap.size,0,none⟩))) (w.alloc (.stringIter ⟨l.toArray⟩ 0)):=by
   simp [execOp,Instr.range,run_underlying (Vcf (Vc9 hY hs)),hx]
  rw [this,Ved];refine ⟨_,_,locNew loc (denM C m).nb (.blk w.heap.size),.inl rfl,hm.alloc _ _ ?_,V_new _ _,Vbd hm.imm _,Vav hm _,Vb6 _ _⟩;simp only [denB,RelB];exact ⟨λg hg=>by simp [locNew,hg],w.heap.size,by simp [locNew],Va2 _ _⟩
 ·-- next
  rename_i x;split at h
  case h_2=>cases h
  rename_i b hx;split at h
  case h_2=>cases h
  rename_i l ps hb;have hv:=he x;rw [hx] at hv; simp only [den,V] at hv;have hlt:b < m.length:=Va5 (C:=C) (g:=0) hm (by intro e; simp [e] at hv);have hbx:(denM C m).bx b = .iter l ps:=by simp [denM,hb,denB]
  have hsem:∀ {d:D} {M':Mem},semW P ⟨λ_=>none,λ_=>none⟩ (.next x true) (λx=>den C (e x)) (denM C m)=some (d,M')->Res O I loc w ((execOp ρ ⟨dst,.next x true,type,pos,after,guard⟩).run P w) d M':=by
   intro d M' hq;exact next_res hm he hx hb hlt hq
  by_cases hps:ps < l.length
  ·rw [decide_eq_true hps,cond_true] at h;refine ⟨.tup [.bool true,.int .i64 ps,.int .i32 (Utf8.decode ⟨l.toArray⟩ ps).1],m.put b (.iter l (ps+(Utf8.decode ⟨l.toArray⟩ ps).2)),ResT.of_res L (.refl _ _) (by simp [WfD,WfL]) (Vdy hlt hw trivial) (hsem ?_),h⟩;rw [Vb9 hlt];simp only [semW,hx,den,denL,hbx,if_pos hps,denB]
  ·rw [decide_eq_false hps,cond_false] at h;refine ⟨.tup [.bool false],m,ResT.of_res L (.refl _ _) (by simp [WfD,WfL]) hw (hsem ?_),h⟩;simp only [semW,hx,den,denL,hbx,if_neg hps]
 ·-- the bytes of a string
  rename_i src dst' x;split at h
  case h_2=>
   have hexec:(execOp ρ ⟨dst,.convert src dst' x,type,pos,after,guard⟩).run P w=(do pure (.value (<- convert src dst' (ρ x))):Sem Next).run P w:=by simp only [execOp]
   rw [hexec];exact Vxc (P:=P) hC hY hm hw (hwe x) (he x) h
  rename_i hs;split at h
  case h_2=>cases h
  rename_i el hel;split at h
  case h_2=>cases h
  rename_i hu;split at h
  case h_2=>cases h
  rename_i l hl;have hx:=he x;rw [hl] at hx; simp only [den,V] at hx;refine ⟨_,_,?_,h⟩;have:=Vxa (P:=P) (L:=L) hC hY hm hw hs hel hu l;simpa only [execOp,hx] using this
 ·-- make
  rename_i t ln cp;split at h
  case h_2=>cases h
  rename_i el hel;split at h
  case h_2=>cases h
  rename_i j hj;split at h
  case h_2=>cases h
  rename_i z hz;split at h
  case h_2=>cases h
  rename_i kl n hln;split at h
  case h_2=>cases h
  rename_i kc k hcp;cases hq:(decide (0<=n)&&(decide (n<=k)&&decide ((j.bts:Int) * k<=281474976710656/\k<=9223372036854775807)))<;>simp only [hq,cond_true,cond_false] at h
  ·cases h
  simp only [Bool.and_eq_true,decide_eq_true_eq] at hq;have h1:=he ln;have h2:=he cp;rw [hln] at h1; rw [hcp] at h2;simp only [den,V] at h1 h2;refine ⟨_,_,?_,h⟩;have:=Vava (P:=P) (L:=L) hC hY hm hw hel hj hz kl kc n k hq.1 hq.2.1 hq.2.2.1 hq.2.2.2;simpa only [execOp,h1,h2] using this
 ·-- copy
  rename_i args argTypes;split at h
  case h_2=>cases h
  rename_i s x t t' hargs htys;have ha:args = #[s,x]:=by apply Array.ext'; simpa using hargs
  have hb:argTypes = #[t,t']:=by apply Array.ext'; simpa using htys
  subst ha; subst hb;have hexec:(execOp ρ ⟨dst,.call ⟨.builtin .copy,#[s,x],#[t,t']⟩,type,pos,after,guard⟩).run P w=(do pure (.value (<- Builtin.copy_ #[t,t'] type #[ρ s,ρ x])):Sem Next).run P w:=by
   simp [execOp,resolve,invoke,builtin]
  split at h
  case h_3=>cases h
  case h_2=>
   rename_i b g c i n hs;split at h
   case h_2=>cases h
   rename_i hc;have hel:∃ el,elemT Y t=some el:=by
    unfold elemC at hc;split at hc
    ·rename_i el hq; exact ⟨el,hq⟩
    ·cases hc
   obtain ⟨el,hel⟩:=hel;have hvs:=he s;rw [hs] at hvs;rw [hexec];split at h
   case h_2=>cases h
   rename_i e' he';rw [Va4,Option.bind_eq_some_iff] at h;obtain ⟨rows,h1,h2⟩:=h;exact Vxd (P:=P) (ty:=type) hC hY hm hw hel hc hvs (Vnl hm (he x) (Vgf hw (hwe x) h1)) h2
  rename_i b g c n hs;split at h
  case h_2=>cases h
  rename_i hc;have hel:∃ el,elemT Y t=some el:=by
   unfold elemC at hc;split at hc
   ·rename_i el hq; exact ⟨el,hq⟩
   ·cases hc
  obtain ⟨el,hel⟩:=hel;have hws:=hwe s;have hvs:=he s;rw [hs] at hws hvs;rw [hexec];split at h
  case h_2=>
   unfold copyS at h;split at h
   case h_2=>cases h
   split at h
   case h_2=>cases h
   rename_i hcb;have hcb:=Nat.eq_of_beq_eq_true hcb;subst hcb;split at h
   case h_2=>cases h
   rename_i l hl;have hx:=he x;rw [hl] at hx; simp only [den,V] at hx;refine Vnx (P:=P) (ty:=type) hC hY hm hw hel hc hws hvs ?_ h;rw [hx,hC.bsz,Ve8 hC l];exact Vt0 l
  rename_i e' he';rw [Va4,Option.bind_eq_some_iff] at h;obtain ⟨rows,h1,h2⟩:=h;exact Vnx (P:=P) (ty:=type) hC hY hm hw hel hc hws hvs (Vnl hm (he x) (Vgf hw (hwe x) h1)) h2
 ·-- append
  rename_i args argTypes;split at h
  case h_2=>cases h
  rename_i s x t t' hargs htys;have ha:args = #[s,x]:=by apply Array.ext'; simpa using hargs
  have hb:argTypes = #[t,t']:=by apply Array.ext'; simpa using htys
  subst ha; subst hb;have hexec:(execOp ρ ⟨dst,.call ⟨.builtin .append,#[s,x],#[t,t']⟩,type,pos,after,guard⟩).run P w=(do pure (.value (<- Builtin.append_ #[t,t'] type #[ρ s,ρ x])):Sem Next).run P w:=by
   simp [execOp,resolve,invoke,builtin]
  split at h
  case h_2=>cases h
  rename_i el hel;split at h
  case h_2=>cases h
  rename_i j hj;split at h
  case h_2=>cases h
  rename_i z hz;rw [hexec];split at h
  ·rename_i kx n hx;split at h
   case h_2=>
    split at h
    case h_2=>cases h
    rename_i hint;cases hq:(decide (0<=n)&&(decide (n<=9223372036854775807)&&small n.toNat j.bts))<;>simp only [hq,cond_true,cond_false] at h
    ·cases h
    simp only [Bool.and_eq_true,decide_eq_true_eq] at hq;obtain ⟨h0,hn9,hsm⟩:=hq;obtain ⟨row,z1,z2,z3,z4,z5⟩:=Vee hC hY hj hz;obtain ⟨k',hk'⟩:∃ k',P.underlying t'=some (.int k'):=by
     unfold isInt at hint;split at hint
     ·rename_i i' hi';split at hint
      ·rename_i k' hk'; exact ⟨k',Vep ((hY t' i' hi').int k' hk')⟩
      ·cases hint
     ·cases hint
    have h2:=he x;rw [hx] at h2;simp only [den,V] at h2;rw [h2];refine Vuu (P:=P) (ty:=type) hC hY hm hw hel hj hz (hwe s) (he s) ?_ h;rw [List.map_replicate,<- z5];exact Vo5 (P:=P) (I:=I) (w:=w) (ty:=type) (k:=kx) (Vaw hY hel) hk' (hY el j hj).sz (hY el j hj).bts z1 (by rw [z5]; exact hC.len _ _) (λvs hv=>z4.2 _ _ _ hv) h0 hn9 hsm
   rename_i hs;split at h
   case h_2=>cases h
   rename_i hint;cases hq:(decide (0 < n)&&(decide (n<=9223372036854775807)&&small n.toNat j.bts))<;>simp only [hq,cond_true,cond_false] at h
   ·cases h
   simp only [Bool.and_eq_true,decide_eq_true_eq] at hq;obtain ⟨h0,hn9,hsm⟩:=hq;obtain ⟨row,z1,z2,z3,z4,z5⟩:=Vee hC hY hj hz;obtain ⟨k',hk'⟩:∃ k',P.underlying t'=some (.int k'):=by
    unfold isInt at hint;split at hint
    ·rename_i i' hi';split at hint
     ·rename_i k' hk'; exact ⟨k',Vep ((hY t' i' hi').int k' hk')⟩
     ·cases hint
    ·cases hint
   have h1:=he s;have h2:=he x;rw [hs] at h1; rw [hx] at h2;simp only [den,V] at h1 h2;rw [h1,h2];obtain ⟨newCap,rest,vs,k1,k2,k3,k4,k5⟩:=Vf7 (P:=P) (I:=I) (w:=w) (ty:=type) (k:=kx) (Vaw hY hel) hk' (hY el j hj).sz (hY el j hj).bts z1 h0 hn9 hsm;refine ⟨_,_,?_,h⟩;refine Vho hm hw (Rw.rep n.toNat z2 z3 z4) (by simp) ?_;refine Res.bind k5 ?_;refine Res.from (w1:=dr w) rfl rfl rfl rfl ?_;have:=Vj0 (MRel.of_heap (w:=w) (w':=dr w) rfl hm) (s:=C.sz j.code) (n:=n.toNat) (cap:=newCap) (rows:=List.replicate n.toNat row) el (0,0) (λr hr=>by rw [List.eq_of_mem_replicate hr]; exact z2) (Vaf (Ext.of_heap (w:=w) (w':=dr w) rfl) _ free free vs (.refl _) k3) k4 rest (unfz0 _) (by rw [<- z5]; exact k2) k1;rw [show (dr w).heap.size=w.heap.size from rfl] at this;exact this
  ·rename_i l hl;split at h
   case h_2=>cases h
   rename_i hs;split at h
   case h_2=>cases h
   rename_i hcd _;refine Vyx (P:=P) (ty:=type) hC hY hm hw hel hj hz (Vcf (Vc9 hY hs)) (.inl rfl) (hwe s) (he s) ?_ h;have hx:=he x;rw [hl] at hx; simp only [den,V] at hx;rw [hx];have e1:∀ (c:Nat) (q:C.bt=c),C.sz c=1/\(castL q (castT C l)).map (C.encD c)=bytesD l:=by
    intro c q; subst q; exact ⟨hC.bsz,Ve8 hC l⟩
   rw [(e1 _ hcd).1,(e1 _ hcd).2];exact Vt0 l
  ·rename_i hne;split at h
   case h_2=>cases h
   rename_i e' he';rw [Va4,Option.bind_eq_some_iff] at h;obtain ⟨rows,h1,h2⟩:=h;exact Vyx (P:=P) (ty:=type) hC hY hm hw hel hj hz (Vag (Vaw hY he')) (.inr ⟨_,rfl⟩) (hwe s) (he s) (Vnl hm (he x) (Vgf hw (hwe x) h1)) h2
 ·cases h
where
 next_res {T:Nat->Type} {C:Cd T} {O I:Nat->Prop} {w:World} {loc:Nat->Nat->Loc} {m:MT T} {P:Program} {G:Nat->Option (List D)} {e:Operand->DT T} {ρ:Operand->Value} {x:Operand} {b:Nat} {l:List UInt8} {ps:Nat} {dst:Option Tmp} {type:TypeId} {pos:String} {after:Array Edge} {guard:Option (Nat×Bool)} {d:D} {M':Mem}
   (hm:MRel O I loc (denM C m) w) (he:∀ x,V I w (den C (e x)) loc (ρ x)) (hx:e x = .bp b 0) (hb:m.get b = .iter l ps) (hlt:b < m.length) (h:semW P ⟨G,λ_=>none⟩ (.next x true) (λx=>den C (e x)) (denM C m)=some (d,M')) :
   Res O I loc w ((execOp ρ ⟨dst,.next x true,type,pos,after,guard⟩).run P w) d M':=by
  have hbx:(denM C m).bx b = .iter l ps:=by simp [denM,hb,denB]
  have hv:=he x;rw [hx] at hv; simp only [den,V] at hv;have hbr:=hm.box b hlt;rw [hbx] at hbr; simp only [RelB] at hbr;obtain ⟨h0,k,hl,hw⟩:=hbr;simp only [hl] at hv;have hget:(getObj k).run P w = .ok (.stringIter ⟨l.toArray⟩ ps) w:=by simp [getObj,Sem.run,hw]
  simp only [semW,hx,den,hbx] at h;split at h
  ·rename_i hps;simp only [Option.some.injEq,Prod.mk.injEq] at h;obtain ⟨rfl,rfl⟩:=h;let w':World:={ w with heap:=w.heap.setIfInBounds k (.stringIter ⟨l.toArray⟩ (ps+(Utf8.decode ⟨l.toArray⟩ ps).2)) };have hset:(setObj k (.stringIter ⟨l.toArray⟩ (ps+(Utf8.decode ⟨l.toArray⟩ ps).2))).run P w = .ok () w':=by simp [setObj,Sem.run,hw,w']
   have hrun:(execOp ρ ⟨dst,.next x true,type,pos,after,guard⟩).run P w = .ok (.value (.tuple #[.bool true,.int .i64 ps,.int .i32 (Utf8.decode ⟨l.toArray⟩ ps).1])) w':=by
    simp only [execOp,Instr.next,hv,Sem.run_bind,hget,Result.andThen_ok,Vc4,if_pos hps,hset,Sem.run_pure,goInt]
   rw [hrun];have ho:((denM C m).bx b).owned=true:=by rw [hbx]; rfl
   have hk:=hm.own b 0 k hlt ho hl;have hoth:∀ q,q≠k->w'.heap[q]? = w.heap[q]?:=λq hq=>by
    simp only [w',Array.getElem?_setIfInBounds];rw [if_neg (Ne.symm hq)]
   have hsame:w'.heap[k]? = some (.stringIter ⟨l.toArray⟩ (ps+(Utf8.decode ⟨l.toArray⟩ ps).2)):=by
    simp only [w',Array.getElem?_setIfInBounds];rw [if_pos trivial,if_pos hk.2.2]
   have hext:Ext I I w w':=⟨λ_ h=>h,λq hq=>hoth q (λe=>hk.2.1 (e ▸ hq)),λq=>by
    by_cases e:q=k
    ·subst e; simp [rowSize,hw]
    ·simp [rowSize,hoth q e]⟩
   refine ⟨_,w',loc,.inl rfl,hm.change hlt ho (λ_ _ _=>rfl) hext (.refl _) ?_ ?_ (λq _ hq=>hoth q (λe=>hq 0 (e ▸ hl))) (by simp [w']),?_,hext,.refl _,⟨rfl,rfl,rfl,by simp [w'],λq _ hq=>hoth q (λe=>hq (e ▸ hk.1))⟩⟩
   ·simp only [RelB];exact ⟨h0,k,hl,hsame⟩
   ·intro g' k' hk';have:=hm.own b g' k' hlt ho hk';exact ⟨this.1,this.2.1,by simpa [w'] using this.2.2,λb' hb' h1 h2 g2 hg2=>hb' (hm.inj b' b g2 g' k' h1 hlt h2 ho hg2 hk')⟩
   ·simp only [V];exact ⟨[.bool true,.int .i64 ps,.int .i32 (Utf8.decode ⟨l.toArray⟩ ps).1],rfl,by simp [VL,V]⟩
  ·rename_i hps;simp only [Option.some.injEq,Prod.mk.injEq] at h;obtain ⟨rfl,rfl⟩:=h;refine Res.of_same hm ⟨.tuple #[.bool false],?_,?_⟩
   ·simp only [execOp,Instr.next,hv,Sem.run_bind,hget,Result.andThen_ok,Vc4,if_neg hps,Sem.run_pure]
   ·simp only [V];exact ⟨[.bool false],rfl,by simp [VL,V]⟩
end
section
variable {T:Nat->Type}
def SVO (C:Cd T) (I:Nat->Prop) (w:World) (c:Nat) (l:List (T c)) (v:Value) (own:Nat->Prop):Prop:=
 (l=[]/\v = .slice none 0 0)\/∃ k o cap cells el fz,v = .slice (some ⟨k,o,none⟩) l.length cap/\l.length<=cap/\(cap=0\/o=0)/\cap * C.sz c<=cells.size/\l.length * C.sz c<=cells.size/\w.heap[k]? = some (.cells cells el fz)/\Unfz fz cells.size/\own k/\VR I w (C.sz c) (l.map (C.encD c)) k 0
def SVP (w:World) (cs:List Value) (v:Value) (own:Nat->Prop):Prop:=
 ∃ k cells el fz,v = .pointer (some ⟨k,0,none⟩)/\w.heap[k]? = some (.cells cells el fz)/\Unfz fz cells.size/\(∀ x∈cells.toList,x.oneCell'=true)/\own k/\cells.toList=cs
def SVF (C:Cd T) (I:Nat->Prop) (w:World):(f:Fld)->f.ty T->List Value->(Nat->Prop)->Prop
 | .v t,x,vs,_=>VL I w (denL C (encC C t x)) free vs
 | .own c,l,vs,own=>∃ v,vs=[v]/\SVO C I w c l v own
 | .pt t,x,vs,own=>∃ v cs,vs=[v]/\SVP w cs v own/\VL I w (denL C (encC C t x)) free cs
 | .st a c b,x,vs,own=>∃ u v z,vs=u++v::z/\VL I w (denL C (encC C a x.1)) free u/\SVO C I w c x.2.1 v own/\VL I w (denL C (encC C b x.2.2)) free z
 | .fp f t,x,vs,own=>∃ v cs,vs=[.func (.func f) #[] #[v]]/\SVP w cs v own/\VL I w (denL C (encC C t x)) free cs
def SVFs (C:Cd T) (I:Nat->Prop) (w:World):(fs:List Fld)->tyFs T fs->List Value->(Nat->Prop)->Prop
 | [],_,vs,_=>vs=[]
 | f::r,x,vs,own=>∃ a b o1 o2,vs=a++b/\SVF C I w f x.1 a o1/\SVFs C I w r x.2 b o2/\(∀ k,o1 k->own k)/\(∀ k,o2 k->own k)/\(∀ k,o1 k->¬ o2 k)
def SVV (C:Cd T) (I:Nat->Prop) (w:World):(f:Fld)->f.ty T->Value->(Nat->Prop)->Prop
 | .v t,x,v,_=>V I w (den C (encV C t x)) free v
 | .own c,l,v,own=>SVO C I w c l v own
 | .pt t,x,v,own=>∃ cs,SVP w cs v own/\VL I w (denL C (encC C t x)) free cs
 | .st a c b,x,v,own=>∃ vs:List Value,v = .agg vs.toArray/\(∀ y∈vs,y.oneCell'=true)/\∃ u v z,vs=u++v::z/\VL I w (denL C (encC C a x.1)) free u/\SVO C I w c x.2.1 v own/\VL I w (denL C (encC C b x.2.2)) free z
 | .fp f t,x,v,own=>∃ p cs,v = .func (.func f) #[] #[p]/\SVP w cs p own/\VL I w (denL C (encC C t x)) free cs
def SVS (C:Cd T) (I:Nat->Prop) (w:World):(s:Slot)->s.ty T->Value->(Nat->Prop)->Prop
 | .f f,x,v,own=>SVV C I w f x v own
 | .ptr fs,x,v,own=>∃ cs o1 o2,SVP w cs v o1/\SVFs C I w fs x cs o2/\(∀ k,o1 k->own k)/\(∀ k,o2 k->own k)/\(∀ k,o1 k->¬ o2 k)
 | .inp c,l,v,own=>SVO C I w c l v own
 | .iter,x,v,own=>∃ k,v = .pointer (some ⟨k,0,none⟩)/\w.heap[k]? = some (.stringIter ⟨x.1.toArray⟩ x.2)/\own k
 | .mset a c,l,v,own=>∃ k es clock,v = .map (some k)/\w.heap[k]? = some (.map es clock)/\own k/\es.toList.map (λe=>(e.key,e.val))=(l.map λx=>keyV a (C.encD c x)).map λx=>(x,.bool true)
 | .lar c,l,v,own=>∃ k cells el fz,v = .pointer (some ⟨k,0,none⟩)/\l.length * C.sz c<=cells.size/\w.heap[k]? = some (.cells cells el fz)/\Unfz fz cells.size/\own k/\VR I w (C.sz c) (l.map (C.encD c)) k 0
def SVSs (C:Cd T) (I:Nat->Prop) (w:World):(ss:List Slot)->tySs T ss->List Value->(Nat->Prop)->Prop
 | [],_,vs,_=>vs=[]
 | s::r,x,vs,own=>∃ v vr o1 o2,vs=v::vr/\SVS C I w s x.1 v o1/\SVSs C I w r x.2 vr o2/\(∀ k,o1 k->own k)/\(∀ k,o2 k->own k)/\(∀ k,o1 k->¬ o2 k)
def SVVs (C:Cd T) (I:Nat->Prop) (w:World):(fs:List Fld)->tyFs T fs->List Value->(Nat->Prop)->Prop
 | [],_,vs,_=>vs=[]
 | f::r,x,vs,own=>∃ v vr o1 o2,vs=v::vr/\SVV C I w f x.1 v o1/\SVVs C I w r x.2 vr o2/\(∀ k,o1 k->own k)/\(∀ k,o2 k->own k)/\(∀ k,o1 k->¬ o2 k)
variable {C:Cd T} {O I I':Nat->Prop} {w w':World} {loc:Nat->Nat->Loc} {L:Nat->Nat->Nat} {m:MT T} {R:Type} {own own':Nat->Prop}
structure Keep (I I':Nat->Prop) (w w':World) (own:Nat->Prop):Prop where
 ext:Ext I I' w w'
 same:∀ k,own k->w'.heap[k]? = w.heap[k]?
theorem Keep.sub (h:Keep I I' w w' own) (hs:∀ k,own' k->own k):Keep I I' w w' own':=⟨h.ext,λk hk=>h.same k (hs k hk)⟩
theorem Keep.imm (h:∀ k,I k->I' k):Keep I I' w w own:=⟨Vae h,λ_ _=>rfl⟩
theorem SVO.keep {c:Nat} {l:List (T c)} {v:Value} (hk:Keep I I' w w' own) (h:SVO C I w c l v own):SVO C I' w' c l v own:=by
 rcases h with h | ⟨k,o,cap,cells,el,fz,h1,h2,h3,h4,h4',h5,h6,h7,h8⟩
 ·exact .inl h
 ·exact .inr ⟨k,o,cap,cells,el,fz,h1,h2,h3,h4,h4',(hk.same k h7).trans h5,h6,h7,Vb4 hk.ext _ _ k 0 (hk.same k h7) h8⟩
theorem Vaxa {c:Nat} {l:List (T c)} {v:Value} (h:SVO C I w c l v own) (hs:∀ k,own k->own' k):SVO C I w c l v own':=by
 rcases h with h | ⟨k,o,cap,cells,el,fz,h1,h2,h3,h4,h4',h5,h6,h7,h8⟩
 ·exact .inl h
 ·exact .inr ⟨k,o,cap,cells,el,fz,h1,h2,h3,h4,h4',h5,h6,hs k h7,h8⟩
theorem SVP.keep {cs:List Value} {v:Value} (hk:∀ k,own k->w'.heap[k]? = w.heap[k]?) (h:SVP w cs v own):SVP w' cs v own:=by
 obtain ⟨k,cells,el,fz,h1,h2,h3,h4,h5,h6⟩:=h;exact ⟨k,cells,el,fz,h1,(hk k h5).trans h2,h3,h4,h5,h6⟩
theorem SVF.keep {f:Fld} {x:f.ty T} {vs:List Value} (hk:Keep I I' w w' own) (h:SVF C I w f x vs own):SVF C I' w' f x vs own:=by
 cases f with
 | v t=>exact Vaf hk.ext _ free free vs (.refl _) h
 | own c=>obtain ⟨v,h1,h2⟩:=h; exact ⟨v,h1,h2.keep hk⟩
 | pt t=>obtain ⟨v,cs,h1,h2,h3⟩:=h; exact ⟨v,cs,h1,h2.keep hk.same,Vaf hk.ext _ free free cs (.refl _) h3⟩
 | st a c b=>obtain ⟨u,v,z,h1,h2,h3,h4⟩:=h; exact ⟨u,v,z,h1,Vaf hk.ext _ free free u (.refl _) h2,h3.keep hk,Vaf hk.ext _ free free z (.refl _) h4⟩
 | fp f t=>obtain ⟨v,cs,h1,h2,h3⟩:=h; exact ⟨v,cs,h1,h2.keep hk.same,Vaf hk.ext _ free free cs (.refl _) h3⟩
theorem SVFs.keep:∀ {fs:List Fld} {x:tyFs T fs} {vs:List Value} {own:Nat->Prop},Keep I I' w w' own->SVFs C I w fs x vs own->SVFs C I' w' fs x vs own
 | [],x,vs,own,hk,h=>h
 | f::r,x,vs,own,hk,h=>by
  obtain ⟨a,b,o1,o2,h1,h2,h3,h4,h5,h6⟩:=h;exact ⟨a,b,o1,o2,h1,h2.keep (hk.sub h4),SVFs.keep (hk.sub h5) h3,h4,h5,h6⟩
theorem SVV.keep {f:Fld} {x:f.ty T} {v:Value} (hk:Keep I I' w w' own) (h:SVV C I w f x v own):SVV C I' w' f x v own:=by
 cases f with
 | v t=>exact Vaz hk.ext _ free free v (.refl _) h
 | own c=>exact SVO.keep hk h
 | pt t=>obtain ⟨cs,h2,h3⟩:=h; exact ⟨cs,h2.keep hk.same,Vaf hk.ext _ free free cs (.refl _) h3⟩
 | st a c b=>obtain ⟨vs,g1,g2,u,v,z,h1,h2,h3,h4⟩:=h; exact ⟨vs,g1,g2,u,v,z,h1,Vaf hk.ext _ free free u (.refl _) h2,h3.keep hk,Vaf hk.ext _ free free z (.refl _) h4⟩
 | fp f t=>obtain ⟨p,cs,h1,h2,h3⟩:=h; exact ⟨p,cs,h1,h2.keep hk.same,Vaf hk.ext _ free free cs (.refl _) h3⟩
theorem SVS.keep {s:Slot} {x:s.ty T} {v:Value} (hk:Keep I I' w w' own) (h:SVS C I w s x v own):SVS C I' w' s x v own:=by
 cases s with
 | f f=>exact SVV.keep hk h
 | ptr fs=>
  obtain ⟨cs,o1,o2,h1,h2,h3,h4,h5⟩:=h;exact ⟨cs,o1,o2,h1.keep (λk q=>hk.same k (h3 k q)),h2.keep (hk.sub h4),h3,h4,h5⟩
 | inp c=>exact SVO.keep hk h
 | iter=>obtain ⟨k,h1,h2,h3⟩:=h; exact ⟨k,h1,(hk.same k h3).trans h2,h3⟩
 | mset a c=>obtain ⟨k,es,ck,h1,h2,h3,h4⟩:=h; exact ⟨k,es,ck,h1,(hk.same k h3).trans h2,h3,h4⟩
 | lar c=>obtain ⟨k,cells,el,fz,h1,h2,h3,h4,h5,h6⟩:=h; exact ⟨k,cells,el,fz,h1,h2,(hk.same k h5).trans h3,h4,h5,Vb4 hk.ext _ _ k 0 (hk.same k h5) h6⟩
theorem SVSs.keep:∀ {ss:List Slot} {x:tySs T ss} {vs:List Value} {own:Nat->Prop},Keep I I' w w' own->SVSs C I w ss x vs own->SVSs C I' w' ss x vs own
 | [],x,vs,own,hk,h=>h
 | s::r,x,vs,own,hk,h=>by
  obtain ⟨v,vr,o1,o2,h1,h2,h3,h4,h5,h6⟩:=h;exact ⟨v,vr,o1,o2,h1,h2.keep (hk.sub h4),SVSs.keep (hk.sub h5) h3,h4,h5,h6⟩
theorem SVVs.keep:∀ {fs:List Fld} {x:tyFs T fs} {vs:List Value} {own:Nat->Prop},Keep I I' w w' own->SVVs C I w fs x vs own->SVVs C I' w' fs x vs own
 | [],x,vs,own,hk,h=>h
 | s::r,x,vs,own,hk,h=>by
  obtain ⟨v,vr,o1,o2,h1,h2,h3,h4,h5,h6⟩:=h;exact ⟨v,vr,o1,o2,h1,h2.keep (hk.sub h4),SVVs.keep (hk.sub h5) h3,h4,h5,h6⟩
def Owned (C:Cd T) (m:MT T) (loc:Nat->Nat->Loc) (k:Nat):Prop:=∃ b g,b < m.length/\(denB C (m.get b)).owned=true/\loc b g = .blk k
structure Took (C:Cd T) (O I:Nat->Prop) (w:World) (loc:Nat->Nat->Loc) (L:Nat->Nat->Nat) (m:MT T) (own:Nat->Prop) (I':Nat->Prop) (m':MT T) (loc':Nat->Nat->Loc):Prop where
 mem:MRel O I' loc' (denM C m') w
 wf:WfM L m'
 imm0:∀ k,I k->I' k
 imm1:∀ k,I' k->I k\/Owned C m loc k
 ext:LocExt loc loc'
 got:∀ k,own k->¬ I' k/\Owned C m loc k
 rest:∀ k,Owned C m' loc' k->¬ own k/\Owned C m loc k
 len:m'.length=m.length
 lent:∀ b,m.get b = .lent->m'.get b = .lent/\∀ g,loc' b g=loc b g
 arrs:∀ b g c l,m'.get b = .arr g c l->m.get b = .arr g c l
theorem Owned.facts (hm:MRel O I loc (denM C m) w) {k:Nat} (h:Owned C m loc k):O k/\¬ I k/\k < w.heap.size:=by
 obtain ⟨b,g,h1,h2,h3⟩:=h;exact hm.own b g k h1 h2 h3
theorem Took.refl (hm:MRel O I loc (denM C m) w) (hw:WfM L m):Took C O I w loc L m none' I m loc:=
 ⟨hm,hw,λ_ h=>h,λ_ h=>.inl h,.refl _,λ_ h=>h.elim,λ_ h=>⟨λq=>q,h⟩,rfl,λ_ h=>⟨h,λ_=>rfl⟩,λ_ _ _ _ h=>h⟩
theorem Took.trans {I1 I2:Nat->Prop} {m1 m2:MT T} {loc1 loc2:Nat->Nat->Loc} {o1 o2:Nat->Prop} (a:Took C O I w loc L m o1 I1 m1 loc1) (b:Took C O I1 w loc1 L m1 o2 I2 m2 loc2):Took C O I w loc L m (λk=>o1 k\/o2 k) I2 m2 loc2:=by
 have up:∀ k,Owned C m1 loc1 k->Owned C m loc k:=λk h=>(a.rest k h).2;refine ⟨b.mem,b.wf,λk h=>b.imm0 k (a.imm0 k h),λk h=>?_,a.ext.trans b.ext,λk h=>?_,λk h=>?_,b.len.trans a.len,λq h=>⟨(b.lent q (a.lent q h).1).1,λg=>((b.lent q (a.lent q h).1).2 g).trans ((a.lent q h).2 g)⟩,λq g c l h=>a.arrs q g c l (b.arrs q g c l h)⟩
 ·rcases b.imm1 k h with h | h
  ·exact a.imm1 k h
  ·exact .inr (up k h)
 ·rcases h with h | h
  ·refine ⟨λhI=>?_,(a.got k h).2⟩;rcases b.imm1 k hI with q | q
   ·exact (a.got k h).1 q
   ·exact (a.rest k q).1 h
  ·exact ⟨(b.got k h).1,up k (b.got k h).2⟩
 ·obtain ⟨h1,h2⟩:=b.rest k h;obtain ⟨h3,h4⟩:=a.rest k h2;exact ⟨λq=>q.elim h3 h1,h4⟩
theorem Took.disj {I1 I2:Nat->Prop} {m1 m2:MT T} {loc1 loc2:Nat->Nat->Loc} {o1 o2:Nat->Prop} (a:Took C O I w loc L m o1 I1 m1 loc1) (b:Took C O I1 w loc1 L m1 o2 I2 m2 loc2):∀ k,o1 k->¬ o2 k:=λk h1 h2=>(a.rest k (b.got k h2).2).1 h1
theorem Took.V {m':MT T} {loc':Nat->Nat->Loc} (a:Took C O I w loc L m own I' m' loc') {d:DT T} {v:Value} (h:V I w (den C d) loc v):Abs.V I' w (den C d) loc' v:=Vaz (Vae a.imm0) _ loc loc' v a.ext h
theorem Took.fz {m1:MT T} {I1:Nat->Prop} (h1:MRel O I1 loc (denM C m1) w) (h2:WfM L m1) (h3:∀ k,I k->I1 k) (h4:∀ k,I1 k->I k\/∃ b g c l,b < m.length/\m.get b=BoxT.arr g c l/\loc b g = .blk k) (h5:m1.length=m.length)
  (h6:∀ b,m1.get b=m.get b\/∃ g c l,m.get b = .arr g c l/\m1.get b = .frz g c l):Took C O I w loc L m none' I1 m1 loc:=by
 refine ⟨h1,h2,h3,λk h=>?_,.refl _,λ_ h=>h.elim,λk h=>⟨λq=>q,?_⟩,h5,λb h=>⟨?_,λ_=>rfl⟩,λb g c l h=>?_⟩
 ·rcases h4 k h with h | ⟨b,g,c,l,q1,q2,q3⟩
  ·exact .inl h
  ·exact .inr ⟨b,g,q1,by rw [q2]; rfl,q3⟩
 ·obtain ⟨b,g,q1,q2,q3⟩:=h;rcases h6 b with e | ⟨g',c,l,e1,e2⟩
  ·exact ⟨b,g,by rw [<- h5]; exact q1,by rw [<- e]; exact q2,q3⟩
  ·rw [e2] at q2; cases q2
 ·rcases h6 b with e | ⟨g',c,l,e1,e2⟩
  ·rw [e]; exact h
  ·rw [h] at e1; cases e1
 ·rcases h6 b with e | ⟨g',c',l',e1,e2⟩
  ·rw [<- e]; exact h
  ·rw [e2] at h; cases h
def locOut (loc:Nat->Nat->Loc) (b:Nat):Nat->Nat->Loc:=λb' g=>if b'=b then (match loc b' g with | .free=>.free | _=>.stale) else loc b' g
theorem Took.box (hm:MRel O I loc (denM C m) w) (hw:WfM L m) {b:Nat} (hb:b < m.length) (ho:(denB C (m.get b)).owned=true):Took C O I w loc L m (λk=>∃ g,loc b g = .blk k) I (m.put b .gone) (locOut loc b):=by
 have hle:LocExt loc (locOut loc b):=λb' g=>by
  unfold locOut;by_cases e:b'=b
  ·rw [if_pos e]; cases loc b' g<;>simp
  ·rw [if_neg e]; exact .inr (.inr rfl)
 have hbx:∀ b',(denM C (m.put b .gone)).bx b'=if b'=b then .gone else (denM C m).bx b':=λb'=>by
  simp only [denM,Va9 hb];split<;>rfl
 have hnb:(denM C (m.put b .gone)).nb=m.length:=by simp [denM,Vby]
 have hne:∀ {b'},((denM C (m.put b .gone)).bx b').owned=true->b'≠b/\((denM C m).bx b').owned=true:=λ{b'} h=>by
  rw [hbx] at h;by_cases e:b'=b
  ·rw [if_pos e] at h; cases h
  ·rw [if_neg e] at h; exact ⟨e,h⟩
 have hl:∀ {b' g},b'≠b->locOut loc b b' g=loc b' g:=λ{b' g} e=>by unfold locOut; rw [if_neg e]
 refine ⟨⟨λb' hb'=>?_,λb' g hb'=>?_,λb' g k hb' ho' hk=>?_,λb1 b2 g1 g2 k h1 h2 o1 o2 k1 k2=>?_,hm.imm,hm.up⟩,Vdy hb hw trivial,λ_ h=>h,λ_ h=>.inl h,hle,λk h=>?_,λk h=>?_,Vby,λb' h=>?_,λb' g c l h=>?_⟩
 ·rw [hnb] at hb';rw [hbx];by_cases e:b'=b
  ·rw [if_pos e];simp only [RelB];intro g;unfold locOut;rw [if_pos e];cases loc b' g<;>simp
  ·rw [if_neg e];exact Va3 (.refl _ _) hle (λg=>hl e) (λ_ _ _ _=>rfl) (hm.box b' hb')
 ·rw [hnb] at hb';rw [hl (by omega)];exact hm.free b' g hb'
 ·rw [hnb] at hb';obtain ⟨e,h⟩:=hne ho';rw [hl e] at hk;exact hm.own b' g k hb' h hk
 ·rw [hnb] at h1 h2;obtain ⟨e1,q1⟩:=hne o1;obtain ⟨e2,q2⟩:=hne o2;rw [hl e1] at k1;rw [hl e2] at k2;exact hm.inj b1 b2 g1 g2 k h1 h2 q1 q2 k1 k2
 ·obtain ⟨g,hg⟩:=h;exact ⟨(hm.own b g k hb ho hg).2.1,b,g,hb,ho,hg⟩
 ·obtain ⟨b',g,q1,q2,q3⟩:=h;rw [Vby] at q1;obtain ⟨e,h⟩:=hne (b':=b') q2;rw [hl e] at q3;refine ⟨λ⟨g',hg'⟩=>e (hm.inj b' b g g' k q1 hb h ho q3 hg'),b',g,q1,h,q3⟩
 ·have e:b'≠b:=by rintro rfl; rw [h] at ho; cases ho
  rw [Va9 hb,if_neg e];exact ⟨h,λg=>hl e⟩
 ·rw [Va9 hb] at h;split at h
  ·cases h
  ·exact h
theorem Took.sub {m':MT T} {loc':Nat->Nat->Loc} (a:Took C O I w loc L m own I' m' loc') (h:∀ k,own' k->own k):Took C O I w loc L m own' I' m' loc':=
 ⟨a.mem,a.wf,a.imm0,a.imm1,a.ext,λk hk=>a.got k (h k hk),λk hk=>⟨λq=>(a.rest k hk).1 (h k q),(a.rest k hk).2⟩,a.len,a.lent,a.arrs⟩
theorem Vhp (hm:MRel O I loc (denM C m) w) (hw:WfM L m) {c:Nat} {d:DT T} {v:Value} {K:List (T c)->MT T->Option R} {r:R} (hwf:WfD L d) (hv:V I w (den C d) loc v) (h:decOK m c d K=some r) :
  ∃ l own I' m' loc',Took C O I w loc L m own I' m' loc'/\SVO C I' w c l v own/\K l m'=some r:=by
 unfold decOK at h;split at h
 ·simp only [den,V] at hv;exact ⟨[],none',I,m,loc,.refl hm hw,.inl ⟨rfl,hv⟩,h⟩
 ·rename_i b g c' n;split at h
  case h_2=>cases h
  rename_i hc;have hc:=Nat.eq_of_beq_eq_true hc;subst hc;split at h
  case h_2=>cases h
  rename_i l hl;have hb:=Vba hl;have hlt:b < m.length:=by
   simp only [den,V] at hv;exact Va5 (C:=C) (g:=g) hm (by intro e; simp [e] at hv)
  have ho:(denB C (m.get b)).owned=true:=by rw [hb]; rfl
  refine ⟨l,_,I,_,_,Took.box hm hw hlt ho,?_,h⟩;have hwb:=hw b;rw [hb] at hwb;simp only [WfB] at hwb;simp only [WfD] at hwf;have hn:n=l.length:=by rw [<- hwf,hwb]
  have hr:=Vcq hm hlt;rw [hb] at hr;simp only [denB,RelB] at hr;simp only [den,V] at hv;rcases hr.2 with ⟨h1,h2⟩ | ⟨k,cells,el,fz,h1,h2,h3,h4,h5⟩
  ·simp only [h1] at hv;exact .inl ⟨by simpa using h2,hv.2.2⟩
  ·simp only [h1] at hv;obtain ⟨o,cap,rfl,q1,q2,q3⟩:=hv;refine .inr ⟨k,o,cap,cells,el,fz,by rw [hn],by rw [<- hn]; exact q1,by simpa using q2,?_,by simpa using h4,h2,h3,⟨g,h1⟩,h5⟩;simpa [rowSize,h2] using q3
 ·rename_i b g c' n;split at h
  case h_2=>cases h
  rename_i hc;have hc:=Nat.eq_of_beq_eq_true hc;subst hc;split at h
  case h_2=>cases h
  rename_i l hl;cases hle:decide (n<=l.length)<;>simp only [hle,cond_true,cond_false] at h
  ·cases h
  have hle:=of_decide_eq_true hle;have hb:=Vba hl;have hlt:b < m.length:=by
   simp only [den,V] at hv;exact Va5 (C:=C) (g:=g) hm (by intro e; simp [e] at hv)
  have ho:(denB C (m.get b)).owned=true:=by rw [hb]; rfl
  refine ⟨l.take n,_,I,_,_,Took.box hm hw hlt ho,?_,h⟩;have hlen:(l.take n).length=n:=by simp; omega
  have hr:=Vcq hm hlt;rw [hb] at hr;simp only [denB,RelB] at hr;simp only [den,V] at hv;rcases hr.2 with ⟨h1,h2⟩ | ⟨k,cells,el,fz,h1,h2,h3,h4,h5⟩
  ·simp only [h1] at hv;have:l=[]:=by simpa using h2
   exact .inl ⟨by simp [this],hv.2.2⟩
  ·simp only [h1] at hv;obtain ⟨o,cap,rfl,q1,q2,q3⟩:=hv;have q3':cap * C.sz c'<=cells.size:=by simpa [rowSize,h2] using q3
   refine .inr ⟨k,o,cap,cells,el,fz,by rw [hlen],by rw [hlen]; exact q1,by simpa using q2,q3',?_,h2,h3,⟨g,h1⟩,?_⟩
   ·rw [hlen]; exact Nat.le_trans (Nat.mul_le_mul_right _ q1) q3'
   ·rw [List.map_take]; exact Vdr n h5
 ·cases h
end
section
variable {T:Nat->Type} {C:Cd T} {O I I':Nat->Prop} {w w':World} {loc:Nat->Nat->Loc} {L:Nat->Nat->Nat} {m:MT T} {R:Type} {own own':Nat->Prop}
theorem Vcla (hC:CdOk C) (hm:MRel O I loc (denM C m) w) (hw:WfM L m) {cs:List (DT T)} {vs:List Value} {K:List (DT T)->MT T->Option R} {r:R} (hwf:WfL L cs) (hv:VL I w (denL C cs) loc vs) (h:frK C m cs K=some r) :
  ∃ cs' I' m',Took C O I w loc L m none' I' m' loc/\VL I' w (denL C cs') free vs/\cleanL cs'=true/\K cs' m'=some r:=by
 obtain ⟨cs',m',I',g1,g2,g3,g4,g5,g6,g7,g8,h⟩:=Vis hC hm hw hwf hv h;exact ⟨cs',I',m',Took.fz g1 g2 g3 g4 g7 g8,g5,g6,h⟩
theorem dec_v (hC:CdOk C) (hm:MRel O I loc (denM C m) w) (hw:WfM L m) {t:VT} {cs:List (DT T)} {vs:List Value} {K:t.ty T->MT T->Option R} {r:R} (hwf:WfL L cs) (hv:VL I w (denL C cs) loc vs) (h:decVK C m t cs K=some r) :
  ∃ x I' m',Took C O I w loc L m none' I' m' loc/\VL I' w (denL C (encC C t x)) free vs/\K x m'=some r:=by
 unfold decVK at h;obtain ⟨cs',I',m',h1,h2,h3,h4⟩:=Vcla hC hm hw hwf hv h;split at h4
 ·rename_i x hx;exact ⟨x,I',m',h1,Vun hC t cs' x hx I' w vs h2,h4⟩
 ·cases h4
theorem Vn0 (hm:MRel O I loc (denM C m) w) {b:Nat} {cs:List (DT T)} {v:Value} (hb:m.get b = .var cs) (hv:V I w (den C (.bp b 0:DT T)) loc v) :
  b < m.length/\∃ vs,SVP w vs v (λk=>∃ g,loc b g = .blk k)/\VL I w (denL C cs) loc vs:=by
 simp only [den,V] at hv;have hlt:b < m.length:=Va5 (C:=C) (g:=0) hm (by intro e; simp [e] at hv);have hr:=Vcq hm hlt;rw [hb] at hr;simp only [denB,RelB] at hr;obtain ⟨_,k,cells,el,fz,h1,h2,h3,h4,h5⟩:=hr;simp only [h1] at hv;exact ⟨hlt,cells.toList,⟨k,cells,el,fz,hv,h2,h3,h4,⟨0,h1⟩,rfl⟩,h5⟩
theorem dec_f (hC:CdOk C) (hm:MRel O I loc (denM C m) w) (hw:WfM L m) {f:Fld} {cs:List (DT T)} {vs:List Value} {K:f.ty T->MT T->Option R} {r:R} (hwf:WfL L cs) (hv:VL I w (denL C cs) loc vs) (h:decFK C m f cs K=some r) :
  ∃ x own I' m' loc',Took C O I w loc L m own I' m' loc'/\SVF C I' w f x vs own/\K x m'=some r:=by
 cases f with
 | v t=>
  obtain ⟨x,I',m',h1,h2,h3⟩:=dec_v hC hm hw hwf hv h;exact ⟨x,none',I',m',loc,h1,h2,h3⟩
 | own c=>
  simp only [decFK] at h;split at h
  case h_2=>cases h
  rename_i d;simp only [denL,VL] at hv;obtain ⟨v,vr,rfl,hv1,rfl⟩:=hv;obtain ⟨l,own,I',m',loc',h1,h2,h3⟩:=Vhp hm hw hwf.1 hv1 h;exact ⟨l,own,I',m',loc',h1,⟨v,rfl,h2⟩,h3⟩
 | pt t=>
  simp only [decFK] at h;split at h
  case h_2=>cases h
  rename_i b;split at h
  case h_2=>cases h
  rename_i cells hb;simp only [denL,VL] at hv;obtain ⟨v,vr,rfl,hv1,rfl⟩:=hv;obtain ⟨hlt,us,q1,q2⟩:=Vn0 hm hb hv1;have tk:=Took.box hm hw hlt (by rw [hb]; rfl);have hwb:=hw b;rw [hb] at hwb;obtain ⟨x,I',m',h1,h2,h3⟩:=dec_v hC tk.mem tk.wf hwb (Vaf (Vae tk.imm0) _ _ _ _ tk.ext q2) h;refine ⟨x,_,I',m',_,tk.trans h1,⟨v,us,rfl,?_,h2⟩,h3⟩;obtain ⟨k,c2,el,fz,p1,p2,p3,p4,p5,p6⟩:=q1;exact ⟨k,c2,el,fz,p1,p2,p3,p4,.inl p5,p6⟩
 | st a c b=>
  simp only [decFK,decStK] at h;split at h
  case h_2=>cases h
  rename_i d rest hd;have hv1:VL I w (denL C (cs.take (a.sz C))) loc (vs.take (a.sz C)):=by rw [Vcz]; exact Vdq _ hv
  have hv2:VL I w (denL C (cs.drop (a.sz C))) loc (vs.drop (a.sz C)):=by rw [Va1]; exact Vct _ hv
  have hw2:=Veb (a.sz C) hwf;rw [hd] at hv2 hw2;simp only [denL,VL] at hv2;obtain ⟨v,z,hz,hv3,hv4⟩:=hv2;obtain ⟨x,I1,m1,t1,s1,k1⟩:=dec_v hC hm hw (Vjf _ hwf) hv1 h;obtain ⟨l,o2,I2,m2,loc2,t2,s2,k2⟩:=Vhp t1.mem t1.wf hw2.1 (Vaz (Vae t1.imm0) _ _ _ _ t1.ext hv3) k1;obtain ⟨y,I3,m3,t3,s3,k3⟩:=dec_v hC t2.mem t2.wf hw2.2 (Vaf (Vae t2.imm0) _ _ _ _ t2.ext (Vaf (Vae t1.imm0) _ _ _ _ t1.ext hv4)) k2;refine ⟨(x,l,y),_,I3,m3,_,(t1.trans t2).trans t3,⟨vs.take (a.sz C),v,z,?_,?_,?_,s3⟩,k3⟩
  ·rw [<- hz]; exact (List.take_append_drop _ _).symm
  ·exact Vaf (Vae t3.imm0) _ free free _ (.refl _) (Vaf (Vae t2.imm0) _ free free _ (.refl _) s1)
  ·have:=SVO.keep (own:=o2) (Keep.imm t3.imm0) s2;exact Vaxa this λk hk=>.inl (.inr hk)
 | fp f t=>
  simp only [decFK] at h;split at h
  case h_2=>cases h
  rename_i f' b;split at h
  case h_2=>cases h
  rename_i hf;have hf:=Nat.eq_of_beq_eq_true hf;subst hf;split at h
  case h_2=>cases h
  rename_i cells hb;simp only [denL,VL,den,V] at hv;obtain ⟨v,vr,rfl,⟨ws,rfl,hws⟩,rfl⟩:=hv;obtain ⟨p,pr,rfl,hp,rfl⟩:=hws;obtain ⟨hlt,us,q1,q2⟩:=Vn0 hm hb (show V I w (den C (.bp b 0)) loc p by simpa only [den,V] using hp);have tk:=Took.box hm hw hlt (by rw [hb]; rfl);have hwb:=hw b;rw [hb] at hwb;obtain ⟨x,I',m',h1,h2,h3⟩:=dec_v hC tk.mem tk.wf hwb (Vaf (Vae tk.imm0) _ _ _ _ tk.ext q2) h;refine ⟨x,_,I',m',_,tk.trans h1,⟨p,us,rfl,?_,h2⟩,h3⟩;obtain ⟨k,c2,el,fz,p1,p2,p3,p4,p5,p6⟩:=q1;exact ⟨k,c2,el,fz,p1,p2,p3,p4,.inl p5,p6⟩
theorem Vuv (hC:CdOk C):∀ (fs:List Fld) {m:MT T} {I:Nat->Prop} {loc:Nat->Nat->Loc} {cs:List (DT T)} {vs:List Value} {K:tyFs T fs->MT T->Option R} {r:R},MRel O I loc (denM C m) w->WfM L m->WfL L cs->VL I w (denL C cs) loc vs->decFsK C fs m cs K=some r ->
  ∃ x own I' m' loc',Took C O I w loc L m own I' m' loc'/\SVFs C I' w fs x vs own/\K x m'=some r
 | [],m,I,loc,cs,vs,K,r,hm,hw,hwf,hv,h=>by
  simp only [decFsK] at h;split at h
  ·simp only [denL,VL] at hv;exact ⟨(),none',I,m,loc,.refl hm hw,hv,h⟩
  ·cases h
 | f::fs,m,I,loc,cs,vs,K,r,hm,hw,hwf,hv,h=>by
  simp only [decFsK] at h;have hv1:VL I w (denL C (cs.take (f.sz C))) loc (vs.take (f.sz C)):=by rw [Vcz]; exact Vdq _ hv
  have hv2:VL I w (denL C (cs.drop (f.sz C))) loc (vs.drop (f.sz C)):=by rw [Va1]; exact Vct _ hv
  obtain ⟨x,o1,I1,m1,loc1,h1,h2,h3⟩:=dec_f hC hm hw (Vjf _ hwf) hv1 h;obtain ⟨y,o2,I2,m2,loc2,g1,g2,g3⟩:=Vuv hC fs h1.mem h1.wf (Veb _ hwf) (Vaf (Vae h1.imm0) _ _ _ _ h1.ext hv2) h3;refine ⟨(x,y),_,I2,m2,loc2,h1.trans g1,⟨_,_,o1,o2,(List.take_append_drop _ _).symm,h2.keep (.imm g1.imm0),g2,λ_ h=>.inl h,λ_ h=>.inr h,h1.disj g1⟩,g3⟩
theorem Vo6 {I2:Nat->Prop} {t:VT} {x:t.ty T} {d:DT T} {v:Value} (hf:d.fit=true) (hv:V I w (den C d) loc v) (hc:VL I2 w (denL C (encC C t x)) free v.cells.toList) (ha:(∃ c,t = .agg c)↔∃ cs,d = .agg cs) (hl:(encC C t x).length=d.cells.length):V I2 w (den C (encV C t x)) free v:=by
 by_cases hq:∃ cs,d = .agg cs
 ·obtain ⟨c,rfl⟩:=ha.2 hq;obtain ⟨cs,rfl⟩:=hq;simp only [den,V] at hv;obtain ⟨vs,rfl,h1,_⟩:=hv;show V I2 w (.agg (denL C (C.enc c x))) free _;simp only [V];exact ⟨vs,rfl,h1,by simpa [Value.cells,encC] using hc⟩
 ·have hn:∀ l,den C d≠.agg l:=by
   intro l e;cases d<;>simp [den,Vjd] at e;exact hq ⟨_,rfl⟩
  have hone:=Vdz hv (Vbw C d hf) hn;rw [hone] at hc;have hdc:d.cells=[d]:=by
   cases d<;>first | rfl | exact absurd ⟨_,rfl⟩ hq
  rw [hdc] at hl;have hna:∀ c,t≠.agg c:=λc e=>hq (ha.1 ⟨c,e⟩);have he:encV C t x=(encC C t x).headD .dead:=by
   cases t<;>first | rfl | exact absurd rfl (hna _)
  rw [he];match hz:encC C t x,hl with
  | [e],_=>
   rw [hz] at hc;simp only [denL,VL,List.headD_cons] at hc |-;obtain ⟨v',vr,q,h1,h2⟩:=hc;simp only [List.cons.injEq] at q;rw [q.1]; exact h1
theorem Vhq {d:DT T} {f:Fld} (h:d.as f=true):d.fit=true:=by
 unfold DT.as at h;split at h<;>simp_all
theorem Vcma {d:DT T} {t:VT} (h:d.as (.v t)=true):(∃ c,t = .agg c)↔∃ cs,d = .agg cs:=by
 simp only [DT.as,Bool.and_eq_true,beq_iff_eq] at h;have h2:=h.2;constructor
 ·rintro ⟨c,rfl⟩;simp only [VT.isAgg] at h2;cases d<;>simp [DT.isAgg] at h2;exact ⟨_,rfl⟩
 ·rintro ⟨cs,rfl⟩;simp only [DT.isAgg] at h2;cases t<;>simp [VT.isAgg] at h2;exact ⟨_,rfl⟩
def Fld.isOne:Fld->Bool
 | .own _=>true
 | .pt _=>true
 | _=>false
theorem Vcna {d:DT T} {f:Fld} (h:d.as f=true) (hf:f.isOne=true):d.cells=[d]:=by
 cases f with
 | v t=>cases hf
 | own c=>simp only [DT.as,Bool.and_eq_true] at h; cases d<;>first | rfl | simp [DT.isAgg] at h
 | pt t=>simp only [DT.as,Bool.and_eq_true] at h; cases d<;>first | rfl | simp [DT.isAgg] at h
 | st a c b=>cases hf
 | fp f t=>cases hf
theorem V_as {I2:Nat->Prop} {t:VT} {x:t.ty T} {d:DT T} {v:Value} (hf:d.as (.v t)=true) (hv:V I w (den C d) loc v) (hc:VL I2 w (denL C (encC C t x)) free v.cells.toList):V I2 w (den C (encV C t x)) free v:=by
 refine Vo6 (Vhq hf) hv hc (Vcma hf) ?_;have h1:=Vac hc;have h2:=Vac (Vcm (Vhq hf) hv);rw [Van] at h1 h2;omega
theorem Vj1 (hC:CdOk C) (hm:MRel O I loc (denM C m) w) (hw:WfM L m) {f:Fld} {d:DT T} {v:Value} {K:f.ty T->MT T->Option R} {r:R} (hwf:WfD L d) (hv:V I w (den C d) loc v) (ha:d.as f=true) (h:decFK C m f d.cells K=some r) :
  ∃ x own I' m' loc',Took C O I w loc L m own I' m' loc'/\SVV C I' w f x v own/\K x m'=some r:=by
 have hc:=Vcm (Vhq ha) hv;obtain ⟨x,own,I',m',loc',h1,h2,h3⟩:=dec_f hC hm hw (Vbp hwf) hc h;refine ⟨x,own,I',m',loc',h1,?_,h3⟩;cases f with
 | v t=>exact V_as ha hv h2
 | own c=>
  obtain ⟨v',q1,q2⟩:=h2;have hone:v.cells = #[v]:=by
   refine Vdz hv (Vbw C d (Vhq ha)) λl e=>?_;have:=Vcna ha rfl;cases d<;>simp [den,Vjd] at e;simp only [DT.as,DT.isAgg] at ha; simp at ha
  rw [hone] at q1;simp only [List.cons.injEq,and_true] at q1;rw [q1]; exact q2
 | pt t=>
  obtain ⟨v',cs,q1,q2,q3⟩:=h2;have hone:v.cells = #[v]:=by
   refine Vdz hv (Vbw C d (Vhq ha)) λl e=>?_;cases d<;>simp [den,Vjd] at e;simp only [DT.as,DT.isAgg] at ha; simp at ha
  rw [hone] at q1;simp only [List.cons.injEq,and_true] at q1;rw [q1]; exact ⟨cs,q2,q3⟩
 | st a c b=>
  simp only [DT.as,Bool.and_eq_true] at ha;cases d<;>simp [DT.isAgg] at ha;rename_i cs;simp only [den,V] at hv;obtain ⟨vs,rfl,g1,_⟩:=hv;obtain ⟨u,v,z,q1,q2⟩:=h2;exact ⟨vs,rfl,g1,u,v,z,by simpa [Value.cells] using q1,q2⟩
 | fp f t=>
  obtain ⟨v',cs,q1,q2,q3⟩:=h2;have hone:v.cells = #[v]:=by
   refine Vdz hv (Vbw C d (Vhq ha)) λl e=>?_;cases d<;>simp [den,Vjd] at e;simp only [DT.as,DT.isAgg] at ha; simp at ha
  rw [hone] at q1;simp only [List.cons.injEq,and_true] at q1;exact ⟨v',cs,q1,q2,q3⟩
theorem dec_s (hC:CdOk C) (hm:MRel O I loc (denM C m) w) (hw:WfM L m) {s:Slot} {d:DT T} {v:Value} {K:s.ty T->MT T->Option R} {r:R} (hwf:WfD L d) (hv:V I w (den C d) loc v) (h:decSK C m s d K=some r) :
  ∃ x own I' m' loc',Took C O I w loc L m own I' m' loc'/\SVS C I' w s x v own/\K x m'=some r:=by
 cases s with
 | f f=>
  simp only [decSK] at h;split at h
  case h_2=>cases h
  rename_i ha;exact Vj1 hC hm hw hwf hv ha h
 | ptr fs=>
  simp only [decSK] at h;split at h
  case h_2=>cases h
  rename_i b;split at h
  case h_2=>cases h
  rename_i cells hb;obtain ⟨hlt,us,q1,q2⟩:=Vn0 hm hb hv;have tk:=Took.box hm hw hlt (by rw [hb]; rfl);have hwb:=hw b;rw [hb] at hwb;obtain ⟨x,o2,I',m',loc',h1,h2,h3⟩:=Vuv hC fs tk.mem tk.wf hwb (Vaf (Vae tk.imm0) _ _ _ _ tk.ext q2) h;exact ⟨x,_,I',m',loc',tk.trans h1,⟨us,_,o2,q1,h2,λ_ h=>.inl h,λ_ h=>.inr h,tk.disj h1⟩,h3⟩
 | inp c=>exact Vhp hm hw hwf hv h
 | iter=>
  simp only [decSK] at h;split at h
  case h_2=>cases h
  rename_i b;split at h
  case h_2=>cases h
  rename_i l p hb;simp only [den,V] at hv;have hlt:b < m.length:=Va5 (C:=C) (g:=0) hm (by intro e; simp [e] at hv);have hr:=Vcq hm hlt;rw [hb] at hr;simp only [denB,RelB] at hr;obtain ⟨_,k,h1,h2⟩:=hr;simp only [h1] at hv;exact ⟨(l,p),_,I,_,_,Took.box hm hw hlt (by rw [hb]; rfl),⟨k,hv,h2,⟨0,h1⟩⟩,h⟩
 | mset a c=>
  simp only [decSK] at h;split at h
  case h_2=>cases h
  rename_i b;split at h
  case h_2=>cases h
  rename_i a' c' l hb;split at h
  case h_2=>cases h
  rename_i ha;have ha:a=a':=by simpa using ha
  subst ha;split at h
  case h_2=>cases h
  rename_i hc _;subst hc;simp only [den,V] at hv;have hlt:b < m.length:=Va5 (C:=C) (g:=0) hm (by intro e; simp [e] at hv);have hr:=Vcq hm hlt;rw [hb] at hr;simp only [denB,RelB] at hr;obtain ⟨_,k,es,ck,h1,h2,h3⟩:=hr;simp only [h1] at hv;exact ⟨l,_,I,_,_,Took.box hm hw hlt (by rw [hb]; rfl),⟨k,es,ck,hv,h2,⟨0,h1⟩,h3⟩,h⟩
 | lar c=>
  simp only [decSK] at h;split at h
  case h_2=>cases h
  rename_i b g c';split at h
  case h_2=>cases h
  rename_i hc;have hc:=Nat.eq_of_beq_eq_true hc;subst hc;split at h
  case h_2=>cases h
  rename_i l hl;have hb:=Vba hl;simp only [den,V] at hv;have hlt:b < m.length:=Va5 (C:=C) (g:=g) hm (by intro e; simp [e] at hv);have hr:=Vcq hm hlt;rw [hb] at hr;simp only [denB,RelB] at hr;obtain ⟨_,⟨h1,_⟩ | ⟨k,cells,el,fz,h1,h2,h3,h4,h5⟩⟩:=hr
  ·simp [h1] at hv
  simp only [h1] at hv;refine ⟨l,_,I,_,_,Took.box hm hw hlt (by rw [hb]; rfl),⟨k,cells,el,fz,?_,by simpa using h4,h2,h3,⟨g,h1⟩,h5⟩,h⟩;rw [hv]; simp
theorem Vyy (hC:CdOk C):∀ (ss:List Slot) {m:MT T} {I:Nat->Prop} {loc:Nat->Nat->Loc} {ds:List (DT T)} {vs:List Value} {K:tySs T ss->MT T->Option R} {r:R},MRel O I loc (denM C m) w->WfM L m->WfL L ds->VL I w (denL C ds) loc vs->decSsK C ss m ds K=some r ->
  ∃ x own I' m' loc',Took C O I w loc L m own I' m' loc'/\SVSs C I' w ss x vs own/\K x m'=some r
 | [],m,I,loc,ds,vs,K,r,hm,hw,hwf,hv,h=>by
  simp only [decSsK] at h;split at h
  ·simp only [denL,VL] at hv;exact ⟨(),none',I,m,loc,.refl hm hw,hv,h⟩
  ·cases h
 | s::ss,m,I,loc,[],vs,K,r,hm,hw,hwf,hv,h=>by cases h
 | s::ss,m,I,loc,d::ds,vs,K,r,hm,hw,hwf,hv,h=>by
  simp only [decSsK] at h;simp only [denL,VL] at hv;obtain ⟨v,vr,rfl,hv1,hv2⟩:=hv;obtain ⟨x,o1,I1,m1,loc1,h1,h2,h3⟩:=dec_s hC hm hw hwf.1 hv1 h;obtain ⟨y,o2,I2,m2,loc2,g1,g2,g3⟩:=Vyy hC ss h1.mem h1.wf hwf.2 (Vaf (Vae h1.imm0) _ _ _ _ h1.ext hv2) h3;exact ⟨(x,y),_,I2,m2,loc2,h1.trans g1,⟨v,vr,o1,o2,rfl,h2.keep (.imm g1.imm0),g2,λ_ h=>.inl h,λ_ h=>.inr h,h1.disj g1⟩,g3⟩
theorem Vuw (hC:CdOk C):∀ (fs:List Fld) {m:MT T} {I:Nat->Prop} {loc:Nat->Nat->Loc} {ds:List (DT T)} {vs:List Value} {K:tyFs T fs->MT T->Option R} {r:R},MRel O I loc (denM C m) w->WfM L m->WfL L ds->VL I w (denL C ds) loc vs->decFVsK C fs m ds K=some r ->
  ∃ x own I' m' loc',Took C O I w loc L m own I' m' loc'/\SVVs C I' w fs x vs own/\K x m'=some r
 | [],m,I,loc,ds,vs,K,r,hm,hw,hwf,hv,h=>by
  simp only [decFVsK] at h;split at h
  ·simp only [denL,VL] at hv;exact ⟨(),none',I,m,loc,.refl hm hw,hv,h⟩
  ·cases h
 | s::ss,m,I,loc,[],vs,K,r,hm,hw,hwf,hv,h=>by cases h
 | s::ss,m,I,loc,d::ds,vs,K,r,hm,hw,hwf,hv,h=>by
  simp only [decFVsK] at h;simp only [denL,VL] at hv;obtain ⟨v,vr,rfl,hv1,hv2⟩:=hv;split at h
  case h_2=>cases h
  rename_i ha;obtain ⟨x,o1,I1,m1,loc1,h1,h2,h3⟩:=Vj1 hC hm hw hwf.1 hv1 ha h;obtain ⟨y,o2,I2,m2,loc2,g1,g2,g3⟩:=Vuw hC ss h1.mem h1.wf hwf.2 (Vaf (Vae h1.imm0) _ _ _ _ h1.ext hv2) h3;exact ⟨(x,y),_,I2,m2,loc2,h1.trans g1,⟨v,vr,o1,o2,rfl,h2.keep (.imm g1.imm0),g2,λ_ h=>.inl h,λ_ h=>.inr h,h1.disj g1⟩,g3⟩
end
section
variable {T:Nat->Type} {C:Cd T} {O I I':Nat->Prop} {w w':World} {loc:Nat->Nat->Loc} {L:Nat->Nat->Nat} {m:MT T} {R:Type} {own own':Nat->Prop}
structure Put (C:Cd T) (O I:Nat->Prop) (w:World) (loc:Nat->Nat->Loc) (L:Nat->Nat->Nat) (m:MT T) (own:Nat->Prop) (m':MT T) (loc':Nat->Nat->Loc) (L':Nat->Nat->Nat):Prop where
 mem:MRel O I loc' (denM C m') w
 wf:WfM L' m'
 ext:LocExt loc loc'
 lext:LExt loc L L'
 own:∀ k,Owned C m' loc' k->Owned C m loc k\/own k
 len:m.length<=m'.length
 keep:∀ b,b < m.length->m'.get b=m.get b/\∀ g,loc' b g=loc b g
structure Mine (C:Cd T) (O I:Nat->Prop) (w:World) (loc:Nat->Nat->Loc) (m:MT T) (own:Nat->Prop):Prop where
 facts:∀ k,own k->O k/\¬ I k/\k < w.heap.size
 apart:∀ k,own k->¬ Owned C m loc k
theorem Mine.sub (h:Mine C O I w loc m own) (hs:∀ k,own' k->own k):Mine C O I w loc m own':=⟨λk hk=>h.facts k (hs k hk),λk hk=>h.apart k (hs k hk)⟩
theorem Mine.put {m':MT T} {loc':Nat->Nat->Loc} {L':Nat->Nat->Nat} {o1 o2:Nat->Prop} (h:Mine C O I w loc m o2) (p:Put C O I w loc L m o1 m' loc' L') (hd:∀ k,o1 k->¬ o2 k):Mine C O I w loc' m' o2:=
 ⟨h.facts,λk hk hq=>by
  rcases p.own k hq with q | q
  ·exact h.apart k hk q
  ·exact hd k q hk⟩
theorem Put.refl (hm:MRel O I loc (denM C m) w) (hw:WfM L m):Put C O I w loc L m none' m loc L:=⟨hm,hw,.refl _,.refl _ _,λ_ h=>.inl h,Nat.le_refl _,λ_ _=>⟨rfl,λ_=>rfl⟩⟩
theorem LocExt.free_of {loc loc':Nat->Nat->Loc} (h:LocExt loc loc') {b g:Nat} (hf:loc b g≠.free):loc' b g≠.free:=by
 rcases h b g with q | q | q
 ·exact absurd q hf
 ·rw [q]; simp
 ·rw [q]; exact hf
theorem LExt.trans {L' L'':Nat->Nat->Nat} {loc':Nat->Nat->Loc} (h1:LExt loc L L') (he:LocExt loc loc') (h2:LExt loc' L' L''):LExt loc L L'':=λb g hf=>(h2 b g (he.free_of hf)).trans (h1 b g hf)
theorem Put.trans {m1 m2:MT T} {loc1 loc2:Nat->Nat->Loc} {L1 L2:Nat->Nat->Nat} {o1 o2:Nat->Prop} (a:Put C O I w loc L m o1 m1 loc1 L1) (b:Put C O I w loc1 L1 m1 o2 m2 loc2 L2):Put C O I w loc L m (λk=>o1 k\/o2 k) m2 loc2 L2:=
 ⟨b.mem,b.wf,a.ext.trans b.ext,a.lext.trans a.ext b.lext,λk h=>by
  rcases b.own k h with q | q
  ·rcases a.own k q with q | q
   ·exact .inl q
   ·exact .inr (.inl q)
  ·exact .inr (.inr q),Nat.le_trans a.len b.len,λq h=>⟨(b.keep q (Nat.lt_of_lt_of_le h a.len)).1.trans (a.keep q h).1,λg=>((b.keep q (Nat.lt_of_lt_of_le h a.len)).2 g).trans ((a.keep q h).2 g)⟩⟩
theorem Put.sub {m':MT T} {loc':Nat->Nat->Loc} {L':Nat->Nat->Nat} (a:Put C O I w loc L m own' m' loc' L') (h:∀ k,own' k->own k):Put C O I w loc L m own m' loc' L':=
 ⟨a.mem,a.wf,a.ext,a.lext,λk q=>(a.own k q).imp id (h k),a.len,a.keep⟩
theorem Put.add (hm:MRel O I loc (denM C m) w) (hw:WfM L m) (x:BoxT T) (l:Loc) (n:Nat) (hk:∀ k,l = .blk k->(denB C x).owned=true->own k) (ho:Mine C O I w loc m own) (hwx:WfB (updL L m.length 0 n) m.length x)
  (hx:RelB I w (locNew loc m.length l) m.length (denB C x)):Put C O I w loc L m own (m++[x]) (locNew loc m.length l) (updL L m.length 0 n):=by
 have hle:LocExt loc (locNew loc m.length l):=Vav hm l;have hb1:∀ b,b≠m.length->(denM C (m++[x])).bx b=(denM C m).bx b:=λb e=>by simp only [denM,Vfv,if_neg e]
 have hb2:(denM C (m++[x])).bx m.length=denB C x:=by simp only [denM,Vfv,if_true]
 have hl1:∀ b g,b≠m.length->locNew loc m.length l b g=loc b g:=λb g e=>by unfold locNew; rw [if_neg e]
 have hl2:∀ g k,locNew loc m.length l m.length g = .blk k->l = .blk k:=λg k h=>by
  unfold locNew at h;rw [if_pos rfl] at h;split at h
  ·exact h
  ·cases h
 have hnb:(denM C (m++[x])).nb=m.length+1:=by simp [denM]
 have own2:∀ b g k,b < m.length+1->((denM C (m++[x])).bx b).owned=true->locNew loc m.length l b g = .blk k->(b≠m.length/\b < m.length/\((denM C m).bx b).owned=true/\loc b g = .blk k)\/(b=m.length/\own k):=λb g k hb h1 h2=>by
  by_cases e:b=m.length
  ·subst e;rw [hb2] at h1;exact .inr ⟨rfl,hk k (hl2 g k h2) h1⟩
  ·rw [hb1 b e] at h1;rw [hl1 b g e] at h2;exact .inl ⟨e,by omega,h1,h2⟩
 refine ⟨⟨λb hb=>?_,λb g hb=>?_,λb g k hb h1 h2=>?_,λb b' g g' k hb hb' h1 h1' h2 h2'=>?_,hm.imm,hm.up⟩,Ve7 hm hw hwx,hle,LExt.upd (hm.free _ _ (Nat.le_refl _)),λk h=>?_,by simp,λb hb=>⟨by rw [Vfv,if_neg (by omega)],λg=>hl1 b g (by omega)⟩⟩
 ·rw [hnb] at hb;by_cases e:b=m.length
  ·subst e; rw [hb2]; exact hx
  ·rw [hb1 b e];exact Va3 (.refl _ _) hle (λg=>hl1 b g e) (λ_ _ _ _=>rfl) (hm.box b (by show b < m.length; omega))
 ·rw [hnb] at hb;rw [hl1 b g (by omega)];exact hm.free b g (by show m.length<=b; omega)
 ·rw [hnb] at hb;rcases own2 b g k hb h1 h2 with ⟨_,q1,q2,q3⟩ | ⟨_,q⟩
  ·exact hm.own b g k q1 q2 q3
  ·exact ho.facts k q
 ·rw [hnb] at hb hb';rcases own2 b g k hb h1 h2 with ⟨_,q1,q2,q3⟩ | ⟨e,q⟩
  ·rcases own2 b' g' k hb' h1' h2' with ⟨_,p1,p2,p3⟩ | ⟨e',p⟩
   ·exact hm.inj b b' g g' k q1 p1 q2 p2 q3 p3
   ·exact absurd ⟨b,g,q1,q2,q3⟩ (ho.apart k p)
  ·rcases own2 b' g' k hb' h1' h2' with ⟨_,p1,p2,p3⟩ | ⟨e',p⟩
   ·exact absurd ⟨b',g',p1,p2,p3⟩ (ho.apart k q)
   ·rw [e,e']
 ·obtain ⟨b,g,q1,q2,q3⟩:=h;rw [List.length_append,List.length_cons,List.length_nil] at q1;rcases own2 b g k q1 q2 q3 with ⟨_,p1,p2,p3⟩ | ⟨_,p⟩
  ·exact .inl ⟨b,g,p1,p2,p3⟩
  ·exact .inr p
theorem Vhr (hm:MRel O I loc (denM C m) w) (hw:WfM L m) {c:Nat} {l:List (T c)} {v:Value} (hs:SVO C I w c l v own) (ho:Mine C O I w loc m own) :
  ∃ loc' L',Put C O I w loc L m own (m++[.arr 0 c l]) loc' L'/\V I w (den C (.bw m.length 0 c l.length:DT T)) loc' v/\WfD L' (.bw m.length 0 c l.length:DT T):=by
 rcases hs with ⟨rfl,rfl⟩ | ⟨k,o,cap,cells,el,fz,rfl,h2,h3,h4,h4',h5,h6,h7,h8⟩
 ·refine ⟨_,_,Put.add hm hw (.arr 0 c []) .nil 0 (λk h=>by cases h) ho (by simp [WfB,updL]) ?_,?_,by simp [WfD,updL]⟩
  ·simp only [denB,RelB];exact ⟨⟨λg hg=>by omega,λg hg=>by simp [locNew]; omega⟩,.inl ⟨by simp [locNew],rfl⟩⟩
  ·simp [den,V,locNew]
 ·refine ⟨_,_,Put.add hm hw (.arr 0 c l) (.blk k) l.length (λk' h _=>by cases h; exact h7) ho (by simp [WfB,updL]) ?_,?_,by simp [WfD,updL]⟩
  ·simp only [denB,RelB];exact ⟨⟨λg hg=>by omega,λg hg=>by simp [locNew]; omega⟩,.inr ⟨k,cells,el,fz,by simp [locNew],h5,h6,by simpa using h4',h8⟩⟩
  ·simp only [den,V,locNew,if_true];exact ⟨o,cap,rfl,h2,by rcases h3 with h | h<;>simp [h],by rw [rowSize,h5]; simpa using h4⟩
theorem Vhs (hm:MRel O I loc (denM C m) w) (hw:WfM L m) {cs:List (DT T)} {vs:List Value} {v:Value} (hs:SVP w vs v own) (hv:VL I w (denL C cs) loc vs) (hwf:WfL L cs) (ho:Mine C O I w loc m own) :
  ∃ loc' L',Put C O I w loc L m own (m++[.var cs]) loc' L'/\V I w (den C (.bp m.length 0:DT T)) loc' v:=by
 obtain ⟨k,cells,el,fz,rfl,h2,h3,h4,h5,h6⟩:=hs;have hle:LocExt loc (locNew loc m.length (.blk k)):=Vav hm _;refine ⟨_,_,Put.add hm hw (.var cs) (.blk k) 0 (λk' h _=>by cases h; exact h5) ho (Ves (LExt.upd (hm.free _ _ (Nat.le_refl _))) cs vs hv hwf) ?_,?_⟩
 ·simp only [denB,RelB];refine ⟨λg hg=>by simp [locNew,hg],k,cells,el,fz,by simp [locNew],h2,h3,h4,?_⟩;rw [h6]; exact Vaf (.refl _ _) _ _ _ _ hle hv
 ·simp [den,V,locNew]
theorem put_f (hC:CdOk C) (hm:MRel O I loc (denM C m) w) (hw:WfM L m) {f:Fld} {x:f.ty T} {vs:List Value} (hs:SVF C I w f x vs own) (ho:Mine C O I w loc m own) :
  ∃ loc' L',Put C O I w loc L m own (m++(encF C m.length f x).2) loc' L'/\VL I w (denL C (encF C m.length f x).1) loc' vs/\WfL L' (encF C m.length f x).1:=by
 cases f with
 | v t=>exact ⟨loc,L,by simpa [encF] using (Put.refl hm hw).sub (λ_ h=>h.elim),Vci hs,Vat _ (Vao hC t x)⟩
 | own c=>
  obtain ⟨v,rfl,h⟩:=hs;obtain ⟨loc',L',h1,h2,h3⟩:=Vhr hm hw h ho;exact ⟨loc',L',h1,by simp only [encF,denL,VL]; exact ⟨v,[],rfl,h2,rfl⟩,⟨h3,trivial⟩⟩
 | pt t=>
  obtain ⟨v,cs,rfl,h1,h2⟩:=hs;obtain ⟨loc',L',g1,g2⟩:=Vhs hm hw h1 (Vci h2) (Vat _ (Vao hC t x)) ho;exact ⟨loc',L',g1,by simp only [encF,denL,VL]; exact ⟨v,[],rfl,g2,rfl⟩,⟨trivial,trivial⟩⟩
 | st a c b=>
  obtain ⟨u,v,z,rfl,h1,h2,h3⟩:=hs;obtain ⟨loc',L',g1,g2,g3⟩:=Vhr hm hw h2 ho;refine ⟨loc',L',g1,?_,?_⟩
  ·simp only [encF,Vcl,denL];refine Var (Vci h1) ?_;simp only [VL];exact ⟨v,z,rfl,g2,Vci h3⟩
  ·simp only [encF,WfL_iff,List.mem_append,List.mem_cons];rintro d (hd | rfl | hd)
   ·exact WfL_iff.1 (Vat _ (Vao hC a x.1)) d hd
   ·exact g3
   ·exact WfL_iff.1 (Vat _ (Vao hC b x.2.2)) d hd
 | fp f t=>
  obtain ⟨v,cs,rfl,h1,h2⟩:=hs;obtain ⟨loc',L',g1,g2⟩:=Vhs hm hw h1 (Vci h2) (Vat _ (Vao hC t x)) ho;exact ⟨loc',L',g1,by simp only [encF,denL,VL,den,V]; exact ⟨_,[],rfl,⟨[v],rfl,v,[],rfl,by simpa only [den,V] using g2,rfl⟩,rfl⟩,⟨⟨trivial,trivial⟩,trivial⟩⟩
theorem Vux (hC:CdOk C):∀ (fs:List Fld) {m:MT T} {loc:Nat->Nat->Loc} {L:Nat->Nat->Nat} {x:tyFs T fs} {vs:List Value} {own:Nat->Prop},MRel O I loc (denM C m) w->WfM L m->SVFs C I w fs x vs own->Mine C O I w loc m own ->
  ∃ loc' L',Put C O I w loc L m own (m++(encFs C m.length fs x).2) loc' L'/\VL I w (denL C (encFs C m.length fs x).1) loc' vs/\WfL L' (encFs C m.length fs x).1
 | [],m,loc,L,x,vs,own,hm,hw,hs,ho=>⟨loc,L,by simpa [encFs] using (Put.refl hm hw).sub (λ_ h=>h.elim),by have h:vs=[]:=hs; simp [encFs,denL,VL,h],trivial⟩
 | f::fs,m,loc,L,x,vs,own,hm,hw,hs,ho=>by
  obtain ⟨a,b,o1,o2,rfl,h1,h2,h3,h4,h5⟩:=hs;obtain ⟨loc1,L1,p1,p2,p3⟩:=put_f hC hm hw h1 (ho.sub h3);obtain ⟨loc2,L2,q1,q2,q3⟩:=Vux hC fs p1.mem p1.wf (h2.keep (.imm λ_ h=>h)) ((ho.sub h4).put p1 h5);have hlen:(m++(encF C m.length f x.1).2).length=m.length+(encF C m.length f x.1).2.length:=by simp
  rw [hlen] at q1 q2 q3;refine ⟨loc2,L2,?_,?_,?_⟩
  ·have:=(p1.trans q1).sub (own:=own) (λk h=>h.elim (h3 k) (h4 k));simpa [encFs,List.append_assoc] using this
  ·simp only [encFs,Vcl];exact Var (Vaf (.refl _ _) _ _ _ _ q1.ext p2) q2
  ·simp only [encFs,WfL_iff,List.mem_append];rintro d (hd | hd)
   ·exact WfL_iff.1 (Ves q1.lext _ _ p2 p3) d hd
   ·exact WfL_iff.1 q3 d hd
theorem Vaya (hC:CdOk C) (t:VT) (x:t.ty T):WfD L (encV C t x):=by
 have hc:=Vao hC t x;cases t with
 | agg c=>exact Vat (L:=L) _ hc
 | nil=>trivial
 | cons a b=>
  show WfD L ((encC C (.cons a b) x).headD .dead);cases h:encC C (.cons a b) x with
  | nil=>trivial
  | cons d r=>rw [h] at hc; simp only [cleanL,Bool.and_eq_true] at hc; exact Vnu d hc.1
 | fn f cs=>exact Vat (L:=L) _ (Vao hC cs x)
 | _=>trivial
theorem put_v (hC:CdOk C) (hm:MRel O I loc (denM C m) w) (hw:WfM L m) {f:Fld} {x:f.ty T} {v:Value} (hs:SVV C I w f x v own) (ho:Mine C O I w loc m own) :
  ∃ loc' L',Put C O I w loc L m own (m++(encFV C m.length f x).2) loc' L'/\V I w (den C (encFV C m.length f x).1) loc' v/\WfD L' (encFV C m.length f x).1:=by
 cases f with
 | v t=>exact ⟨loc,L,by simpa [encFV] using (Put.refl hm hw).sub (λ_ h=>h.elim),Vni hs,Vaya hC t x⟩
 | own c=>
  obtain ⟨loc',L',h1,h2,h3⟩:=Vhr hm hw hs ho;exact ⟨loc',L',h1,h2,h3⟩
 | pt t=>
  obtain ⟨cs,h1,h2⟩:=hs;obtain ⟨loc',L',g1,g2⟩:=Vhs hm hw h1 (Vci h2) (Vat _ (Vao hC t x)) ho;exact ⟨loc',L',g1,g2,trivial⟩
 | st a c b=>
  obtain ⟨vs,rfl,q,u,v,z,rfl,h1,h2,h3⟩:=hs;obtain ⟨loc',L',g1,g2,g3⟩:=Vhr hm hw h2 ho;refine ⟨loc',L',g1,?_,?_⟩
  ·simp only [encFV,den,V,Vcl,denL];refine ⟨_,rfl,q,Var (Vci h1) ?_⟩;simp only [VL];exact ⟨v,z,rfl,g2,Vci h3⟩
  ·show WfL L' _;simp only [WfL_iff,List.mem_append,List.mem_cons];rintro d (hd | rfl | hd)
   ·exact WfL_iff.1 (Vat _ (Vao hC a x.1)) d hd
   ·exact g3
   ·exact WfL_iff.1 (Vat _ (Vao hC b x.2.2)) d hd
 | fp f t=>
  obtain ⟨p,cs,rfl,h1,h2⟩:=hs;obtain ⟨loc',L',g1,g2⟩:=Vhs hm hw h1 (Vci h2) (Vat _ (Vao hC t x)) ho;exact ⟨loc',L',g1,by simp only [encFV,den,denL,V,VL]; exact ⟨[p],rfl,p,[],rfl,by simpa only [den,V] using g2,rfl⟩,⟨trivial,trivial⟩⟩
theorem Vuy (hC:CdOk C):∀ (fs:List Fld) {m:MT T} {loc:Nat->Nat->Loc} {L:Nat->Nat->Nat} {x:tyFs T fs} {vs:List Value} {own:Nat->Prop},MRel O I loc (denM C m) w->WfM L m->SVVs C I w fs x vs own->Mine C O I w loc m own ->
  ∃ loc' L',Put C O I w loc L m own (m++(encFVs C m.length fs x).2) loc' L'/\VL I w (denL C (encFVs C m.length fs x).1) loc' vs/\WfL L' (encFVs C m.length fs x).1
 | [],m,loc,L,x,vs,own,hm,hw,hs,ho=>⟨loc,L,by simpa [encFVs] using (Put.refl hm hw).sub (λ_ h=>h.elim),by have h:vs=[]:=hs; simp [encFVs,denL,VL,h],trivial⟩
 | f::fs,m,loc,L,x,vs,own,hm,hw,hs,ho=>by
  obtain ⟨v,vr,o1,o2,rfl,h1,h2,h3,h4,h5⟩:=hs;obtain ⟨loc1,L1,p1,p2,p3⟩:=put_v hC hm hw h1 (ho.sub h3);obtain ⟨loc2,L2,q1,q2,q3⟩:=Vuy hC fs p1.mem p1.wf (h2.keep (.imm λ_ h=>h)) ((ho.sub h4).put p1 h5);have hlen:(m++(encFV C m.length f x.1).2).length=m.length+(encFV C m.length f x.1).2.length:=by simp
  rw [hlen] at q1 q2 q3;refine ⟨loc2,L2,?_,?_,?_⟩
  ·have:=(p1.trans q1).sub (own:=own) (λk h=>h.elim (h3 k) (h4 k));simpa [encFVs,List.append_assoc] using this
  ·simp only [encFVs,denL,VL];exact ⟨v,vr,rfl,Vaz (.refl _ _) _ _ _ _ q1.ext p2,q2⟩
  ·simp only [encFVs,WfL];exact ⟨Vjw q1.lext _ _ p2 p3,q3⟩
theorem put_s (hC:CdOk C) (hm:MRel O I loc (denM C m) w) (hw:WfM L m) {s:Slot} {x:s.ty T} {v:Value} (hs:SVS C I w s x v own) (ho:Mine C O I w loc m own) :
  ∃ loc' L',Put C O I w loc L m own (m++(encS C m.length s x).2) loc' L'/\V I w (den C (encS C m.length s x).1) loc' v/\WfD L' (encS C m.length s x).1:=by
 cases s with
 | f f=>exact put_v hC hm hw hs ho
 | ptr fs=>
  obtain ⟨cs,o1,o2,h1,h2,h3,h4,h5⟩:=hs;obtain ⟨loc1,L1,p1,p2,p3⟩:=Vux hC fs hm hw h2 (ho.sub h4);obtain ⟨loc2,L2,q1,q2⟩:=Vhs p1.mem p1.wf h1 p2 p3 ((ho.sub h3).put p1 (λk a b=>h5 k b a));have hlen:(m++(encFs C m.length fs x).2).length=m.length+(encFs C m.length fs x).2.length:=by simp
  rw [hlen] at q2;refine ⟨loc2,L2,?_,q2,trivial⟩;have:=(p1.trans q1).sub (own:=own) (λk h=>h.elim (h4 k) (h3 k));simpa [encS,List.append_assoc] using this
 | inp c=>exact Vhr hm hw hs ho
 | iter=>
  obtain ⟨k,rfl,h2,h3⟩:=hs;refine ⟨_,_,Put.add hm hw (.iter x.1 x.2) (.blk k) 0 (λk' h _=>by cases h; exact h3) ho trivial ?_,?_,trivial⟩
  ·simp only [denB,RelB];exact ⟨λg hg=>by simp [locNew,hg],k,by simp [locNew],h2⟩
  ·simp [encS,den,V,locNew]
 | mset a c=>
  obtain ⟨k,es,ck,rfl,h2,h3,h4⟩:=hs;refine ⟨_,_,Put.add hm hw (.mset a c x) (.blk k) 0 (λk' h _=>by cases h; exact h3) ho trivial ?_,?_,trivial⟩
  ·simp only [denB,RelB];exact ⟨λg hg=>by simp [locNew,hg],k,es,ck,by simp [locNew],h2,h4⟩
  ·simp [encS,den,V,locNew]
 | lar c=>
  change List (T c) at x;obtain ⟨k,cells,el,fz,rfl,h2,h3,h4,h5,h6⟩:=hs;refine ⟨_,_,Put.add hm hw (.arr 0 c x) (.blk k) (List.length x) (λk' h _=>by cases h; exact h5) ho (by simp [WfB,updL]) ?_,?_,trivial⟩
  ·simp only [denB,RelB];exact ⟨⟨λg hg=>by omega,λg hg=>by simp [locNew]; omega⟩,.inr ⟨k,cells,el,fz,by simp [locNew],h3,h4,by rw [List.length_map]; exact h2,h6⟩⟩
  ·simp [encS,den,V,locNew]
theorem Vuz (hC:CdOk C):∀ (ss:List Slot) {m:MT T} {loc:Nat->Nat->Loc} {L:Nat->Nat->Nat} {x:tySs T ss} {vs:List Value} {own:Nat->Prop},MRel O I loc (denM C m) w->WfM L m->SVSs C I w ss x vs own->Mine C O I w loc m own ->
  ∃ loc' L',Put C O I w loc L m own (m++(encSs C m.length ss x).2) loc' L'/\VL I w (denL C (encSs C m.length ss x).1) loc' vs/\WfL L' (encSs C m.length ss x).1
 | [],m,loc,L,x,vs,own,hm,hw,hs,ho=>⟨loc,L,by simpa [encSs] using (Put.refl hm hw).sub (λ_ h=>h.elim),by have h:vs=[]:=hs; simp [encSs,denL,VL,h],trivial⟩
 | f::fs,m,loc,L,x,vs,own,hm,hw,hs,ho=>by
  obtain ⟨v,vr,o1,o2,rfl,h1,h2,h3,h4,h5⟩:=hs;obtain ⟨loc1,L1,p1,p2,p3⟩:=put_s hC hm hw h1 (ho.sub h3);obtain ⟨loc2,L2,q1,q2,q3⟩:=Vuz hC fs p1.mem p1.wf (h2.keep (.imm λ_ h=>h)) ((ho.sub h4).put p1 h5);have hlen:(m++(encS C m.length f x.1).2).length=m.length+(encS C m.length f x.1).2.length:=by simp
  rw [hlen] at q1 q2 q3;refine ⟨loc2,L2,?_,?_,?_⟩
  ·have:=(p1.trans q1).sub (own:=own) (λk h=>h.elim (h3 k) (h4 k));simpa [encSs,List.append_assoc] using this
  ·simp only [encSs,denL,VL];exact ⟨v,vr,rfl,Vaz (.refl _ _) _ _ _ _ q1.ext p2,q2⟩
  ·simp only [encSs,WfL];exact ⟨Vjw q1.lext _ _ p2 p3,q3⟩
end
section
variable {T:Nat->Type}
def resV:List Value->Value
 | [x]=>x
 | l=>.tuple l.toArray
def SVOuts (C:Cd T) (I:Nat->Prop) (w:World):(ss:List Slot)->tyO T ss->List Value->(Nat->Prop)->Prop
 | [],_,_,_=>True
 | .ptr fs::r,x,vs,own=>∃ v vr o1 o2,vs=v::vr/\SVS C I w (.ptr fs) x.1 v o1/\SVOuts C I w r x.2 vr o2/\(∀ k,o1 k->own k)/\(∀ k,o2 k->own k)/\(∀ k,o1 k->¬ o2 k)
 | .inp c::r,x,vs,own=>∃ v vr o1 o2,vs=v::vr/\SVO C I w c x.1 v o1/\SVOuts C I w r x.2 vr o2/\(∀ k,o1 k->own k)/\(∀ k,o2 k->own k)/\(∀ k,o1 k->¬ o2 k)
 | .f _::r,x,vs,own=>∃ v vr,vs=v::vr/\SVOuts C I w r x vr own
 | .iter::r,x,vs,own=>∃ v vr,vs=v::vr/\SVOuts C I w r x vr own
 | .lar _::r,x,vs,own=>∃ v vr,vs=v::vr/\SVOuts C I w r x vr own
 | .mset _ _::r,x,vs,own=>∃ v vr,vs=v::vr/\SVOuts C I w r x vr own
def SoundT (P:Program) (C:Cd T) (G:Nat->Option (List D)) (f:FuncId) (S:FSpec T):Prop:=
 (∃ fn, P.funcs[f]? = some fn ∧ fn.body.isSome = true ∧ (fn.name == "runtime.NumGoroutine") = false) ∧
 ∀ (I own:Nat->Prop) (w:World) (args:List Value) (x:tySs T S.ps) (r:tyO T S.ps×tyFs T S.rs),
  (∀ k,I k->k < w.heap.size)->(∀ k,own k->¬ I k/\k < w.heap.size)->Glob G I w->SVSs C I w S.ps x args own->S.fn x=some r ->
  Calls P f args.toArray w λe w'=>∃ vs I' o1 o2,e = .returned (resV vs)/\Fr (λk=>own k\/w.heap.size<=k) w w'/\(∀ b,rowSize w b<=rowSize w' b)/\(∀ k,I k->I' k)/\(∀ k,I' k->I k\/own k\/w.heap.size<=k)/\(∀ k,I' k->k < w'.heap.size) /\
   (∀ k,o1 k\/o2 k->(own k\/w.heap.size<=k)/\¬ I' k/\k < w'.heap.size)/\(∀ k,o1 k->¬ o2 k)/\SVOuts C I' w' S.ps r.1 args o1/\SVVs C I' w' S.rs r.2 vs o2
variable {C:Cd T} {O I I':Nat->Prop} {w w':World} {loc:Nat->Nat->Loc} {L:Nat->Nat->Nat} {m m0:MT T} {R:Type} {own own':Nat->Prop} {P:Program}
mutual
theorem Vfl {I2:Nat->Prop} {w2:World} {loc2:Nat->Nat->Loc}:∀ (d:D) (v:Value),d.flat=true->V I w d loc v->V I2 w2 d loc2 v
 | .bool _,_,_,h=>by simpa only [V] using h
 | .int _ _,_,_,h=>by simpa only [V] using h
 | .str _,_,_,h=>by simpa only [V] using h
 | .lit _,_,_,h=>by simpa only [V] using h
 | .nilp,_,_,h=>by simpa only [V] using h
 | .nils,_,_,h=>by simpa only [V] using h
 | .agg cs,v,hf,h=>by
  simp only [V] at h |-;obtain ⟨vs,h1,h2,h3⟩:=h;exact ⟨vs,h1,h2,VLfl cs vs hf h3⟩
 | .tup cs,v,hf,h=>by
  simp only [V] at h |-;obtain ⟨vs,h1,h3⟩:=h;exact ⟨vs,h1,VLfl cs vs hf h3⟩
 | .dead,_,_,_=>trivial
 | .rp _,_,hf,_=>by cases hf
 | .bp _ _,_,hf,_=>by cases hf
 | .ap _ _ _ _ _,_,hf,_=>by cases hf
 | .rs _ _,_,hf,_=>by cases hf
 | .bs _ _ _ _ _,_,hf,_=>by cases hf
 | .fn _ _,_,hf,_=>by cases hf
theorem VLfl {I2:Nat->Prop} {w2:World} {loc2:Nat->Nat->Loc}:∀ (ds:List D) (vs:List Value),flatL ds=true->VL I w ds loc vs->VL I2 w2 ds loc2 vs
 | [],vs,_,h=>by simpa only [VL] using h
 | d::r,vs,hf,h=>by
  simp only [flatL,Bool.and_eq_true] at hf;simp only [VL] at h |-;obtain ⟨v,vr,rfl,h1,h2⟩:=h;exact ⟨v,vr,rfl,Vfl d v hf.1 h1,VLfl r vr hf.2 h2⟩
end
theorem Vaza {I2:Nat->Prop} {ds:List D} {b o:Nat} (hf:flatL ds=true) (h:VC I w ds b o):VC I2 w ds b o:=by
 obtain ⟨vs,h1,h2,h3⟩:=Vcu h;exact Vc6 (VLfl ds vs hf h1) h2 h3
def FlOk (C:Cd T) (fl:Nat->Bool):Prop:=∀ c,fl c=true->∀ x,flatL (C.encD c x)=true
theorem Vxe {fl:Nat->Bool} (hfl:FlOk C fl) {I2:Nat->Prop} {c:Nat} {l:List (T c)} {v:Value} (hf:fl c=true) (h:SVO C I w c l v own):SVO C I2 w c l v own:=by
 rcases h with h | ⟨k,o,cap,cells,el,fz,h1,h2,h3,h4,h4',h5,h6,h7,h8⟩
 ·exact .inl h
 ·refine .inr ⟨k,o,cap,cells,el,fz,h1,h2,h3,h4,h4',h5,h6,h7,?_⟩;rw [Vg9] at h8 |-;intro i row hi;obtain ⟨q1,q2⟩:=h8 i row hi;rw [List.getElem?_map,Option.map_eq_some_iff] at hi;obtain ⟨x,_,rfl⟩:=hi;exact ⟨q1,Vaza (hfl c hf x) q2⟩
theorem Vlo (hC:CdOk C) {fl:Nat->Bool} (hfl:FlOk C fl) {t:VT} (x:t.ty T) (hf:(Fld.v t).flat fl=true):flatL (denL C (encC C t x))=true:=by
 cases t<;>simp only [Fld.flat,VT.flat] at hf<;>first | (cases hf; done) | rfl | skip
 rename_i c;show flatL (denL C (C.enc c x))=true;exact (congrArg (λq=>flatL q=true) (hC.enc c x)).mpr (hfl c hf x)
theorem Vu0 (hC:CdOk C) {fl:Nat->Bool} (hfl:FlOk C fl) {t:VT} (x:t.ty T) (hf:(Fld.v t).flat fl=true):(den C (encV C t x)).flat=true:=by
 have:=Vlo hC hfl x hf;cases t<;>simp only [Fld.flat,VT.flat] at hf<;>first | (cases hf; done) | rfl | skip
 exact this
theorem Vxf (hC:CdOk C) {fl:Nat->Bool} (hfl:FlOk C fl) {I2:Nat->Prop} {f:Fld} {x:f.ty T} {v:Value} (hf:f.flat fl=true) (h:SVV C I w f x v own):SVV C I2 w f x v own:=by
 cases f with
 | v t=>exact Vfl _ v (Vu0 hC hfl x hf) h
 | own c=>exact Vxe hfl hf h
 | pt t=>
  obtain ⟨cs,h1,h2⟩:=h;refine ⟨cs,h1,VLfl _ cs (Vlo hC hfl x ?_) h2⟩;cases t<;>exact hf
 | st a c b=>cases hf
 | fp f t=>cases hf
theorem Vht (hC:CdOk C) {fl:Nat->Bool} (hfl:FlOk C fl) {I2:Nat->Prop}:∀ {fs:List Fld} {x:tyFs T fs} {vs:List Value} {own:Nat->Prop},fs.all (Fld.flat fl)=true->SVVs C I w fs x vs own->SVVs C I2 w fs x vs own
 | [],x,vs,own,hf,h=>h
 | f::r,x,vs,own,hf,h=>by
  simp only [List.all_cons,Bool.and_eq_true] at hf;obtain ⟨v,vr,o1,o2,h1,h2,h3,h4⟩:=h;exact ⟨v,vr,o1,o2,h1,Vxf hC hfl hf.1 h2,Vht hC hfl hf.2 h3,h4⟩
theorem Vn1 (hC:CdOk C) (hm:MRel O I loc (denM C m) w) (hw:WfM L m) {t:VT} {d:DT T} {v:Value} {K:List (DT T)->Option R} {r:R} (hwf:WfD L d) (hv:V I w (den C d) loc v) (ha:d.as (.v t)=true) (h:mapK (purK C m true 8) d.cells K=some r) :
  ∃ cs,(∀ x,decC C t cs=some x->V (λk=>k < w.heap.size) w (den C (encV C t x)) free v)/\K cs=some r:=by
 rw [Vbr,Option.bind_eq_some_iff] at h;obtain ⟨cs,h1,h2⟩:=h;have hc:=Vcm (Vhq ha) hv;have h3:=Vhl (purK C m true 8) (λd=>purK C m true 8 d some) (λx K=>Ve4 C m true 8 x K) d.cells cs h1;have hw2:=Vbp hwf;have:=Vju (J:=λk=>k < w.heap.size) (loc':=free) d.cells cs _ h3 hc (λq q' u hq hp hu=>Vmi hC hm hw hm.imm true 8 q q' u (.inl λ_ h=>h) hp (WfL_iff.1 hw2 q hq) hu);exact ⟨cs,λx hx=>V_as ha hv (Vun hC t cs x hx _ w _ this.1),h2⟩
theorem Vu1 (hC:CdOk C) (hm:MRel O I loc (denM C m) w) (hw:WfM L m):∀ (ss:List Slot) {ds:List (DT T)} {vs:List Value} {K:tySs T ss->Option R} {r:R},WfL L ds->VL I w (denL C ds) loc vs->decVsK C m ss ds K=some r ->
  ∃ x,SVSs C (λk=>k < w.heap.size) w ss x vs none'/\K x=some r
 | [],ds,vs,K,r,hwf,hv,h=>by
  simp only [decVsK] at h;split at h
  ·simp only [denL,VL] at hv;exact ⟨(),hv,h⟩
  ·cases h
 | .f (.v t)::ss,[],vs,K,r,hwf,hv,h=>by simp [decVsK] at h
 | .f (.v t)::ss,d::ds,vs,K,r,hwf,hv,h=>by
  simp only [decVsK] at h;split at h
  case h_2=>cases h
  rename_i ha;simp only [denL,VL] at hv;obtain ⟨v,vr,rfl,hv1,hv2⟩:=hv;obtain ⟨cs,h1,h2⟩:=Vn1 hC hm hw hwf.1 hv1 ha h;split at h2
  case h_2=>cases h2
  rename_i x hx;obtain ⟨y,g1,g2⟩:=Vu1 hC hm hw ss hwf.2 hv2 h2;exact ⟨(x,y),⟨v,vr,none',none',rfl,h1 x hx,g1,λ_ h=>h.elim,λ_ h=>h.elim,λ_ h=>h.elim⟩,g2⟩
 | .f (.own c)::ss,ds,vs,K,r,hwf,hv,h=>by simp [decVsK] at h
 | .f (.pt c)::ss,ds,vs,K,r,hwf,hv,h=>by simp [decVsK] at h
 | .f (.st _ _ _)::ss,ds,vs,K,r,hwf,hv,h=>by simp [decVsK] at h
 | .f (.fp _ _)::ss,ds,vs,K,r,hwf,hv,h=>by simp [decVsK] at h
 | .ptr fs::ss,ds,vs,K,r,hwf,hv,h=>by simp [decVsK] at h
 | .inp c::ss,ds,vs,K,r,hwf,hv,h=>by simp [decVsK] at h
 | .iter::ss,ds,vs,K,r,hwf,hv,h=>by simp [decVsK] at h
 | .lar _::ss,ds,vs,K,r,hwf,hv,h=>by simp [decVsK] at h
 | .mset _ _::ss,ds,vs,K,r,hwf,hv,h=>by simp [decVsK] at h
theorem Vxg (h:Fr (λk=>none' k\/w.heap.size<=k) w w'):Fr none' w w':=
 ⟨h.os,h.tape,h.output,h.size,λb hb _=>h.block b hb (λq=>q.elim (λq=>q.elim) (λq=>by omega))⟩
theorem MRel.stepO {M:Mem} (hm:MRel O I loc M w) (hf:Fr (λk=>own k\/w.heap.size<=k) w w') (hr:∀ b,rowSize w b<=rowSize w' b) (hI:∀ k,I k->I' k) (hI2:∀ k,I' k->I k\/own k\/w.heap.size<=k) (hI3:∀ k,I' k->k < w'.heap.size)
  (h1:∀ k,own k->¬ I k) (h2:∀ b g k,b < M.nb->(M.bx b).owned=true->loc b g = .blk k->¬ own k):MRel O I' loc M w'/\Ext I I' w w':=by
 have hsame:∀ k,k < w.heap.size->¬ own k->w'.heap[k]? = w.heap[k]?:=λk hk ho=>hf.block k hk (λq=>q.elim ho (λq=>by omega));have he:Ext I I' w w':=⟨hI,λk hk=>hsame k (hm.imm k hk) (λq=>h1 k q hk),hr⟩;refine ⟨⟨λb hb=>Va3 he (.refl _) (λ_=>rfl) (λho g k hk=>hsame k (hm.own b g k hb ho hk).2.2 (h2 b g k hb ho hk)) (hm.box b hb),hm.free,λb g k hb ho hk=>?_,hm.inj,hI3,λk hk=>hm.up k (Nat.le_trans hf.size hk)⟩,he⟩;have:=hm.own b g k hb ho hk;refine ⟨this.1,λq=>?_,Nat.lt_of_lt_of_le this.2.2 hf.size⟩;rcases hI2 k q with q | q | q
 ·exact this.2.1 q
 ·exact h2 b g k hb ho hk q
 ·omega
def LentP (m:MT T) (loc:Nat->Nat->Loc) (b:Nat) (v:Value):Prop:=b < m.length/\m.get b = .lent/\∃ k,v = .pointer (some ⟨k,0,none⟩)/\loc b 0 = .blk k/\∀ g,g≠0->loc b g = .free
def LentA (m0 m:MT T) (loc:Nat->Nat->Loc) (L:Nat->Nat->Nat) (b c:Nat) (v:Value):Prop:=
 b < m.length/\m.get b = .lent/\∃ g l0,m0.get b = .arr g c l0/\(∀ g',g' < g->loc b g' = .stale)/\(∀ g',g < g'->loc b g' = .free)/\∃ a n cap,v = .slice a n cap/\L b g=n/\((loc b g = .nil/\a=none)\/∃ k o,loc b g = .blk k/\a=some ⟨k,o,none⟩)
def Lent (m0 m:MT T) (loc:Nat->Nat->Loc) (L:Nat->Nat->Nat):List Slot->List Nat->List Value->Prop
 | [],ids,_=>ids=[]
 | .ptr _::r,ids,vs=>∃ b ir v vr,ids=b::ir/\vs=v::vr/\LentP m loc b v/\(∀ b'∈ir,b'≠b)/\Lent m0 m loc L r ir vr
 | .inp c::r,ids,vs=>∃ b ir v vr,ids=b::ir/\vs=v::vr/\LentA m0 m loc L b c v/\(∀ b'∈ir,b'≠b)/\Lent m0 m loc L r ir vr
 | .f _::r,ids,vs=>∃ v vr,vs=v::vr/\Lent m0 m loc L r ids vr
 | .iter::r,ids,vs=>∃ v vr,vs=v::vr/\Lent m0 m loc L r ids vr
 | .lar _::r,ids,vs=>∃ v vr,vs=v::vr/\Lent m0 m loc L r ids vr
 | .mset _ _::r,ids,vs=>∃ v vr,vs=v::vr/\Lent m0 m loc L r ids vr
theorem Took.lend (hm:MRel O I loc (denM C m) w) (hw:WfM L m) {b:Nat} (hb:b < m.length) (ho:(denB C (m.get b)).owned=true):Took C O I w loc L m (λk=>∃ g,loc b g = .blk k) I (m.put b .lent) loc:=by
 have hbx:∀ b',(denM C (m.put b .lent)).bx b'=if b'=b then .lent else (denM C m).bx b':=λb'=>by
  simp only [denM,Va9 hb];split<;>rfl
 have hnb:(denM C (m.put b .lent)).nb=m.length:=by simp [denM,Vby]
 have hne:∀ {b'},((denM C (m.put b .lent)).bx b').owned=true->b'≠b/\((denM C m).bx b').owned=true:=λ{b'} h=>by
  rw [hbx] at h;by_cases e:b'=b
  ·rw [if_pos e] at h; cases h
  ·rw [if_neg e] at h; exact ⟨e,h⟩
 refine ⟨⟨λb' hb'=>?_,λb' g hb'=>?_,λb' g k hb' ho' hk=>?_,λb1 b2 g1 g2 k h1 h2 o1 o2 k1 k2=>?_,hm.imm,hm.up⟩,Vdy hb hw trivial,λ_ h=>h,λ_ h=>.inl h,.refl _,λk h=>?_,λk h=>?_,Vby,λb' h=>⟨?_,λ_=>rfl⟩,λb' g c l h=>?_⟩
 ·rw [hnb] at hb';rw [hbx];by_cases e:b'=b
  ·rw [if_pos e]; trivial
  ·rw [if_neg e]; exact hm.box b' hb'
 ·rw [hnb] at hb'; exact hm.free b' g hb'
 ·rw [hnb] at hb';exact hm.own b' g k hb' (hne ho').2 hk
 ·rw [hnb] at h1 h2;exact hm.inj b1 b2 g1 g2 k h1 h2 (hne o1).2 (hne o2).2 k1 k2
 ·obtain ⟨g,hg⟩:=h;exact ⟨(hm.own b g k hb ho hg).2.1,b,g,hb,ho,hg⟩
 ·obtain ⟨b',g,q1,q2,q3⟩:=h;rw [Vby] at q1;obtain ⟨e,h⟩:=hne (b':=b') q2;exact ⟨λ⟨g',hg'⟩=>e (hm.inj b' b g g' k q1 hb h ho q3 hg'),b',g,q1,h,q3⟩
 ·rw [Va9 hb];split
  ·rfl
  ·exact h
 ·rw [Va9 hb] at h;split at h
  ·cases h
  ·exact h
theorem Vfw (hC:CdOk C) (m0:MT T):∀ (ss:List Slot) {m:MT T} {I:Nat->Prop} {loc:Nat->Nat->Loc} {ds:List (DT T)} {vs:List Value} {K:tySs T ss->List Nat->MT T->Option R} {r:R},MRel O I loc (denM C m) w->WfM L m->WfL L ds->VL I w (denL C ds) loc vs ->
  (∀ b g c l,m.get b = .arr g c l->m0.get b = .arr g c l)->argsK C false ss m ds K=some r ->
  ∃ x ids own I' m' loc',Took C O I w loc L m own I' m' loc'/\SVSs C I' w ss x vs own/\Lent m0 m' loc' L ss ids vs/\(∀ b∈ids,m.get b≠.lent)/\K x ids m'=some r
 | [],m,I,loc,ds,vs,K,r,hm,hw,hwf,hv,h0,h=>by
  simp only [argsK] at h;split at h
  ·simp only [denL,VL] at hv;exact ⟨(),[],none',I,m,loc,.refl hm hw,hv,rfl,by simp,h⟩
  ·cases h
 | .f (.v t)::ss,m,I,loc,[],vs,K,r,hm,hw,hwf,hv,h0,h=>by simp [argsK] at h
 | .f (.v t)::ss,m,I,loc,d::ds,vs,K,r,hm,hw,hwf,hv,h0,h=>by
  simp only [argsK] at h;split at h
  case h_2=>cases h
  rename_i ha;simp only [denL,VL] at hv;obtain ⟨v,vr,rfl,hv1,hv2⟩:=hv;obtain ⟨x,o1,I1,m1,loc1,h1,h2,h3⟩:=Vj1 hC hm hw hwf.1 hv1 ha h;obtain ⟨y,ids,o2,I2,m2,loc2,g1,g2,g3,g4,g5⟩:=Vfw hC m0 ss h1.mem h1.wf hwf.2 (Vaf (Vae h1.imm0) _ _ _ _ h1.ext hv2) (λb g c l hb=>h0 b g c l (h1.arrs b g c l hb)) h3;refine ⟨(x,y),ids,_,I2,m2,loc2,h1.trans g1,⟨v,vr,o1,o2,rfl,SVV.keep (.imm g1.imm0) h2,g2,λ_ h=>.inl h,λ_ h=>.inr h,h1.disj g1⟩,⟨v,vr,rfl,g3⟩,λb hb hl=>g4 b hb (h1.lent b hl).1,g5⟩
 | .f (.own c)::ss,m,I,loc,[],vs,K,r,hm,hw,hwf,hv,h0,h=>by simp [argsK] at h
 | .f (.own c)::ss,m,I,loc,d::ds,vs,K,r,hm,hw,hwf,hv,h0,h=>by
  simp only [argsK] at h;simp only [denL,VL] at hv;obtain ⟨v,vr,rfl,hv1,hv2⟩:=hv;obtain ⟨x,o1,I1,m1,loc1,h1,h2,h3⟩:=Vhp hm hw hwf.1 hv1 h;obtain ⟨y,ids,o2,I2,m2,loc2,g1,g2,g3,g4,g5⟩:=Vfw hC m0 ss h1.mem h1.wf hwf.2 (Vaf (Vae h1.imm0) _ _ _ _ h1.ext hv2) (λb g c l hb=>h0 b g c l (h1.arrs b g c l hb)) h3;exact ⟨(x,y),ids,_,I2,m2,loc2,h1.trans g1,⟨v,vr,o1,o2,rfl,SVO.keep (.imm g1.imm0) h2,g2,λ_ h=>.inl h,λ_ h=>.inr h,h1.disj g1⟩,⟨v,vr,rfl,g3⟩,λb hb hl=>g4 b hb (h1.lent b hl).1,g5⟩
 | .f (.pt c)::ss,m,I,loc,ds,vs,K,r,hm,hw,hwf,hv,h0,h=>by simp [argsK] at h
 | .f (.st _ _ _)::ss,m,I,loc,ds,vs,K,r,hm,hw,hwf,hv,h0,h=>by simp [argsK] at h
 | .f (.fp f t)::ss,m,I,loc,[],vs,K,r,hm,hw,hwf,hv,h0,h=>by simp [argsK] at h
 | .f (.fp f t)::ss,m,I,loc,d::ds,vs,K,r,hm,hw,hwf,hv,h0,h=>by
  simp only [argsK] at h;split at h
  case h_2=>cases h
  rename_i ha;simp only [denL,VL] at hv;obtain ⟨v,vr,rfl,hv1,hv2⟩:=hv;obtain ⟨x,o1,I1,m1,loc1,h1,h2,h3⟩:=Vj1 hC hm hw hwf.1 hv1 ha h;obtain ⟨y,ids,o2,I2,m2,loc2,g1,g2,g3,g4,g5⟩:=Vfw hC m0 ss h1.mem h1.wf hwf.2 (Vaf (Vae h1.imm0) _ _ _ _ h1.ext hv2) (λb g c l hb=>h0 b g c l (h1.arrs b g c l hb)) h3;exact ⟨(x,y),ids,_,I2,m2,loc2,h1.trans g1,⟨v,vr,o1,o2,rfl,SVV.keep (.imm g1.imm0) h2,g2,λ_ h=>.inl h,λ_ h=>.inr h,h1.disj g1⟩,⟨v,vr,rfl,g3⟩,λb hb hl=>g4 b hb (h1.lent b hl).1,g5⟩
 | .ptr fs::ss,m,I,loc,[],vs,K,r,hm,hw,hwf,hv,h0,h=>by simp [argsK] at h
 | .ptr fs::ss,m,I,loc,d::ds,vs,K,r,hm,hw,hwf,hv,h0,h=>by
  simp only [argsK] at h;split at h
  case h_2=>cases h
  rename_i b;split at h
  case h_2=>cases h
  rename_i cells hb;simp only [denL,VL] at hv;obtain ⟨v,vr,rfl,hv1,hv2⟩:=hv;obtain ⟨hlt,us,q1,q2⟩:=Vn0 hm hb hv1;have hr:=Vcq hm hlt;rw [hb] at hr;simp only [denB,RelB] at hr;obtain ⟨hfr,kk,_,_,_,hk0,_⟩:=hr;have tk:=Took.lend hm hw hlt (by rw [hb]; rfl);have hwb:=hw b;rw [hb] at hwb;obtain ⟨x,o2,I1,m1,loc1,h1,h2,h3⟩:=Vuv hC fs tk.mem tk.wf hwb q2 h;have t1:=tk.trans h1;obtain ⟨y,ids,o3,I2,m2,loc2,g1,g2,g3,g4,g5⟩:=Vfw hC m0 ss t1.mem t1.wf hwf.2 (Vaf (Vae t1.imm0) _ _ _ _ t1.ext hv2) (λb g c l hb=>h0 b g c l (t1.arrs b g c l hb)) h3;have hl0:(m.put b .lent).get b = .lent:=by rw [Va9 hlt,if_pos rfl]
  have hl1:=h1.lent b hl0;have hl2:=g1.lent b hl1.1;have hv0:v = .pointer (some ⟨kk,0,none⟩):=by
   have:=hv1;simp only [den,V,hk0] at this;exact this
  refine ⟨(x,y),b::ids,_,I2,m2,loc2,t1.trans g1,⟨v,vr,_,o3,rfl,⟨us,_,o2,q1,h2.keep (.imm g1.imm0),λ_ h=>.inl h,λ_ h=>.inr h,tk.disj h1⟩,g2,λ_ h=>.inl h,λ_ h=>.inr h,t1.disj g1⟩,
   ⟨b,ids,v,vr,rfl,rfl,⟨by rw [g1.len,t1.len]; exact hlt,hl2.1,kk,hv0,by rw [hl2.2,hl1.2]; exact hk0,λg hg=>by rw [hl2.2,hl1.2]; exact hfr g hg⟩,λb' hb' e=>g4 b' hb' (by rw [e]; exact hl1.1),g3⟩,λb' hb' hl=>?_,g5⟩
  rcases List.mem_cons.1 hb' with e | e
  ·rw [e,hb] at hl; cases hl
  ·exact g4 b' e (t1.lent b' hl).1
 | .inp c::ss,m,I,loc,[],vs,K,r,hm,hw,hwf,hv,h0,h=>by simp [argsK] at h
 | .inp c::ss,m,I,loc,d::ds,vs,K,r,hm,hw,hwf,hv,h0,h=>by
  simp only [argsK] at h;split at h
  case h_2=>cases h
  rename_i b g c' n;split at h
  case h_2=>cases h
  rename_i hc;have hc:=Nat.eq_of_beq_eq_true hc;subst hc;split at h
  case h_2=>cases h
  rename_i l hl;have hb:=Vba hl;simp only [denL,VL] at hv;obtain ⟨v,vr,rfl,hv1,hv2⟩:=hv;have hlt:b < m.length:=by
   simp only [den,V] at hv1;exact Va5 (C:=C) (g:=g) hm (by intro e; simp [e] at hv1)
  have hr:=Vcq hm hlt;rw [hb] at hr;simp only [denB,RelB] at hr;have hwb:=hw b;rw [hb] at hwb;simp only [WfB] at hwb;have hwn:=hwf.1;simp only [WfD] at hwn;have hn:n=l.length:=by rw [<- hwn,hwb]
  have tk:=Took.lend hm hw hlt (by rw [hb]; rfl);obtain ⟨y,ids,o3,I2,m2,loc2,g1,g2,g3,g4,g5⟩:=Vfw hC m0 ss tk.mem tk.wf hwf.2 hv2 (λb g c l hb=>h0 b g c l (tk.arrs b g c l hb)) h;have hl0:(m.put b .lent).get b = .lent:=by rw [Va9 hlt,if_pos rfl]
  have hl2:=g1.lent b hl0;have hsv:SVO C I w c' l v (λk=>∃ g,loc b g = .blk k)/\∃ a cap,v = .slice a n cap/\((loc b g = .nil/\a=none)\/∃ k o,loc b g = .blk k/\a=some ⟨k,o,none⟩):=by
   simp only [den,V] at hv1;rcases hr.2 with ⟨h1,h2⟩ | ⟨k,cells,el,fz,h1,h2,h3,h4,h5⟩
   ·simp only [h1] at hv1;obtain ⟨_,q2,q3⟩:=hv1;subst q2;exact ⟨.inl ⟨by simpa using h2,q3⟩,none,0,q3,.inl ⟨h1,rfl⟩⟩
   ·simp only [h1] at hv1;obtain ⟨o,cap,rfl,q1,q2,q3⟩:=hv1;exact ⟨.inr ⟨k,o,cap,cells,el,fz,by rw [hn],by rw [<- hn]; exact q1,by simpa using q2,by simpa [rowSize,h2] using q3,by simpa using h4,h2,h3,⟨g,h1⟩,h5⟩,_,cap,rfl,.inr ⟨k,o,h1,rfl⟩⟩
  obtain ⟨hs1,a,cap,hs2,hs3⟩:=hsv;refine ⟨(l,y),b::ids,_,I2,m2,loc2,tk.trans g1,⟨v,vr,_,o3,rfl,SVO.keep (.imm g1.imm0) hs1,g2,λ_ h=>.inl h,λ_ h=>.inr h,tk.disj g1⟩,
   ⟨b,ids,v,vr,rfl,rfl,⟨by rw [g1.len,tk.len]; exact hlt,hl2.1,g,l,h0 b g _ l hb,λg' hg=>by rw [hl2.2]; exact hr.1.1 g' hg,λg' hg=>by rw [hl2.2]; exact hr.1.2 g' hg,a,n,cap,hs2,hwn,?_⟩,λb' hb' e=>g4 b' hb' (by rw [e]; exact hl0),g3⟩,λb' hb' hl=>?_,g5⟩
  ·rw [hl2.2]; exact hs3
  ·rcases List.mem_cons.1 hb' with e | e
   ·rw [e,hb] at hl; cases hl
   ·exact g4 b' e (tk.lent b' hl).1
 | .iter::ss,m,I,loc,ds,vs,K,r,hm,hw,hwf,hv,h0,h=>by simp [argsK] at h
 | .lar _::ss,m,I,loc,ds,vs,K,r,hm,hw,hwf,hv,h0,h=>by simp [argsK] at h
 | .mset _ _::ss,m,I,loc,ds,vs,K,r,hm,hw,hwf,hv,h0,h=>by simp [argsK] at h
end
section
variable {T:Nat->Type} {C:Cd T} {O I I':Nat->Prop} {w w':World} {loc:Nat->Nat->Loc} {L:Nat->Nat->Nat} {m m0:MT T} {R:Type} {own own':Nat->Prop} {P:Program} {G:Nat->Option (List D)}
theorem Vu2 (hm:MRel O I loc (denM C m) w) (hw:WfM L m) {b:Nat} {x:BoxT T} (hb:b < m.length) (hl:m.get b = .lent) (hx:RelB I w loc b (denB C x)) (hwx:WfB L b x) (ho:Mine C O I w loc m own) (hk:∀ g k,loc b g = .blk k->own k) :
  MRel O I loc (denM C (m.put b x)) w/\WfM L (m.put b x)/\∀ k,Owned C (m.put b x) loc k->Owned C m loc k\/own k:=by
 have hbx:∀ b',(denM C (m.put b x)).bx b'=if b'=b then denB C x else (denM C m).bx b':=λb'=>by
  simp only [denM,Va9 hb];split<;>rfl
 have hnb:(denM C (m.put b x)).nb=m.length:=by simp [denM,Vby]
 have own2:∀ b' g k,((denM C (m.put b x)).bx b').owned=true->loc b' g = .blk k->(b'≠b/\((denM C m).bx b').owned=true)\/(b'=b/\own k):=λb' g k h1 h2=>by
  rw [hbx] at h1;by_cases e:b'=b
  ·subst e; exact .inr ⟨rfl,hk g k h2⟩
  ·rw [if_neg e] at h1; exact .inl ⟨e,h1⟩
 refine ⟨⟨λb' hb'=>?_,λb' g hb'=>?_,λb' g k hb' h1 h2=>?_,λb1 b2 g1 g2 k h1 h2 o1 o2 k1 k2=>?_,hm.imm,hm.up⟩,Vdy hb hw hwx,λk h=>?_⟩
 ·rw [hnb] at hb';rw [hbx];by_cases e:b'=b
  ·subst e; rw [if_pos rfl]; exact hx
  ·rw [if_neg e]; exact hm.box b' hb'
 ·rw [hnb] at hb'; exact hm.free b' g hb'
 ·rw [hnb] at hb';rcases own2 b' g k h1 h2 with ⟨_,q⟩ | ⟨_,q⟩
  ·exact hm.own b' g k hb' q h2
  ·exact ho.facts k q
 ·rw [hnb] at h1 h2;rcases own2 b1 g1 k o1 k1 with ⟨_,q⟩ | ⟨e,q⟩
  ·rcases own2 b2 g2 k o2 k2 with ⟨_,p⟩ | ⟨e',p⟩
   ·exact hm.inj b1 b2 g1 g2 k h1 h2 q p k1 k2
   ·exact absurd ⟨b1,g1,h1,q,k1⟩ (ho.apart k p)
  ·rcases own2 b2 g2 k o2 k2 with ⟨_,p⟩ | ⟨e',p⟩
   ·exact absurd ⟨b2,g2,h2,p,k2⟩ (ho.apart k q)
   ·rw [e,e']
 ·obtain ⟨b',g,q1,q2,q3⟩:=h;rw [Vby] at q1;rcases own2 b' g k q2 q3 with ⟨_,p⟩ | ⟨_,p⟩
  ·exact .inl ⟨b',g,q1,p,q3⟩
  ·exact .inr p
theorem Lent.mono {m':MT T} {loc':Nat->Nat->Loc} {L':Nat->Nat->Nat} (hlen:m.length<=m'.length) (hL:LExt loc L L'):∀ {ss:List Slot} {ids:List Nat} {vs:List Value},(∀ b∈ids,m'.get b=m.get b/\∀ g,loc' b g=loc b g)->Lent m0 m loc L ss ids vs->Lent m0 m' loc' L' ss ids vs
 | [],ids,vs,h,hl=>hl
 | .ptr fs::r,ids,vs,h,hl=>by
  obtain ⟨b,ir,v,vr,rfl,rfl,⟨h1,h2,k,h3,h4,h5⟩,hn,hr⟩:=hl;obtain ⟨q1,q2⟩:=h b (by simp);exact ⟨b,ir,v,vr,rfl,rfl,⟨Nat.lt_of_lt_of_le h1 hlen,by rw [q1]; exact h2,k,h3,by rw [q2]; exact h4,λg hg=>by rw [q2]; exact h5 g hg⟩,hn,Lent.mono hlen hL (λb hb=>h b (by simp [hb])) hr⟩
 | .inp c::r,ids,vs,h,hl=>by
  obtain ⟨b,ir,v,vr,rfl,rfl,⟨h1,h2,g,l0,h3,h4,h5,a,n,cap,h6,h7,h8⟩,hn,hr⟩:=hl;obtain ⟨q1,q2⟩:=h b (by simp);refine ⟨b,ir,v,vr,rfl,rfl,⟨Nat.lt_of_lt_of_le h1 hlen,by rw [q1]; exact h2,g,l0,h3,λg' hg=>by rw [q2]; exact h4 g' hg,λg' hg=>by rw [q2]; exact h5 g' hg,a,n,cap,h6,?_,?_⟩,hn,Lent.mono hlen hL (λb hb=>h b (by simp [hb])) hr⟩
  ·rw [<- h7];refine hL b g ?_;rcases h8 with ⟨h,_⟩ | ⟨k,o,h,_⟩<;>rw [h]<;>simp
  ·rw [q2]; exact h8
 | .f _::r,ids,vs,h,hl=>by
  obtain ⟨v,vr,rfl,hr⟩:=hl;exact ⟨v,vr,rfl,Lent.mono hlen hL h hr⟩
 | .iter::r,ids,vs,h,hl=>by
  obtain ⟨v,vr,rfl,hr⟩:=hl;exact ⟨v,vr,rfl,Lent.mono hlen hL h hr⟩
 | .lar _::r,ids,vs,h,hl=>by
  obtain ⟨v,vr,rfl,hr⟩:=hl;exact ⟨v,vr,rfl,Lent.mono hlen hL h hr⟩
 | .mset _ _::r,ids,vs,h,hl=>by
  obtain ⟨v,vr,rfl,hr⟩:=hl;exact ⟨v,vr,rfl,Lent.mono hlen hL h hr⟩
theorem Vet:∀ {ss:List Slot} {ids:List Nat} {vs:List Value},Lent m0 m loc L ss ids vs->∀ b∈ids,m.length<=b->False
 | [],ids,vs,h,b,hb,_=>by
  have:ids=[]:=h;subst this; simp at hb
 | .ptr fs::r,ids,vs,h,b,hb,hh=>by
  obtain ⟨b',ir,v,vr,rfl,rfl,h1,_,hr⟩:=h;rcases List.mem_cons.1 hb with e | e
  ·subst e; have:=h1.1; omega
  ·exact Vet hr b e hh
 | .inp c::r,ids,vs,h,b,hb,hh=>by
  obtain ⟨b',ir,v,vr,rfl,rfl,h1,_,hr⟩:=h;rcases List.mem_cons.1 hb with e | e
  ·subst e; have:=h1.1; omega
  ·exact Vet hr b e hh
 | .f _::r,ids,vs,h,b,hb,hh=>by
  obtain ⟨v,vr,rfl,hr⟩:=h;exact Vet hr b hb hh
 | .iter::r,ids,vs,h,b,hb,hh=>by
  obtain ⟨v,vr,rfl,hr⟩:=h;exact Vet hr b hb hh
 | .lar _::r,ids,vs,h,b,hb,hh=>by
  obtain ⟨v,vr,rfl,hr⟩:=h;exact Vet hr b hb hh
 | .mset _ _::r,ids,vs,h,b,hb,hh=>by
  obtain ⟨v,vr,rfl,hr⟩:=h;exact Vet hr b hb hh
theorem Veu (hC:CdOk C) (m0:MT T):∀ (ss:List Slot) {m m2:MT T} {loc:Nat->Nat->Loc} {L:Nat->Nat->Nat} {ids:List Nat} {x:tyO T ss} {args:List Value} {o1:Nat->Prop},MRel O I loc (denM C m) w->WfM L m->SVOuts C I w ss x args o1->Mine C O I w loc m o1->Lent m0 m loc L ss ids args->backO C m0 ss ids x m=some m2 ->
  ∃ loc' L',MRel O I loc' (denM C m2) w/\WfM L' m2/\LocExt loc loc'/\LExt loc L L'/\(∀ k,Owned C m2 loc' k->Owned C m loc k\/o1 k)/\m.length<=m2.length
 | [],m,m2,loc,L,ids,x,args,o1,hm,hw,hs,ho,hl,h=>by
  simp only [backO,Option.some.injEq] at h;subst h;exact ⟨loc,L,hm,hw,.refl _,.refl _ _,λ_ h=>.inl h,Nat.le_refl _⟩
 | .f _::r,m,m2,loc,L,ids,x,args,o1,hm,hw,hs,ho,hl,h=>by
  obtain ⟨v,vr,rfl,hs⟩:=hs;obtain ⟨v',vr',e,hl⟩:=hl;cases e;exact Veu hC m0 r hm hw hs ho hl h
 | .iter::r,m,m2,loc,L,ids,x,args,o1,hm,hw,hs,ho,hl,h=>by
  obtain ⟨v,vr,rfl,hs⟩:=hs;obtain ⟨v',vr',e,hl⟩:=hl;cases e;exact Veu hC m0 r hm hw hs ho hl h
 | .lar _::r,m,m2,loc,L,ids,x,args,o1,hm,hw,hs,ho,hl,h=>by
  obtain ⟨v,vr,rfl,hs⟩:=hs;obtain ⟨v',vr',e,hl⟩:=hl;cases e;exact Veu hC m0 r hm hw hs ho hl h
 | .mset _ _::r,m,m2,loc,L,ids,x,args,o1,hm,hw,hs,ho,hl,h=>by
  obtain ⟨v,vr,rfl,hs⟩:=hs;obtain ⟨v',vr',e,hl⟩:=hl;cases e;exact Veu hC m0 r hm hw hs ho hl h
 | .ptr fs::r,m,m2,loc,L,ids,x,args,o1,hm,hw,hs,ho,hl,h=>by
  obtain ⟨v,vr,oa,ob,rfl,⟨cs,p1,p2,s1,s2,s3,s4,s5⟩,hs,a1,a2,a3⟩:=hs;obtain ⟨b,ir,v',vr',rfl,e,⟨l1,l2,k,l3,l4,l5⟩,hn,hl⟩:=hl;cases e;simp only [backO] at h;obtain ⟨loc1,L1,q1,q2,q3⟩:=Vux hC fs hm hw s2 ((ho.sub a1).sub s4);have hk:=q1.keep b l1;have hb1:b < (m++(encFs C m.length fs x.1).2).length:=Nat.lt_of_lt_of_le l1 q1.len;obtain ⟨kk,cells,el,fz,t1,t2,t3,t4,t5,t6⟩:=s1;have hkk:k=kk:=by rw [l3] at t1; cases t1; rfl
  subst hkk;have hmine:Mine C O I w loc1 (m++(encFs C m.length fs x.1).2) p1:=((ho.sub a1).sub s3).put q1 (λk u v=>s5 k v u);obtain ⟨b1,b2,b3⟩:=Vu2 (x:=.var (encFs C m.length fs x.1).1) q1.mem q1.wf hb1 (hk.1.trans l2) (by
   simp only [denB,RelB];exact ⟨λg hg=>by rw [hk.2]; exact l5 g hg,k,cells,el,fz,by rw [hk.2]; exact l4,t2,t3,t4,by rw [t6]; exact q2⟩) q3 hmine (λg k' hg=>by
   rw [hk.2] at hg;by_cases e:g=0
   ·subst e; rw [l4] at hg; cases hg; exact t5
   ·rw [l5 g e] at hg; cases hg)
  have hown:∀ k,Owned C ((m++(encFs C m.length fs x.1).2).put b (.var (encFs C m.length fs x.1).1)) loc1 k->Owned C m loc k\/oa k:=λk h=>by
   rcases b3 k h with h | h
   ·exact (q1.own k h).imp id (s4 k)
   ·exact .inr (s3 k h)
  have hlen:m.length<=((m++(encFs C m.length fs x.1).2).put b (.var (encFs C m.length fs x.1).1)).length:=by rw [Vby]; exact q1.len
  obtain ⟨loc2,L2,c1,c2,c3,c4,c5,c6⟩:=Veu hC m0 r b1 b2 hs ⟨λk h=>ho.facts k (a2 k h),λk h hq=>by
   rcases hown k hq with q | q
   ·exact ho.apart k (a2 k h) q
   ·exact a3 k q h⟩ (hl.mono hlen q1.lext λb' hb'=>by
    have hne:=hn b' hb';have hb'l:b' < m.length\/m.length<=b':=Nat.lt_or_ge _ _;rcases hb'l with hh | hh
    ·rw [Va9 hb1,if_neg hne]; exact q1.keep b' hh
    ·exact absurd hb' (λhb'=>Vet hl b' hb' hh)) h
  exact ⟨loc2,L2,c1,c2,q1.ext.trans c3,q1.lext.trans q1.ext c4,λk h=>by
   rcases c5 k h with h | h
   ·exact (hown k h).imp id (a1 k)
   ·exact .inr (a2 k h),Nat.le_trans hlen c6⟩
 | .inp c::r,m,m2,loc,L,ids,x,args,o1,hm,hw,hs,ho,hl,h=>by
  obtain ⟨v,vr,oa,ob,rfl,s1,hs,a1,a2,a3⟩:=hs;obtain ⟨b,ir,v',vr',rfl,e,⟨l1,l2,g,l0,l3,l4,l5,a,n,cap,l6,l7,l8⟩,hn,hl⟩:=hl;cases e;simp only [backO,l3] at h;have hlen:x.1.length=n:=by
   rcases s1 with ⟨h1,h2⟩ | ⟨k,o,cap',cells,el,fz,t1,_⟩
   ·rw [h2] at l6; cases l6; rw [h1]; rfl
   ·rw [t1] at l6; cases l6; rfl
  obtain ⟨b1,b2,b3⟩:=Vu2 (x:=.arr g c x.1) hm hw l1 l2 (by
   simp only [denB,RelB];refine ⟨⟨l4,l5⟩,?_⟩;rcases s1 with ⟨h1,h2⟩ | ⟨k,o,cap',cells,el,fz,t1,t2,t3,t4,t4',t5,t6,t7,t8⟩
   ·rw [h2] at l6; cases l6;rcases l8 with ⟨q,_⟩ | ⟨k,o,_,q⟩
    ·exact .inl ⟨q,by rw [h1]; rfl⟩
    ·cases q
   ·rw [t1] at l6; cases l6;rcases l8 with ⟨_,q⟩ | ⟨k',o',q,q'⟩
    ·cases q
    ·cases q';exact .inr ⟨k,cells,el,fz,q,t5,t6,by simpa using t4',t8⟩) (by simp only [WfB]; rw [l7,hlen]) (ho.sub a1) (λg' k' hg=>by
   have hg':g'=g:=by
    rcases Nat.lt_trichotomy g' g with h | h | h
    ·rw [l4 g' h] at hg; cases hg
    ·exact h
    ·rw [l5 g' h] at hg; cases hg
   subst hg';rcases s1 with ⟨h1,h2⟩ | ⟨k,o,cap',cells,el,fz,t1,t2,t3,t4,t4',t5,t6,t7,t8⟩
   ·rw [h2] at l6; cases l6;rcases l8 with ⟨q,_⟩ | ⟨k,o,_,q⟩
    ·rw [q] at hg; cases hg
    ·cases q
   ·rw [t1] at l6; cases l6;rcases l8 with ⟨_,q⟩ | ⟨k2,o',q,q'⟩
    ·cases q
    ·cases q';rw [q] at hg; cases hg;exact t7)
  obtain ⟨loc2,L2,c1,c2,c3,c4,c5,c6⟩:=Veu hC m0 r b1 b2 hs ⟨λk h=>ho.facts k (a2 k h),λk h hq=>by
   rcases b3 k hq with q | q
   ·exact ho.apart k (a2 k h) q
   ·exact a3 k q h⟩ (hl.mono (by rw [Vby]; exact Nat.le_refl _) (.refl _ _) λb' hb'=>by rw [Va9 l1,if_neg (hn b' hb')]; exact ⟨rfl,λ_=>rfl⟩) h
  exact ⟨loc2,L2,c1,c2,c3,c4,λk h=>by
   rcases c5 k h with h | h
   ·exact (b3 k h).imp id (a1 k)
   ·exact .inr (a2 k h),by rw [Vby] at c6; exact c6⟩
structure EnvOk (P:Program) (E:Env T):Prop where
 cd:CdOk E.C
 tys:TysOk P E.Y
 fl:FlOk E.C E.fl
 fns:∀ f ds S,E.F f ds=some S->SoundT P E.C (λg=>(E.G g).map (denL E.C)) f S
def GD (E:Env T):Nat->Option (List D):=λg=>(E.G g).map (denL E.C)
def FollowsT (P:Program) (E:Env T) (O I:Nat -> Prop) (loc:Nat -> Nat -> Loc) (L:Nat -> Nat -> Nat) (w:World) (o:Oper) (r:Result Next) (d:DT T) (m':MT T):Prop:=
  ∀ (a:Act) (next:Act -> World -> Prop) (Q:Exit -> Act -> World -> Prop),(∀ v w' I' loc' L',MRel O I' loc' (denM E.C m') w' -> WfM L' m' -> Glob (GD E) I' w' -> V I' w' (den E.C d) loc' v -> WfD L' d -> Ext I I' w w' -> (∀ k,I' k -> I k \/ O k) -> LocExt loc loc' -> LExt loc L L' -> Fr O w w' -> next (a.put o.dst v) w') ->
    o.upon P a next Q r
theorem FollowsT.of_res {E:Env T} {o:Oper} {r:Result Next} {d:DT T} {m':MT T} (hG:Glob (GD E) I w) (h:ResT E.C O I loc L w r d m'):FollowsT P E O I loc L w o r d m':=by
 obtain ⟨v,w',I',loc',L',h1,h2,h3,h4,h5,h6,h7,h8,h9,h10⟩:=h;intro a next Q hn
 have:=hn v w' I' loc' L' h2 h3 (Va0 hG h6) h4 h5 h6 h7 h8 h9 h10;rcases h1 with rfl | ⟨rfl,rfl⟩
 ·exact this
 ·exact this
theorem FollowsT.of_D {E:Env T} {o:Oper} {r:Result Next} {d:DT T} (hm:MRel O I loc (denM E.C m) w) (hw:WfM L m) (hd:WfD L d) (h:Follows P ⟨GD E,λ_=>none⟩ O I loc w o r (den E.C d) (denM E.C m)):FollowsT P E O I loc L w o r d m:=by
 intro a next Q hn
 refine h a next Q λv w' I' loc' h1 h2 h3 h4 h5 h6 h7=>?_
 exact hn v w' I' loc' L h1 hw h2 h3 hd h4 (λk hk=>(h5 k hk).imp id (hm.up k)) h6 (.refl _ _) h7
theorem Vyz {fs:List Fld} {x:tyFs T fs} {vs:List Value} {base:Nat} {loc':Nat->Nat->Loc} (h:VL I w (denL C (encFVs C base fs x).1) loc' vs) (hw:WfL L (encFVs C base fs x).1):V I w (den C (oneOf (encFVs C base fs x).1)) loc' (resV vs)/\WfD L (oneOf (encFVs C base fs x).1):=by
 match hq:(encFVs C base fs x).1 with
 | []=>rw [hq] at h hw; simp only [denL,VL] at h; subst h; exact ⟨by simp only [oneOf,den,denL,V,resV]; exact ⟨[],rfl,rfl⟩,hw⟩
 | [d]=>
  rw [hq] at h hw;simp only [denL,VL] at h;obtain ⟨v,vr,rfl,h1,rfl⟩:=h;exact ⟨h1,hw.1⟩
 | d::e::r=>
  rw [hq] at h hw;have h2:=h;simp only [denL,VL] at h2;obtain ⟨v,vr,rfl,h1,v2,vr2,rfl,h3,h4⟩:=h2;refine ⟨?_,hw⟩;simp only [oneOf,den,V,resV];exact ⟨_,rfl,h⟩
theorem Vn2 {fl:Nat->Bool}:∀ {rs:List Fld},rs.all (λr=>r.isV&&r.flat fl)=true->rs.all (Fld.flat fl)=true/\∀ (C:Cd T) (base:Nat) (x:tyFs T rs),(encFVs C base rs x).2=[]/\∀ base',(encFVs C base rs x).1=(encFVs C base' rs x).1
 | [],h=>⟨rfl,λC base x=>⟨rfl,λ_=>rfl⟩⟩
 | f::r,h=>by
  simp only [List.all_cons,Bool.and_eq_true] at h;obtain ⟨⟨h1,h2⟩,h3⟩:=h;obtain ⟨g1,g2⟩:=Vn2 h3;refine ⟨by simp only [List.all_cons,h2,g1,Bool.and_self],λC base x=>?_⟩;cases f with
  | v t=>
   refine ⟨by simp only [encFVs,encFV,List.nil_append]; exact (g2 C _ x.2).1,λbase'=>?_⟩;simp only [encFVs,encFV];rw [(g2 C _ x.2).2 (base'+([]:List (BoxT T)).length)]
  | own c=>cases h1
  | pt t=>cases h1
  | st a c b=>cases h1
  | fp f t=>cases h1
theorem Vu3 {E:Env T} (hE:EnvOk P E) (hm:MRel O I loc (denM E.C m) w) (hw:WfM L m) (hG:Glob (GD E) I w) {e:Operand->DT T} {ρ:Operand->Value} (he:∀ x,V I w (den E.C (e x)) loc (ρ x)) (hwe:∀ x,WfD L (e x)) {f:Nat} (hfn:e (.func f) = .fn f []) {args:Array Operand} {at':Array TypeId} {dst:Option Tmp} {ty:TypeId} {pos:String} {af:Array Edge} {gd:Option (Nat×Bool)} {K:DT T->Option R} {r:R}
  (h:callR E f (args.toList.map e) m K=some r):∃ d,FollowsT P E O I loc L w ⟨dst,.call ⟨.value (.func f),args,at'⟩,ty,pos,af,gd⟩ ((execOp ρ ⟨dst,.call ⟨.value (.func f),args,at'⟩,ty,pos,af,gd⟩).run P w) d m/\K d=some r:=by
 unfold callR at h;split at h
 case h_2=>cases h
 rename_i S hS;split at h
 case h_2=>cases h
 rename_i hfl;simp only [Bool.and_eq_true] at hfl;have hwl:WfL L (args.toList.map e):=WfL_iff.2 λd hd=>by
  simp only [List.mem_map] at hd;obtain ⟨x,_,rfl⟩:=hd; exact hwe x
 have hvl:VL I w (denL E.C (args.toList.map e)) loc (args.toList.map ρ):=by
  rw [Vaq,List.map_map];exact Vf2 he _
 obtain ⟨x,h1,h2⟩:=Vu1 hE.cd hm hw S.ps hwl hvl h;rw [Option.bind_eq_some_iff] at h2;obtain ⟨res,h3,h4⟩:=h2;refine ⟨_,?_,h4⟩;obtain ⟨hb,hsnd⟩:=hE.fns f _ S hS;have hv:=he (.func f);rw [hfn] at hv;simp only [den,denL,V,VL] at hv;obtain ⟨us,hv1,rfl⟩:=hv;rw [Vjb hv1 hb];intro a next Q hn
 simp only [Oper.upon,List.append_nil];refine (hsnd (λk=>k < w.heap.size) none' w _ x res (λ_ h=>h) (λ_ h=>h.elim) (Va0 hG (Vae hm.imm)) h1 h3).mono ?_;rintro _ w' ⟨vs,I',o1,o2,rfl,f1,f2,f3,f4,f5,f6,f7,f8,f9⟩;obtain ⟨g1,g2⟩:=Vn2 (T:=T) hfl.2;have hfr:=Vxg f1;have hm2:=hm.step hfr;have hx:=Vhe hfr hm.imm (λ_ h=>h);have f9':SVVs E.C I w' S.rs res.2 vs o2:=Vht hE.cd hE.fl g1 f9;obtain ⟨loc',L',p1,p2,p3⟩:=Vuy (O:=O) hE.cd S.rs (m:=([]:MT T)) (loc:=free) (L:=λ_ _=>0) (own:=o2) ⟨λb hb=>absurd hb (Nat.not_lt_zero _),λ_ _ _=>rfl,λb _ _ hb=>absurd hb (Nat.not_lt_zero _),λb _ _ _ _ hb=>absurd hb (Nat.not_lt_zero _),hm2.imm,hm2.up⟩ (λb=>trivial) f9'
  ⟨λk hk=>by
   obtain ⟨q1,q2,q3⟩:=f6 k (.inr hk);refine ⟨?_,λhI=>?_,q3⟩
   ·rcases q1 with q | q
    ·exact q.elim
    ·exact hm.up k q
   ·exact q2 (f3 k (hm.imm k hI)),λk _ ⟨b,g,q1,_⟩=>absurd q1 (Nat.not_lt_zero _)⟩
 have e0:=(g2 E.C 0 res.2).1;simp only [List.length_nil] at p1 p2 p3;rw [e0] at p1;have hl0:loc'=free:=by funext b g; exact p1.mem.free b g (Nat.zero_le _)
 subst hl0;obtain ⟨r1,r2⟩:=Vyz p2 p3;refine hn _ w' I loc L hm2 hw (Va0 hG hx) (Vni r1) (Vnv _ _ r1) hx (λ_ h=>.inl h) (.refl _) (.refl _ _) hfr.weaken
theorem Vn3 (hC:CdOk C) (hm:MRel O I loc (denM C m) w) (hw:WfM L m):∀ (ss:List Slot) {ds:List (DT T)} {vs:List Value} {K:tySs T ss->List Nat->MT T->Option R} {r:R},ss.all Slot.isV=true->WfL L ds->VL I w (denL C ds) loc vs->argsK C true ss m ds K=some r ->
  ∃ x,SVSs C (λk=>k < w.heap.size) w ss x vs none'/\K x [] m=some r
 | [],ds,vs,K,r,ha,hwf,hv,h=>by
  simp only [argsK] at h;split at h
  ·simp only [denL,VL] at hv;exact ⟨(),hv,h⟩
  ·cases h
 | .f (.v t)::ss,[],vs,K,r,ha,hwf,hv,h=>by simp [argsK] at h
 | .f (.v t)::ss,d::ds,vs,K,r,hall,hwf,hv,h=>by
  simp only [argsK] at h;split at h
  case h_2=>cases h
  rename_i ha;simp only [denL,VL] at hv;obtain ⟨v,vr,rfl,hv1,hv2⟩:=hv;obtain ⟨cs,h1,h2⟩:=Vn1 hC hm hw hwf.1 hv1 ha h;split at h2
  case h_2=>cases h2
  rename_i x hx;simp only [List.all_cons,Bool.and_eq_true] at hall;obtain ⟨y,g1,g2⟩:=Vn3 hC hm hw ss hall.2 hwf.2 hv2 h2;exact ⟨(x,y),⟨v,vr,none',none',rfl,h1 x hx,g1,λ_ h=>h.elim,λ_ h=>h.elim,λ_ h=>h.elim⟩,g2⟩
 | .f (.own c)::ss,ds,vs,K,r,ha,hwf,hv,h=>by simp [Slot.isV,Fld.isV] at ha
 | .f (.pt c)::ss,ds,vs,K,r,ha,hwf,hv,h=>by simp [Slot.isV,Fld.isV] at ha
 | .f (.st _ _ _)::ss,ds,vs,K,r,ha,hwf,hv,h=>by simp [Slot.isV,Fld.isV] at ha
 | .f (.fp _ _)::ss,ds,vs,K,r,ha,hwf,hv,h=>by simp [Slot.isV,Fld.isV] at ha
 | .ptr fs::ss,ds,vs,K,r,ha,hwf,hv,h=>by simp [Slot.isV] at ha
 | .inp c::ss,ds,vs,K,r,ha,hwf,hv,h=>by simp [Slot.isV] at ha
 | .iter::ss,ds,vs,K,r,ha,hwf,hv,h=>by simp [Slot.isV] at ha
 | .lar _::ss,ds,vs,K,r,ha,hwf,hv,h=>by simp [Slot.isV] at ha
 | .mset _ _::ss,ds,vs,K,r,ha,hwf,hv,h=>by simp [Slot.isV] at ha
theorem Vy0:∀ {ss:List Slot} {x:tySs T ss} {y:tyO T ss} {vs:List Value} {J own:Nat->Prop} {I2:Nat->Prop} {w2:World},ss.all Slot.isV=true->SVSs C J w ss x vs own->SVOuts C I2 w2 ss y vs none'/\Lent m0 m loc L ss [] vs/\backO C m0 ss [] y m=some m
 | [],x,y,vs,J,own,I2,w2,_,_=>⟨trivial,rfl,rfl⟩
 | .f f::ss,x,y,vs,J,own,I2,w2,ha,h=>by
  simp only [List.all_cons,Bool.and_eq_true] at ha;obtain ⟨v,vr,o1,o2,rfl,_,h2,_⟩:=h;obtain ⟨g1,g2,g3⟩:=Vy0 (ss:=ss) (y:=y) (I2:=I2) (w2:=w2) ha.2 h2;exact ⟨⟨v,vr,rfl,g1⟩,⟨v,vr,rfl,g2⟩,g3⟩
 | .ptr fs::ss,x,y,vs,J,own,I2,w2,ha,h=>by simp [Slot.isV] at ha
 | .inp c::ss,x,y,vs,J,own,I2,w2,ha,h=>by simp [Slot.isV] at ha
 | .iter::ss,x,y,vs,J,own,I2,w2,ha,h=>by simp [Slot.isV] at ha
 | .lar _::ss,x,y,vs,J,own,I2,w2,ha,h=>by simp [Slot.isV] at ha
 | .mset _ _::ss,x,y,vs,J,own,I2,w2,ha,h=>by simp [Slot.isV] at ha
theorem Vo7 {E:Env T} (hE:EnvOk P E) (hm:MRel O I loc (denM E.C m) w) (hw:WfM L m) (hG:Glob (GD E) I w) {e:Operand->DT T} {ρ:Operand->Value} (he:∀ x,V I w (den E.C (e x)) loc (ρ x)) (hwe:∀ x,WfD L (e x)) {f:Operand} {k:Nat} {cap:List (DT T)} (hfn:e f = .fn k cap) {args:Array Operand} {at':Array TypeId} {dst:Option Tmp} {ty:TypeId} {pos:String} {af:Array Edge} {gd:Option (Nat×Bool)} {K:DT T->MT T->Option R} {r:R}
  (h:callW E k (args.toList.map e++cap) m K=some r):∃ d m',FollowsT P E O I loc L w ⟨dst,.call ⟨.value f,args,at'⟩,ty,pos,af,gd⟩ ((execOp ρ ⟨dst,.call ⟨.value f,args,at'⟩,ty,pos,af,gd⟩).run P w) d m'/\K d m'=some r:=by
 unfold callW at h;split at h
 case h_2=>cases h
 rename_i S hS;have hv:=he f;rw [hfn] at hv;have hwf:=hwe f;rw [hfn] at hwf;simp only [WfD] at hwf;simp only [den,V] at hv;obtain ⟨us,hv1,hv2⟩:=hv;have hwl:WfL L (args.toList.map e++cap):=WfL_iff.2 λd hd=>by
  simp only [List.mem_append,List.mem_map] at hd;rcases hd with ⟨x,_,rfl⟩ | hd
  ·exact hwe x
  ·exact WfL_iff.1 hwf d hd
 have hvl:VL I w (denL E.C (args.toList.map e++cap)) loc (args.toList.map ρ++us):=by
  rw [Vcl];refine Var ?_ hv2;rw [Vaq,List.map_map];exact Vf2 he _
 obtain ⟨hb,hsnd⟩:=hE.fns k _ S hS;rw [Vjb hv1 hb]
 -- what the call hands back is laid into the memory
 have fin:∀ {I1 Ic I' own o1 o2:Nat->Prop} {m1 m2:MT T} {loc1:Nat->Nat->Loc} {ids:List Nat} {vs:List Value} {res:tyO T S.ps×tyFs T S.rs} {w':World},Took E.C O I w loc L m own I1 m1 loc1->Lent m m1 loc1 L S.ps ids (args.toList.map ρ++us) ->
   Fr (λk=>own k\/w.heap.size<=k) w w'->(∀ b,rowSize w b<=rowSize w' b)->(∀ k,I1 k->I' k)->(∀ k,I' k->I1 k\/own k\/w.heap.size<=k)->(∀ k,I' k->k < w'.heap.size)->(∀ k,o1 k\/o2 k->(own k\/w.heap.size<=k)/\¬ I' k/\k < w'.heap.size)->(∀ k,o1 k->¬ o2 k) ->
   SVOuts E.C I' w' S.ps res.1 (args.toList.map ρ++us) o1->SVVs E.C I' w' S.rs res.2 vs o2->backO E.C m S.ps ids res.1 m1=some m2 ->
   ∃ loc' L',MRel O I' loc' (denM E.C (m2++(encFVs E.C m2.length S.rs res.2).2)) w'/\WfM L' (m2++(encFVs E.C m2.length S.rs res.2).2)/\V I' w' (den E.C (oneOf (encFVs E.C m2.length S.rs res.2).1)) loc' (resV vs)/\WfD L' (oneOf (encFVs E.C m2.length S.rs res.2).1)/\Ext I I' w w'/\(∀ k,I' k->I k\/O k)/\LocExt loc loc'/\LExt loc L L'/\Fr O w w':=by
  intro I1 Ic I' own o1 o2 m1 m2 loc1 ids vs res w' tk hl f1 f2 f3 f4 f5 f6 f7 f8 f9 hbk;have hoI:∀ k,own k->¬ I1 k:=λk h=>(tk.got k h).1;have hOwn:∀ k,own k->O k/\k < w.heap.size:=λk h=>⟨((tk.got k h).2.facts hm).1,((tk.got k h).2.facts hm).2.2⟩;obtain ⟨q1,q2⟩:=tk.mem.stepO f1 f2 f3 f4 f5 hoI (λb g k hb ho hk q=>(tk.rest k ⟨b,g,hb,ho,hk⟩).1 q);have hmine:∀ {o:Nat->Prop},(∀ k,o k->o1 k\/o2 k)->Mine E.C O I' w' loc1 m1 o:=λ{o} ho=>⟨λk hk=>by
    obtain ⟨u1,u2,u3⟩:=f6 k (ho k hk);refine ⟨?_,u2,u3⟩;rcases u1 with u | u
    ·exact (hOwn k u).1
    ·exact hm.up k u,λk hk hq=>by
    obtain ⟨u1,u2,u3⟩:=f6 k (ho k hk);rcases u1 with u | u
    ·exact (tk.rest k hq).1 u
    ·have:=(hq.facts tk.mem).2.2; omega⟩
  obtain ⟨loc2,L2,c1,c2,c3,c4,c5,c6⟩:=Veu hE.cd m S.ps q1 tk.wf f8 (hmine λk h=>.inl h) hl hbk;obtain ⟨loc3,L3,d1,d2,d3⟩:=Vuy hE.cd S.rs c1 c2 f9 ⟨(hmine (o:=o2) λk h=>.inr h).facts,λk hk hq=>by
   rcases c5 k hq with q | q
   ·exact (hmine (o:=o2) λk h=>.inr h).apart k hk q
   ·exact f7 k q hk⟩
  obtain ⟨r1,r2⟩:=Vyz d2 d3;refine ⟨loc3,L3,d1.mem,d1.wf,r1,r2,(Vae tk.imm0).trans q2,λk hk=>?_,(tk.ext.trans c3).trans d1.ext,?_,?_⟩
  ·rcases f4 k hk with h | h | h
   ·rcases tk.imm1 k h with h | h
    ·exact .inl h
    ·exact .inr (h.facts hm).1
   ·exact .inr (hOwn k h).1
   ·exact .inr (hm.up k h)
  ·have:=c4.trans c3 d1.lext;exact λb g hne=>this b g (tk.ext.free_of hne)
  ·exact ⟨f1.os,f1.tape,f1.output,f1.size,λb hb hO=>f1.block b hb (λq=>q.elim (λq=>hO (hOwn b q).1) (λq=>by omega))⟩
 cases hsn:(S.ps.all Slot.isV&&S.rs.all (Fld.flat E.fl)) with
 | false=>
  rw [hsn] at h;obtain ⟨x,ids,own,I1,m1,loc1,tk,h2,h3,h4,h5⟩:=Vfw hE.cd m S.ps hm hw hwl hvl (λb g c l h=>h) h;rw [Option.bind_eq_some_iff] at h5;obtain ⟨res,h6,h7⟩:=h5;split at h7
  case h_2=>cases h7
  rename_i m2 hbk;refine ⟨_,_,?_,h7⟩;intro a next Q hn
  simp only [Oper.upon];refine (hsnd I1 own w _ x res tk.mem.imm (λk h=>⟨(tk.got k h).1,((tk.got k h).2.facts hm).2.2⟩) (Va0 hG (Vae tk.imm0)) h2 h6).mono ?_;rintro _ w' ⟨vs,I',o1,o2,rfl,f1,f2,f3,f4,f5,f6,f7,f8,f9⟩;obtain ⟨loc',L',z1,z2,z3,z4,z5,z6,z7,z8,z9⟩:=fin (Ic:=I) tk h3 f1 f2 f3 f4 f5 f6 f7 f8 f9 hbk;exact hn _ w' I' loc' L' z1 z2 (Va0 hG z5) z3 z4 z5 z6 z7 z8 z9
 | true=>
  rw [hsn] at h;simp only [Bool.and_eq_true] at hsn;obtain ⟨x,h2,h5⟩:=Vn3 hE.cd hm hw S.ps hsn.1 hwl hvl h;rw [Option.bind_eq_some_iff] at h5;obtain ⟨res,h6,h7⟩:=h5;split at h7
  case h_2=>cases h7
  rename_i m2 hbk;refine ⟨_,_,?_,h7⟩;intro a next Q hn
  simp only [Oper.upon];refine (hsnd (λk=>k < w.heap.size) none' w _ x res (λ_ h=>h) (λ_ h=>h.elim) (Va0 hG (Vae hm.imm)) h2 h6).mono ?_;rintro _ w' ⟨vs,I',o1,o2,rfl,f1,f2,f3,f4,f5,f6,f7,f8,f9⟩;obtain ⟨n1,n2,_⟩:=Vy0 (C:=E.C) (m0:=m) (m:=m) (loc:=loc) (L:=L) (y:=res.1) (I2:=I) (w2:=w') hsn.1 h2;obtain ⟨loc',L',z1,z2,z3,z4,z5,z6,z7,z8,z9⟩:=fin (Ic:=I) (I':=I) (o1:=none') (o2:=o2) (Took.refl hm hw) n2 f1 f2 (λ_ h=>h) (λ_ h=>.inl h) (λk hk=>Nat.lt_of_lt_of_le (hm.imm k hk) f1.size)
   (λk hk=>by
    have hk:o2 k:=hk.elim (λq=>q.elim) id;obtain ⟨u1,u2,u3⟩:=f6 k (.inr hk);exact ⟨u1,λhI=>u2 (f3 k (hm.imm k hI)),u3⟩) (λ_ h=>h.elim) n1 (Vht hE.cd hE.fl hsn.2 f9) hbk
  exact hn _ w' I loc' L' z1 z2 (Va0 hG z5) z3 z4 z5 z6 z7 z8 z9
end
end Go.Abs
