/- The library of abstract values, part 7: see the remarks ahead of each part. No condition. -/
import Derived.Test.YtaddhgkhilmniaaGreatDoorLib6
set_option linter.unusedVariables false
set_option linter.unusedSimpArgs false
namespace Go.Abs
open Go
section
variable {T:Nat->Type} {C:Cd T} {O I:Nat->Prop} {w:World} {loc:Nat->Nat->Loc} {L:Nat->Nat->Nat} {m:MT T} {P:Program} {Y:Nat->Option TI} {R:Type}
theorem Vmq (hC:CdOk C) (hY:TysOk P Y) (hm:MRel O I loc (denM C m) w) (hw:WfM L m) {t:Nat} {e:DT T} {ρ:Operand->Value} {x:Operand} (hwe:WfD L e) (he:V I w (den C e) loc (ρ x)) {K:DT T->MT T->Option R} {r:R} (h:sliceVarK Y C t e m K=some r)
  (dst:Option Tmp) (type:TypeId) (pos:String) (after:Array Edge) (guard:Option (Nat×Bool)):∃ d m',ResT C O I loc L w ((execOp ρ ⟨dst,.slice t x none none none,type,pos,after,guard⟩).run P w) d m'/\K d m'=some r:=by
 unfold sliceVarK at h;split at h
 case h_2=>cases h
 rename_i b;split at h
 case h_2=>cases h
 rename_i cs hb;split at h
 case h_2=>cases h
 rename_i n el s ha;have ha:=Vc8 hY ha;split at h
 case h_2=>cases h
 rename_i j hj;split at h
 case h_2=>cases h
 rename_i hs;have hs:=Nat.eq_of_beq_eq_true hs;subst hs;simp only [den,V] at he;have hlt:b < m.length:=Va5 (C:=C) (g:=0) hm (by intro e; simp [e] at he);have hr:=Vcq hm hlt;rw [hb] at hr;simp only [denB,RelB] at hr;obtain ⟨_,k,cells,ct,fz,hl,hk,hfz,hone,hv⟩:=hr;simp only [hl] at he;have hwb:=hw b;rw [hb] at hwb;obtain ⟨cs',m1,I1,g1,g2,g3,g4,g5,g6,g7,g8,h⟩:=Vis hC hm hw hwb hv h;have g4':=Vlk hm g4;split at h
 case h_2=>cases h
 rename_i l hel;obtain ⟨q1,q2,q3⟩:=Vd0 hC n _ l hel;have hb1:m1.get b = .var cs:=by
  rcases g8 b with e | ⟨g,c,l',e,_⟩
  ·rw [e,hb]
  ·rw [hb] at e; cases e
 have hlt1:b < m1.length:=by omega
 have tk:=Took.box g1 g2 hlt1 (by rw [hb1]; rfl);have hown:∀ k',(∃ g,loc b g = .blk k')->k'=k:=by
  rintro k' ⟨g,hg⟩;have hr1:=Vcq g1 hlt1;rw [hb1] at hr1;simp only [denB,RelB] at hr1;by_cases e:g=0
  ·subst e; rw [hl] at hg; cases hg; rfl
  ·rw [hr1.1 g e] at hg; cases hg
 have hIk:¬ I1 k/\k < w.heap.size:=by
  have:=g1.own b 0 k hlt1 (by rw [show (denM C m1).bx b=denB C (m1.get b) from rfl,hb1]; rfl) hl;exact ⟨this.2.1,this.2.2⟩
 have mine:Mine C O I1 w (locOut loc b) (m1.put b .gone) (λk'=>∃ g,loc b g = .blk k'):=by
  refine ⟨λk' hk'=>?_,λk' hk' hq=>(tk.rest k' hq).1 hk'⟩;have h1:=tk.got k' hk';have h2:=h1.2.facts g1;exact h2
 have hvl:=Vac g5;have hcl:l.length * C.sz j.code<=cells.size:=by
  have h1:=Vac (q3 I1 w _ g5);have hsz:∀ row∈l.map (C.encD j.code),row.length=C.sz j.code:=by
   intro row hrow;obtain ⟨y,_,rfl⟩:=List.mem_map.1 hrow;exact hC.len _ y
  rw [Vad _ hsz,List.length_map] at h1;have h2:cells.toList.length=cells.size:=by simp
  omega
 have hvr:VR I1 w (C.sz j.code) (l.map (C.encD j.code)) k 0:=by
  refine Va6 (λrow hrow=>?_) (q3 I1 w _ g5) hone λi y hy=>?_
  ·obtain ⟨y,_,rfl⟩:=List.mem_map.1 hrow;exact hC.len _ y
  ·simp only [World.cell?,hk,Nat.zero_add];simpa using hy
 have pt:=Put.add (own:=λk'=>∃ g,loc b g = .blk k') tk.mem tk.wf (.arr 0 j.code l) (.blk k) l.length (λk' hk' _=>by cases hk'; exact ⟨0,hl⟩) mine (by simp [WfB,updL]) (by
  simp only [denB,RelB];exact ⟨⟨λg hg=>by omega,λg hg=>by simp [locNew]; omega⟩,.inr ⟨k,cells,ct,fz,by simp [locNew],hk,hfz,by rw [List.length_map]; exact hcl,hvr⟩⟩)
 have hlen:(m1.put b .gone).length=m1.length:=by simp [MT.put]
 refine ⟨_,_,⟨.slice (some ⟨k,0,none⟩) n n,w,I1,_,_,.inl ?_,pt.mem,pt.wf,?_,?_,Vae g3,g4',tk.ext.trans pt.ext,?_,.refl _ _⟩,h⟩
 ·simp [execOp,Instr.sliceAt,run_underlying (Vcg ha.1),he,Instr.sureAddr,run_sizeOf' ha.2,Instr.sliceBounds];cases n<;>simp [Vap]
 ·rw [hlen];simp only [den,V,locNew,if_true];refine ⟨0,n,by rw [q1],by omega,.inr (by omega),?_⟩;rw [rowSize,hk];simp only [Nat.zero_add];rw [<- q1]; exact hcl
 ·rw [hlen];simp [WfD,updL]
 ·intro b' g' hne;unfold updL;split
  ·rename_i e;rw [e.1,e.2] at hne;rw [hlen] at hne;exact absurd (g1.free _ _ (Nat.le_refl _)) hne
  ·rfl
end
structure SF (T:Nat->Type) where
 t:Nat->DT T
 m:MT T
section
variable {T:Nat->Type}
def SF.put (σ:SF T) (dst:Option Nat) (d:DT T):SF T:=
 match dst with
 | some k=>{ σ with t:=upd σ.t k d }
 | none=>σ
def semT (E:Env T) (o:Op) (e:Operand->DT T) (m:MT T):Option (DT T×MT T):=opK E o e m λd m=>some (d,m)
def gdT (ops:Array Oper) (o:Oper) (t:Nat->DT T):Option Bool:=
 match gslot ops o with
 | none=>some true
 | some (some k,want)=>match t k with
  | .bool b=>some (b == want)
  | .tup []=>some false
  | _=>none
 | some (none,_)=>none
def stepOT (E:Env T) (ops:Array Oper) (o:Oper) (σ:SF T):Option (SF T):=
 match gdT ops o σ.t with
 | none=>none
 | some false=>some (σ.put o.dst (.tup []))
 | some true=>match semT E o.op (evT E.G σ.t) σ.m with
  | some (d,m')=>some ({ σ with m:=m' }.put o.dst d)
  | none=>none
def runOpsT (E:Env T) (ops:Array Oper):List Nat->SF T->Option (SF T)
 | [],σ=>some σ
 | i::r,σ=>match ops[i]? with
  | some o=>match stepOT E ops o σ with
   | some σ'=>runOpsT E ops r σ'
   | none=>none
  | none=>none
def indepT (E:Env T) (ops:Array Oper) (x y:Oper):Bool:=x.apart ops y&&!(clsT E x.op).clash (clsT E y.op)
def pairsAtT (E:Env T) (ops:Array Oper) (ms:List Nat) (i:Nat):Bool:=
 match ops[i]? with
  | some oi=>(oi.after.all λe=>!Region.binds .any e||decide (e.on < i)) &&
    (List.range i).all λj=>match ops[j]? with
     | some oj=>(ms.getD i 0).testBit j||indepT E ops oj oi
     | none=>false
  | none=>false
def pairsOkT (E:Env T) (ops:Array Oper):Bool:=
 (List.range ops.size).all (pairsAtT E ops (masks ops.toList []))
variable {E:Env T} {ops:Array Oper} {P:Program}
theorem Vxh {R:Type} {e e':Operand->DT T} {o:Op} {K:DT T->Option R} (h:∀ x∈o.operands,e x=e' x):nK E.Y E.C o e K=nK E.Y E.C o e' K:=by
 cases o<;>simp only [Op.operands] at h<;>simp only [nK]
 case build t ps=>
  have:(ps.toList.map λp=>(p.1,e p.2))=(ps.toList.map λp=>(p.1,e' p.2)):=List.map_congr_left λp hp=>by
   rw [h p.2 (by simp; exact ⟨p.1,by simpa using hp⟩)]
  rw [this]
 case slice t x lo hi mx=>
  cases mx with
  | some y=>
   cases lo with
   | some _=>rfl
   | none=>cases hi with
    | none=>rfl
    | some z=>simp only [h x (by simp),h z (by simp),h y (by simp)]
  | none=>
   have h1:e x=e' x:=h x (by simp);have h2:lo.map e=lo.map e':=by cases lo with
    | none=>rfl
    | some y=>simp only [Option.map_some]; rw [h y (by simp)]
   have h3:hi.map e=hi.map e':=by cases hi with
    | none=>rfl
    | some y=>simp only [Option.map_some]; rw [h y (by simp)]
   simp only [h1,h2,h3]
 case makeFunc fn first cap=>
  cases fn<;>simp only [];have:cap.toList.map e=cap.toList.map e':=List.map_congr_left λx hx=>h x (by simp; right; simpa using hx);rw [this]
 case call c=>
  obtain ⟨callee,args,at'⟩:=c;have ha:args.toList.map e=args.toList.map e':=List.map_congr_left λx hx=>h x (by simp [Call.operands]; right; simpa using hx);cases callee with
  | builtin b=>
   cases b<;>simp only [ha]
   case len=>
    split
    ·rename_i x t hx ht;rw [h x (by simp [Call.operands]; rw [<- Array.mem_toList_iff,hx]; simp)]
    ·rfl
   case cap=>
    split
    ·rename_i x t hx ht;rw [h x (by simp [Call.operands]; rw [<- Array.mem_toList_iff,hx]; simp)]
    ·rfl
  | value f=>rfl
  | invoke r n=>rfl
 all_goals first | rfl | (simp at h; simp only [h])
theorem Vxi {R:Type} {e e':Operand->DT T} {m:MT T} {o:Op} {K:DT T->Option R} (h:∀ x∈o.operands,e x=e' x):rK E.Y E.C o e m K=rK E.Y E.C o e' m K:=by
 cases o<;>simp only [Op.operands] at h<;>simp only [rK]
 case load t x=>simp at h; simp only [h]
 case slice t x lo hi mx=>
  cases lo with
  | some lo=>cases hi with
   | some _=>rfl
   | none=>cases mx with
    | some _=>rfl
    | none=>
     have h1:=h x (by simp);have h2:=h lo (by simp);simp only [h1,h2]
  | none=>cases hi with
   | some _=>rfl
   | none=>cases mx with
    | some _=>rfl
    | none=>simp at h; simp only [h]
 case convert src dst x=>simp at h; simp only [h]
theorem Vxj {R:Type} {e e':Operand->DT T} {m:MT T} {o:Op} {K:DT T->MT T->Option R} (h:∀ x∈o.operands,e x=e' x):wK E.Y E.C o e m K=wK E.Y E.C o e' m K:=by
 cases o<;>simp only [Op.operands] at h<;>simp only [wK]
 case box t x=>simp at h; simp only [h]
 case store t x y=>simp at h; simp only [h]
 case range t x=>simp at h; simp only [h]
 case convert src dst x=>simp at h; simp only [h]
 case makeSlice t a b=>simp at h; simp only [h]
 case next x q=>simp at h; cases q<;>simp only [h]
 case buildSlice t n ps=>
  have:(ps.toList.map λp=>(p.1,e p.2))=(ps.toList.map λp=>(p.1,e' p.2)):=List.map_congr_left λp hp=>by
   rw [h p.2 (by simp; exact ⟨p.1,by simpa using hp⟩)]
  simp only [this]
 case call c=>
  obtain ⟨callee,args,at'⟩:=c;have hm:∀ x∈args.toList,e x=e' x:=λx hx=>h x (by simp [Call.operands]; right; simpa using hx);cases callee with
  | builtin b=>
   cases b<;>simp only [];all_goals
    split
    ·rename_i s x t t' hx ht;have h1:e s=e' s:=hm s (by rw [hx]; simp);have h2:e x=e' x:=hm x (by rw [hx]; simp);simp only [h1,h2]
    ·rfl
  | invoke r n=>rfl
  | value f=>rfl
theorem Vit {e e':Operand->DT T} {m:MT T} {o:Op} (h:∀ x∈o.operands,e x=e' x):semT E o e m=semT E o e' m:=by
 unfold semT opK;split
 ·exact Vxh h
 ·split
  ·rename_i f args at' _;have ha:args.toList.map e=args.toList.map e':=List.map_congr_left λx hx=>h x (by simp [Op.operands,Call.operands]; right; simpa using hx);rw [ha]
  ·exact Vxi h
 ·split
  ·rename_i f args at' _;have ha:args.toList.map e=args.toList.map e':=List.map_congr_left λx hx=>h x (by simp [Op.operands,Call.operands]; right; simpa using hx);have hf:e f=e' f:=h f (by simp [Op.operands,Call.operands]);rw [ha,hf]
  ·rename_i t x _;rw [h x (by simp [Op.operands])]
  ·exact Vxj h
theorem Vu4 {σ:SF T} {dst:Option Nat} {d:DT T} {x:Operand} (h:∀ k,dst=some k->x≠.tmp k):evT E.G (σ.put dst d).t x=evT E.G σ.t x:=by
 cases dst with
 | none=>rfl
 | some k=>
  cases x with
  | tmp t=>
   have:t≠k:=λe=>h k rfl (e ▸ rfl);simp [evT,SF.put,upd,this]
  | _=>rfl
theorem Vgg {σ:SF T} {dst:Option Nat} {d:DT T} {o:Oper} {m:MT T} (h:∀ k,dst=some k->k∉o.looksAt ops):semT E o.op (evT E.G (σ.put dst d).t) m=semT E o.op (evT E.G σ.t) m:=
 Vit λx hx=>Vu4 λk hk e=>h k hk (Vlb (by rw [<- e]; exact hx))
theorem Va0a {t:Nat->DT T} {k:Nat} {d:DT T} {o:Oper} (h:k∉o.looksAt ops):gdT ops o (upd t k d)=gdT ops o t:=by
 unfold gdT gslot;cases hg:o.guard with
 | none=>rfl
 | some p=>
  obtain ⟨j,want⟩:=p;simp only;cases hd:(ops[j]?).bind (·.dst) with
  | none=>rfl
  | some q=>
   have:q≠k:=λe=>h (by
    unfold Oper.looksAt;rw [List.mem_append];right;simp [hg,hd,e])
   simp [upd,this]
theorem SF.put_comm (σ:SF T) {x y:Option Nat} (d d':DT T) (h:∀ k,x=some k->y≠some k):(σ.put x d).put y d'=(σ.put y d').put x d:=by
 cases x with
 | none=>rfl
 | some k=>
  cases y with
  | none=>rfl
  | some q=>
   have hne:k≠q:=λe=>h k rfl (by rw [e]);simp only [SF.put];congr 1;funext j;simp only [upd];by_cases h1:j=k
   ·subst h1; simp [hne]
   ·simp [h1]
theorem Vbh {σ:SF T} {dst:Option Nat} {d:DT T} {o:Oper} (h:∀ k,dst=some k->k∉o.looksAt ops):gdT ops o (σ.put dst d).t=gdT ops o σ.t:=by
 cases dst with
 | none=>rfl
 | some k=>exact Va0a (h k rfl)
theorem Vn4 {o:Op} {e:Operand->DT T} {m m':MT T} {d:DT T} (hc:clsT E o = .n) (h:semT E o e m=some (d,m')):m'=m/\∀ m2,semT E o e m2=some (d,m2):=by
 unfold semT opK at *;rw [hc] at h |-;simp only at h |-;rw [Vns,Option.bind_eq_some_iff] at h;obtain ⟨x,hx,hp⟩:=h;simp only [Option.some.injEq,Prod.mk.injEq] at hp;refine ⟨hp.2.symm,λm2=>?_⟩;rw [Vns,hx,<- hp.1]; rfl
theorem Vhu (f:Nat) (ds:List (DT T)) (m:MT T) {R:Type} (K:DT T->Option R):callR E f ds m K=(callR E f ds m some).bind K:=by
 have look : ∀ (ss : List Slot) (ds : List (DT T)) {R : Type} (K : tySs T ss->Option R), decVsK E.C m ss ds K = (decVsK E.C m ss ds some).bind K := by
  intro ss;induction ss with
  | nil=>intro ds R K; simp only [decVsK]; split<;>rfl
  | cons s r ih=>
   intro ds R K;cases s with
   | f f =>
    cases f with
    | v t =>
     cases ds with
     | nil=>rfl
     | cons d ds=>
      simp only [decVsK];split
      ·rw [Vbr,Vbr (R:=tySs T (.f (.v t)::r))];simp only [Option.bind_assoc];congr 1; funext cs;split
       ·rw [ih ds,ih ds (R:=tySs T (.f (.v t)::r))];rw [Option.bind_assoc]; rfl
       ·rfl
      ·rfl
    | own c=>simp [decVsK]
    | pt c=>simp [decVsK]
    | st a c b=>simp [decVsK]
    | fp f t=>simp [decVsK]
   | ptr fs=>simp [decVsK]
   | inp c=>simp [decVsK]
   | iter=>simp [decVsK]
   | lar c=>simp [decVsK]
   | mset a c=>simp [decVsK]
 unfold callR;split
 ·split
  ·rw [look,look (R:=DT T)];simp only [Option.bind_assoc,Option.bind_some]
  ·rfl
 ·rfl
theorem Vu5 {o:Op} {e:Operand->DT T} {m m':MT T} {d:DT T} (hc:clsT E o = .r) (h:semT E o e m=some (d,m')):m'=m:=by
 unfold semT opK at *;rw [hc] at h;simp only at h;split at h
 ·rw [Vhu,Option.bind_eq_some_iff] at h;obtain ⟨x,hx,hp⟩:=h;simp only [Option.some.injEq,Prod.mk.injEq] at hp;exact hp.2.symm
 ·rw [Vue,Option.bind_eq_some_iff] at h;obtain ⟨x,hx,hp⟩:=h;simp only [Option.some.injEq,Prod.mk.injEq] at hp;exact hp.2.symm
theorem Vef (t:Nat->DT T) (m1 m2 m3:MT T) {x y:Option Nat} (dx dy:DT T) (h:∀ k,y=some k->x≠some k) :
  ({ t:=(({ t:=t,m:=m1 }:SF T).put y dy).t,m:=m2 }:SF T).put x dx=({ t:=(({ t:=t,m:=m3 }:SF T).put x dx).t,m:=m2 }:SF T).put y dy:=by
 cases x with
 | none=>cases y<;>rfl
 | some k=>
  cases y with
  | none=>rfl
  | some q=>
   have hne:q≠k:=λe=>h q rfl (by rw [e]);simp only [SF.put];congr 1;funext j;simp only [upd];by_cases h1:j=k
   ·subst h1; simp [Ne.symm hne]
   ·simp [h1]
theorem Vo8 {x y:Oper} {σ σ1 σ2:SF T} (hi:indepT E ops x y=true) (h1:stepOT E ops x σ=some σ1) (h2:stepOT E ops y σ1=some σ2) :
  ∃ τ,stepOT E ops y σ=some τ/\stepOT E ops x τ=some σ2:=by
 unfold indepT at hi;simp only [Bool.and_eq_true,Bool.not_eq_true'] at hi;obtain ⟨hap,hcl⟩:=hi;obtain ⟨a1,a2,a3⟩:=Oper.apart_spec hap;have a2':∀ k,y.dst=some k->x.dst≠some k:=λk hk e=>a2 k e hk;unfold stepOT at h1 h2
 -- x
 split at h1
 ·cases h1
 ·-- x is passed over
  rename_i hgx;simp only [Option.some.injEq] at h1; subst h1;rw [Vbh a1] at h2;split at h2
  ·cases h2
  ·rename_i hgy;simp only [Option.some.injEq] at h2; subst h2;refine ⟨σ.put y.dst (.tup []),by simp [stepOT,hgy],?_⟩;unfold stepOT;rw [Vbh a3,hgx];simp only;rw [SF.put_comm σ _ _ a2']
  ·rename_i hgy;rw [Vgg a1] at h2;split at h2
   case h_2=>cases h2
   rename_i d m' hs;simp only [Option.some.injEq] at h2; subst h2;have hs':semT E y.op (evT E.G σ.t) σ.m=some (d,m'):=by
    rw [<- hs]; cases x.dst<;>rfl
   refine ⟨({ σ with m:=m' }:SF T).put y.dst d,by simp [stepOT,hgy,hs'],?_⟩;unfold stepOT;rw [Vbh a3];simp only [hgx];have:=Vef σ.t m' m' σ.m (DT.tup []) d a2';have hm2:(({ σ with m:=m' }:SF T).put y.dst d).m=m':=by cases y.dst<;>rfl
   have e:(({ σ with m:=m' }:SF T).put y.dst d)=({ t:=(({ σ with m:=m' }:SF T).put y.dst d).t,m:=m' }:SF T):=by cases y.dst<;>rfl
   rw [e];exact congrArg some this
 ·-- x runs
  rename_i hgx;split at h1
  case h_2=>cases h1
  rename_i dx mx hsx;simp only [Option.some.injEq] at h1; subst h1;rw [Vbh a1] at h2;simp only at h2;split at h2
  ·cases h2
  ·rename_i hgy;simp only [Option.some.injEq] at h2; subst h2;refine ⟨σ.put y.dst (.tup []),by simp [stepOT,hgy],?_⟩;unfold stepOT;rw [Vbh a3,hgx];simp only;rw [Vgg a3];have:(σ.put y.dst (DT.tup [])).m=σ.m:=by cases y.dst<;>rfl
   rw [this,hsx];simp only [Option.some.injEq];have h3:=Vef σ.t σ.m mx mx dx (DT.tup []) a2';have e:(({ σ with m:=mx }:SF T).put x.dst dx)=({ t:=(({ σ with m:=mx }:SF T).put x.dst dx).t,m:=mx }:SF T):=by cases x.dst<;>rfl
   rw [e];exact h3
  ·rename_i hgy;rw [Vgg a1] at h2;have hmx:(({ σ with m:=mx }:SF T).put x.dst dx).m=mx:=by cases x.dst<;>rfl
   rw [hmx] at h2;split at h2
   case h_2=>cases h2
   rename_i dy my hsy;simp only [Option.some.injEq] at h2; subst h2;have key:∃ m1,semT E y.op (evT E.G σ.t) σ.m=some (dy,m1)/\semT E x.op (evT E.G σ.t) m1=some (dx,my):=by
    cases hcx:clsT E x.op with
    | n=>
     obtain ⟨e1,e2⟩:=Vn4 hcx hsx;subst e1;exact ⟨my,hsy,e2 my⟩
    | r=>
     have e1:=Vu5 hcx hsx;subst e1;cases hcy:clsT E y.op with
     | n=>obtain ⟨e3,_⟩:=Vn4 hcy hsy; subst e3; exact ⟨_,hsy,hsx⟩
     | r=>have e3:=Vu5 hcy hsy; subst e3; exact ⟨_,hsy,hsx⟩
     | w=>rw [hcx,hcy] at hcl; simp [Cls.clash] at hcl
    | w=>
     cases hcy:clsT E y.op with
     | n=>obtain ⟨e3,e4⟩:=Vn4 hcy hsy; subst e3; exact ⟨σ.m,e4 _,hsx⟩
     | r=>rw [hcx,hcy] at hcl; simp [Cls.clash] at hcl
     | w=>rw [hcx,hcy] at hcl; simp [Cls.clash] at hcl
   obtain ⟨m1,k1,k2⟩:=key;refine ⟨({ σ with m:=m1 }:SF T).put y.dst dy,by simp [stepOT,hgy,k1],?_⟩;unfold stepOT;rw [Vbh a3];simp only [hgx];rw [Vgg a3];have hm1:(({ σ with m:=m1 }:SF T).put y.dst dy).m=m1:=by cases y.dst<;>rfl
   simp only [hm1,k2,Option.some.injEq];exact Vef σ.t m1 my mx dx dy a2'
theorem Ve9 {i:Nat} {oi:Oper} (hoi:ops[i]? = some oi):∀ (l r:List Nat) (σ σ':SF T),(∀ j∈l,∃ oj,ops[j]? = some oj/\indepT E ops oj oi=true)->runOpsT E ops (l++i::r) σ=some σ'->runOpsT E ops (i::(l++r)) σ=some σ'
 | [],r,σ,σ',_,h=>h
 | j::l,r,σ,σ',hl,h=>by
  obtain ⟨oj,hoj,hin⟩:=hl j (by simp);simp only [List.cons_append,runOpsT,hoj] at h;split at h
  case h_2=>cases h
  rename_i σ1 h1;have h2:=Ve9 hoi l r σ1 σ' (λk hk=>hl k (by simp [hk])) h;simp only [runOpsT,hoi] at h2;split at h2
  case h_2=>cases h2
  rename_i σ2 h3;obtain ⟨τ,h4,h5⟩:=Vo8 hin h1 h3;simp only [List.cons_append,runOpsT,hoi,h4,hoj,h5];exact h2
theorem Vhv (hp:pairsOkT E ops=true) {i:Nat} {oi:Oper} (hi:ops[i]? = some oi) :
  (∀ e∈oi.after,Region.binds .any e=true->e.on < i)/\∀ j,j < i->∃ oj,ops[j]? = some oj/\(((masks ops.toList []).getD i 0).testBit j=true\/indepT E ops oj oi=true):=by
 have hlt:i < ops.size:=by
  rcases Nat.lt_or_ge i ops.size with h | h
  ·exact h
  ·rw [Array.getElem?_eq_none h] at hi; cases hi
 unfold pairsOkT at hp;have:=List.all_eq_true.1 hp i (by simpa using hlt);simp only [pairsAtT,hi,Bool.and_eq_true] at this;obtain ⟨h1,h2⟩:=this;refine ⟨λe he hb=>?_,λj hj=>?_⟩
 ·have:=Array.all_eq_true'.1 h1 e he;simpa [hb] using this
 ·have:=List.all_eq_true.1 h2 j (by simpa using hj);split at this
  ·rename_i oj hoj;exact ⟨oj,hoj,by simpa using this⟩
  ·cases this
theorem Vu6 (hp:pairsOkT E ops=true):∀ (fuel t:Nat) (listed:Array Bool) (σ σ':SF T),listed.size=ops.size->(left ops.size listed).length<=fuel ->
  (∀ (k:Nat) (o:Oper),ops[k]? = some o->listed.getD k false=true->∀ e∈o.after,Region.binds .any e=true->listed.getD e.on false=true) ->
  runOpsT E ops (left ops.size listed) σ=some σ'->runOpsT E ops (Region.linearise.go .any ops fuel t listed []) σ=some σ'
 | 0,t,listed,σ,σ',hsz,hf,hcl,h=>by
  have:left ops.size listed=[]:=List.eq_nil_of_length_eq_zero (by omega);rw [this] at h;simpa [Region.linearise.go] using h
 | fuel+1, t, listed, σ, σ', hsz, hf, hcl, h => by
  simp only [Region.linearise.go];change runOpsT E ops (match (Region.ready .any ops listed)[t % (Region.ready .any ops listed).length]? with
   | some i=>Region.linearise.go .any ops fuel (t / (Region.ready .any ops listed).length) (listed.setIfInBounds i true) [i]
   | none=>[].reverse) σ=some σ'
  have hready:∀ i,i∈Region.ready .any ops listed↔i∈left ops.size listed/\∃ o,ops[i]? = some o/\∀ e∈o.after,Region.binds .any e=true->listed.getD e.on false=true:=by
   intro i;unfold Region.ready;simp only [List.mem_filter,List.mem_range,Bool.and_eq_true,Bool.not_eq_true',mem_left];constructor
   ·rintro ⟨h1,h2,h3⟩;refine ⟨⟨h1,h2⟩,ops[i],by simp [h1],λe he hb=>?_⟩;simp only [Array.getElem?_eq_getElem h1,Option.map_some,Option.getD_some,Array.all_eq_true'] at h3;have:=h3 e he;simpa [hb] using this
   ·rintro ⟨⟨h1,h2⟩,o,ho,h3⟩;refine ⟨h1,h2,?_⟩;simp only [ho,Option.map_some,Option.getD_some,Array.all_eq_true'];intro e he;cases hb:Region.binds .any e with
    | false=>simp
    | true=>simp [h3 e he hb]
  cases hi:(Region.ready .any ops listed)[t % (Region.ready .any ops listed).length]? with
  | none=>
   have hnil:Region.ready .any ops listed=[]:=by
    cases hr:Region.ready .any ops listed with
    | nil=>rfl
    | cons x xs=>
     rw [hr] at hi;have hlt:t % (x::xs).length < (x::xs).length:=Nat.mod_lt _ (by simp);rw [List.getElem?_eq_getElem hlt] at hi;cases hi
   have hl : left ops.size listed = [] := by
    cases hr:left ops.size listed with
    | nil=>rfl
    | cons x xs=>
     exfalso;have hx:x∈left ops.size listed:=by rw [hr]; simp
     obtain ⟨hxl,hxf⟩:=mem_left.1 hx;have hox:ops[x]? = some ops[x]:=by simp [hxl]
     have:x∈Region.ready .any ops listed:=by
      rw [hready];refine ⟨hx,ops[x],hox,λe he hb=>?_⟩;have hlt:=(Vhv hp hox).1 e he hb
      -- e.on < x and x is the least that is left
      rcases hle:listed.getD e.on true with _ | _
      ·have hme:e.on∈left ops.size listed:=mem_left.2 ⟨by omega,hle⟩;obtain ⟨l,r,e1,e2,_⟩:=Vea hsz hme;have:x=(l++e.on::r).head (by simp):=by
        have:=congrArg List.head? (hr.symm.trans e1);simp at this;cases l with
        | nil=>simpa using this
        | cons y ys=>simpa using this
       cases l with
       | nil=>simp at this; omega
       | cons y ys=>
        simp at this;have:=(e2 y (by simp)).1;omega
      ·have:e.on < listed.size:=by rw [hsz]; omega
       simp [Array.getD_eq_getD_getElem?,this] at hle |-;exact hle
     rw [hnil] at this;cases this
   rw [hl] at h;simpa using h
  | some i=>
   simp only [];have hir:=(hready i).1 (List.mem_of_getElem? hi);obtain ⟨hil,oi,hoi,hdep⟩:=hir;obtain ⟨l,r,e1,e2,e3⟩:=Vea hsz hil;rw [linearise_go_acc,List.reverse_singleton,List.singleton_append];rw [e1] at h;have hfr:=Ve9 hoi l r σ σ' (λj hj=>by
    obtain ⟨hji,hjf⟩:=e2 j hj;obtain ⟨oj,hoj,hor⟩:=(Vhv hp hoi).2 j hji;refine ⟨oj,hoj,hor.resolve_left λhre=>?_⟩;have:=Vfr ops.toList [] (λk _=>by simp) (λk hk=>by simp at hk) (λk _=>by simp) i listed hcl oi hoi hdep j hre;have hjl:j < listed.size:=by
     rw [hsz];rcases Nat.lt_or_ge j ops.size with h | h
     ·exact h
     ·rw [Array.getElem?_eq_none h] at hoj; cases hoj
    simp [Array.getD_eq_getD_getElem?,hjl] at this hjf;rw [this] at hjf; cases hjf) h
   simp only [runOpsT,hoi] at hfr |-;split at hfr
   case h_2=>cases hfr
   rename_i σ1 h1;have hlen:(left ops.size listed).length=(l++r).length+1:=by rw [e1]; simp; omega
   refine Vu6 hp fuel _ _ σ1 σ' (by simpa using hsz) (by rw [e3]; omega) (λk o hk hlk e he hb=>?_) (by rw [e3]; exact hfr);have hset:∀ q,listed.getD q false=true->(listed.setIfInBounds i true).getD q false=true:=λq hq=>by
    simp only [Array.getD_eq_getD_getElem?,Array.getElem?_setIfInBounds] at hq |-;by_cases hqi:i=q
    ·subst hqi;rw [if_pos rfl];by_cases hqs:i < listed.size
     ·simp [hqs]
     ·simp [hqs] at hq
    ·rw [if_neg hqi]; exact hq
   by_cases hki:k=i
   ·subst hki;rw [hoi] at hk; cases hk;exact hset _ (hdep e he hb)
   ·refine hset _ (hcl k o hk ?_ e he hb);simpa [Array.getD_eq_getD_getElem?,Array.getElem?_setIfInBounds,Ne.symm hki] using hlk
theorem Vj2 (hmix:P.follows .mixedOrders=true) (hp:pairsOkT E ops=true) (t:Nat) {σ σ':SF T} (h:runOpsT E ops (List.range ops.size) σ=some σ') :
  runOpsT E ops (Region.schedule (P.follows .mixedOrders) ops t) σ=some σ':=by
 simp only [Region.schedule,hmix,Bool.true_or,if_true,Region.linearise];have hl:left ops.size (Array.replicate ops.size false)=List.range ops.size:=by
  unfold left;rw [List.filter_eq_self];intro i hi;simp only [List.mem_range] at hi;simp [Array.getD_eq_getD_getElem?,hi]
 refine Vu6 hp ops.size t _ σ σ' (by simp) (by rw [hl]; simp) (λk o hk hlk=>?_) (by rw [hl]; exact h);simp [Array.getD_eq_getD_getElem?] at hlk;by_cases hk2:k < ops.size
 ·simp [hk2] at hlk
 ·simp [hk2] at hlk
end
section
variable {T:Nat->Type}
structure RelT (E:Env T) (O I0:Nat->Prop) (w0:World) (n:Nat) (kp:List (Nat×Value)) (I:Nat->Prop) (loc:Nat->Nat->Loc) (L:Nat->Nat->Nat) (σ:SF T) (a:Act) (w:World):Prop where
 size:a.tmps.size=n
 defers:a.defers=[]
 tmp:∀ i,V I w (den E.C (σ.t i)) loc (a.tmps.getD i undef)
 wf:∀ i,WfD L (σ.t i)
 mem:MRel O I loc (denM E.C σ.m) w
 wfm:WfM L σ.m
 glob:Glob (GD E) I w
 fr:Fr O w0 w
 rows:∀ b,rowSize w0 b<=rowSize w b
 imm0:∀ k,I0 k->I k
 imm1:∀ k,I k->I0 k\/O k
 kept:∀ p∈kp,a.tmps.getD p.1 undef=p.2
variable {P:Program} {E:Env T} {O I0 I:Nat->Prop} {w0 w:World} {n:Nat} {kp:List (Nat×Value)} {loc:Nat->Nat->Loc} {L:Nat->Nat->Nat} {σ:SF T} {a:Act} {R:Type} {C:Cd T}
theorem Vu7 {k:IntKind} {n:Int} (h:inK k n=true):den C (mkInt k n:DT T) = .int k n:=by
 simp only [inK,Bool.and_eq_true,decide_eq_true_eq] at h;obtain ⟨h1,h2⟩:=h;cases k<;>simp only [mkInt,den]<;>simp only [IntKind.bits] at h2<;>congr 1
 ·have:(UInt8.ofBitVec (BitVec.ofInt 8 n)).toNat=(BitVec.ofInt 8 n).toNat:=rfl;rw [this,BitVec.toNat_ofInt]; omega
 ·rw [BitVec.toNat_ofInt]; omega
 ·rw [BitVec.toNat_ofInt]; omega
 ·rw [BitVec.toNat_ofInt]; omega
theorem Vxk {k:IntKind} {n:Int}:WfD L (mkInt k n:DT T):=by cases k<;>trivial
mutual
theorem Vu8:∀ v:Value,V I w (den C (ofVT v:DT T)) loc v/\WfD L (ofVT v:DT T)
 | .bool b=>by simp [ofVT,den,V,WfD]
 | .int k n=>by
  simp only [ofVT];split
  ·exact ⟨by simp [den,V],trivial⟩
  ·split
   ·rename_i h;rw [Vu7 h];exact ⟨by simp [V],Vxk⟩
   ·exact ⟨trivial,trivial⟩
 | .string s=>by simp [ofVT,den,V,WfD]
 | .pointer none=>by simp [ofVT,den,V,WfD]
 | .pointer (some a)=>by simp [ofVT,den,V,WfD]
 | .slice none 0 0=>by simp [ofVT,den,V,WfD]
 | .slice none 0 (n+1)=>by simp [ofVT,den,V,WfD]
 | .slice none (n+1) _=>by simp [ofVT,den,V,WfD]
 | .slice (some _) _ _=>by simp [ofVT,den,V,WfD]
 | .agg ⟨cs⟩=>by
  simp only [ofVT];split
  ·rename_i h;simp only [den,V,WfD];exact ⟨⟨cs,rfl,λx hx=>by simpa using List.all_eq_true.1 h x hx,(Vgh cs).1⟩,(Vgh cs).2⟩
  ·exact ⟨trivial,trivial⟩
 | .nilFunc=>by simp [ofVT,den,V,WfD]
 | .nilIface=>by simp [ofVT,den,V,WfD]
 | .map none=>by simp [ofVT,den,V,WfD]
 | .map (some _)=>by simp [ofVT,den,V,WfD]
 | .float _ _=>by simp [ofVT,den,V,WfD]
 | .complex _ _ _=>by simp [ofVT,den,V,WfD]
 | .chan _=>by simp [ofVT,den,V,WfD]
 | .func _ _ _=>by simp [ofVT,den,V,WfD]
 | .iface _ _=>by simp [ofVT,den,V,WfD]
 | .tuple _=>by simp [ofVT,den,V,WfD]
theorem Vgh:∀ vs:List Value,VL I w (denL C (ofVTs vs:List (DT T))) loc vs/\WfL L (ofVTs vs:List (DT T))
 | []=>by simp [ofVTs,denL,VL,WfL]
 | v::r=>by
  simp only [ofVTs,denL,VL,WfL];exact ⟨⟨v,r,rfl,(Vu8 v).1,(Vgh r).1⟩,(Vu8 v).2,(Vgh r).2⟩
end
theorem Vhw (h:RelT E O I0 w0 n kp I loc L σ a w) (x:Operand):V I w (den E.C (evT E.G σ.t x)) loc (a.eval x)/\WfD L (evT E.G σ.t x):=by
 cases x with
 | tmp t=>exact ⟨h.tmp t,h.wf t⟩
 | const v=>exact Vu8 v
 | global g=>
  simp only [evT,Act.eval];cases hg:E.G g with
  | none=>exact ⟨trivial,trivial⟩
  | some cs=>
   simp only [den,V,WfD,and_true];have hq:=h.glob g (denL E.C cs) (by simp [GD,hg]);exact ⟨g,0,rfl,hq.1,hq.2.1⟩
 | func f=>exact ⟨by simp only [evT,Act.eval,den,denL,V]; exact ⟨[],rfl,by simp [VL]⟩,trivial⟩
theorem RelT.put (h:RelT E O I0 w0 n kp I loc L σ a w) {m':MT T} {w':World} {I':Nat->Prop} {loc':Nat->Nat->Loc} {L':Nat->Nat->Nat} {d:DT T} {v:Value} (dst:Option Nat) (hd:∀ k,dst=some k->k < n/\∀ p∈kp,p.1≠k)
  (hm:MRel O I' loc' (denM E.C m') w') (hwm:WfM L' m') (hG:Glob (GD E) I' w') (hv:V I' w' (den E.C d) loc' v) (hwd:WfD L' d) (he:Ext I I' w w') (hI:∀ k,I' k->I k\/O k) (hl:LocExt loc loc') (hL:LExt loc L L') (hf:Fr O w w') :
  RelT E O I0 w0 n kp I' loc' L' ({ σ with m:=m' }.put dst d) (a.put dst v) w':=by
 have hold:∀ i,V I' w' (den E.C (σ.t i)) loc' (a.tmps.getD i undef):=λi=>Vaz he _ loc loc' _ hl (h.tmp i);have holw:∀ i,WfD L' (σ.t i):=λi=>Vjw hL _ _ (h.tmp i) (h.wf i);have hi1:∀ k,I' k->I0 k\/O k:=λk hk=>(hI k hk).elim (h.imm1 k) .inr;have hrows:∀ b,rowSize w0 b<=rowSize w' b:=λb=>Nat.le_trans (h.rows b) (he.rows b);cases dst with
 | none=>exact ⟨h.size,h.defers,hold,holw,hm,hwm,hG,h.fr.trans hf,hrows,λk hk=>he.imm k (h.imm0 k hk),hi1,h.kept⟩
 | some k=>
  obtain ⟨hk,hkp⟩:=hd k rfl;have get1:(a.tmps.setIfInBounds k v).getD k undef=v:=by
   simp [Array.getD_eq_getD_getElem?,Array.getElem?_setIfInBounds,h.size,hk]
  have get2:∀ i,i≠k->(a.tmps.setIfInBounds k v).getD i undef=a.tmps.getD i undef:=λi e=>by
   simp [Array.getD_eq_getD_getElem?,Array.getElem?_setIfInBounds,Ne.symm e]
  refine ⟨by simp [Act.put,h.size],h.defers,λi=>?_,λi=>?_,hm,hwm,hG,h.fr.trans hf,hrows,λk hk=>he.imm k (h.imm0 k hk),hi1,λp hp=>?_⟩
  ·simp only [SF.put,Act.put,upd];by_cases e:i=k
   ·subst e;rw [if_pos rfl,get1]; exact hv
   ·rw [if_neg e,get2 i e]; exact hold i
  ·simp only [SF.put,upd];by_cases e:i=k
   ·rw [if_pos e]; exact hwd
   ·rw [if_neg e]; exact holw i
  ·simp only [Act.put];rw [get2 p.1 (hkp p hp)];exact h.kept p hp
theorem Vy1 (hE:EnvOk P E) (h:RelT E O I0 w0 n kp I loc L σ a w) {o:Oper} {K:DT T->MT T->Option R} {r:R} (hk:opK E o.op (evT E.G σ.t) σ.m K=some r) :
  ∃ d m',FollowsT P E O I loc L w o ((execOp a.eval o).run P w) d m'/\K d m'=some r:=by
 have he:=λx=>(Vhw h x).1;have hwe:=λx=>(Vhw h x).2;obtain ⟨dst,op,type,pos,after,guard⟩:=o;simp only at hk;unfold opK at hk;split at hk
 ·obtain ⟨d,h1,h2,h3⟩:=nK_ok (L:=L) hE.tys hE.cd hwe hk;exact ⟨d,σ.m,.of_D h.mem h.wfm h2 (Follows.of_res h.glob (Res.of_same h.mem (Vtw (o:=⟨dst,op,type,pos,after,guard⟩) he h1))),h3⟩
 ·split at hk
  ·rename_i f args at' _;obtain ⟨d,h1,h2⟩:=Vu3 hE h.mem h.wfm h.glob he hwe (f:=f) rfl hk;exact ⟨d,σ.m,h1,h2⟩
  ·obtain ⟨d,h1,h2,h3⟩:=rK_ok (P:=P) (o:=⟨dst,op,type,pos,after,guard⟩) hE.cd hE.tys h.mem h.wfm h.glob he hwe hk;exact ⟨d,σ.m,.of_D h.mem h.wfm h2 h1,h3⟩
 ·split at hk
  ·split at hk
   case h_2=>cases hk
   rename_i f args at' _ k cap hf;exact Vo7 hE h.mem h.wfm h.glob he hwe hf hk
  ·rename_i t x _;obtain ⟨d,m',h1,h2⟩:=Vmq (P:=P) (R:=R) (ρ:=a.eval) (x:=x) hE.cd hE.tys h.mem h.wfm (hwe x) (he x) hk dst type pos after guard;exact ⟨d,m',.of_res h.glob h1,h2⟩
  ·obtain ⟨d,m',h1,h2⟩:=wK_ok (P:=P) (o:=⟨dst,op,type,pos,after,guard⟩) hE.cd hE.tys h.mem h.wfm he hwe hk;exact ⟨d,m',.of_res h.glob h1,h2⟩
theorem Vn5 (h:RelT E O I0 w0 n kp I loc L σ a w) {ops:Array Oper} {o:Oper} {b:Bool} (hg:gdT ops o σ.t=some b):Region.wanted o (yielded ops a.tmps)=b:=by
 unfold gdT gslot at hg;unfold Region.wanted;cases hgd:o.guard with
 | none=>simp only [hgd,Option.some.injEq] at hg; subst hg; rfl
 | some p=>
  obtain ⟨j,want⟩:=p;simp only [hgd] at hg;cases hk:(ops[j]?).bind (·.dst) with
  | none=>simp [hk] at hg
  | some k=>
   simp only [hk] at hg;split at hg
   ·rename_i q hd;have hv:=h.tmp k;rw [hd] at hv; simp only [den,V] at hv;have hy:a.tmps[k]? = some (.bool q):=by
     rw [Array.getD_eq_getD_getElem?] at hv;cases hz:a.tmps[k]? with
     | none=>rw [hz] at hv; simp [undef] at hv
     | some x=>rw [hz] at hv; simp at hv; rw [hv]
    simp only [yielded,hk,Option.bind_some,hy];simp only [Option.some.injEq] at hg; subst hg;cases q<;>cases want<;>rfl
   ·rename_i hd;have hv:=h.tmp k;rw [hd] at hv; simp only [den,denL,V,VL] at hv;obtain ⟨vs,hv,rfl⟩:=hv;simp only [Option.some.injEq] at hg; subst hg;simp only [yielded,hk,Option.bind_some];rw [Array.getD_eq_getD_getElem?] at hv;cases hz:a.tmps[k]? with
    | none=>simp
    | some x=>
     rw [hz] at hv; simp at hv; subst hv;simp
   ·cases hg
theorem Vu9 (hE:EnvOk P E) (h:RelT E O I0 w0 n kp I loc L σ a w) {ops:Array Oper} {i:Nat} {o:Oper} (hi:ops[i]? = some o) (hd:∀ k,o.dst=some k->k < n/\∀ p∈kp,p.1≠k) {σ':SF T} (hs:stepOT E ops o σ=some σ')
  {K:Act->World->Prop} {Q:Exit->Act->World->Prop} (hK:∀ a' w' I' loc' L',RelT E O I0 w0 n kp I' loc' L' σ' a' w'->K a' w'):wpOp P ops Q i K a w:=by
 unfold stepOT at hs;unfold wpOp;simp only [hi];split at hs
 ·cases hs
 ·rename_i hg;rw [Vn5 h hg];simp only [Option.some.injEq] at hs; subst hs;simp only [Bool.false_eq_true,if_false];refine hK _ _ I loc L ?_;exact h.put (d:=.tup []) (v:=undef) o.dst hd h.mem h.wfm h.glob (by simp only [den,denL,V,VL]; exact ⟨[],rfl,rfl⟩) trivial (.refl _ _) (λ_ h=>.inl h) (.refl _) (.refl _ _) (.refl _ _)
 ·rename_i hg;rw [Vn5 h hg];simp only [if_true];split at hs
  case h_2=>cases hs
  rename_i d m' hsem;simp only [Option.some.injEq] at hs; subst hs;left;unfold semT at hsem;obtain ⟨d1,m1,h1,h2⟩:=Vy1 hE h hsem;simp only [Option.some.injEq,Prod.mk.injEq] at h2;obtain ⟨rfl,rfl⟩:=h2;refine h1 a K Q λv w' I' loc' L' z1 z2 z3 z4 z5 z6 z7 z8 z9 z10=>?_;exact hK _ _ I' loc' L' (h.put o.dst hd z1 z2 z3 z4 z5 z6 z7 z8 z9 z10)
theorem Vfx (hE:EnvOk P E) {ops:Array Oper} (hd:∀ (i:Nat) (o:Oper) (k:Nat),ops[i]? = some o->o.dst=some k->k < n/\∀ p∈kp,p.1≠k) {Q:Exit->Act->World->Prop}:∀ (l:List Nat) {σ σ':SF T} {I:Nat->Prop} {loc:Nat->Nat->Loc} {L:Nat->Nat->Nat} {a:Act} {w:World},
  RelT E O I0 w0 n kp I loc L σ a w->runOpsT E ops l σ=some σ'->(∀ a' w' I' loc' L',RelT E O I0 w0 n kp I' loc' L' σ' a' w'->Q .normal a' w')->wpOps P ops Q l a w
 | [],σ,σ',I,loc,L,a,w,h,hr,hQ=>by
  simp only [runOpsT,Option.some.injEq] at hr; subst hr;exact hQ _ _ _ _ _ h
 | i::r,σ,σ',I,loc,L,a,w,h,hr,hQ=>by
  simp only [runOpsT] at hr;split at hr
  case h_2=>cases hr
  rename_i o ho;split at hr
  case h_2=>cases hr
  rename_i σ1 hs;rw [wpOps_cons];exact Vu9 hE h ho (λk hk=>hd i o k ho hk) hs λa' w' I' loc' L' h'=>Vfx hE hd r h' hr hQ
theorem RelT.drew (h:RelT E O I0 w0 n kp I loc L σ a w):RelT E O I0 w0 n kp I loc L σ a { w with drawn:=w.drawn+1 }:=by
 have he:Ext I I w { w with drawn:=w.drawn+1 }:=Ext.of_heap rfl;exact ⟨h.size,h.defers,λi=>Vaz he _ loc loc _ (.refl _) (h.tmp i),h.wf,MRel.of_heap (w:=w) rfl h.mem,h.wfm,Va0 h.glob he,h.fr.trans ⟨rfl,rfl,rfl,Nat.le_refl _,λ_ _ _=>rfl⟩,λb=>Nat.le_trans (h.rows b) (he.rows b),h.imm0,h.imm1,h.kept⟩
end
section
variable {T:Nat->Type} {R:Type} {E:Env T} {ops:Array Oper} {P:Program}
theorem Vay (C:Cd T) (sn:Bool):∀ (ss:List Slot) (m:MT T) (ds:List (DT T)) {R:Type} (K:tySs T ss->List Nat->MT T->Option R),argsK C sn ss m ds K=(argsK C sn ss m ds λa b c=>some (a,b,c)).bind λp=>K p.1 p.2.1 p.2.2
 | [],m,ds,R,K=>by simp only [argsK]; split<;>rfl
 | .f (.v t)::r,m,[],R,K=>by simp [argsK]
 | .f (.v t)::r,m,d::ds,R,K=>by
  simp only [argsK];split
  ·split
   ·rw [Vbr,Vbr (R:=tySs T (.f (.v t)::r)×List Nat×MT T)];simp only [Option.bind_assoc];congr 1; funext cs;split
    ·rw [Vay C _ r m ds,Vay C _ r m ds (R:=tySs T (.f (.v t)::r)×List Nat×MT T)];simp only [Option.bind_assoc,Option.bind_some]
    ·rfl
   ·rw [Vc1,Vc1 (R:=tySs T (.f (.v t)::r)×List Nat×MT T)];simp only [Option.bind_assoc];congr 1; funext q;rw [Vay C _ r _ ds,Vay C _ r _ ds (R:=tySs T (.f (.v t)::r)×List Nat×MT T)];simp only [Option.bind_assoc,Option.bind_some]
  ·rfl
 | .f (.own c)::r,m,[],R,K=>by simp [argsK]
 | .f (.own c)::r,m,d::ds,R,K=>by
  simp only [argsK];rw [Vdx,Vdx (R:=tySs T (.f (.own c)::r)×List Nat×MT T)];simp only [Option.bind_assoc];congr 1; funext q;rw [Vay C _ r _ ds,Vay C _ r _ ds (R:=tySs T (.f (.own c)::r)×List Nat×MT T)];simp only [Option.bind_assoc,Option.bind_some]
 | .f (.pt c)::r,m,ds,R,K=>by simp [argsK]
 | .f (.st _ _ _)::r,m,ds,R,K=>by simp [argsK]
 | .f (.fp f t)::r,m,[],R,K=>by simp [argsK]
 | .f (.fp f t)::r,m,d::ds,R,K=>by
  simp only [argsK];split
  ·rw [Vc1,Vc1 (R:=tySs T (.f (.fp f t)::r)×List Nat×MT T)];simp only [Option.bind_assoc];congr 1; funext q;rw [Vay C _ r _ ds,Vay C _ r _ ds (R:=tySs T (.f (.fp f t)::r)×List Nat×MT T)];simp only [Option.bind_assoc,Option.bind_some]
  ·rfl
 | .ptr fs::r,m,[],R,K=>by simp [argsK]
 | .ptr fs::r,m,d::ds,R,K=>by
  simp only [argsK];split
  ·split
   ·rw [Vec,Vec (R:=tySs T (.ptr fs::r)×List Nat×MT T)];simp only [Option.bind_assoc];congr 1; funext q;rw [Vay C _ r _ ds,Vay C _ r _ ds (R:=tySs T (.ptr fs::r)×List Nat×MT T)];simp only [Option.bind_assoc,Option.bind_some]
   ·rfl
  ·rfl
 | .inp c::r,m,[],R,K=>by simp [argsK]
 | .inp c::r,m,d::ds,R,K=>by
  simp only [argsK];split
  ·split
   ·split
    ·rw [Vay C _ r _ ds,Vay C _ r _ ds (R:=tySs T (.inp c::r)×List Nat×MT T)];simp only [Option.bind_assoc,Option.bind_some]
    ·rfl
   ·rfl
  ·rfl
 | .iter::r,m,ds,R,K=>by simp [argsK]
 | .lar _::r,m,ds,R,K=>by simp [argsK]
 | .mset _ _::r,m,ds,R,K=>by simp [argsK]
theorem Vva (f:Nat) (ds:List (DT T)) (m:MT T) {R:Type} (K:DT T->MT T->Option R):callW E f ds m K=(callW E f ds m λa b=>some (a,b)).bind λp=>K p.1 p.2:=by
 unfold callW;split
 ·rw [Vay,Vay (R:=DT T×MT T)];simp only [Option.bind_assoc];congr 1; funext q;congr 1; funext r;split
  ·rfl
  ·rfl
 ·rfl
theorem Vj3 (Y:Nat->Option TI) (C:Cd T) (t:Nat) (x:DT T) (m:MT T) {R:Type} (K:DT T->MT T->Option R):sliceVarK Y C t x m K=(sliceVarK Y C t x m λa b=>some (a,b)).bind λp=>K p.1 p.2:=by
 unfold sliceVarK;split
 ·split
  ·split
   ·split
    ·split
     ·rw [Vb5,Vb5 (R:=DT T×MT T)];simp only [Option.bind_assoc];congr 1; funext p;split<;>rfl
     ·rfl
    ·rfl
   ·rfl
  ·rfl
 ·rfl
theorem Vbk (o:Op) (e:Operand->DT T) (m:MT T) {R:Type} (K:DT T->MT T->Option R):opK E o e m K=(semT E o e m).bind λp=>K p.1 p.2:=by
 unfold semT opK;split
 ·rw [Vns,Vns (R:=DT T×MT T),Option.bind_assoc]; rfl
 ·split
  ·rw [Vhu,Vhu (R:=DT T×MT T),Option.bind_assoc]; rfl
  ·rw [Vue,Vue (R:=DT T×MT T),Option.bind_assoc]; rfl
 ·split
  ·split
   ·rw [Vva]
   ·rfl
  ·rw [Vj3]
  ·rw [Vcka]
def ST.f (σ:ST T):SF T:=⟨tget σ.ts,σ.m⟩
theorem Vc2 (l:List (Nat×DT T)) (k:Nat) (d:DT T):tget ((k,d)::l)=upd (tget l) k d:=by
 funext j;simp only [tget,upd];by_cases h:j=k
 ·subst h; simp
 ·rw [if_neg h];have:Nat.beq j k=false:=by
   cases hb:Nat.beq j k with
   | false=>rfl
   | true=>exact absurd (Nat.eq_of_beq_eq_true hb) h
  rw [this]
theorem Vj4 (σ:ST T) (dst:Option Nat) (d:DT T):(σ.put dst d).f=σ.f.put dst d:=by
 cases dst with
 | none=>rfl
 | some k=>simp only [ST.put,ST.f,SF.put,Vc2]
theorem Vn6 (t:Nat->DT T) (k:Nat):upd t k (t k)=t:=by funext j; simp only [upd]; split<;>simp_all
theorem Vmr:∀ (l:List Oper) (is:List Nat) (σ:ST T) (K:ST T->Option R) (r:R),l.map some=is.map (ops[·]?)->runT E ops l σ K=some r->∃ σ',runOpsT E ops is σ.f=some σ'.f/\K σ'=some r
 | [],is,σ,K,r,hl,h=>by
  have:is=[]:=by simpa using hl.symm
  subst this;exact ⟨σ,rfl,h⟩
 | o::l,is,σ,K,r,hl,h=>by
  cases is with
  | nil=>simp at hl
  | cons i is=>
   simp only [List.map_cons,List.cons.injEq] at hl;obtain ⟨ho,hl⟩:=hl;have step:∀ σ1:ST T,σ1.f=σ.f->gdT ops o σ.f.t=some true->stepT E o σ1 (λσ'=>runT E ops l σ' K)=some r->∃ σ',runOpsT E ops (i::is) σ.f=some σ'.f/\K σ'=some r:=by
    intro σ1 h1 hg h;unfold stepT at h;rw [Vbk,Option.bind_eq_some_iff] at h;obtain ⟨⟨d,m'⟩,h2,h3⟩:=h;obtain ⟨σ',g1,g2⟩:=Vmr l is _ K r hl h3;refine ⟨σ',?_,g2⟩;have h2':semT E o.op (evT E.G σ.f.t) σ.f.m=some (d,m'):=by rw [<- h1]; exact h2
    simp only [runOpsT,<- ho,stepOT,hg,h2'];rw [Vj4] at g1;have:({ σ.f with m:=m' }:SF T)=(⟨σ1.ts,m'⟩:ST T).f:=by rw [<- h1]; rfl
    rw [this]; exact g1
   have skip:∀ σ1:ST T,σ1.f=σ.f->gdT ops o σ.f.t=some false->runT E ops l (ST.put σ1 o.dst (.tup [])) K=some r->∃ σ',runOpsT E ops (i::is) σ.f=some σ'.f/\K σ'=some r:=by
    intro σ1 h1 hg h;obtain ⟨σ',g1,g2⟩:=Vmr l is _ K r hl h;refine ⟨σ',?_,g2⟩;simp only [runOpsT,<- ho,stepOT,hg];rw [Vj4,h1] at g1;exact g1
   have same:∀ (k:Nat) (d:DT T),tget σ.ts k=d->(⟨(k,d)::σ.ts,σ.m⟩:ST T).f=σ.f:=λk d hd=>by
    simp only [ST.f,Vc2];rw [<- hd,Vn6]
   simp only [runT] at h;split at h
   ·rename_i hg;exact step σ rfl (by simp [gdT,hg]) h
   ·rename_i k hg;split at h
    ·rename_i b hb;cases b with
     | true=>exact step _ (same k _ hb) (by simp [gdT,hg,ST.f,hb]) h
     | false=>exact skip _ (same k _ hb) (by simp [gdT,hg,ST.f,hb]) h
    ·rename_i hb;exact skip _ rfl (by simp [gdT,hg,ST.f,hb]) h
    ·cases h
   ·rename_i k hg;split at h
    ·rename_i b hb;cases b with
     | true=>exact skip _ (same k _ hb) (by simp [gdT,hg,ST.f,hb]) h
     | false=>exact step _ (same k _ hb) (by simp [gdT,hg,ST.f,hb]) h
    ·rename_i hb;exact skip _ rfl (by simp [gdT,hg,ST.f,hb]) h
    ·cases h
   ·cases h
variable {O I0 I:Nat->Prop} {w0 w:World} {n:Nat} {kp:List (Nat×Value)} {loc:Nat->Nat->Loc} {L:Nat->Nat->Nat} {a:Act}
theorem Vn7 {E:Env T}:∀ (s:Shape) (ds:List (DT T)) (vs:List Value),VL I w (denL E.C ds) loc vs->WfL L ds->vs=s.map (λp=>a.tmps.getD p.1 undef)->∀ i,V I w (den E.C (tget ((s.map (·.1)).zip ds) i)) loc (a.tmps.getD i undef)/\WfD L (tget ((s.map (·.1)).zip ds) i)
 | [],ds,vs,hv,hw,hs,i=>⟨trivial,trivial⟩
 | p::s,[],vs,hv,hw,hs,i=>⟨trivial,trivial⟩
 | p::s,d::ds,vs,hv,hw,hs,i=>by
  simp only [denL,VL] at hv;obtain ⟨v,vr,rfl,h1,h2⟩:=hv;simp only [List.map_cons,List.cons.injEq] at hs;simp only [List.map_cons,List.zip_cons_cons,Vc2,upd];by_cases e:i=p.1
  ·subst e;rw [if_pos rfl];rw [<- hs.1];exact ⟨h1,hw.1⟩
  ·rw [if_neg e];exact Vn7 s ds vr h2 hw.2 hs.2 i
theorem Vn8 {C:Cd T} (hI:∀ k,I k->k < w.heap.size) (hO:∀ k,w.heap.size<=k->O k):MRel O I free (denM C ([]:MT T)) w:=
 ⟨λb hb=>absurd hb (Nat.not_lt_zero _),λ_ _ _=>rfl,λb _ _ hb=>absurd hb (Nat.not_lt_zero _),λb _ _ _ _ hb=>absurd hb (Nat.not_lt_zero _),hI,hO⟩
theorem Vfa (hC:CdOk E.C) {σ:ST T} (h:RelT E O I0 w0 n kp I loc L σ.f a w) {s:Shape} {K:tySs T s.slots->Option R} {r:R} (hk:takeK E.C s σ K=some r) :
  ∃ x I' loc' L',RelT E O I0 w0 n kp I' loc' L' (lay E.C s x).f a w/\K x=some r:=by
 unfold takeK at hk;have hv:VL I w (denL E.C (s.map λp=>tget σ.ts p.1)) loc (s.map λp=>a.tmps.getD p.1 undef):=by
  rw [Vaq,List.map_map];exact Vf2 (λp:Nat×Slot=>h.tmp p.1) s
 have hw:WfL L (s.map λp=>tget σ.ts p.1):=WfL_iff.2 λd hd=>by
  simp only [List.mem_map] at hd;obtain ⟨p,_,rfl⟩:=hd;exact h.wf p.1
 obtain ⟨x,own,I',m',loc',h1,h2,h3⟩:=Vyy hC s.slots h.mem h.wfm hw hv hk;obtain ⟨loc2,L2,p1,p2,p3⟩:=Vuz hC s.slots (m:=([]:MT T)) (loc:=free) (L:=λ_ _=>0) (Vn8 h1.mem.imm h1.mem.up) (λb=>trivial) h2
  ⟨λk hk=>⟨((h1.got k hk).2.facts h.mem).1,(h1.got k hk).1,((h1.got k hk).2.facts h.mem).2.2⟩,λk _ ⟨b,g,q,_⟩=>absurd q (Nat.not_lt_zero _)⟩
 refine ⟨x,I',loc2,L2,?_,h3⟩;have key:=Vn7 (E:=E) (a:=a) s (encSs E.C 0 s.slots x).1 _ p2 p3 rfl;have hx:Ext I I' w w:=Vae h1.imm0;exact ⟨h.size,h.defers,λi=>(key i).1,λi=>(key i).2,p1.mem,p1.wf,Va0 h.glob hx,h.fr,h.rows,λk hk=>h1.imm0 k (h.imm0 k hk),λk hk=>(h1.imm1 k hk).elim (h.imm1 k) (λq=>.inr (q.facts h.mem).1),h.kept⟩
theorem Vy2 {m:MT T} {b:Nat} (h:m.get b≠.gone):b < m.length:=by
 by_cases hb:b < m.length
 ·exact hb
 ·exfalso;apply h;unfold MT.get;rw [List.getD_eq_getElem?_getD,List.getElem?_eq_none (by omega)];rfl
def srcV (a:Act) (w:World) (k off:Nat):Value:=
 match a.tmps.getD k undef with
 | .pointer (some ⟨b,0,none⟩)=>match w.heap[b]? with
  | some (.cells c _ _)=>c.toList.getD off undef
  | _=>undef
 | v=>v
theorem Vvb {c b g c' n:Nat} {d:DT T} (h:bwOf c d = .bw b g c' n):c'=c/\d = .bw b g c n:=by
 cases d<;>simp only [bwOf] at h<;>try cases h
 rename_i b1 g1 c1 n1;cases hc:Nat.beq c1 c<;>rw [hc] at h
 ·cases h
 ·have:=Nat.eq_of_beq_eq_true hc;subst this;simp only [DT.bw.injEq] at h;obtain ⟨rfl,rfl,rfl,rfl⟩:=h;exact ⟨rfl,rfl⟩
theorem VL_at {C:Cd T}:∀ {cs:List (DT T)} {vs:List Value} {off:Nat} {d:DT T},VL I w (denL C cs) loc vs->cs[off]? = some d->V I w (den C d) loc (vs.getD off undef)
 | [],vs,off,d,h,hd=>by simp at hd
 | d'::r,vs,0,d,h,hd=>by
  simp only [denL,VL] at h;obtain ⟨v,vr,rfl,h1,h2⟩:=h;simp only [List.getElem?_cons_zero,Option.some.injEq] at hd;subst hd;exact h1
 | d'::r,vs,off+1,d,h,hd=>by
  simp only [denL,VL] at h;obtain ⟨v,vr,rfl,h1,h2⟩:=h;simp only [List.getElem?_cons_succ] at hd;rw [List.getD_cons_succ];exact VL_at (off:=off) h2 hd
theorem Vy3 {σ:ST T} (h:RelT E O I0 w0 n kp I loc L σ.f a w) {k off c b g c' nn:Nat} (hd:cpD σ k off c = .bw b g c' nn) :
  c'=c/\V I w (.bs b g (E.C.sz c) 0 nn) loc (srcV a w k off)/\L b g=nn:=by
 have hk:=h.tmp k;have hw:=h.wf k;simp only [ST.f] at hk hw;have other:bwOf c (tget σ.ts k) = .bw b g c' nn->c'=c/\V I w (.bs b g (E.C.sz c) 0 nn) loc (srcV a w k off)/\L b g=nn:=by
  intro hd;obtain ⟨e1,e2⟩:=Vvb hd;rw [e2] at hk hw;refine ⟨e1,?_,hw⟩;have hk':V I w (.bs b g (E.C.sz c) 0 nn) loc (a.tmps.getD k undef):=hk;have:srcV a w k off=a.tmps.getD k undef:=by
   unfold srcV;generalize a.tmps.getD k undef=v at hk';simp only [V] at hk';split at hk'
   ·obtain ⟨_,_,rfl,_⟩:=hk'; rfl
   ·obtain ⟨_,_,rfl⟩:=hk'; rfl
   ·obtain ⟨_,_,rfl,_⟩:=hk'; rfl
   ·exact hk'.elim
  rw [this];exact hk'
 unfold cpD at hd;split at hd
 ·rename_i b1 e1;rw [e1] at hk;split at hd
  ·rename_i cs e2;split at hd
   ·rename_i d e3;obtain ⟨e4,e5⟩:=Vvb hd;subst e5;have hlt:b1 < σ.m.length:=Vy2 (by rw [e2]; simp);have hb:=h.mem.box b1 hlt;have hb':RelB I w loc b1 (denB E.C (σ.m.get b1)):=hb;rw [e2] at hb';simp only [denB,RelB] at hb';obtain ⟨_,kk,cc,el,fz,f1,f2,f3,f4,f5⟩:=hb';simp only [den,V,f1] at hk;have:srcV a w k off=cc.toList.getD off undef:=by
     unfold srcV;rw [hk];simp only [f2]
    rw [this];refine ⟨e4,VL_at f5 e3,?_⟩;have hwb:=h.wfm b1;simp only [ST.f] at hwb;rw [e2] at hwb;exact (WfL_iff.1 hwb) _ (List.mem_of_getElem? e3)
   ·cases hd
  ·cases hd
 ·exact other hd
theorem Va1a {σ:ST T} {I':Nat->Prop} {loc':Nat->Nat->Loc} {L':Nat->Nat->Nat} {τ:ST T} (h:RelT E O I0 w0 n kp I loc L σ.f a w) (h':RelT E O I0 w0 n kp I' loc' L' τ.f a w) {t k off c:Nat} (hc:chkC σ (t,k,off,c)=true) :
  V I' w (den E.C (cpD τ k off c)) loc' (a.tmps.getD t undef)/\WfD L' (cpD τ k off c):=by
 have hnew:cpD τ k off c = .dead\/∃ b g n,cpD τ k off c = .bw b g c n:=by
  have:∀ d:DT T,bwOf c d = .dead\/∃ b g n,bwOf c d = .bw b g c n:=by
   intro d;cases d<;>first | exact Or.inl rfl | skip
   rename_i b1 g1 c1 n1;simp only [bwOf];cases hc:Nat.beq c1 c
   ·exact Or.inl rfl
   ·have:=Nat.eq_of_beq_eq_true hc;subst this;exact Or.inr ⟨_,_,_,rfl⟩
  unfold cpD;split
  ·split
   ·split
    ·exact this _
    ·exact Or.inl rfl
   ·exact Or.inl rfl
  ·exact this _
 rcases hnew with e | ⟨b',g',n',e'⟩
 ·rw [e]; exact ⟨trivial,trivial⟩
 obtain ⟨_,q2,q3⟩:=Vy3 h' e';unfold chkC at hc;dsimp only at hc;split at hc
 ·rename_i b g c1 n1 e1;obtain ⟨rfl,p2,p3⟩:=Vy3 h e1;split at hc
  ·rename_i b2 g2 c2 n2 e2;simp only [Bool.and_eq_true] at hc;obtain ⟨⟨u1,u2,u3⟩,u4⟩:=hc;have:=Nat.eq_of_beq_eq_true u1;have:=Nat.eq_of_beq_eq_true u2;have:=Nat.eq_of_beq_eq_true u3;subst b2 g2 c2;have ht:=h.tmp t;have hw:=h.wf t;simp only [ST.f] at ht hw;rw [e2] at ht hw;have hw':L b g=n2:=hw;have:n2=n1:=hw'.symm.trans p3;subst this;unfold isArr at u4;split at u4
   ·rename_i g3 c3 l e3;simp only [Bool.and_eq_true] at u4;have:=Nat.eq_of_beq_eq_true u4.1;have:=Nat.eq_of_beq_eq_true u4.2;subst g3 c3;have hlt:b < σ.m.length:=Vy2 (by rw [e3]; simp);have hb:RelB I w loc b (denB E.C (σ.m.get b)):=h.mem.box b hlt;rw [e3] at hb;simp only [denB,RelB] at hb;have ht':V I w (.bs b g (E.C.sz c1) 0 n2) loc (a.tmps.getD t undef):=ht;rw [e'];refine ⟨?_,q3⟩;show V I' w (.bs b' g' (E.C.sz c1) 0 n') loc' (a.tmps.getD t undef);rcases hb.2 with ⟨f1,_⟩ | ⟨kk,cc,el,fz,f1,_⟩
    ·simp only [V,f1] at ht' p2;rw [ht'.2.2,<- p2.2.2];exact q2
    ·simp only [V,f1] at ht' p2;obtain ⟨o1,cap1,r1,r2,r3,r4⟩:=ht';obtain ⟨o2,cap2,s1,s2,s3,s4⟩:=p2;rw [s1] at q2;rw [r1];simp only [V] at q2 |-;split at q2
     ·obtain ⟨a1,cap3,w1,w2,w3⟩:=q2;simp only [Value.slice.injEq] at w1;obtain ⟨_,w5,_⟩:=w1;exact ⟨_,_,by rw [<- w5],by omega,λh=>by cases h⟩
     ·obtain ⟨w1,w2,w3⟩:=q2;simp only [Value.slice.injEq] at w3;cases w3.1
     ·obtain ⟨o3,cap3,w1,w2,w3,w4⟩:=q2;simp only [Value.slice.injEq,Option.some.injEq,Addr.mk.injEq] at w1;obtain ⟨⟨w5,_,_⟩,w6,_⟩:=w1;subst w5;exact ⟨_,_,by rw [<- w6],by omega,r3,r4⟩
     ·exact q2.elim
   ·cases u4
  ·cases hc
 ·cases hc
theorem Vvc {σ τ:ST T} {I':Nat->Prop} {loc':Nat->Nat->Loc} {L':Nat->Nat->Nat} (h:RelT E O I0 w0 n kp I loc L σ.f a w) (h':RelT E O I0 w0 n kp I' loc' L' τ.f a w):∀ (cp:List Cp),cp.all (chkC σ)=true->∀ i,V I' w (den E.C (tget (cpTs τ cp τ.ts) i)) loc' (a.tmps.getD i undef)/\WfD L' (tget (cpTs τ cp τ.ts) i)
 | [],_,i=>⟨h'.tmp i,h'.wf i⟩
 | (t,k,off,c)::r,hc,i=>by
  simp only [List.all_cons,Bool.and_eq_true] at hc;simp only [cpTs,Vc2,upd];by_cases e:i=t
  ·subst e;rw [if_pos rfl];exact Va1a h h' hc.1
  ·rw [if_neg e];exact Vvc h h' r hc.2 i
theorem Vn9 (hC:CdOk E.C) {σ:ST T} (h:RelT E O I0 w0 n kp I loc L σ.f a w) {s:Shape} {cp:List Cp} {K:tySs T s.slots->Option R} {r:R} (hk:takeC E.C s cp σ K=some r) :
  ∃ x I' loc' L',RelT E O I0 w0 n kp I' loc' L' (layC E.C s cp x).f a w/\K x=some r:=by
 unfold takeC at hk;split at hk
 ·rename_i hc;obtain ⟨x,I',loc',L',h1,h2⟩:=Vfa hC h hk;refine ⟨x,I',loc',L',?_,h2⟩;have key:=Vvc h h1 cp hc;exact ⟨h1.size,h1.defers,λi=>(key i).1,λi=>(key i).2,h1.mem,h1.wfm,h1.glob,h1.fr,h1.rows,h1.imm0,h1.imm1,h1.kept⟩
 ·cases hk
end
section
variable {T:Nat->Type} {P:Program} {E:Env T} {O I0 I I':Nat->Prop} {w0 w w':World} {n:Nat} {kp:List (Nat×Value)} {loc loc':Nat->Nat->Loc} {L L':Nat->Nat->Nat} {a:Act} {R:Type} {C:Cd T} {m:MT T} {ρ:Nat->Nat}
theorem has_iff {Φ:List Nat} {k:Nat}:has Φ k=true↔k∈Φ:=by
 unfold has;rw [List.any_eq_true];constructor
 ·rintro ⟨x,h1,h2⟩; rw [Nat.eq_of_beq_eq_true h2]; exact h1
 ·intro h; exact ⟨k,h,by simp⟩
mutual
theorem V_ren:∀ (d:DT T) (v:Value),(∀ b∈d.ids,∀ g,loc' (ρ b) g=loc b g)->V I w (den C d) loc v->V I w (den C (d.ren ρ)) loc' v
 | .dead,_,_,h=>h
 | .bool _,_,_,h=>h
 | .int _ _,_,_,h=>h
 | .u8 _,_,_,h=>h
 | .u16 _,_,_,h=>h
 | .u32 _,_,_,h=>h
 | .u64 _,_,_,h=>h
 | .str _,_,_,h=>h
 | .lit _,_,_,h=>h
 | .nilp,_,_,h=>h
 | .nils,_,_,h=>h
 | .rp _,_,_,h=>by simpa only [DT.ren,den,V] using h
 | .rs _ _,_,_,h=>by simpa only [DT.ren,den,V] using h
 | .rn _ l,_,_,h=>by cases l<;>simpa only [DT.ren,den,List.map_nil,List.map_cons,rnD,V] using h
 | .bp b o,v,hb,h=>by
  simp only [DT.ren,den,V] at h |-;rw [hb b (by simp [DT.ids]) 0]; exact h
 | .mp b,v,hb,h=>by
  simp only [DT.ren,den,V] at h |-;rw [hb b (by simp [DT.ids]) 0]; exact h
 | .ap b g c i o,v,hb,h=>by
  simp only [DT.ren,den,V] at h |-;rw [hb b (by simp [DT.ids]) g]; exact h
 | .bs b g c i n,v,hb,h=>by
  simp only [DT.ren,den,V] at h |-;rw [hb b (by simp [DT.ids]) g]; exact h
 | .bw b g c n,v,hb,h=>by
  simp only [DT.ren,den,V] at h |-;rw [hb b (by simp [DT.ids]) g]; exact h
 | .agg cs,v,hb,h=>by
  simp only [DT.ren,den,V] at h |-;obtain ⟨vs,h1,h2,h3⟩:=h;exact ⟨vs,h1,h2,Vlp cs vs hb h3⟩
 | .tup cs,v,hb,h=>by
  simp only [DT.ren,den,V] at h |-;obtain ⟨vs,h1,h3⟩:=h;exact ⟨vs,h1,Vlp cs vs hb h3⟩
 | .fn f cs,v,hb,h=>by
  simp only [DT.ren,den,V] at h |-;obtain ⟨vs,h1,h3⟩:=h;exact ⟨vs,h1,Vlp cs vs hb h3⟩
theorem Vlp:∀ (ds:List (DT T)) (vs:List Value),(∀ b∈idsL ds,∀ g,loc' (ρ b) g=loc b g)->VL I w (denL C ds) loc vs->VL I w (denL C (renL ρ ds)) loc' vs
 | [],vs,_,h=>by simpa only [renL,denL,VL] using h
 | d::r,vs,hb,h=>by
  simp only [renL,denL,VL] at h |-;obtain ⟨v,vr,h1,h2,h3⟩:=h;exact ⟨v,vr,h1,V_ren d v (λb hd=>hb b (by simp [idsL,hd])) h2,Vlp r vr (λb hd=>hb b (by simp [idsL,hd])) h3⟩
end
mutual
theorem Vvd:∀ (d:DT T),(∀ b∈d.ids,∀ g,L' (ρ b) g=L b g)->WfD L d->WfD L' (d.ren ρ)
 | .dead,_,h=>h
 | .bool _,_,h=>h
 | .int _ _,_,h=>h
 | .u8 _,_,h=>h
 | .u16 _,_,h=>h
 | .u32 _,_,h=>h
 | .u64 _,_,h=>h
 | .str _,_,h=>h
 | .lit _,_,h=>h
 | .nilp,_,h=>h
 | .nils,_,h=>h
 | .rp _,_,h=>h
 | .rs _ _,_,h=>h
 | .rn _ _,_,h=>h
 | .bp b o,_,h=>h
 | .mp b,_,h=>h
 | .ap b g c i o,_,h=>h
 | .bs b g c i n,_,h=>h
 | .bw b g c n,hb,h=>by
  simp only [DT.ren,WfD] at h |-;rw [hb b (by simp [DT.ids]) g]; exact h
 | .agg cs,hb,h=>Vhx cs hb h
 | .tup cs,hb,h=>Vhx cs hb h
 | .fn f cs,hb,h=>Vhx cs hb h
theorem Vhx:∀ (ds:List (DT T)),(∀ b∈idsL ds,∀ g,L' (ρ b) g=L b g)->WfL L ds->WfL L' (renL ρ ds)
 | [],_,h=>h
 | d::r,hb,h=>⟨Vvd d (λb hd=>hb b (by simp [idsL,hd])) h.1,Vhx r (λb hd=>hb b (by simp [idsL,hd])) h.2⟩
end
mutual
theorem Vy4:∀ (d:DT T),(∀ b∈d.ids,ρ b=b)->d.ren ρ=d
 | .dead,_=>rfl
 | .bool _,_=>rfl
 | .int _ _,_=>rfl
 | .u8 _,_=>rfl
 | .u16 _,_=>rfl
 | .u32 _,_=>rfl
 | .u64 _,_=>rfl
 | .str _,_=>rfl
 | .lit _,_=>rfl
 | .nilp,_=>rfl
 | .nils,_=>rfl
 | .rp _,_=>rfl
 | .rs _ _,_=>rfl
 | .rn _ _,_=>rfl
 | .bp b o,hb=>by simp only [DT.ren]; rw [hb b (by simp [DT.ids])]
 | .mp b,hb=>by simp only [DT.ren]; rw [hb b (by simp [DT.ids])]
 | .ap b g c i o,hb=>by simp only [DT.ren]; rw [hb b (by simp [DT.ids])]
 | .bs b g c i n,hb=>by simp only [DT.ren]; rw [hb b (by simp [DT.ids])]
 | .bw b g c n,hb=>by simp only [DT.ren]; rw [hb b (by simp [DT.ids])]
 | .agg cs,hb=>by simp only [DT.ren]; rw [Vhy cs hb]
 | .tup cs,hb=>by simp only [DT.ren]; rw [Vhy cs hb]
 | .fn f cs,hb=>by simp only [DT.ren]; rw [Vhy cs hb]
theorem Vhy:∀ (ds:List (DT T)),(∀ b∈idsL ds,ρ b=b)->renL ρ ds=ds
 | [],_=>rfl
 | d::r,hb=>by simp only [renL]; rw [Vy4 d (λb hd=>hb b (by simp [idsL,hd])),Vhy r (λb hd=>hb b (by simp [idsL,hd]))]
end
theorem Vo9 {x:BoxT T} (h:∀ b∈x.ids,ρ b=b):x.ren ρ=x:=by
 cases x<;>simp only [BoxT.ren];rw [Vhy _ h]
theorem Vxl {b1 b2:Nat} {x:BoxT T} (hb:∀ g,loc' b2 g=loc b1 g) (hi:∀ b∈x.ids,∀ g,loc' (ρ b) g=loc b g) (h:RelB I w loc b1 (denB C x)):RelB I w loc' b2 (denB C (x.ren ρ)):=by
 cases x with
 | var cs=>
  simp only [BoxT.ren,denB,RelB] at h |-;obtain ⟨h0,k,c,el,fz,h1,h2,h3,h4,h5⟩:=h;exact ⟨λg hg=>by rw [hb]; exact h0 g hg,k,c,el,fz,by rw [hb]; exact h1,h2,h3,h4,Vlp cs _ hi h5⟩
 | _=>simp only [BoxT.ren,denB,RelB,hb] at h |-; try exact h
theorem Va2a {b1 b2:Nat} {x:BoxT T} (hb:∀ g,L' b2 g=L b1 g) (hi:∀ b∈x.ids,∀ g,L' (ρ b) g=L b g) (h:WfB L b1 x):WfB L' b2 (x.ren ρ):=by
 cases x with
 | var cs=>exact Vhx cs hi h
 | _=>simp only [BoxT.ren,WfB,hb] at h |-; try exact h
theorem Vd2 {x:BoxT T}:(denB C (x.ren ρ)).owned=(denB C x).owned:=by cases x<;>rfl
theorem Veg (Φ:List Nat):∀ (k:Nat) (m:MT T),(keepM Φ k m).length=m.length
 | _,[]=>rfl
 | k,x::r=>by simp [keepM,Veg Φ (k+1) r]
theorem Vda (x:BoxT T) (r:MT T):MT.get (x::r) 0=x:=rfl
theorem Vdb (x:BoxT T) (r:MT T) (b:Nat):MT.get (x::r) (b+1)=MT.get r b:=rfl
theorem Vfb (Φ:List Nat):∀ (k:Nat) (m:MT T) (b:Nat),b < m.length->(keepM Φ k m).get b=if has Φ (k+b)=true then m.get b else .lent
 | _,[],b,h=>by simp at h
 | k,x::r,0,h=>by
  simp only [keepM,Vda,Nat.add_zero];cases has Φ k<;>rfl
 | k,x::r,b+1,h=>by
  simp only [keepM,Vdb];rw [Vfb Φ (k+1) r b (by simpa using h)];rw [show k+1+b=k+(b+1) by omega]
theorem Vcn (Φ:List Nat) (N base wd:Nat) (m':MT T):∀ (k:Nat) (m:MT T),(mergeM Φ N base wd m' k m).length=m.length
 | _,[]=>rfl
 | k,x::r=>by simp [mergeM,Vcn Φ N base wd m' (k+1) r]
theorem Vd3 (Φ:List Nat) (N base wd:Nat) (m':MT T):∀ (k:Nat) (m:MT T) (b:Nat),b < m.length->(mergeM Φ N base wd m' k m).get b =
  if inGap base wd (k+b)=true then (m'.get (N+(k+b - base))).ren (renG N base) else if has Φ (k+b)=true then (m'.get (k+b)).ren (renG N base) else m.get b
 | _,[],b,h=>by simp at h
 | k,x::r,0,h=>by
  simp only [mergeM,Vda,Nat.add_zero];cases inGap base wd k<;>cases has Φ k<;>rfl
 | k,x::r,b+1,h=>by
  simp only [mergeM,Vdb];rw [Vd3 Φ N base wd m' (k+1) r b (by simpa using h)];rw [show k+1+b=k+(b+1) by omega]
theorem Vf3 {b:Nat} (h:m.length<=b):m.get b = .gone:=by
 unfold MT.get;rw [List.getD_eq_getElem?_getD,List.getElem?_eq_none h]; rfl
theorem isLent_iff {x:BoxT T}:x.isLent=true↔x = .lent:=by cases x<;>simp [BoxT.isLent]
end
set_option maxHeartbeats 800000
section
variable {T:Nat->Type} {P:Program} {E:Env T} {O I0 I I':Nat->Prop} {w0 w w':World} {n:Nat} {kp:List (Nat×Value)} {loc loc':Nat->Nat->Loc} {L L':Nat->Nat->Nat} {a:Act} {R:Type} {C:Cd T} {m:MT T}
theorem blt_iff {b N:Nat}:Nat.blt b N=true↔b < N:=by
 show Nat.ble (b+1) N=true↔b < N;rw [Nat.ble_eq]; omega
theorem inGap_iff {base wd b:Nat}:inGap base wd b=true↔base<=b/\b < base+wd:=by
 unfold inGap;rw [Bool.and_eq_true,blt_iff,Nat.ble_eq]
theorem Vms {N base b:Nat} (h:b < N):renG N base b=b:=by
 unfold renG; rw [blt_iff.2 h]
theorem Vve {N base b:Nat} (h:N<=b):renG N base b=base+(b - N):=by
 unfold renG;cases hb:Nat.blt b N with
 | true=>have:=blt_iff.1 hb; omega
 | false=>rfl
theorem Vhz {Φ:List Nat} {N base wd b:Nat} (h:okG Φ N base wd b=true):(b < N/\has Φ b=true/\inGap base wd b=false)\/(N<=b/\b < N+wd):=by
 unfold okG at h;cases hb:Nat.blt b N with
 | true=>
  rw [hb] at h;simp only [Bool.and_eq_true,Bool.not_eq_true'] at h;exact .inl ⟨blt_iff.1 hb,h.1,h.2⟩
 | false=>
  rw [hb] at h;refine .inr ⟨?_,blt_iff.1 h⟩;rcases Nat.lt_or_ge b N with q | q
  ·rw [blt_iff.2 q] at hb; cases hb
  ·exact q
theorem Vxm {x:BoxT T} {ρ:Nat->Nat} (h:x.ren ρ = .lent):x = .lent:=by cases x<;>simp_all [BoxT.ren]
structure Chk (Φ:List Nat) (N base wd:Nat) (d:DT T) (m m':MT T):Prop where
 ids:∀ b∈d.ids,okG Φ N base wd b=true
 len:m'.length<=N+wd
 gap:base+wd<=N
 box:∀ b∈Φ,(∀ q∈(m'.get b).ids,okG Φ N base wd q=true)/\m.get b≠.lent/\m'.get b≠.lent
 new:∀ j,j < wd->(∀ q∈(m'.get (N+j)).ids,okG Φ N base wd q=true)/\m.get (base+j) = .lent/\m'.get (N+j)≠.lent
theorem Vy5 {Φ:List Nat} {N base wd:Nat} {d:DT T} {m m':MT T} (h:chkG Φ N base wd d m m'=true):Chk Φ N base wd d m m':=by
 simp only [chkG,Bool.and_eq_true,List.all_eq_true,Bool.not_eq_true'] at h;obtain ⟨⟨h1,h2,h3⟩,h4,h5⟩:=h;have nl:∀ x:BoxT T,x.isLent=false->x≠.lent:=λx hx e=>by rw [e] at hx; cases hx
 exact ⟨h1,Nat.le_of_ble_eq_true h2,Nat.le_of_ble_eq_true h3,λb hb=>⟨(h4 b hb).1,nl _ (h4 b hb).2.1,nl _ (h4 b hb).2.2⟩,λj hj=>by
  have:=h5 j (by simpa using hj);exact ⟨this.1,isLent_iff.1 this.2.1,nl _ this.2.2⟩⟩
def locG (Φ:List Nat) (N base wd:Nat) (loc loc':Nat->Nat->Loc):Nat->Nat->Loc:=λb g=>
 if b < N then if inGap base wd b=true then loc' (N+(b - base)) g else if has Φ b=true then loc' b g else loc b g else .free
def lenG (Φ:List Nat) (N base wd:Nat) (L L':Nat->Nat->Nat):Nat->Nat->Nat:=λb g=>
 if inGap base wd b=true then L' (N+(b - base)) g else if has Φ b=true then L' b g else L b g
theorem Voa (hE:EnvOk P E) {σ:SF T} (h:RelT E O I0 w0 n kp I loc L σ a w) (hlent:∀ b,σ.m.get b = .lent->∀ g,loc b g = .free) {o:Oper} {Φ:List Nat} {base wd:Nat} {d:DT T} {m' m2:MT T}
  (hs:semT E o.op (evT E.G σ.t) (keepM Φ 0 σ.m)=some (d,m')) (hc:Chk Φ σ.m.length base wd d σ.m m') (hlen:m2.length=σ.m.length)
  (hm2:∀ b,b < σ.m.length->m2.get b=if inGap base wd b=true then (m'.get (σ.m.length+(b - base))).ren (renG σ.m.length base) else if has Φ b=true then (m'.get b).ren (renG σ.m.length base) else σ.m.get b)
  (hd:∀ k,o.dst=some k->k < n/\∀ p∈kp,p.1≠k) {K:Act->World->Prop} {Q:Exit->Act->World->Prop}
  (hK:∀ a' w' I' loc' L',RelT E O I0 w0 n kp I' loc' L' (({ σ with m:=m2 }:SF T).put o.dst (d.ren (renG σ.m.length base))) a' w'->(∀ b,m2.get b = .lent->∀ g,loc' b g = .free)->K a' w') :
  o.upon P a K Q ((execOp a.eval o).run P w):=by
 generalize hN:σ.m.length=N at *;let O':Nat->Prop:=λk=>O k/\∀ b g,b < N->has Φ b=false->(denB E.C (σ.m.get b)).owned=true->loc b g≠.blk k;have hm:=h.mem;have kget:∀ b,b < N->(keepM Φ 0 σ.m).get b=if has Φ b=true then σ.m.get b else .lent:=λb hb=>by
  have:=Vfb Φ 0 σ.m b (by omega);rwa [Nat.zero_add] at this
 have hbx:∀ b,(denM E.C σ.m).bx b=denB E.C (σ.m.get b):=λ_=>rfl;have kown:∀ b,b < N->(denB E.C ((keepM Φ 0 σ.m).get b)).owned=true->has Φ b=true/\(denB E.C (σ.m.get b)).owned=true:=λb hb ho=>by
  rw [kget b hb] at ho;split at ho
  ·rename_i hq; exact ⟨hq,ho⟩
  ·cases ho
 have hkm:MRel O' I loc (denM E.C (keepM Φ 0 σ.m)) w:=by
  have hnb:(denM E.C (keepM Φ 0 σ.m)).nb=N:=by simp [denM,Veg,hN]
  have hnb0:(denM E.C σ.m).nb=N:=by simp [denM,hN]
  refine ⟨λb hb=>?_,λb g hb=>?_,λb g k hb ho hk=>?_,λb b' g g' k h1 h2 o1 o2 k1 k2=>?_,hm.imm,λk hk=>⟨hm.up k hk,λb g hb hq ho e=>?_⟩⟩
  ·rw [hnb] at hb;show RelB I w loc b (denB E.C ((keepM Φ 0 σ.m).get b));rw [kget b hb];split
   ·exact hm.box b (by rw [hnb0]; exact hb)
   ·trivial
  ·rw [hnb] at hb; exact hm.free b g (by rw [hnb0]; exact hb)
  ·rw [hnb] at hb;obtain ⟨q1,q2⟩:=kown b hb ho;obtain ⟨p1,p2,p3⟩:=hm.own b g k (by rw [hnb0]; exact hb) q2 hk;refine ⟨⟨p1,λb' g' hb' hq' ho' e=>?_⟩,p2,p3⟩;have:=hm.inj b b' g g' k (by rw [hnb0]; exact hb) (by rw [hnb0]; exact hb') q2 ho' hk e;rw [this,hq'] at q1; cases q1
  ·rw [hnb] at h1 h2;exact hm.inj b b' g g' k (by rw [hnb0]; exact h1) (by rw [hnb0]; exact h2) (kown b h1 o1).2 (kown b' h2 o2).2 k1 k2
  ·have:=(hm.own b g k (by rw [hnb0]; exact hb) ho e).2.2;omega
 have hkw:WfM L (keepM Φ 0 σ.m):=λb=>by
  by_cases hb:b < N
  ·rw [kget b hb];split
   ·exact h.wfm b
   ·trivial
  ·rw [Vf3 (by rw [Veg]; omega)]; trivial
 have hR:RelT E O' I w n kp I loc L ⟨σ.t,keepM Φ 0 σ.m⟩ a w:=⟨h.size,h.defers,h.tmp,h.wf,hkm,hkw,h.glob,.refl _ _,λ_=>Nat.le_refl _,λ_ h=>h,λ_ h=>.inl h,h.kept⟩;unfold semT at hs;obtain ⟨d1,m1,hf,he⟩:=Vy1 hE hR hs;simp only [Option.some.injEq,Prod.mk.injEq] at he;obtain ⟨e1,e2⟩:=he;replace e1:=e1.symm;replace e2:=e2.symm;subst e1;subst e2;refine hf a K Q λv w' I' loc' L' z1 z2 z3 z4 z5 z6 z7 z8 z9 z10=>?_
 -- where the boxes lie now
 have hok:∀ b,okG Φ N base wd b=true->∀ g,locG Φ N base wd loc loc' (renG N base b) g=loc' b g:=λb hb g=>by
  rcases Vhz hb with ⟨h1,h2,h3⟩ | ⟨h1,h2⟩
  ·rw [Vms h1]; unfold locG;rw [if_pos h1,if_neg (by rw [h3]; simp),if_pos h2]
  ·rw [Vve h1]; unfold locG;have:=hc.gap;rw [if_pos (by omega),if_pos (inGap_iff.2 ⟨by omega,by omega⟩)];congr 1; omega
 have hokL:∀ b,okG Φ N base wd b=true->∀ g,lenG Φ N base wd L L' (renG N base b) g=L' b g:=λb hb g=>by
  rcases Vhz hb with ⟨h1,h2,h3⟩ | ⟨h1,h2⟩
  ·rw [Vms h1]; unfold lenG;rw [if_neg (by rw [h3]; simp),if_pos h2]
  ·rw [Vve h1]; unfold lenG;rw [if_pos (inGap_iff.2 ⟨by omega,by omega⟩)];congr 1; omega
 have gapLent:∀ b,inGap base wd b=true->σ.m.get b = .lent:=λb hb=>by
  obtain ⟨h1,h2⟩:=inGap_iff.1 hb;have:=(hc.new (b - base) (by omega)).2.1;rwa [show base+(b - base)=b by omega] at this
 have gapFree:∀ b,inGap base wd b=true->∀ g,loc b g = .free:=λb hb=>hlent b (gapLent b hb);have hle:LocExt loc (locG Φ N base wd loc loc'):=λb g=>by
  unfold locG;split
  ·split
   ·rename_i hg; exact .inl (gapFree b hg g)
   ·split
    ·exact z8 b g
    ·exact .inr (.inr rfl)
  ·rename_i hb;exact .inl (hm.free b g (by simp [denM]; omega))
 have hLe:LExt loc L (lenG Φ N base wd L L'):=λb g hne=>by
  unfold lenG;split
  ·rename_i hg; exact absurd (gapFree b hg g) hne
  ·split
   ·exact z9 b g hne
   ·rfl
 have box':∀ b,RelB I' w' loc' b (denB E.C (m'.get b)):=λb=>by
  by_cases hb:b < m'.length
  ·exact z1.box b hb
  ·rw [Vf3 (by omega)];exact λg=>.inr (z1.free b g (by simp [denM]; omega))
 have lt':∀ b,(denB E.C (m'.get b)).owned=true->b < m'.length:=λb ho=>by
  rcases Nat.lt_or_ge b m'.length with q | q
  ·exact q
  ·rw [Vf3 q] at ho; cases ho
 -- the three kinds of boxes
 have three:∀ b,b < N->(∃ b1,m2.get b=(m'.get b1).ren (renG N base)/\(∀ g,locG Φ N base wd loc loc' b g=loc' b1 g)/\(∀ g,lenG Φ N base wd L L' b g=L' b1 g)/\(∀ q∈(m'.get b1).ids,okG Φ N base wd q=true)/\m'.get b1≠.lent /\
    ((inGap base wd b=true/\b1=N+(b - base))\/(inGap base wd b=false/\has Φ b=true/\b1=b))) \/
   (inGap base wd b=false/\has Φ b=false/\m2.get b=σ.m.get b/\(∀ g,locG Φ N base wd loc loc' b g=loc b g)/\∀ g,lenG Φ N base wd L L' b g=L b g):=λb hb=>by
  have e:=hm2 b hb;cases hg:inGap base wd b with
  | true=>
   rw [hg,if_pos rfl] at e;obtain ⟨h1,h2⟩:=inGap_iff.1 hg;have hn:=hc.new (b - base) (by omega);exact .inl ⟨N+(b - base),e,λg=>by unfold locG; rw [if_pos hb,hg,if_pos rfl],λg=>by unfold lenG; rw [hg,if_pos rfl],hn.1,hn.2.2,.inl ⟨rfl,rfl⟩⟩
  | false=>
   rw [hg] at e;simp only [Bool.false_eq_true,if_false] at e;cases hp:has Φ b with
   | true=>
    rw [hp,if_pos rfl] at e;have hn:=hc.box b (has_iff.1 hp);exact .inl ⟨b,e,λg=>by unfold locG; rw [if_pos hb,hg,hp]; simp,λg=>by unfold lenG; rw [hg,hp]; simp,hn.1,hn.2.2,.inr ⟨rfl,rfl,rfl⟩⟩
   | false=>
    rw [hp] at e;simp only [Bool.false_eq_true,if_false] at e;exact .inr ⟨rfl,rfl,e,λg=>by unfold locG; rw [if_pos hb,hg,hp]; simp,λg=>by unfold lenG; rw [hg,hp]; simp⟩
 have src_inj:∀ b b',b < N->b' < N->∀ b1 b1',((inGap base wd b=true/\b1=N+(b - base))\/(inGap base wd b=false/\has Φ b=true/\b1=b))->((inGap base wd b'=true/\b1'=N+(b' - base))\/(inGap base wd b'=false/\has Φ b'=true/\b1'=b'))->b1=b1'->b=b':=by
  rintro b b' hb hb' b1 b1' (⟨q1,q2⟩ | ⟨q1,_,q2⟩) (⟨p1,p2⟩ | ⟨p1,_,p2⟩) e
  ·have:=inGap_iff.1 q1; have:=inGap_iff.1 p1; omega
  ·omega
  ·omega
  ·omega
 have nb2:(denM E.C m2).nb=N:=by simp [denM,hlen]
 have old:∀ b g k,b < N->has Φ b=false->(denB E.C (σ.m.get b)).owned=true->loc b g = .blk k->¬ O' k:=λb g k hb hq ho hk hO=>hO.2 b g hb hq ho hk;have hI2:∀ k,I' k->I k\/O k:=λk hk=>(z7 k hk).imp id (·.1);have hfr:Fr O w w':=⟨z10.os,z10.tape,z10.output,z10.size,λb hb hO=>z10.block b hb (λq=>hO q.1)⟩;have hmem:MRel O I' (locG Φ N base wd loc loc') (denM E.C m2) w':=by
  refine ⟨λb hb=>?_,λb g hb=>?_,λb g k hb ho hk=>?_,λb b' g g' k h1 h2 o1 o2 k1 k2=>?_,z1.imm,λk hk=>(z1.up k hk).1⟩
  ·rw [nb2] at hb;show RelB I' w' _ b (denB E.C (m2.get b));rcases three b hb with ⟨b1,e1,e2,e3,e4,e5,e6⟩ | ⟨q1,q2,e1,e2,e3⟩
   ·rw [e1];exact Vxl e2 (λq hq=>hok q (e4 q hq)) (box' b1)
   ·rw [e1];refine Va3 z6 hle e2 (λho g k hk=>?_) (hm.box b (by simp [denM]; omega));have hlt:=(hm.own b g k (by simp [denM]; omega) ho hk).2.2;exact z10.block k hlt (old b g k hb q2 ho hk)
  ·rw [nb2] at hb;unfold locG;rw [if_neg (by omega)]
  ·rw [nb2] at hb;have ho':(denB E.C (m2.get b)).owned=true:=ho;rcases three b hb with ⟨b1,e1,e2,e3,e4,e5,e6⟩ | ⟨q1,q2,e1,e2,e3⟩
   ·rw [e1,Vd2] at ho';rw [e2] at hk;have:=z1.own b1 g k (lt' b1 ho') ho' hk;exact ⟨this.1.1,this.2⟩
   ·rw [e1] at ho';rw [e2] at hk;have:=hm.own b g k (by simp [denM]; omega) ho' hk;refine ⟨this.1,λhI=>?_,Nat.lt_of_lt_of_le this.2.2 z10.size⟩;rcases z7 k hI with q | q
    ·exact this.2.1 q
    ·exact old b g k hb q2 ho' hk q
  ·rw [nb2] at h1 h2;have o1':(denB E.C (m2.get b)).owned=true:=o1;have o2':(denB E.C (m2.get b')).owned=true:=o2;rcases three b h1 with ⟨b1,e1,e2,e3,e4,e5,e6⟩ | ⟨q1,q2,e1,e2,e3⟩<;>rcases three b' h2 with ⟨b1',e1',e2',e3',e4',e5',e6'⟩ | ⟨q1',q2',e1',e2',e3'⟩
   ·rw [e1,Vd2] at o1'; rw [e1',Vd2] at o2';rw [e2] at k1; rw [e2'] at k2;exact src_inj b b' h1 h2 b1 b1' e6 e6' (z1.inj b1 b1' g g' k (lt' _ o1') (lt' _ o2') o1' o2' k1 k2)
   ·rw [e1,Vd2] at o1'; rw [e1'] at o2';rw [e2] at k1; rw [e2'] at k2;exact absurd (z1.own b1 g k (lt' _ o1') o1' k1).1 (old b' g' k h2 q2' o2' k2)
   ·rw [e1] at o1'; rw [e1',Vd2] at o2';rw [e2] at k1; rw [e2'] at k2;exact absurd (z1.own b1' g' k (lt' _ o2') o2' k2).1 (old b g k h1 q2 o1' k1)
   ·rw [e1] at o1'; rw [e1'] at o2';rw [e2] at k1; rw [e2'] at k2;exact hm.inj b b' g g' k (by simp [denM]; omega) (by simp [denM]; omega) o1' o2' k1 k2
 have hwfm:WfM (lenG Φ N base wd L L') m2:=λb=>by
  by_cases hb:b < N
  ·rcases three b hb with ⟨b1,e1,e2,e3,e4,e5,e6⟩ | ⟨q1,q2,e1,e2,e3⟩
   ·rw [e1]; exact Va2a e3 (λq hq=>hokL q (e4 q hq)) (z2 b1)
   ·rw [e1]; exact Vml hm hLe h.wfm b (by omega)
  ·rw [Vf3 (by omega)]; trivial
 have:=h.put (m':=m2) (w':=w') (I':=I') (loc':=locG Φ N base wd loc loc') (L':=lenG Φ N base wd L L') (d:=d.ren (renG N base)) (v:=v) o.dst hd hmem hwfm z3
  (V_ren d v (λb hb=>hok b (hc.ids b hb)) z4) (Vvd d (λb hb=>hokL b (hc.ids b hb)) z5) z6 hI2 hle hLe hfr
 refine hK _ _ _ _ _ this λb hb g=>?_;by_cases hlt:b < N
 ·rcases three b hlt with ⟨b1,e1,e2,e3,e4,e5,e6⟩ | ⟨q1,q2,e1,e2,e3⟩
  ·rw [e1] at hb;exact absurd (Vxm hb) e5
  ·rw [e2]; exact hlent b (by rw [<- e1]; exact hb) g
 ·unfold locG; rw [if_neg hlt]
end
section
variable {T:Nat->Type} {P:Program} {E:Env T} {ops:Array Oper} {R:Type} {m:MT T} {acc:List (List Nat×Nat)}
theorem Vvf {R:Type} (x:BoxT T) (K:BoxT T->Option R):forceB x K=K x:=by cases x<;>rfl
theorem Vh0 {R:Type}:∀ (m:MT T) (K:MT T->Option R),forceM m K=K m
 | [],_=>rfl
 | x::r,K=>by simp only [forceM,Vvf]; exact Vh0 r _
theorem Vxn {R:Type} (o:Op) (e:Operand->DT T) (m:MT T) (Φ:List Nat) (base:Nat) (K:DT T->MT T->Option R):semGK E o e m Φ base K=semGK0 E o e m Φ base K:=by
 unfold semGK semGK0;split<;>simp only [Vh0]
def semG (E:Env T) (o:Op) (e:Operand->DT T) (m:MT T) (Φ:List Nat) (base:Nat):Option (DT T×MT T):=semGK0 E o e m Φ base λd m=>some (d,m)
theorem Vvg (o:Op) (e:Operand->DT T) (m:MT T) (Φ:List Nat) (base:Nat) (K:DT T->MT T->Option R):semGK E o e m Φ base K=(semG E o e m Φ base).bind λp=>K p.1 p.2:=by
 rw [Vxn];unfold semG semGK0;split
 ·rw [Vbk,Vbk (R:=DT T×MT T),Option.bind_assoc]; rfl
 ·rw [Vbk,Vbk (R:=DT T×MT T),Option.bind_assoc];congr 1; funext p;split<;>rfl
 ·rw [Vbk,Vbk (R:=DT T×MT T),Option.bind_assoc];congr 1; funext p;split<;>rfl
theorem Vvh {o:Op} {e:Operand->DT T} {m m':MT T} {d:DT T} {Φ:List Nat} {base:Nat} (hc:clsT E o = .n) (h:semG E o e m Φ base=some (d,m')):m'=m/\∀ m2,semG E o e m2 Φ base=some (d,m2):=by
 have eq:∀ m2,semG E o e m2 Φ base=semT E o e m2:=λm2=>by unfold semG semGK0; rw [hc]; rfl
 rw [eq] at h;obtain ⟨h1,h2⟩:=Vn4 hc h;exact ⟨h1,λm2=>by rw [eq]; exact h2 m2⟩
theorem Vy6 {m1 m2:MT T} (hl:m1.length=m2.length) (h:∀ b,b < m1.length->m1.get b=m2.get b):m1=m2:=by
 apply List.ext_getElem hl;intro i h1 h2;have:=h i h1;simpa [MT.get,List.getD,h1,h2] using this
theorem Viu {Φ:List Nat} {m1 m2:MT T} (hl:m2.length=m1.length) (h:∀ b∈Φ,m2.get b=m1.get b):keepM Φ 0 m2=keepM Φ 0 m1:=by
 refine Vy6 (by rw [Veg,Veg,hl]) λb hb=>?_;rw [Veg] at hb;rw [Vfb Φ 0 m2 b hb,Vfb Φ 0 m1 b (by omega)];split
 ·rename_i hq; exact h b (by rw [Nat.zero_add] at hq; exact has_iff.1 hq)
 ·rfl
theorem Vlq {Φ:List Nat} {N base wd:Nat} {d:DT T} {m1 m2 m':MT T} (h:∀ b∈Φ,m2.get b=m1.get b) (hg:∀ j,j < wd->m2.get (base+j)=m1.get (base+j)):chkG Φ N base wd d m2 m'=chkG Φ N base wd d m1 m':=by
 unfold chkG;congr 1;congr 1
 ·rw [Bool.eq_iff_iff,List.all_eq_true,List.all_eq_true];constructor
  ·intro q b hb; rw [<- h b hb]; exact q b hb
  ·intro q b hb; rw [h b hb]; exact q b hb
 ·rw [Bool.eq_iff_iff,List.all_eq_true,List.all_eq_true];constructor
  ·intro q j hj; rw [<- hg j (by simpa using hj)]; exact q j hj
  ·intro q j hj; rw [hg j (by simpa using hj)]; exact q j hj
theorem Vvi {o:Op} {e:Operand->DT T} {m m':MT T} {d:DT T} {Φ:List Nat} {base:Nat} (hc:clsT E o = .r) (h:semG E o e m Φ base=some (d,m')) :
  m'=m/\∀ m2:MT T,m2.length=m.length->(∀ b∈Φ,m2.get b=m.get b)->semG E o e m2 Φ base=some (d,m2):=by
 unfold semG semGK0 at *;rw [hc] at h |-;simp only at h |-;rw [Vbk,Option.bind_eq_some_iff] at h;obtain ⟨⟨d1,m1⟩,h1,h2⟩:=h;simp only at h2;split at h2
 ·rename_i hk;simp only [Option.some.injEq,Prod.mk.injEq] at h2;obtain ⟨rfl,rfl⟩:=h2;refine ⟨rfl,λm2 hl ha=>?_⟩;rw [Vbk,Viu hl ha,h1];simp only [Option.bind_some];rw [hl,Vlq ha (λj hj=>by omega),hk]
 ·cases h2
def full (Φ:List Nat) (base wd:Nat):List Nat:=Φ++(List.range wd).map (base+·)
theorem mem_full {Φ:List Nat} {base wd b:Nat}:b∈full Φ base wd↔b∈Φ\/inGap base wd b=true:=by
 unfold full;rw [List.mem_append,inGap_iff];constructor
 ·rintro (h | h)
  ·exact .inl h
  ·simp only [List.mem_map,List.mem_range] at h;obtain ⟨j,hj,rfl⟩:=h;exact .inr ⟨by omega,by omega⟩
 ·rintro (h | h)
  ·exact .inl h
  ·right;simp only [List.mem_map,List.mem_range];exact ⟨b - base,by omega,by omega⟩
theorem Vvj {o:Op} {e:Operand->DT T} {m m':MT T} {d:DT T} {Φ:List Nat} {base:Nat} (hc:clsT E o = .w) (h:semG E o e m Φ base=some (d,m')) :
  m'.length=m.length/\(∀ b,b∉full Φ base (wdOf o)->m'.get b=m.get b)/\∀ m2:MT T,m2.length=m.length->(∀ b∈full Φ base (wdOf o),m2.get b=m.get b) ->
   ∃ m2':MT T,semG E o e m2 Φ base=some (d,m2')/\m2'.length=m2.length/\(∀ b∈full Φ base (wdOf o),m2'.get b=m'.get b)/\∀ b,b∉full Φ base (wdOf o)->m2'.get b=m2.get b:=by
 unfold semG semGK0 at *;rw [hc] at h |-;simp only at h |-;rw [Vbk,Option.bind_eq_some_iff] at h;obtain ⟨⟨d1,m1⟩,h1,h2⟩:=h;simp only at h2;split at h2
 case h_2=>cases h2
 rename_i hk;simp only [Option.some.injEq,Prod.mk.injEq] at h2;obtain ⟨rfl,rfl⟩:=h2;have out:∀ (q:MT T) b,b∉full Φ base (wdOf o)->(mergeM Φ m.length base (wdOf o) m1 0 q).get b=q.get b:=λq b hb=>by
  rw [mem_full] at hb;by_cases hlt:b < q.length
  ·rw [Vd3 _ _ _ _ _ _ _ _ hlt,Nat.zero_add,if_neg (λh=>hb (.inr h)),if_neg (λh=>hb (.inl (has_iff.1 h)))]
  ·rw [Vf3 (by rw [Vcn]; omega),Vf3 (by omega)]
 refine ⟨Vcn _ _ _ _ _ _ _,out m,λm2 hl ha=>?_⟩;have ha1:∀ b∈Φ,m2.get b=m.get b:=λb hb=>ha b (mem_full.2 (.inl hb));refine ⟨mergeM Φ m.length base (wdOf o) m1 0 m2,?_,Vcn _ _ _ _ _ _ _,λb hb=>?_,out m2⟩
 ·rw [Vbk,Viu hl ha1,h1];simp only [Option.bind_some];rw [hl,Vlq ha1 (λj hj=>ha _ (mem_full.2 (.inr (inGap_iff.2 ⟨by omega,by omega⟩)))),hk]
 ·by_cases hlt:b < m.length
  ·rw [Vd3 _ _ _ _ _ _ _ _ (by omega),Vd3 _ _ _ _ _ _ _ _ hlt];split
   ·rfl
   ·split
    ·rfl
    ·exact ha b hb
  ·rw [Vf3 (by rw [Vcn]; omega),Vf3 (by rw [Vcn]; omega)]
def stepOG (E:Env T) (ops:Array Oper) (acc:List (List Nat×Nat)) (i:Nat) (o:Oper) (σ:SF T):Option (SF T):=
 match gdT ops o σ.t with
 | none=>none
 | some false=>some (σ.put o.dst (.tup []))
 | some true=>match semG E o.op (evT E.G σ.t) σ.m (acc.getD i ([],0)).1 (acc.getD i ([],0)).2 with
  | some (d,m')=>some ({ σ with m:=m' }.put o.dst d)
  | none=>none
def runOpsG (E:Env T) (ops:Array Oper) (acc:List (List Nat×Nat)):List Nat->SF T->Option (SF T)
 | [],σ=>some σ
 | i::r,σ=>match ops[i]? with
  | some o=>match stepOG E ops acc i o σ with
   | some σ'=>runOpsG E ops acc r σ'
   | none=>none
  | none=>none
theorem Vpa {e e':Operand->DT T} {m:MT T} {o:Op} {Φ:List Nat} {base:Nat} (h:∀ x∈o.operands,e x=e' x):semG E o e m Φ base=semG E o e' m Φ base:=by
 have key:∀ (m:MT T) {R:Type} (K:DT T->MT T->Option R),opK E o e m K=opK E o e' m K:=λm R K=>(Vbk o e m K).trans (by rw [Vit h]; exact (Vbk o e' m K).symm);unfold semG semGK0;split<;>exact key _ _
theorem Vgi {σ:SF T} {dst:Option Nat} {d:DT T} {o:Oper} {m:MT T} {Φ:List Nat} {base:Nat} (h:∀ k,dst=some k->k∉o.looksAt ops):semG E o.op (evT E.G (σ.put dst d).t) m Φ base=semG E o.op (evT E.G σ.t) m Φ base:=
 Vpa λx hx=>Vu4 λk hk e=>h k hk (Vlb (by rw [<- e]; exact hx))
theorem Vvk {a b:List Nat} (h:disj a b=true):∀ x∈a,x∉b:=λx hx hb=>by
 have:=List.all_eq_true.1 h x hx;rw [has_iff.2 hb] at this;cases this
theorem Vgj {o:Oper} {i:Nat} (hc:clsT E o.op = .w):fullG E acc o i=full (acc.getD i ([],0)).1 (acc.getD i ([],0)).2 (wdOf o.op):=by
 unfold fullG widthG full;rw [hc]
theorem Vvl {o:Oper} {i:Nat} (hc:clsT E o.op = .r):fullG E acc o i=(acc.getD i ([],0)).1:=by
 unfold fullG widthG;rw [hc];simp
theorem Vpb {i j:Nat} {x y:Oper} {σ σ1 σ2:SF T} (hi:indepG E ops acc j x i y=true) (h1:stepOG E ops acc j x σ=some σ1) (h2:stepOG E ops acc i y σ1=some σ2) :
  ∃ τ,stepOG E ops acc i y σ=some τ/\stepOG E ops acc j x τ=some σ2:=by
 unfold indepG at hi;simp only [Bool.and_eq_true,Bool.or_eq_true,Bool.not_eq_true'] at hi;obtain ⟨hap,hcl⟩:=hi;obtain ⟨a1,a2,a3⟩:=Oper.apart_spec hap;have a2':∀ k,y.dst=some k->x.dst≠some k:=λk hk e=>a2 k e hk;unfold stepOG at h1 h2
 -- x
 split at h1
 ·cases h1
 ·-- x is passed over
  rename_i hgx;simp only [Option.some.injEq] at h1; subst h1;rw [Vbh a1] at h2;split at h2
  ·cases h2
  ·rename_i hgy;simp only [Option.some.injEq] at h2; subst h2;refine ⟨σ.put y.dst (.tup []),by simp [stepOG,hgy],?_⟩;unfold stepOG;rw [Vbh a3,hgx];simp only;rw [SF.put_comm σ _ _ a2']
  ·rename_i hgy;rw [Vgi a1] at h2;split at h2
   case h_2=>cases h2
   rename_i d m' hs;simp only [Option.some.injEq] at h2; subst h2;have hs':semG E y.op (evT E.G σ.t) σ.m (acc.getD i ([],0)).1 (acc.getD i ([],0)).2=some (d,m'):=by
    rw [<- hs]; cases x.dst<;>rfl
   refine ⟨({ σ with m:=m' }:SF T).put y.dst d,by simp only [stepOG,hgy,hs'],?_⟩;unfold stepOG;rw [Vbh a3];simp only [hgx];have:=Vef σ.t m' m' σ.m (DT.tup []) d a2';have hm2:(({ σ with m:=m' }:SF T).put y.dst d).m=m':=by cases y.dst<;>rfl
   have e:(({ σ with m:=m' }:SF T).put y.dst d)=({ t:=(({ σ with m:=m' }:SF T).put y.dst d).t,m:=m' }:SF T):=by cases y.dst<;>rfl
   rw [e];exact congrArg some this
 ·-- x runs
  rename_i hgx;split at h1
  case h_2=>cases h1
  rename_i dx mx hsx;simp only [Option.some.injEq] at h1; subst h1;rw [Vbh a1] at h2;simp only at h2;split at h2
  ·cases h2
  ·rename_i hgy;simp only [Option.some.injEq] at h2; subst h2;refine ⟨σ.put y.dst (.tup []),by simp [stepOG,hgy],?_⟩;unfold stepOG;rw [Vbh a3,hgx];simp only;rw [Vgi a3];have:(σ.put y.dst (DT.tup [])).m=σ.m:=by cases y.dst<;>rfl
   rw [this,hsx];simp only [Option.some.injEq];have h3:=Vef σ.t σ.m mx mx dx (DT.tup []) a2';have e:(({ σ with m:=mx }:SF T).put x.dst dx)=({ t:=(({ σ with m:=mx }:SF T).put x.dst dx).t,m:=mx }:SF T):=by cases x.dst<;>rfl
   rw [e];exact h3
  ·rename_i hgy;rw [Vgi a1] at h2;have hmx:(({ σ with m:=mx }:SF T).put x.dst dx).m=mx:=by cases x.dst<;>rfl
   rw [hmx] at h2;split at h2
   case h_2=>cases h2
   rename_i dy my hsy;simp only [Option.some.injEq] at h2; subst h2;have key:∃ m1,semG E y.op (evT E.G σ.t) σ.m (acc.getD i ([],0)).1 (acc.getD i ([],0)).2=some (dy,m1)/\semG E x.op (evT E.G σ.t) m1 (acc.getD j ([],0)).1 (acc.getD j ([],0)).2=some (dx,my):=by
    have dis:(clsT E x.op).clash (clsT E y.op)=true->∀ b∈fullG E acc x j,b∉fullG E acc y i:=λhcl'=>by
     rcases hcl with q | q
     ·rw [hcl'] at q; cases q
     ·exact Vvk q
    cases hcx:clsT E x.op with
    | n=>
     obtain ⟨e1,e2⟩:=Vvh hcx hsx;subst e1;exact ⟨my,hsy,e2 my⟩
    | r =>
     obtain ⟨e1,e2⟩:=Vvi hcx hsx;subst e1;cases hcy:clsT E y.op with
     | n=>obtain ⟨e3,_⟩:=Vvh hcy hsy; subst e3; exact ⟨_,hsy,hsx⟩
     | r=>obtain ⟨e3,_⟩:=Vvi hcy hsy; subst e3; exact ⟨_,hsy,hsx⟩
     | w=>
      have dis:=dis (by rw [hcx,hcy]; rfl);rw [Vvl hcx,Vgj hcy] at dis;obtain ⟨f1,f2,_⟩:=Vvj hcy hsy;exact ⟨my,hsy,e2 my f1 λb hb=>f2 b (dis b hb)⟩
    | w =>
     obtain ⟨f1,f2,f3⟩:=Vvj hcx hsx;cases hcy:clsT E y.op with
     | n=>obtain ⟨e3,e4⟩:=Vvh hcy hsy; subst e3; exact ⟨σ.m,e4 _,hsx⟩
     | r=>
      have dis:=dis (by rw [hcx,hcy]; rfl);rw [Vvl hcy,Vgj hcx] at dis;obtain ⟨e3,e4⟩:=Vvi hcy hsy;subst e3;exact ⟨σ.m,e4 σ.m f1.symm λb hb=>(f2 b (λq=>dis b q hb)).symm,hsx⟩
     | w =>
      have dis:=dis (by rw [hcx,hcy]; rfl);rw [Vgj hcy,Vgj hcx] at dis;obtain ⟨g1,g2,g3⟩:=Vvj hcy hsy;obtain ⟨m1,k1,k2,k3,k4⟩:=g3 σ.m f1.symm λb hb=>(f2 b (λq=>dis b q hb)).symm;obtain ⟨m3,l1,l2,l3,l4⟩:=f3 m1 k2 λb hb=>k4 b (dis b hb);refine ⟨m1,k1,?_⟩;have:m3=my:=Vy6 (by omega) λb hb=>by
       by_cases hx:b∈full (acc.getD j ([],0)).1 (acc.getD j ([],0)).2 (wdOf x.op)
       ·rw [l3 b hx,g2 b (dis b hx)]
       ·rw [l4 b hx];by_cases hy:b∈full (acc.getD i ([],0)).1 (acc.getD i ([],0)).2 (wdOf y.op)
        ·exact k3 b hy
        ·rw [k4 b hy,g2 b hy,f2 b hx]
      rw [<- this]; exact l1
   obtain ⟨m1,k1,k2⟩:=key;refine ⟨({ σ with m:=m1 }:SF T).put y.dst dy,by simp only [stepOG,hgy,k1],?_⟩;unfold stepOG;rw [Vbh a3];simp only [hgx];rw [Vgi a3];have hm1:(({ σ with m:=m1 }:SF T).put y.dst dy).m=m1:=by cases y.dst<;>rfl
   simp only [hm1,k2,Option.some.injEq];exact Vef σ.t m1 my mx dx dy a2'
theorem Vfc {i:Nat} {oi:Oper} (hoi:ops[i]? = some oi):∀ (l r:List Nat) (σ σ':SF T),(∀ j∈l,∃ oj,ops[j]? = some oj/\indepG E ops acc j oj i oi=true)->runOpsG E ops acc (l++i::r) σ=some σ'->runOpsG E ops acc (i::(l++r)) σ=some σ'
 | [],r,σ,σ',_,h=>h
 | j::l,r,σ,σ',hl,h=>by
  obtain ⟨oj,hoj,hin⟩:=hl j (by simp);simp only [List.cons_append,runOpsG,hoj] at h;split at h
  case h_2=>cases h
  rename_i σ1 h1;have h2:=Vfc hoi l r σ1 σ' (λk hk=>hl k (by simp [hk])) h;simp only [runOpsG,hoi] at h2;split at h2
  case h_2=>cases h2
  rename_i σ2 h3;obtain ⟨τ,h4,h5⟩:=Vpb hin h1 h3;simp only [List.cons_append,runOpsG,hoi,h4,hoj,h5];exact h2
theorem Vh1 (hp:pairsOkG E ops acc=true) {i:Nat} {oi:Oper} (hi:ops[i]? = some oi) :
  (∀ e∈oi.after,Region.binds .any e=true->e.on < i)/\∀ j,j < i->∃ oj,ops[j]? = some oj/\(((masks ops.toList []).getD i 0).testBit j=true\/indepG E ops acc j oj i oi=true):=by
 have hlt:i < ops.size:=by
  rcases Nat.lt_or_ge i ops.size with h | h
  ·exact h
  ·rw [Array.getElem?_eq_none h] at hi; cases hi
 unfold pairsOkG at hp;have:=List.all_eq_true.1 hp i (by simpa using hlt);simp only [pairsAtG,hi,Bool.and_eq_true] at this;obtain ⟨h1,h2⟩:=this;refine ⟨λe he hb=>?_,λj hj=>?_⟩
 ·have:=Array.all_eq_true'.1 h1 e he;simpa [hb] using this
 ·have:=List.all_eq_true.1 h2 j (by simpa using hj);split at this
  ·rename_i oj hoj;exact ⟨oj,hoj,by simpa using this⟩
  ·cases this
theorem Vvm (hp:pairsOkG E ops acc=true):∀ (fuel t:Nat) (listed:Array Bool) (σ σ':SF T),listed.size=ops.size->(left ops.size listed).length<=fuel ->
  (∀ (k:Nat) (o:Oper),ops[k]? = some o->listed.getD k false=true->∀ e∈o.after,Region.binds .any e=true->listed.getD e.on false=true) ->
  runOpsG E ops acc (left ops.size listed) σ=some σ'->runOpsG E ops acc (Region.linearise.go .any ops fuel t listed []) σ=some σ'
 | 0,t,listed,σ,σ',hsz,hf,hcl,h=>by
  have:left ops.size listed=[]:=List.eq_nil_of_length_eq_zero (by omega);rw [this] at h;simpa [Region.linearise.go] using h
 | fuel+1, t, listed, σ, σ', hsz, hf, hcl, h => by
  simp only [Region.linearise.go];change runOpsG E ops acc (match (Region.ready .any ops listed)[t % (Region.ready .any ops listed).length]? with
   | some i=>Region.linearise.go .any ops fuel (t / (Region.ready .any ops listed).length) (listed.setIfInBounds i true) [i]
   | none=>[].reverse) σ=some σ'
  have hready:∀ i,i∈Region.ready .any ops listed↔i∈left ops.size listed/\∃ o,ops[i]? = some o/\∀ e∈o.after,Region.binds .any e=true->listed.getD e.on false=true:=by
   intro i;unfold Region.ready;simp only [List.mem_filter,List.mem_range,Bool.and_eq_true,Bool.not_eq_true',mem_left];constructor
   ·rintro ⟨h1,h2,h3⟩;refine ⟨⟨h1,h2⟩,ops[i],by simp [h1],λe he hb=>?_⟩;simp only [Array.getElem?_eq_getElem h1,Option.map_some,Option.getD_some,Array.all_eq_true'] at h3;have:=h3 e he;simpa [hb] using this
   ·rintro ⟨⟨h1,h2⟩,o,ho,h3⟩;refine ⟨h1,h2,?_⟩;simp only [ho,Option.map_some,Option.getD_some,Array.all_eq_true'];intro e he;cases hb:Region.binds .any e with
    | false=>simp
    | true=>simp [h3 e he hb]
  cases hi:(Region.ready .any ops listed)[t % (Region.ready .any ops listed).length]? with
  | none=>
   have hnil:Region.ready .any ops listed=[]:=by
    cases hr:Region.ready .any ops listed with
    | nil=>rfl
    | cons x xs=>
     rw [hr] at hi;have hlt:t % (x::xs).length < (x::xs).length:=Nat.mod_lt _ (by simp);rw [List.getElem?_eq_getElem hlt] at hi;cases hi
   have hl : left ops.size listed = [] := by
    cases hr:left ops.size listed with
    | nil=>rfl
    | cons x xs=>
     exfalso;have hx:x∈left ops.size listed:=by rw [hr]; simp
     obtain ⟨hxl,hxf⟩:=mem_left.1 hx;have hox:ops[x]? = some ops[x]:=by simp [hxl]
     have:x∈Region.ready .any ops listed:=by
      rw [hready];refine ⟨hx,ops[x],hox,λe he hb=>?_⟩;have hlt:=(Vh1 hp hox).1 e he hb
      -- e.on < x and x is the least that is left
      rcases hle:listed.getD e.on true with _ | _
      ·have hme:e.on∈left ops.size listed:=mem_left.2 ⟨by omega,hle⟩;obtain ⟨l,r,e1,e2,_⟩:=Vea hsz hme;have:x=(l++e.on::r).head (by simp):=by
        have:=congrArg List.head? (hr.symm.trans e1);simp at this;cases l with
        | nil=>simpa using this
        | cons y ys=>simpa using this
       cases l with
       | nil=>simp at this; omega
       | cons y ys=>
        simp at this;have:=(e2 y (by simp)).1;omega
      ·have:e.on < listed.size:=by rw [hsz]; omega
       simp [Array.getD_eq_getD_getElem?,this] at hle |-;exact hle
     rw [hnil] at this;cases this
   rw [hl] at h;simpa using h
  | some i=>
   simp only [];have hir:=(hready i).1 (List.mem_of_getElem? hi);obtain ⟨hil,oi,hoi,hdep⟩:=hir;obtain ⟨l,r,e1,e2,e3⟩:=Vea hsz hil;rw [linearise_go_acc,List.reverse_singleton,List.singleton_append];rw [e1] at h;have hfr:=Vfc hoi l r σ σ' (λj hj=>by
    obtain ⟨hji,hjf⟩:=e2 j hj;obtain ⟨oj,hoj,hor⟩:=(Vh1 hp hoi).2 j hji;refine ⟨oj,hoj,hor.resolve_left λhre=>?_⟩;have:=Vfr ops.toList [] (λk _=>by simp) (λk hk=>by simp at hk) (λk _=>by simp) i listed hcl oi hoi hdep j hre;have hjl:j < listed.size:=by
     rw [hsz];rcases Nat.lt_or_ge j ops.size with h | h
     ·exact h
     ·rw [Array.getElem?_eq_none h] at hoj; cases hoj
    simp [Array.getD_eq_getD_getElem?,hjl] at this hjf;rw [this] at hjf; cases hjf) h
   simp only [runOpsG,hoi] at hfr |-;split at hfr
   case h_2=>cases hfr
   rename_i σ1 h1;have hlen:(left ops.size listed).length=(l++r).length+1:=by rw [e1]; simp; omega
   refine Vvm hp fuel _ _ σ1 σ' (by simpa using hsz) (by rw [e3]; omega) (λk o hk hlk e he hb=>?_) (by rw [e3]; exact hfr);have hset:∀ q,listed.getD q false=true->(listed.setIfInBounds i true).getD q false=true:=λq hq=>by
    simp only [Array.getD_eq_getD_getElem?,Array.getElem?_setIfInBounds] at hq |-;by_cases hqi:i=q
    ·subst hqi;rw [if_pos rfl];by_cases hqs:i < listed.size
     ·simp [hqs]
     ·simp [hqs] at hq
    ·rw [if_neg hqi]; exact hq
   by_cases hki:k=i
   ·subst hki;rw [hoi] at hk; cases hk;exact hset _ (hdep e he hb)
   ·refine hset _ (hcl k o hk ?_ e he hb);simpa [Array.getD_eq_getD_getElem?,Array.getElem?_setIfInBounds,Ne.symm hki] using hlk
theorem Vj5 (hmix:P.follows .mixedOrders=true) (hp:pairsOkG E ops acc=true) (t:Nat) {σ σ':SF T} (h:runOpsG E ops acc (List.range ops.size) σ=some σ') :
  runOpsG E ops acc (Region.schedule (P.follows .mixedOrders) ops t) σ=some σ':=by
 simp only [Region.schedule,hmix,Bool.true_or,if_true,Region.linearise];have hl:left ops.size (Array.replicate ops.size false)=List.range ops.size:=by
  unfold left;rw [List.filter_eq_self];intro i hi;simp only [List.mem_range] at hi;simp [Array.getD_eq_getD_getElem?,hi]
 refine Vvm hp ops.size t _ σ σ' (by simp) (by rw [hl]; simp) (λk o hk hlk=>?_) (by rw [hl]; exact h);simp [Array.getD_eq_getD_getElem?] at hlk;by_cases hk2:k < ops.size
 ·simp [hk2] at hlk
 ·simp [hk2] at hlk
end
section
variable {T:Nat->Type} {P:Program} {E:Env T} {O I0 I I':Nat->Prop} {w0 w w':World} {n:Nat} {kp:List (Nat×Value)} {loc loc':Nat->Nat->Loc} {L L':Nat->Nat->Nat} {a:Act} {R:Type} {ops:Array Oper} {acc:List (List Nat×Nat)}
def LentFree (m:MT T) (loc:Nat->Nat->Loc):Prop:=∀ b,m.get b = .lent->∀ g,loc b g = .free
theorem Vvn (σ:SF T) (dst:Option Nat) (d:DT T):(σ.put dst d).m=σ.m:=by cases dst<;>rfl
theorem Va3a (hE:EnvOk P E) {σ:SF T} (h:RelT E O I0 w0 n kp I loc L σ a w) (hl:LentFree σ.m loc) {o:Oper} {Φ:List Nat} {base:Nat} {d:DT T} {m2:MT T} (hs:semG E o.op (evT E.G σ.t) σ.m Φ base=some (d,m2))
  (hd:∀ k,o.dst=some k->k < n/\∀ p∈kp,p.1≠k) {K:Act->World->Prop} {Q:Exit->Act->World->Prop}
  (hK:∀ a' w' I' loc' L',RelT E O I0 w0 n kp I' loc' L' (({ σ with m:=m2 }:SF T).put o.dst d) a' w'->LentFree m2 loc'->K a' w'):o.upon P a K Q ((execOp a.eval o).run P w):=by
 unfold semG semGK0 at hs;split at hs
 ·rename_i hc;unfold opK at hs;rw [hc] at hs;simp only at hs;obtain ⟨d1,h1,h2,h3⟩:=nK_ok (L:=L) hE.tys hE.cd (λx=>(Vhw h x).2) hs;simp only [Option.some.injEq,Prod.mk.injEq] at h3;obtain ⟨rfl,rfl⟩:=h3;obtain ⟨v,hv1,hv2⟩:=Vtw (P:=P) (o:=o) (λx=>(Vhw h x).1) h1;rw [hv1];exact hK _ _ _ _ _ (h.put o.dst hd h.mem h.wfm h.glob hv2 h2 (.refl _ _) (λ_ h=>.inl h) (.refl _) (.refl _ _) (.refl _ _)) hl
 ·rename_i hc;rw [Vbk,Option.bind_eq_some_iff] at hs;obtain ⟨⟨d1,m1⟩,h1,h2⟩:=hs;simp only at h2;split at h2
  case h_2=>cases h2
  rename_i hk;simp only [Option.some.injEq,Prod.mk.injEq] at h2;obtain ⟨rfl,rfl⟩:=h2;have hck:=Vy5 hk;have hm1:=Vu5 hc h1;have ids_lt:∀ b,okG Φ σ.m.length 0 0 b=true->renG σ.m.length 0 b=b:=λb hb=>by
   rcases Vhz hb with ⟨q,_⟩ | ⟨q1,q2⟩
   ·exact Vms q
   ·omega
  have hdr:d1.ren (renG σ.m.length 0)=d1:=Vy4 d1 λb hb=>ids_lt b (hck.ids b hb);have:=Voa hE h hl (m2:=σ.m) (Q:=Q) (K:=K) h1 hck rfl (λb hb=>by
   have hg:inGap 0 0 b=false:=by
    cases hq:inGap 0 0 b with
    | false=>rfl
    | true=>have:=inGap_iff.1 hq; omega
   rw [hg];simp only [Bool.false_eq_true,if_false];split
   ·rename_i hp;have hm':m1.get b=σ.m.get b:=by
     rw [hm1,Vfb Φ 0 σ.m b hb,Nat.zero_add,if_pos hp]
    rw [Vo9 λq hq=>ids_lt q ((hck.box b (has_iff.1 hp)).1 q hq),hm']
   ·rfl) hd (by rw [hdr]; exact hK)
  exact this
 ·rename_i hc;rw [Vbk,Option.bind_eq_some_iff] at hs;obtain ⟨⟨d1,m1⟩,h1,h2⟩:=hs;simp only at h2;split at h2
  case h_2=>cases h2
  rename_i hk;simp only [Option.some.injEq,Prod.mk.injEq] at h2;obtain ⟨rfl,rfl⟩:=h2;exact Voa hE h hl h1 (Vy5 hk) (Vcn _ _ _ _ _ _ _) (λb hb=>by rw [Vd3 _ _ _ _ _ _ _ _ hb,Nat.zero_add]) hd hK
theorem Vvo (hE:EnvOk P E) {σ:SF T} (h:RelT E O I0 w0 n kp I loc L σ a w) (hl:LentFree σ.m loc) {i:Nat} {o:Oper} (hi:ops[i]? = some o) (hd:∀ k,o.dst=some k->k < n/\∀ p∈kp,p.1≠k) {σ':SF T} (hs:stepOG E ops acc i o σ=some σ')
  {K:Act->World->Prop} {Q:Exit->Act->World->Prop} (hK:∀ a' w' I' loc' L',RelT E O I0 w0 n kp I' loc' L' σ' a' w'->LentFree σ'.m loc'->K a' w'):wpOp P ops Q i K a w:=by
 unfold stepOG at hs;unfold wpOp;simp only [hi];split at hs
 ·cases hs
 ·rename_i hg;rw [Vn5 h hg];simp only [Option.some.injEq] at hs; subst hs;simp only [Bool.false_eq_true,if_false];refine hK _ _ I loc L ?_ (by rw [Vvn]; exact hl);exact h.put (d:=.tup []) (v:=undef) o.dst hd h.mem h.wfm h.glob (by simp only [den,denL,V,VL]; exact ⟨[],rfl,rfl⟩) trivial (.refl _ _) (λ_ h=>.inl h) (.refl _) (.refl _ _) (.refl _ _)
 ·rename_i hg;rw [Vn5 h hg];simp only [if_true];split at hs
  case h_2=>cases hs
  rename_i d m' hsem;simp only [Option.some.injEq] at hs; subst hs;left;exact Va3a hE h hl hsem hd λa' w' I' loc' L' z1 z2=>hK a' w' I' loc' L' z1 (by rw [Vvn]; exact z2)
theorem Viv (hE:EnvOk P E) (hd:∀ (i:Nat) (o:Oper) (k:Nat),ops[i]? = some o->o.dst=some k->k < n/\∀ p∈kp,p.1≠k) {Q:Exit->Act->World->Prop}:∀ (l:List Nat) {σ σ':SF T} {I:Nat->Prop} {loc:Nat->Nat->Loc} {L:Nat->Nat->Nat} {a:Act} {w:World},
  RelT E O I0 w0 n kp I loc L σ a w->LentFree σ.m loc->runOpsG E ops acc l σ=some σ'->(∀ a' w' I' loc' L',RelT E O I0 w0 n kp I' loc' L' σ' a' w'->LentFree σ'.m loc'->Q .normal a' w')->wpOps P ops Q l a w
 | [],σ,σ',I,loc,L,a,w,h,hl,hr,hQ=>by
  simp only [runOpsG,Option.some.injEq] at hr; subst hr;exact hQ _ _ _ _ _ h hl
 | i::r,σ,σ',I,loc,L,a,w,h,hl,hr,hQ=>by
  simp only [runOpsG] at hr;split at hr
  case h_2=>cases hr
  rename_i o ho;split at hr
  case h_2=>cases hr
  rename_i σ1 hs;rw [wpOps_cons];exact Vvo hE h hl ho (λk hk=>hd i o k ho hk) hs λa' w' I' loc' L' h' hl'=>Viv hE hd r h' hl' hr hQ
theorem Vob:∀ (l:List Oper) (is:List Nat) (base:Nat) (acc:List (List Nat×Nat)) (σ:ST T) (K:List (List Nat×Nat)->ST T->Option R) (r:R),l.map some=is.map (ops[·]?)->is=List.range' acc.length l.length->runGK E ops l base acc σ K=some r ->
  ∃ acc' σ',(∀ j,j < acc.length->acc'[j]? = acc[j]?)/\runOpsG E ops acc' is σ.f=some σ'.f/\K acc' σ'=some r
 | [],is,base,acc,σ,K,r,hl,hi,h=>by
  have:is=[]:=by simpa using hl.symm
  subst this;exact ⟨acc,σ,λ_ _=>rfl,rfl,h⟩
 | o::l,is,base,acc,σ,K,r,hl,hi,h=>by
  simp only [List.length_cons,List.range'_succ] at hi;subst hi;simp only [List.map_cons,List.cons.injEq] at hl;obtain ⟨ho,hl⟩:=hl;have nx:∀ (p:List Nat×Nat) (σ1:ST T),runGK E ops l (base+widthG E o.op) (acc++[p]) σ1 K=some r->∃ acc' σ',(∀ j,j < acc.length->acc'[j]? = acc[j]?)/\acc'.getD acc.length ([],0)=p/\runOpsG E ops acc' (List.range' (acc.length+1) l.length) σ1.f=some σ'.f/\K acc' σ'=some r:=λp σ1 h=>by
   obtain ⟨acc',σ',g1,g2,g3⟩:=Vob l _ _ (acc++[p]) σ1 K r hl (by simp) h;refine ⟨acc',σ',λj hj=>?_,?_,g2,g3⟩
   ·rw [g1 j (by simp; omega),List.getElem?_append_left hj]
   ·rw [List.getD_eq_getElem?_getD,g1 acc.length (by simp)];simp
  have step:∀ σ1:ST T,σ1.f=σ.f->gdT ops o σ.f.t=some true->stepGK E o base σ1 (λΦ σ'=>runGK E ops l (base+widthG E o.op) (acc++[(Φ,base)]) σ' K)=some r ->
    ∃ acc' σ',(∀ j,j < acc.length->acc'[j]? = acc[j]?)/\runOpsG E ops acc' (acc.length::List.range' (acc.length+1) l.length) σ.f=some σ'.f/\K acc' σ'=some r:=by
   intro σ1 h1 hg h;unfold stepGK at h;rw [Vvg,Option.bind_eq_some_iff] at h;obtain ⟨⟨d,m'⟩,h2,h3⟩:=h;obtain ⟨acc',σ',g1,g2,g3,g4⟩:=nx _ _ h3;refine ⟨acc',σ',g1,?_,g4⟩;have h2':semG E o.op (evT E.G σ.f.t) σ.f.m (acc'.getD acc.length ([],0)).1 (acc'.getD acc.length ([],0)).2=some (d,m'):=by rw [<- h1,g2]; exact h2
   simp only [runOpsG,<- ho,stepOG,hg,h2'];rw [Vj4] at g3;have:({ σ.f with m:=m' }:SF T)=(⟨σ1.ts,m'⟩:ST T).f:=by rw [<- h1]; rfl
   rw [this]; exact g3
  have skip:∀ σ1:ST T,σ1.f=σ.f->gdT ops o σ.f.t=some false->runGK E ops l (base+widthG E o.op) (acc++[([],base)]) (ST.put σ1 o.dst (.tup [])) K=some r ->
    ∃ acc' σ',(∀ j,j < acc.length->acc'[j]? = acc[j]?)/\runOpsG E ops acc' (acc.length::List.range' (acc.length+1) l.length) σ.f=some σ'.f/\K acc' σ'=some r:=by
   intro σ1 h1 hg h;obtain ⟨acc',σ',g1,g2,g3,g4⟩:=nx _ _ h;refine ⟨acc',σ',g1,?_,g4⟩;simp only [runOpsG,<- ho,stepOG,hg];rw [Vj4,h1] at g3;exact g3
  have same:∀ (k:Nat) (d:DT T),tget σ.ts k=d->(⟨(k,d)::σ.ts,σ.m⟩:ST T).f=σ.f:=λk d hd=>by
   simp only [ST.f,Vc2];rw [<- hd,Vn6]
  simp only [runGK] at h;split at h
  ·rename_i hg;exact step σ rfl (by simp [gdT,hg]) h
  ·rename_i k hg;split at h
   ·rename_i b hb;cases b with
    | true=>exact step _ (same k _ hb) (by simp [gdT,hg,ST.f,hb]) h
    | false=>exact skip _ (same k _ hb) (by simp [gdT,hg,ST.f,hb]) h
   ·rename_i hb;exact skip _ rfl (by simp [gdT,hg,ST.f,hb]) h
   ·cases h
  ·rename_i k hg;split at h
   ·rename_i b hb;cases b with
    | true=>exact skip _ (same k _ hb) (by simp [gdT,hg,ST.f,hb]) h
    | false=>exact step _ (same k _ hb) (by simp [gdT,hg,ST.f,hb]) h
   ·rename_i hb;exact skip _ rfl (by simp [gdT,hg,ST.f,hb]) h
   ·cases h
  ·cases h
theorem Vlr:∀ (m:MT T),(clearM m).length=m.length
 | []=>rfl
 | x::r=>by simp [clearM,Vlr r]
theorem Vfd:∀ (m:MT T) (b:Nat),(clearM m).get b=if (m.get b).isLent=true then .gone else m.get b
 | [],b=>by simp [clearM,MT.get,BoxT.isLent]
 | x::r,0=>by
  simp only [clearM,Vda];cases x<;>simp [BoxT.isLent]
 | x::r,b+1=>by
  simp only [clearM,Vdb];exact Vfd r b
theorem RelT.clear {σ:SF T} (h:RelT E O I0 w0 n kp I loc L σ a w) (hl:LentFree σ.m loc):RelT E O I0 w0 n kp I loc L ⟨σ.t,clearM σ.m⟩ a w:=by
 have hm:=h.mem;have hnb:(denM E.C (clearM σ.m)).nb=(denM E.C σ.m).nb:=by simp [denM,Vlr]
 have ho:∀ b,((denM E.C (clearM σ.m)).bx b).owned=true->((denM E.C σ.m).bx b).owned=true:=λb q=>by
  simp only [denM] at q |-;rw [Vfd] at q;split at q
  ·cases q
  ·exact q
 refine ⟨h.size,h.defers,h.tmp,h.wf,⟨λb hb=>?_,λb g hb=>hm.free b g (by rw [<- hnb]; exact hb),λb g k hb q hk=>hm.own b g k (by rw [<- hnb]; exact hb) (ho b q) hk,λb b' g g' k h1 h2 o1 o2=>hm.inj b b' g g' k (by rw [<- hnb]; exact h1) (by rw [<- hnb]; exact h2) (ho b o1) (ho b' o2),hm.imm,hm.up⟩,λb=>?_,h.glob,h.fr,h.rows,h.imm0,h.imm1,h.kept⟩
 ·rw [hnb] at hb;show RelB I w loc b (denB E.C ((clearM σ.m).get b));rw [Vfd];split
  ·rename_i hq; exact λg=>.inr (hl b (isLent_iff.1 hq) g)
  ·exact hm.box b hb
 ·rw [Vfd];split
  ·trivial
  ·exact h.wfm b
theorem Vj6 {m:MT T} {k b:Nat}:MT.get (m++List.replicate k .lent) b=if b < m.length then m.get b else if b < m.length+k then .lent else .gone:=by
 unfold MT.get;rw [List.getD_eq_getElem?_getD,List.getElem?_append];split
 ·simp [List.getD]
 ·rw [List.getElem?_replicate];split
  ·rw [if_pos (by omega)]; rfl
  ·rw [if_neg (by omega)]; rfl
theorem RelT.gaps {σ:SF T} (h:RelT E O I0 w0 n kp I loc L σ a w) (hn:(List.all σ.m λx=>!x.isLent)=true) (k:Nat):RelT E O I0 w0 n kp I loc L ⟨σ.t,σ.m++List.replicate k .lent⟩ a w/\LentFree (σ.m++List.replicate k .lent) loc:=by
 have hm:=h.mem;have nl:∀ b,b < σ.m.length->σ.m.get b≠.lent:=λb hb e=>by
  have:=List.all_eq_true.1 hn (σ.m.get b) (by
   unfold MT.get;rw [List.getD_eq_getElem?_getD,List.getElem?_eq_getElem hb];exact List.getElem_mem hb)
  rw [e] at this; cases this
 have hfree:∀ b g,σ.m.length<=b->loc b g = .free:=λb g hb=>hm.free b g (by simpa [denM] using hb);have low:∀ b,b < σ.m.length+k->((denM E.C (σ.m++List.replicate k .lent)).bx b).owned=true->b < σ.m.length/\((denM E.C σ.m).bx b).owned=true:=λb hb q=>by
  simp only [denM,Vj6] at q |-;split at q
  ·rename_i hq; exact ⟨hq,q⟩
  ·first | (cases q; done) | (split at q<;>cases q)
 have hnb:(denM E.C (σ.m++List.replicate k .lent)).nb=σ.m.length+k:=by simp [denM]
 have hnb0:(denM E.C σ.m).nb=σ.m.length:=rfl;refine ⟨⟨h.size,h.defers,h.tmp,h.wf,⟨λb hb=>?_,λb g hb=>hfree b g (by rw [hnb] at hb; omega),λb g q hb o hk=>?_,λb b' g g' q h1 h2 o1 o2 k1 k2=>?_,hm.imm,hm.up⟩,λb=>?_,h.glob,h.fr,h.rows,h.imm0,h.imm1,h.kept⟩,λb hb g=>?_⟩
 ·show RelB I w loc b (denB E.C (MT.get (σ.m++List.replicate k .lent) b));rw [Vj6];split
  ·rename_i hq; exact hm.box b hq
  ·split
   ·trivial
   ·exact λg=>.inr (hfree b g (by omega))
 ·rw [hnb] at hb;obtain ⟨q1,q2⟩:=low b hb o;exact hm.own b g q q1 q2 hk
 ·rw [hnb] at h1 h2;obtain ⟨q1,q2⟩:=low b h1 o1;obtain ⟨p1,p2⟩:=low b' h2 o2;exact hm.inj b b' g g' q q1 p1 q2 p2 k1 k2
 ·show WfB L b (MT.get (σ.m++List.replicate k .lent) b);rw [Vj6];split
  ·exact h.wfm b
  ·split<;>trivial
 ·rw [Vj6] at hb;split at hb
  ·rename_i hq; exact absurd hb (nl b hq)
  ·exact hfree b g (by omega)
theorem Vpc (hmix:P.follows .mixedOrders=true) (hE:EnvOk P E) (hd:∀ (i:Nat) (o:Oper) (k:Nat),ops[i]? = some o->o.dst=some k->k < n/\∀ p∈kp,p.1≠k) {σ:ST T} (h:RelT E O I0 w0 n kp I loc L σ.f a w) {K:ST T->Option R} {r:R} (hr:regionG E ops σ K=some r) {id:Nat} {draw:Bool} {Q:Exit->Act->World->Prop}
  (hQ:∀ τ a' w' I' loc' L',RelT E O I0 w0 n kp I' loc' L' τ.f a' w'->K τ=some r->Q .normal a' w'):(Code.region id ops draw).wp P Q a w:=by
 unfold regionG at hr;simp only [Vh0] at hr;split at hr
 case h_2=>cases hr
 rename_i hn;obtain ⟨acc,τ,_,h1,h2⟩:=Vob ops.toList (List.range ops.size) _ [] _ _ r (Vlc ops) (by simp [List.range_eq_range']) hr;split at h2
 case h_2=>cases h2
 rename_i hp;have fin:∀ (l:List Nat) (a:Act) (w:World),RelT E O I0 w0 n kp I loc L σ.f a w->runOpsG E ops acc l (⟨σ.ts,σ.m++List.replicate (widths E ops.toList) .lent⟩:ST T).f=some τ.f->wpOps P ops Q l a w:=λl a w h hl=>by
  obtain ⟨g1,g2⟩:=h.gaps hn (widths E ops.toList);exact Viv hE hd l g1 g2 hl λa' w' I' loc' L' z1 z2=>hQ ⟨τ.ts,clearM τ.m⟩ _ _ _ _ _ (z1.clear z2) h2
 cases draw with
 | false=>exact wp_region (fin _ _ _ h h1)
 | true=>exact wp_region_draw λt=>fin _ _ _ h.drew (Vj5 hmix hp t h1)
end
end Go.Abs
