/- The library of abstract values, part 8: see the remarks ahead of each part. No condition. -/
import Derived.Test.YtaddhgkhilmniaaGreatDoorLib7
import Derived.ChangeArms
import Derived.OpenShut
import Derived.ChangeSlices
import Derived.Carry
import Derived.ProofKit
import Derived.Handed
import Derived.Test.YtaddhgkhilmniaaGreatDoorLib4
import Derived.Below
import Derived.Laws.AppendOwn
set_option linter.unusedVariables false
set_option linter.unusedSimpArgs false
namespace Go.Abs
open Go
section
variable {T:Nat->Type} {P:Program} {E:Env T} {O I0 I:Nat->Prop} {w0 w:World} {n:Nat} {kp:List (Nat×Value)} {loc:Nat->Nat->Loc} {L:Nat->Nat->Nat} {a:Act} {R:Type}
def Ex.con:Ex->Exit
 | .normal=>.normal
 | .exit id=>.exit id
 | .ret=>.ret
theorem Vy7 {e e':Ex} (h:exB e e'=true):e=e':=by
 cases e<;>cases e'<;>simp only [exB] at h<;>first | rfl | (cases h; done) | (rw [Nat.eq_of_beq_eq_true h])
def atX (C:Cd T):(xs:List (Ex×Shape))->tyX T xs->Ex×ST T
 | []=>λx=>nomatch x
 | [(e,s)]=>λx=>(e,lay C s x)
 | (e,s)::p::r=>Sum.elim (λx=>(e,lay C s x)) (atX C (p::r))
theorem Vvp (C:Cd T):∀ (xs:List (Ex×Shape)) (K:Ex->ST T->Option R) (y:tyX T xs),outX C xs K y=K (atX C xs y).1 (atX C xs y).2
 | [],K,y=>nomatch y
 | [(e,s)],K,y=>rfl
 | (e,s)::p::r,K,y=>by
  cases y with
  | inl x=>rfl
  | inr x=>exact Vvp C (p::r) K x
theorem Vy8 (hC:CdOk E.C) {σ:ST T} (h:RelT E O I0 w0 n kp I loc L σ.f a w):∀ (xs:List (Ex×Shape)) {e:Ex} {K:tyX T xs->Option R} {r:R},inX E.C xs e σ K=some r ->
  ∃ y I' loc' L',(atX E.C xs y).1=e/\RelT E O I0 w0 n kp I' loc' L' (atX E.C xs y).2.f a w/\K y=some r
 | [],e,K,r,hk=>by simp [inX] at hk
 | [(e',s)],e,K,r,hk=>by
  simp only [inX] at hk;split at hk
  ·rename_i he;obtain ⟨x,I',loc',L',h1,h2⟩:=Vfa hC h hk;exact ⟨x,I',loc',L',Vy7 he,h1,h2⟩
  ·cases hk
 | (e',s)::p::xs,e,K,r,hk=>by
  simp only [inX] at hk;split at hk
  ·rename_i he;obtain ⟨x,I',loc',L',h1,h2⟩:=Vfa hC h hk;exact ⟨.inl x,I',loc',L',Vy7 he,h1,h2⟩
  ·obtain ⟨y,I',loc',L',h1,h2,h3⟩:=Vy8 hC h (p::xs) hk;exact ⟨.inr y,I',loc',L',h1,h2,h3⟩
def LoopOk (P:Program) (E:Env T) (n:Nat) (kq:List Nat) (b:Code) (S:LSpec T):Prop:=
 ∀ (O I0:Nat->Prop) (w0:World) (kp:List (Nat×Value)) (I:Nat->Prop) (loc:Nat->Nat->Loc) (L:Nat->Nat->Nat) (a:Act) (w:World) (x:tySs T S.head.slots) (y:tyX T S.outs) (QC:Exit->Act->World->Prop),
  (∀ p∈kp,p.1∈kq)->RelT E O I0 w0 n kp I loc L (layC E.C S.head S.cp x).f a w->S.go x=some y ->
  (∀ I' loc' L' a' w',RelT E O I0 w0 n kp I' loc' L' (atX E.C S.outs y).2.f a' w'->QC (atX E.C S.outs y).1.con a' w')->(Code.loop b).wp P QC a w
def dstOk (n:Nat) (kq:List Nat) (ops:Array Oper):Bool:=
 ops.toList.all λo=>match o.dst with
  | some k=>Nat.blt k n&&kq.all λq=>!Nat.beq q k
  | none=>true
def codeOkT (E:Env T) (A:Loc2 T) (n:Nat) (kq done:List Nat):Code->Bool
 | .region id ops draw=>dstOk n kq ops&&(A.gr id||(!draw||pairsOkT E ops))
 | .seq a b=>codeOkT E A n kq done a&&codeOkT E A n kq done b
 | .cond _ a b=>codeOkT E A n kq done a&&codeOkT E A n kq done b
 | .block id b=>match A.lp id with
  | some _=>done.any (Nat.beq id)
  | none=>codeOkT E A n kq done b
 | _=>true
def strip (A:Loc2 T) (c0:Code):Code->Code
 | .seq a b=>.seq (strip A c0 a) (strip A c0 b)
 | .cond c a b=>.cond c (strip A c0 a) (strip A c0 b)
 | .block id b=>match A.lp id with
  | some _=>.block id (.loop (loopAt id c0))
  | none=>.block id (strip A c0 b)
 | c=>c
theorem Vpd {ops:Array Oper} {kq:List Nat} (h:dstOk n kq ops=true) (hq:∀ p∈kp,p.1∈kq) (i:Nat) (o:Oper) (k:Nat) (hi:ops[i]? = some o) (hk:o.dst=some k):k < n/\∀ p∈kp,p.1≠k:=by
 unfold dstOk at h;have:=List.all_eq_true.1 h o (by rw [Array.mem_toList_iff]; exact Array.mem_of_getElem? hi);simp only [hk,Bool.and_eq_true] at this;refine ⟨by have h3:=this.1; simp [Nat.blt] at h3; omega,λp hp e=>?_⟩;have h2:=List.all_eq_true.1 this.2 p.1 (hq p hp);rw [e] at h2;simp at h2
variable {A:Loc2 T} {kq done:List Nat} {c0:Code}
theorem Vd4 (hmix:P.follows .mixedOrders=true) (hE:EnvOk P E) (hq:∀ p∈kp,p.1∈kq) (hlp:∀ id∈done,∀ S,A.lp id=some S->LoopOk P E n kq (loopAt id c0) S) :
  ∀ (c:Code) {R:Type} {σ:ST T} {I:Nat->Prop} {loc:Nat->Nat->Loc} {L:Nat->Nat->Nat} {a:Act} {w:World} {K:Ex->ST T->Option R} {r:R} {QC:Exit->Act->World->Prop},
  codeOkT E A n kq done c=true->strip A c0 c=c->RelT E O I0 w0 n kp I loc L σ.f a w->run E A c σ K=some r ->
  (∀ e τ I' loc' L' a' w',RelT E O I0 w0 n kp I' loc' L' τ.f a' w'->K e τ=some r->QC e.con a' w')->c.wp P QC a w
 | .skip,R,σ,I,loc,L,a,w,K,r,QC,hok,hs,h,hr,hQ=>wp_skip (hQ .normal _ _ _ _ _ _ h hr)
 | .label l,R,σ,I,loc,L,a,w,K,r,QC,hok,hs,h,hr,hQ=>wp_label (hQ .normal _ _ _ _ _ _ h hr)
 | .exit id,R,σ,I,loc,L,a,w,K,r,QC,hok,hs,h,hr,hQ=>wp_exit (hQ (.exit id) _ _ _ _ _ _ h hr)
 | .ret,R,σ,I,loc,L,a,w,K,r,QC,hok,hs,h,hr,hQ=>wp_ret (hQ .ret _ _ _ _ _ _ h hr)
 | .region id ops draw,R,σ,I,loc,L,a,w,K,r,QC,hok,hs,h,hr,hQ=>by
  simp only [run] at hr;simp only [codeOkT,Bool.and_eq_true] at hok;obtain ⟨hok1,hok2⟩:=hok;have hd:=Vpd hok1 hq;split at hr
  ·exact Vpc hmix hE hd h hr λτ a' w' I' loc' L' h' hk=>hQ .normal _ _ _ _ _ _ h' hk
  rename_i hgr;rw [hgr,Bool.false_or] at hok2;obtain ⟨σ',h1,h2⟩:=Vmr ops.toList (List.range ops.size) σ _ r (Vlc ops) hr;cases draw with
  | false=>exact wp_region (Vfx hE hd _ h h1 λa' w' I' loc' L' h'=>hQ .normal _ _ _ _ _ _ h' h2)
  | true=>
   refine wp_region_draw λt=>?_;exact Vfx hE hd _ h.drew (Vj2 hmix (by simpa using hok2) t h1) λa' w' I' loc' L' h'=>hQ .normal _ _ _ _ _ _ h' h2
 | .seq x y,R,σ,I,loc,L,a,w,K,r,QC,hok,hs,h,hr,hQ=>by
  simp only [codeOkT,Bool.and_eq_true] at hok;simp only [strip,Code.seq.injEq] at hs;simp only [run] at hr;split at hr
  ·refine wp_seq (Vd4 hmix hE hq hlp x hok.1 hs.1 h hr λe τ I' loc' L' a' w' h' hk=>?_);cases e with
   | normal=>exact Vd4 hmix hE hq hlp y hok.2 hs.2 h' hk hQ
   | exit id=>exact hQ (.exit id) _ _ _ _ _ _ h' hk
   | ret=>exact hQ .ret _ _ _ _ _ _ h' hk
  ·rename_i s hj;rw [Option.bind_eq_some_iff] at hr;obtain ⟨u,hu,hr⟩:=hr;refine wp_seq (Vd4 hmix hE hq hlp x hok.1 hs.1 h hu λe τ I' loc' L' a' w' h' hk=>?_);cases e with
   | normal=>
    obtain ⟨x,I2,loc2,L2,g1,g2⟩:=Vfa hE.cd h' hk;simp only [Option.some.injEq] at g2;subst g2;exact Vd4 hmix hE hq hlp y hok.2 hs.2 g1 hr hQ
   | exit id=>
    rw [Option.bind_eq_some_iff] at hk;obtain ⟨z,hz,hk⟩:=hk;simp only [Option.some.injEq] at hk;subst hk;simp only [Sum.elim_inr,Option.some.injEq] at hr;subst hr;exact hQ (.exit id) _ _ _ _ _ _ h' hz
   | ret=>
    rw [Option.bind_eq_some_iff] at hk;obtain ⟨z,hz,hk⟩:=hk;simp only [Option.some.injEq] at hk;subst hk;simp only [Sum.elim_inr,Option.some.injEq] at hr;subst hr;exact hQ .ret _ _ _ _ _ _ h' hz
  ·rename_i s hj;rw [Option.bind_eq_some_iff] at hr;obtain ⟨u,hu,hr⟩:=hr;refine wp_seq (Vd4 hmix hE hq hlp x hok.1 hs.1 h hu λe τ I' loc' L' a' w' h' hk=>?_);cases e with
   | normal=>
    obtain ⟨x,I2,loc2,L2,g1,g2⟩:=Vfa hE.cd h' hk;simp only [Option.some.injEq] at g2;subst g2;exact Vd4 hmix hE hq hlp y hok.2 hs.2 g1 hr hQ
   | exit id=>cases hk
   | ret=>cases hk
 | .cond c x y,R,σ,I,loc,L,a,w,K,r,QC,hok,hs,h,hr,hQ=>by
  simp only [codeOkT,Bool.and_eq_true] at hok;simp only [strip,Code.cond.injEq,true_and] at hs;simp only [run] at hr;have hv:=(Vhw h c).1;split at hr
  ·rename_i q hc;have hc':evT E.G σ.f.t c = .bool q:=hc;rw [hc'] at hv; simp only [den,V] at hv;refine wp_cond hv ?_;cases q
   ·exact Vd4 hmix hE hq hlp y hok.2 hs.2 h (by simpa using hr) hQ
   ·exact Vd4 hmix hE hq hlp x hok.1 hs.1 h (by simpa using hr) hQ
  ·cases hr
 | .block id b,R,σ,I,loc,L,a,w,K,r,QC,hok,hs,h,hr,hQ=>by
  have out:∀ (e:Ex) (τ:ST T) (I':Nat->Prop) (loc':Nat->Nat->Loc) (L':Nat->Nat->Nat) (a':Act) (w':World),RelT E O I0 w0 n kp I' loc' L' τ.f a' w'->(match e with
    | .exit j=>match Nat.beq j id with
     | true=>K .normal τ
     | false=>K (.exit j) τ
    | e=>K e τ)=some r->Exit.inBlock id QC e.con a' w':=by
   intro e τ I' loc' L' a' w' h' hk;cases e with
   | normal=>exact hQ .normal _ _ _ _ _ _ h' hk
   | ret=>exact hQ .ret _ _ _ _ _ _ h' hk
   | exit j=>
    simp only [Ex.con,Exit.inBlock];simp only at hk;split at hk
    ·rename_i hj;rw [if_pos (Nat.eq_of_beq_eq_true hj)];exact hQ .normal _ _ _ _ _ _ h' hk
    ·rename_i hj;rw [if_neg (λe=>by subst e; simp at hj)];exact hQ (.exit j) _ _ _ _ _ _ h' hk
  simp only [codeOkT] at hok;simp only [strip] at hs;simp only [run] at hr;split at hr
  ·rename_i S hS;rw [hS] at hok hs;simp only at hok hs;obtain ⟨j,hj1,hj2⟩:=List.any_eq_true.1 hok;have hj:=Nat.eq_of_beq_eq_true hj2;subst hj;simp only [Code.block.injEq,true_and] at hs;subst hs;obtain ⟨x,I1,loc1,L1,g1,g2⟩:=Vn9 hE.cd h hr;rw [Option.bind_eq_some_iff] at g2;obtain ⟨y,g3,g4⟩:=g2;rw [Vvp] at g4;exact wp_block (hlp _ hj1 S hS O I0 w0 kp I1 loc1 L1 a w x y _ hq g1 g3 λI' loc' L' a' w' h'=>out _ _ _ _ _ _ _ h' g4)
  ·rename_i hS;rw [hS] at hok hs;simp only at hok hs;simp only [Code.block.injEq,true_and] at hs;exact wp_block (Vd4 hmix hE hq hlp b hok hs h hr out)
 | .loop b,R,σ,I,loc,L,a,w,K,r,QC,hok,hs,h,hr,hQ=>by simp [run] at hr
 | .rangeFunc _ _ _ _,R,σ,I,loc,L,a,w,K,r,QC,hok,hs,h,hr,hQ=>by simp [run] at hr
 | .scope _,R,σ,I,loc,L,a,w,K,r,QC,hok,hs,h,hr,hQ=>by simp [run] at hr
 | .goto _,R,σ,I,loc,L,a,w,K,r,QC,hok,hs,h,hr,hQ=>by simp [run] at hr
 | .refuse _,R,σ,I,loc,L,a,w,K,r,QC,hok,hs,h,hr,hQ=>by simp [run] at hr
theorem Vd5 (hmix:P.follows .mixedOrders=true) (hE:EnvOk P E) (hlp:∀ id∈done,∀ S,A.lp id=some S->LoopOk P E n kq (loopAt id c0) S) {b:Code} {hd:Shape} {cp:List Cp} {outs:List (Ex×Shape)} {f:tySs T hd.slots->Option (tySs T hd.slots⊕tyX T outs)} {go:tySs T hd.slots->Option (tyX T outs)} (k:Nat)
  (hok:codeOkT E A n kq done b=true) (hs:strip A c0 b=b) (hf:∀ x,run E A b (layC E.C hd cp x) (roundK E.C hd cp outs)=f x) (hgo:∀ x,go x=iter f k x):LoopOk P E n kq b ⟨hd,outs,go,cp⟩:=by
 intro O I0 w0 kp I loc L a w x y QC hq h hx hQ;simp only at x y h hx hQ;rw [hgo] at hx;refine wp_loop_rounds k ?_;clear hgo;induction k generalizing x I loc L a w with
 | zero=>simp [iter] at hx
 | succ k ih=>
  rw [rounds_succ];simp only [iter] at hx;rw [Option.bind_eq_some_iff] at hx;obtain ⟨u,hu,hx⟩:=hx;rw [<- hf] at hu;refine Vd4 hmix hE hq hlp b hok hs h hu λe τ I' loc' L' a' w' h' hk=>?_;have leave:∀ e,e≠Ex.normal->inX E.C outs e τ (λx=>some (Sum.inr x))=some u->QC e.con a' w':=by
   intro e _ hk;obtain ⟨y',I2,loc2,L2,g1,g2,g3⟩:=Vy8 hE.cd h' outs hk;simp only [Option.some.injEq] at g3;subst g3;simp only [Sum.elim_inr,Option.some.injEq] at hx;subst hx;rw [<- g1];exact hQ _ _ _ _ _ g2
  cases e with
  | normal=>
   simp only [roundK] at hk;obtain ⟨x',I2,loc2,L2,g1,g2⟩:=Vn9 hE.cd h' hk;simp only [Option.some.injEq] at g2;subst g2;exact ih _ _ _ _ _ x' g1 hx
  | exit id=>exact leave (.exit id) (λh=>by cases h) hk
  | ret=>exact leave .ret (λh=>by cases h) hk
end
section
variable {T:Nat->Type} {P:Program} {E:Env T} {O I0 I I':Nat->Prop} {w0 w:World} {n:Nat} {kp:List (Nat×Value)} {loc:Nat->Nat->Loc} {L:Nat->Nat->Nat} {a:Act} {R:Type} {C:Cd T} {m:MT T}
theorem Vmt (hE:EnvOk P E) {σ:ST T} (h:RelT E O I0 w0 n kp I loc L σ.f a w):∀ (rs:List ResultVar) {K:List (DT T)->Option R} {r:R},resK E σ rs K=some r ->
  ∃ (ds:List (DT T)) (vs:List Value),(rs.mapM (rdv a)).run P w = .ok vs w/\VL I w (denL E.C ds) loc vs/\WfL L ds/\K ds=some r
 | [],K,r,hr=>⟨[],[],rfl,by simp [denL,VL],trivial,hr⟩
 | .tmp t::rs,K,r,hr=>by
  simp only [resK] at hr;obtain ⟨ds,vs,h1,h2,h3,h4⟩:=Vmt hE h rs hr;refine ⟨tget σ.ts t::ds,a.tmps.getD t undef::vs,?_,by simp only [denL,VL]; exact ⟨_,_,rfl,h.tmp t,h2⟩,⟨h.wf t,h3⟩,h4⟩;simp only [List.mapM_cons,Sem.run_bind,Sem.run_pure,Result.andThen_ok,h1,rdv]
 | .cell x t::rs,K,r,hr=>by
  simp only [resK] at hr;have hx:=(Vhw h (.tmp x)).1;have hwx:=(Vhw h (.tmp x)).2;obtain ⟨d,hd,hwd,hr⟩:=Vup (P:=P) hE.cd hE.tys h.mem h.wfm hwx hx _ _ rfl hr;obtain ⟨ds,vs,h1,h2,h3,h4⟩:=Vmt hE h rs hr;obtain ⟨z,hz,hv⟩:=Vk6 (P:=P) h.mem hx hd;have hl:(do loadVar t (<- asAddr (a.tmps.getD x undef)):Sem Value).run P w = .ok z w:=by
   have:∃ ad,a.tmps.getD x undef = .pointer (some ad):=by
    have hx:V I w (den E.C (evT E.G σ.f.t (.tmp x))) loc (a.tmps.getD x undef):=hx;generalize den E.C (evT E.G σ.f.t (.tmp x))=q at hx hd;unfold loadR at hd;split at hd
    ·rename_i b off;simp only [V] at hx;cases hl:loc b 0<;>simp only [hl] at hx
     ·exact hx
     ·exact ⟨_,hx⟩
    ·rename_i b g s i off;simp only [V] at hx;cases hl:loc b g<;>simp only [hl] at hx
     ·exact hx
     ·exact ⟨_,hx⟩
    ·rename_i cs;simp only [V] at hx;obtain ⟨b,o,hx,_⟩:=hx;exact ⟨_,hx⟩
    ·cases hd
   obtain ⟨ad,had⟩:=this;have e:a.eval (.tmp x)=a.tmps.getD x undef:=rfl;rw [e] at hz;rw [had] at hz |-;simpa [Instr.loadAt,Instr.sureAddr,asAddr] using hz
  refine ⟨d::ds,z::vs,?_,by simp only [denL,VL]; exact ⟨_,_,rfl,hv,h2⟩,⟨hwd,h3⟩,h4⟩;have hl':(rdv a (.cell x t)).run P w = .ok z w:=hl;simp only [List.mapM_cons,Sem.run_bind,Sem.run_pure,Result.andThen_ok,h1,hl']
theorem Vmu {fn:Func} {vs:List Value} (h:(fn.results.toList.mapM (rdv a)).run P w = .ok vs w):(results fn a.tmps).run P w = .ok (resV vs) w:=by
 have e:results fn a.tmps=(do
   let vs <- fn.results.mapM (rdv a)
   pure (if h:vs.size=1 then vs[0] else .tuple vs):Sem Value):=by
  unfold results;congr 1
 rw [e,Array.mapM_eq_mapM_toList];simp only [Sem.run_bind,Sem.run_map,Sem.run_pure,h,Result.andThen_ok,Result.ok.injEq,and_true];match vs with
 | []=>rfl
 | [x]=>rfl
 | x::y::r=>simp [resV]
def KeptV (C:Cd T) (I:Nat->Prop) (w:World) (loc:Nat->Nat->Loc) (t:Nat->DT T):List Slot->Nat->List Value->Prop
 | [],_,_=>True
 | .ptr _::r,j,vs=>∃ v vr,vs=v::vr/\V I w (den C (t j)) loc v/\KeptV C I w loc t r (j+1) vr
 | .inp _::r,j,vs=>∃ v vr,vs=v::vr/\V I w (den C (t j)) loc v/\KeptV C I w loc t r (j+1) vr
 | .f _::r,j,vs=>∃ v vr,vs=v::vr/\KeptV C I w loc t r (j+1) vr
 | .iter::r,j,vs=>∃ v vr,vs=v::vr/\KeptV C I w loc t r (j+1) vr
 | .lar _::r,j,vs=>∃ v vr,vs=v::vr/\KeptV C I w loc t r (j+1) vr
 | .mset _ _::r,j,vs=>∃ v vr,vs=v::vr/\KeptV C I w loc t r (j+1) vr
theorem KeptV.mono {loc':Nat->Nat->Loc} {t:Nat->DT T} (hI:∀ k,I k->I' k) (hl:LocExt loc loc'):∀ {ss:List Slot} {j:Nat} {vs:List Value},KeptV C I w loc t ss j vs->KeptV C I' w loc' t ss j vs
 | [],j,vs,h=>trivial
 | .ptr _::r,j,vs,⟨v,vr,h1,h2,h3⟩=>⟨v,vr,h1,Vaz (Vae hI) _ loc loc' _ hl h2,h3.mono hI hl⟩
 | .inp _::r,j,vs,⟨v,vr,h1,h2,h3⟩=>⟨v,vr,h1,Vaz (Vae hI) _ loc loc' _ hl h2,h3.mono hI hl⟩
 | .f _::r,j,vs,⟨v,vr,h1,h3⟩=>⟨v,vr,h1,h3.mono hI hl⟩
 | .iter::r,j,vs,⟨v,vr,h1,h3⟩=>⟨v,vr,h1,h3.mono hI hl⟩
 | .lar _::r,j,vs,⟨v,vr,h1,h3⟩=>⟨v,vr,h1,h3.mono hI hl⟩
 | .mset _ _::r,j,vs,⟨v,vr,h1,h3⟩=>⟨v,vr,h1,h3.mono hI hl⟩
theorem SVOuts.keep (hI:∀ k,I k->I' k):∀ {ss:List Slot} {x:tyO T ss} {vs:List Value} {own:Nat->Prop},SVOuts C I w ss x vs own->SVOuts C I' w ss x vs own
 | [],x,vs,own,h=>trivial
 | .ptr fs::r,x,vs,own,⟨v,vr,o1,o2,h1,h2,h3,h4⟩=>⟨v,vr,o1,o2,h1,SVS.keep (s:=.ptr fs) (.imm hI) h2,SVOuts.keep hI h3,h4⟩
 | .inp c::r,x,vs,own,⟨v,vr,o1,o2,h1,h2,h3,h4⟩=>⟨v,vr,o1,o2,h1,SVO.keep (.imm hI) h2,SVOuts.keep hI h3,h4⟩
 | .f f::r,x,vs,own,⟨v,vr,h1,h2⟩=>⟨v,vr,h1,SVOuts.keep (ss:=r) hI h2⟩
 | .iter::r,x,vs,own,⟨v,vr,h1,h2⟩=>⟨v,vr,h1,SVOuts.keep (ss:=r) hI h2⟩
 | .lar _::r,x,vs,own,⟨v,vr,h1,h2⟩=>⟨v,vr,h1,SVOuts.keep (ss:=r) hI h2⟩
 | .mset _ _::r,x,vs,own,⟨v,vr,h1,h2⟩=>⟨v,vr,h1,SVOuts.keep (ss:=r) hI h2⟩
theorem Vev (hC:CdOk C) {t:Nat->DT T} (ht:∀ i,WfD L (t i)):∀ (ss:List Slot) {j:Nat} {m:MT T} {I:Nat->Prop} {loc:Nat->Nat->Loc} {vs:List Value} {K:tyO T ss->MT T->Option R} {r:R},MRel O I loc (denM C m) w->WfM L m->KeptV C I w loc t ss j vs->outsK C t ss j m K=some r ->
  ∃ x own I' m' loc',Took C O I w loc L m own I' m' loc'/\SVOuts C I' w ss x vs own/\K x m'=some r
 | [],j,m,I,loc,vs,K,r,hm,hw,hv,h=>⟨(),none',I,m,loc,.refl hm hw,trivial,h⟩
 | .ptr fs::ss,j,m,I,loc,vs,K,r,hm,hw,hv,h=>by
  obtain ⟨v,vr,rfl,hv1,hv2⟩:=hv;have h':decSK C m (.ptr fs) (t j) (λx m'=>outsK C t ss (j+1) m' λy m''=>K (x,y) m'')=some r:=h;obtain ⟨x,o1,I1,m1,loc1,h1,h2,h3⟩:=dec_s hC hm hw (ht j) hv1 h';obtain ⟨y,o2,I2,m2,loc2,g1,g2,g3⟩:=Vev hC ht ss h1.mem h1.wf (hv2.mono h1.imm0 h1.ext) h3;exact ⟨(x,y),_,I2,m2,loc2,h1.trans g1,⟨v,vr,o1,o2,rfl,h2.keep (.imm g1.imm0),g2,λ_ h=>.inl h,λ_ h=>.inr h,h1.disj g1⟩,g3⟩
 | .inp c::ss,j,m,I,loc,vs,K,r,hm,hw,hv,h=>by
  obtain ⟨v,vr,rfl,hv1,hv2⟩:=hv;have h':decOK m c (t j) (λx m'=>outsK C t ss (j+1) m' λy m''=>K (x,y) m'')=some r:=by
   simp only [outsK] at h;unfold decOK;split at h
   ·rename_i hb; simp only [hb]; exact h
   ·cases h
  obtain ⟨x,o1,I1,m1,loc1,h1,h2,h3⟩:=Vhp hm hw (ht j) hv1 h';obtain ⟨y,o2,I2,m2,loc2,g1,g2,g3⟩:=Vev hC ht ss h1.mem h1.wf (hv2.mono h1.imm0 h1.ext) h3;exact ⟨(x,y),_,I2,m2,loc2,h1.trans g1,⟨v,vr,o1,o2,rfl,h2.keep (.imm g1.imm0),g2,λ_ h=>.inl h,λ_ h=>.inr h,h1.disj g1⟩,g3⟩
 | .f f::ss,j,m,I,loc,vs,K,r,hm,hw,hv,h=>by
  obtain ⟨v,vr,rfl,hv2⟩:=hv;obtain ⟨y,o2,I2,m2,loc2,g1,g2,g3⟩:=Vev hC ht ss (K:=K) hm hw hv2 h;exact ⟨y,o2,I2,m2,loc2,g1,⟨v,vr,rfl,g2⟩,g3⟩
 | .iter::ss,j,m,I,loc,vs,K,r,hm,hw,hv,h=>by
  obtain ⟨v,vr,rfl,hv2⟩:=hv;obtain ⟨y,o2,I2,m2,loc2,g1,g2,g3⟩:=Vev hC ht ss (K:=K) hm hw hv2 h;exact ⟨y,o2,I2,m2,loc2,g1,⟨v,vr,rfl,g2⟩,g3⟩
 | .lar _::ss,j,m,I,loc,vs,K,r,hm,hw,hv,h=>by
  obtain ⟨v,vr,rfl,hv2⟩:=hv;obtain ⟨y,o2,I2,m2,loc2,g1,g2,g3⟩:=Vev hC ht ss (K:=K) hm hw hv2 h;exact ⟨y,o2,I2,m2,loc2,g1,⟨v,vr,rfl,g2⟩,g3⟩
 | .mset _ _::ss,j,m,I,loc,vs,K,r,hm,hw,hv,h=>by
  obtain ⟨v,vr,rfl,hv2⟩:=hv;obtain ⟨y,o2,I2,m2,loc2,g1,g2,g3⟩:=Vev hC ht ss (K:=K) hm hw hv2 h;exact ⟨y,o2,I2,m2,loc2,g1,⟨v,vr,rfl,g2⟩,g3⟩
def kqOf:List Slot->Nat->List Nat
 | [],_=>[]
 | .ptr _::r,j=>j::kqOf r (j+1)
 | .inp _::r,j=>j::kqOf r (j+1)
 | .f _::r,j=>kqOf r (j+1)
 | .iter::r,j=>kqOf r (j+1)
 | .lar _::r,j=>kqOf r (j+1)
 | .mset _ _::r,j=>kqOf r (j+1)
def kpOf (args:List Value) (kq:List Nat):List (Nat×Value):=kq.map λj=>(j,args.getD j undef)
theorem Voc:∀ {ss:List Slot} {x:tySs T ss} {vs:List Value} {own:Nat->Prop},SVSs C I w ss x vs own->vs.length=ss.length
 | [],x,vs,own,h=>by have h:vs=[]:=h; simp [h]
 | s::r,x,vs,own,⟨v,vr,o1,o2,h1,h2,h3,h4⟩=>by subst h1; simp [Voc h3]
theorem Vls (C:Cd T):∀ (ss:List Slot) (x:tySs T ss) (b:Nat),(encSs C b ss x).1.length=ss.length
 | [],x,b=>rfl
 | s::r,x,b=>by simp [encSs,Vls C r x.2]
theorem Vpe (ds:List (DT T)):∀ (k:Nat) (i:Nat),tget ((List.range' k ds.length).zip ds) (k+i)=ds.getD i .dead:=by
 induction ds with
 | nil=>intro k i; simp [tget]
 | cons d r ih=>
  intro k i;simp only [List.length_cons,List.range'_succ,List.zip_cons_cons,Vc2,upd];cases i with
  | zero=>simp
  | succ i=>
   rw [if_neg (by omega)];have:=ih (k+1) i;rw [show k+1+i=k+(i+1) by omega] at this;rw [this]; rfl
theorem Viw (ds:List (DT T)) (i:Nat):tget ((List.range ds.length).zip ds) i=ds.getD i .dead:=by
 have:=Vpe ds 0 i;rw [Nat.zero_add] at this;rw [List.range_eq_range'];exact this
theorem Vbi (hmix : P.follows .mixedOrders = true) (hE : EnvOk P E) {A : Loc2 T} {done : List Nat} {f : FuncId} {fn : Func} {c : Code} {S : FSpec T} (hf : P.funcs[f]? = some fn) (hb : fn.body = some c) (hname : (fn.name == "runtime.NumGoroutine") = false) (hps : Nat.ble S.ps.length fn.ntmps = true)
  (hlp:∀ id∈done,∀ S',A.lp id=some S'->LoopOk P E fn.ntmps (kqOf S.ps 0) (loopAt id c) S') (hok:codeOkT E A fn.ntmps (kqOf S.ps 0) done c=true) (hs:strip A c c=c)
  (heq:∀ x,run E A c (enterT E.C S.ps x) (retK E fn.results.toList S.ps S.rs)=S.fn x):SoundT P E.C (λg=>(E.G g).map (denL E.C)) f S:=by
 refine ⟨⟨fn,hf,by simp [hb],hname⟩,λI own w args x r hI hown hG hsv hfn=>?_⟩;have hlen:=Voc hsv;have hps':S.ps.length<=fn.ntmps:=Nat.le_of_ble_eq_true hps;obtain ⟨loc1,L1,p1,p2,p3⟩:=Vuz hE.cd S.ps (m:=([]:MT T)) (loc:=free) (L:=λ_ _=>0) (O:=λk=>own k\/w.heap.size<=k) (Vn8 hI (λk h=>.inr h)) (λb=>trivial) hsv
  ⟨λk hk=>⟨.inl hk,(hown k hk).1,(hown k hk).2⟩,λk _ ⟨b,g,q,_⟩=>absurd q (Nat.not_lt_zero _)⟩
 have hds:(encSs E.C 0 S.ps x).1.length=args.length:=by rw [Vls,hlen]
 have getA:∀ i,(args.toArray++Array.replicate (fn.ntmps - args.toArray.size) undef).getD i undef=args.getD i undef:=λi=>by
  by_cases hi:i < args.length
  ·simp [Array.getD_eq_getD_getElem?,Array.getElem?_append,hi]
  ·simp only [Array.getD_eq_getD_getElem?,Array.getElem?_append,List.size_toArray,hi,if_false];rw [List.getD_eq_getElem?_getD,List.getElem?_eq_none (by omega),Array.getElem?_replicate];split<;>rfl
 have h0:RelT E (λk=>own k\/w.heap.size<=k) I w fn.ntmps (kpOf args (kqOf S.ps 0)) I loc1 L1 (enterT E.C S.ps x).f { tmps:=args.toArray++Array.replicate (fn.ntmps - args.toArray.size) undef,defers:=[] } w:=by
  have ht:∀ i,V I w (den E.C ((encSs E.C 0 S.ps x).1.getD i .dead)) loc1 (args.getD i undef)/\WfD L1 ((encSs E.C 0 S.ps x).1.getD i .dead):=λi=>by
   by_cases hi:i < (encSs E.C 0 S.ps x).1.length
   ·have e1:(encSs E.C 0 S.ps x).1.getD i .dead=(encSs E.C 0 S.ps x).1[i]:=by simp [List.getD,hi]
    obtain ⟨v,g1,g2⟩:=Vtr (i:=i) (d:=den E.C (encSs E.C 0 S.ps x).1[i]) p2 (by simp [Vaq,hi]);have e2:args.getD i undef=v:=by rw [List.getD_eq_getElem?_getD,g1]; rfl
    rw [e1,e2];exact ⟨g2,WfL_iff.1 p3 _ (List.getElem_mem hi)⟩
   ·have e1:(encSs E.C 0 S.ps x).1.getD i .dead = .dead:=by simp [List.getD,hi]
    rw [e1]; exact ⟨trivial,trivial⟩
  refine ⟨by simp; omega,rfl,λi=>?_,λi=>?_,p1.mem,p1.wf,hG,.refl _ _,λ_=>Nat.le_refl _,λ_ h=>h,λ_ h=>.inl h,λp hp=>?_⟩
  ·rw [getA];show V I w (den E.C (tget ((List.range (encSs E.C 0 S.ps x).1.length).zip (encSs E.C 0 S.ps x).1) i)) loc1 _;rw [Viw]; exact (ht i).1
  ·show WfD L1 (tget ((List.range (encSs E.C 0 S.ps x).1.length).zip (encSs E.C 0 S.ps x).1) i);rw [Viw]; exact (ht i).2
  ·simp only [kpOf,List.mem_map] at hp;obtain ⟨j,_,rfl⟩:=hp;exact getA j
 refine calls_of_wp hf hb (Vd4 hmix hE (kq:=kqOf S.ps 0) (λp hp=>by
  simp only [kpOf,List.mem_map] at hp;obtain ⟨j,hj,rfl⟩:=hp;exact hj) hlp c hok hs h0 ((heq x).trans hfn) λe τ I1 loc2 L2 a w' h hk=>?_)
 have fin:(resK E τ fn.results.toList λds=>outsK E.C (tget τ.ts) S.ps 0 τ.m λx m=>decFVsK E.C S.rs m ds λy _=>some (x,y))=some r ->
   a.defers=[]/\∃ v,(results fn a.tmps).run P w' = .ok v w'/\∃ vs I' o1 o2,Ending.returned v = .returned (resV vs)/\Fr (λk=>own k\/w.heap.size<=k) w w'/\(∀ b,rowSize w b<=rowSize w' b)/\(∀ k,I k->I' k)/\(∀ k,I' k->I k\/own k\/w.heap.size<=k)/\(∀ k,I' k->k < w'.heap.size) /\
   (∀ k,o1 k\/o2 k->(own k\/w.heap.size<=k)/\¬ I' k/\k < w'.heap.size)/\(∀ k,o1 k->¬ o2 k)/\SVOuts E.C I' w' S.ps r.1 args o1/\SVVs E.C I' w' S.rs r.2 vs o2:=by
  intro hk;obtain ⟨ds,vs,h1,h2,h3,h4⟩:=Vmt hE h _ hk;have kept:∀ (ss:List Slot) (j:Nat),(∀ q∈kqOf ss j,q∈kqOf S.ps 0)->j+ss.length=args.length->KeptV E.C I1 w' loc2 (tget τ.ts) ss j (args.drop j):=by
   intro ss;induction ss with
   | nil=>intro j _ _; trivial
   | cons s ss ih=>
    intro j hq hj;have hj':j < args.length:=by simp at hj; omega
    have hd:args.drop j=args[j]::args.drop (j+1):=by rw [List.drop_eq_getElem_cons hj']
    have next:=ih (j+1) (λq hq'=>hq q (by cases s<;>simp [kqOf,hq'])) (by simp at hj; omega)
    have val:j∈kqOf S.ps 0->V I1 w' (den E.C (tget τ.ts j)) loc2 args[j]:=λhm=>by
     have e:=h.kept (j,args.getD j undef) (by simp only [kpOf,List.mem_map]; exact ⟨j,hm,rfl⟩);have v:=h.tmp j;simp only at e;rw [e,List.getD_eq_getElem?_getD,List.getElem?_eq_getElem hj'] at v;exact v
    rw [hd];cases s with
    | ptr fs=>exact ⟨_,_,rfl,val (hq j (by simp [kqOf])),next⟩
    | inp c=>exact ⟨_,_,rfl,val (hq j (by simp [kqOf])),next⟩
    | f g=>exact ⟨_,_,rfl,next⟩
    | iter=>exact ⟨_,_,rfl,next⟩
    | lar c=>exact ⟨_,_,rfl,next⟩
    | mset a c=>exact ⟨_,_,rfl,next⟩
  obtain ⟨x1,o1,I2,m2,loc3,g1,g2,g3⟩:=Vev (t:=tget τ.ts) hE.cd h.wf S.ps h.mem h.wfm (vs:=args) (by simpa using kept S.ps 0 (λ_ h=>h) (by omega)) h4;obtain ⟨y1,o2,I3,m3,loc4,k1,k2,k3⟩:=Vuw hE.cd S.rs g1.mem g1.wf h3 (Vaf (Vae g1.imm0) _ _ _ _ g1.ext h2) g3;simp only [Option.some.injEq] at k3;subst k3;have tk:=g1.trans k1;refine ⟨h.defers,_,Vmu h1,vs,I3,o1,o2,rfl,h.fr,h.rows,λk hk=>tk.imm0 k (h.imm0 k hk),λk hk=>?_,tk.mem.imm,λk hk=>⟨((tk.got k hk).2.facts h.mem).1,(tk.got k hk).1,((tk.got k hk).2.facts h.mem).2.2⟩,g1.disj k1,SVOuts.keep k1.imm0 g2,k2⟩;rcases tk.imm1 k hk with q | q
  ·exact h.imm1 k q
  ·exact .inr (q.facts h.mem).1
 cases e with
 | exit id=>cases hk
 | normal=>exact fin hk
 | ret=>exact fin hk
end
section
def zcOf:D->Option Zc
 | .bool false=>some .b
 | .int k 0=>some (.i k)
 | .str []=>some .s
 | .nilp=>some .np
 | .nils=>some .ns
 | .lit .nilFunc=>some .nf
 | .lit .nilIface=>some .ni
 | .lit (.map none)=>some .nm
 | _=>none
theorem Va4a {d:D} {z:Zc} (h:zcOf d=some z):d=z.toD:=by
 unfold zcOf at h;split at h<;>first | (cases h; done) | (simp only [Option.some.injEq] at h; subst h; rfl)
def zcL:List D->Option (List Zc)
 | []=>some []
 | d::r=>match zcOf d,zcL r with
  | some z,some l=>some (z::l)
  | _,_=>none
theorem Vvq:∀ {ds:List D} {l:List Zc},zcL ds=some l->ds=l.map Zc.toD
 | [],l,h=>by simp only [zcL,Option.some.injEq] at h; subst h; rfl
 | d::r,l,h=>by
  simp only [zcL] at h;split at h
  ·rename_i z q hz hq;simp only [Option.some.injEq] at h; subst h;simp only [List.map_cons];rw [<- Va4a hz,<- Vvq hq]
  ·cases h
def onat:Option Nat->Option Nat->Bool
 | some a,some b=>Nat.beq a b
 | none,none=>true
 | _,_=>false
theorem Vj7 {a b:Option Nat} (h:onat a b=true):a=b:=by
 cases a<;>cases b<;>simp only [onat] at h<;>first | rfl | (cases h; done) | (rw [Nat.eq_of_beq_eq_true h])
def zeroOk (P:Program) (t:Nat) (i:TI):Bool:=
 match tzero P t with
 | some (.agg cs)=>i.kind.agg&&decide (zcL cs=some i.zero)
 | some d=>!i.kind.agg&&decide (zcL [d]=some i.zero)
 | none=>false
def fldsOk (P:Program) (t:Nat):Nat->List (Option (Nat×Nat))->Bool
 | _,[]=>true
 | k,none::r=>fldsOk P t (k+1) r
 | k,some p::r=>decide (tfld P t k=some p)&&fldsOk P t (k+1) r
theorem Vh2 {P:Program} {t:Nat}:∀ {fs:List (Option (Nat×Nat))} {k:Nat},fldsOk P t k fs=true->∀ j o ft,fs[j]? = some (some (o,ft))->tfld P t (k+j)=some (o,ft)
 | [],k,h,j,o,ft,hj=>by simp at hj
 | none::r,k,h,0,o,ft,hj=>by simp at hj
 | none::r,k,h,j+1,o,ft,hj=>by
  have:=Vh2 (fs:=r) (k:=k+1) h j o ft (by simpa using hj);rw [<- this]; congr 1; omega
 | some p::r,k,h,0,o,ft,hj=>by
  simp only [fldsOk,Bool.and_eq_true,decide_eq_true_eq] at h;simp only [List.getElem?_cons_zero,Option.some.injEq] at hj;rw [Nat.add_zero,h.1,hj]
 | some p::r,k,h,j+1,o,ft,hj=>by
  simp only [fldsOk,Bool.and_eq_true,decide_eq_true_eq] at h;have:=Vh2 (fs:=r) (k:=k+1) h.2 j o ft (by simpa using hj);rw [<- this]; congr 1; omega
def kindOk (P:Program) (t:Nat) (i:TI):Bool:=
 match i.kind with
 | .int k=>decide (tint P t=some k)
 | .str=>tstr P t
 | .bool=>tbool P t
 | .ptr e=>match P.underlying t with
  | some (.pointer e')=>Nat.beq e' e
  | _=>false
 | .map k e=>match P.underlying t with
  | some (.map k' e')=>Nat.beq k' k&&Nat.beq e' e
  | _=>false
 | _=>true
def tiOk (P:Program) (t:Nat) (i:TI):Bool:=
 (onat (tsz P t) (some i.sz)&&onat (tbytes P t) (some i.bts)&&decide (tagg P t=some i.kind.agg)&&kindOk P t i) &&
 ((match i.kind with | .slice e=>onat (telem P t) (some e) | _=>onat (telem P t) none) &&
 (match i.kind with | .arr n e=>decide (tarr P t=some (n,e)) | _=>decide (tarr P t=none))) &&
 (zeroOk P t i&&Nat.beq i.zero.length i.sz&&(i.kind.agg||Nat.beq i.sz 1)&&fldsOk P t 0 i.flds) &&
 ((match i.kind with | .strct=>decide (tplaces P t=some i.places) | _=>decide (tplaces P t=none)) &&
 (match i.eqs with | some q=>decide (flatEq P t=some q) | none=>true))
theorem Va5a {P:Program} {t:Nat} {i:TI} (h:tiOk P t i=true):TIok P t i:=by
 simp only [tiOk,Bool.and_eq_true,decide_eq_true_eq] at h;obtain ⟨⟨⟨⟨⟨⟨h1,h2⟩,h3⟩,h4⟩,h5,h6⟩,⟨⟨h7,h8⟩,h9⟩,h10⟩,h11,h12⟩:=h;refine ⟨Vj7 h1,Vj7 h2,h3,λk hk=>?_,λhk=>?_,λhk=>?_,λe hk=>?_,λhk=>?_,λn e hk=>?_,λhk=>?_,λe hk=>?_,?_,Nat.eq_of_beq_eq_true h8,λha=>?_,λk o ft hk=>?_,λhk=>?_,λhk=>?_,λq hq=>?_,λk e hk=>?_⟩
 ·simpa [kindOk,hk] using h4
 ·simpa [kindOk,hk] using h4
 ·simpa [kindOk,hk] using h4
 ·rw [hk] at h5; exact Vj7 h5
 ·split at h5
  ·rename_i e he; exact absurd he (hk e)
  ·exact Vj7 h5
 ·rw [hk] at h6; simpa using h6
 ·split at h6
  ·rename_i n e he; exact absurd he (hk n e)
  ·simpa using h6
 ·simp only [kindOk,hk] at h4;split at h4
  ·rename_i e' he; rw [he,Nat.eq_of_beq_eq_true h4]
  ·cases h4
 ·unfold zeroOk at h7;split at h7
  ·rename_i cs hz;simp only [Bool.and_eq_true,decide_eq_true_eq] at h7;rw [hz,if_pos h7.1,Vvq h7.2]
  ·rename_i d hne hz;simp only [Bool.and_eq_true,decide_eq_true_eq,Bool.not_eq_true'] at h7;rw [hz,if_neg (by rw [h7.1]; simp),<- Vvq h7.2];rfl
  ·cases h7
 ·rw [ha] at h9; simp only [Bool.false_or] at h9; exact Nat.eq_of_beq_eq_true h9
 ·have:=Vh2 h10 k o ft hk;rwa [Nat.zero_add] at this
 ·rw [hk] at h11; simpa using h11
 ·split at h11
  ·rename_i he; exact absurd he hk
  ·simpa using h11
 ·rw [hq] at h12; simpa using h12
 ·simp only [kindOk,hk] at h4;split at h4
  ·rename_i k' e' he;simp only [Bool.and_eq_true] at h4;rw [he,Nat.eq_of_beq_eq_true h4.1,Nat.eq_of_beq_eq_true h4.2]
  ·cases h4
def Tr.allB (p:Nat->TI->Bool):Tr->Bool
 | .leaf=>true
 | .node l k v r=>l.allB p&&(p k v&&r.allB p)
theorem Tr.allB_ok {p:Nat->TI->Bool} {q:Nat->TI->Prop} (hq:∀ t i,p t i=true->q t i):∀ {y:Tr},y.allB p=true->y.All q
 | .leaf,_=>trivial
 | .node l k v r,h=>by
  simp only [Tr.allB,Bool.and_eq_true] at h;exact ⟨Tr.allB_ok hq h.1,hq k v h.2.1,Tr.allB_ok hq h.2.2⟩
theorem Vcoa {P:Program} {y:Tr} (h:y.allB (tiOk P)=true):TysOk P y.find:=λt i hf=>Tr.find_all (Tr.allB_ok (λ_ _ h=>Va5a h) h) hf
end
section
variable {T:Nat->Type}
section
variable {P:Program} {E:Env T} {A:Loc2 T} {n:Nat} {kq:List Nat} {c0:Code}
theorem Vaa:∀ id∈([]:List Nat),∀ S,A.lp id=some S->LoopOk P E n kq (loopAt id c0) S:=λ_ h=>by cases h
theorem Vah {id:Nat} {done:List Nat} {S0:LSpec T} (h0:A.lp id=some S0) (h:LoopOk P E n kq (loopAt id c0) S0) (hr:∀ id∈done,∀ S,A.lp id=some S->LoopOk P E n kq (loopAt id c0) S) :
  ∀ id'∈id::done,∀ S,A.lp id'=some S->LoopOk P E n kq (loopAt id' c0) S:=λid' hm S hS=>by
 rcases List.mem_cons.1 hm with rfl | hm
 ·rw [h0] at hS; cases hS; exact h
 ·exact hr id' hm S hS
end
theorem envOk {P:Program} {E:Env T} (h1:CdOk E.C) (h2:TysOk P E.Y) (h3:FlOk E.C E.fl) (h4:∀ f ds S,E.F f ds=some S->SoundT P E.C (λg=>(E.G g).map (denL E.C)) f S):EnvOk P E:=⟨h1,h2,h3,h4⟩
end
section
variable {T:Nat->Type}
structure Ct (T:Nat->Type) where
 f:Nat
 k:Option (Nat×Nat)
 S:FSpec T
 ro:Bool
abbrev u1 {α β:Type} (f:α->β) (x:α×Unit):β:=f x.1
abbrev u2 {α α2 β:Type} (f:α->α2->β) (x:α×α2×Unit):β:=f x.1 x.2.1
abbrev u3 {α α2 α3 β:Type} (f:α->α2->α3->β) (x:α×α2×α3×Unit):β:=f x.1 x.2.1 x.2.2.1
abbrev u4 {α α2 α3 α4 β:Type} (f:α->α2->α3->α4->β) (x:α×α2×α3×α4×Unit):β:=f x.1 x.2.1 x.2.2.1 x.2.2.2.1
abbrev u5 {α α2 α3 α4 α5 β:Type} (f:α->α2->α3->α4->α5->β) (x:α×α2×α3×α4×α5×Unit):β:=f x.1 x.2.1 x.2.2.1 x.2.2.2.1 x.2.2.2.2.1
abbrev ct (l:List (Ct T)) (f:Nat) (ps:List Slot) (rs:List Fld) (g:tySs T ps->Option (tyO T ps×tyFs T rs)):List (Ct T):=⟨f,none,⟨ps,rs,g⟩,true⟩::l
abbrev cf (l:List (Ct T)) (f:Nat) (ps:List Slot) (rs:List Fld) (g:tySs T ps->Option (tyO T ps×tyFs T rs)):List (Ct T):=⟨f,none,⟨ps,rs,g⟩,false⟩::l
def Ct.hit (c:Ct T) (f:Nat) (ds:List (DT T)):Bool:=bif Nat.beq c.f f then (match c.k with
 | none=>true
 | some q=>onat (fnAt ds q.1) (some q.2)) else false
def lookF:List (Ct T)->Nat->List (DT T)->Option (FSpec T)
 | [],_,_=>none
 | c::r,f,ds=>bif c.hit f ds then some c.S else lookF r f ds
def roA:List (Ct T)->Nat->Bool
 | [],_=>true
 | c::r,f=>bif Nat.beq c.f f then c.ro&&roA r f else roA r f
def mkE (Y:Nat->Option TI) (C:Cd T) (G:Nat->Option (List (DT T))) (fl:Nat->Bool) (fs:List (Ct T)):Env T:=⟨Y,C,G,fl,lookF fs,roA fs⟩
def asc {α:Type}:List (Nat×α)->Nat->Option α
 | [],_=>none
 | p::r,i=>bif Nat.beq p.1 i then some p.2 else asc r i
def asj:List (Nat×Shape×Bool)->Nat->Option (Shape×Bool)
 | [],_=>none
 | p::r,i=>bif Nat.beq p.1 i then some p.2 else asj r i
def asg:List Nat->Nat->Bool
 | [],_=>false
 | p::r,i=>bif Nat.beq p i then true else asg r i
def lcA (l:List (Nat×LSpec T)) (j:List (Nat×Shape×Bool)) (g:List Nat):Loc2 T:=⟨asc l,asj j,asg g⟩
abbrev bodyOf (fn:Func):Code:=fn.body.getD .skip
def fnChk (E:Env T) (A:Loc2 T) (fn:Func) (ps:List Slot) (done:List Nat):Bool:=
 fn.body.isSome && (!(fn.name == "runtime.NumGoroutine") && (Nat.ble ps.length fn.ntmps && codeOkT E A fn.ntmps (kqOf ps 0) done (bodyOf fn)))
variable {P:Program} {Y:Nat->Option TI} {C:Cd T} {G:Nat->Option (List (DT T))} {fl:Nat->Bool} {fs:List (Ct T)}
theorem eNil (h1:CdOk C) (h2:TysOk P Y) (h3:FlOk C fl):EnvOk P (mkE Y C G fl []):=⟨h1,h2,h3,λ_ _ _ h=>by cases h⟩
theorem eCons {f:Nat} {k:Option (Nat×Nat)} {S:FSpec T} {ro:Bool} (h:SoundT P C (λg=>(G g).map (denL C)) f S) (hE:EnvOk P (mkE Y C G fl fs)):EnvOk P (mkE Y C G fl (⟨f,k,S,ro⟩::fs)):=by
 refine ⟨hE.cd,hE.tys,hE.fl,λf' ds S' h'=>?_⟩;have h2:lookF (⟨f,k,S,ro⟩::fs) f' ds=some S':=h';unfold lookF at h2;cases hh:(Ct.hit ⟨f,k,S,ro⟩ f' ds)
 ·rw [hh] at h2;exact hE.fns f' ds S' h2
 ·rw [hh] at h2;have e:f=f':=by
   unfold Ct.hit at hh;cases hb:Nat.beq f f'
   ·simp only [hb,cond_false] at hh; cases hh
   ·exact Nat.eq_of_beq_eq_true hb
  have e2:S=S':=Option.some.inj h2;subst e; subst e2;exact h
variable {E:Env T}
theorem sndC (hmix:P.follows .mixedOrders=true) (hE:EnvOk P E) (A:Loc2 T) {done:List Nat} {f:FuncId} {fn:Func} {S:FSpec T} (hf:P.funcs[f]? = some fn)
  (hlp:∀ id∈done,∀ S',A.lp id=some S'->LoopOk P E fn.ntmps (kqOf S.ps 0) (loopAt id (bodyOf fn)) S') (hc:fnChk E A fn S.ps done=true) (hs:strip A (bodyOf fn) (bodyOf fn)=bodyOf fn)
  (heq:∀ x,run E A (bodyOf fn) (enterT E.C S.ps x) (retK E fn.results.toList S.ps S.rs)=S.fn x):SoundT P E.C (λg=>(E.G g).map (denL E.C)) f S:=by
 unfold fnChk at hc;simp only [Bool.and_eq_true,Bool.not_eq_true'] at hc;obtain ⟨h1,h2,h3,h4⟩:=hc;obtain ⟨c,hb⟩:=Option.isSome_iff_exists.1 h1;have e:bodyOf fn=c:=by unfold bodyOf; rw [hb]; rfl
 rw [e] at hlp h4 hs heq;exact Vbi hmix hE hf hb h2 h3 hlp h4 hs heq
theorem lpC (hmix:P.follows .mixedOrders=true) (hE:EnvOk P E) (A:Loc2 T) {done:List Nat} {fn:Func} {kq:List Nat} (hlp:∀ id∈done,∀ S',A.lp id=some S'->LoopOk P E fn.ntmps kq (loopAt id (bodyOf fn)) S') (b:Nat) {S:LSpec T} {st:tySs T S.head.slots->Option (tySs T S.head.slots⊕tyX T S.outs)}
  (hgo:∀ x,S.go x=iter st rounds x) (hok:codeOkT E A fn.ntmps kq done (loopAt b (bodyOf fn))=true) (hs:strip A (bodyOf fn) (loopAt b (bodyOf fn))=loopAt b (bodyOf fn))
  (hf:∀ x,run E A (loopAt b (bodyOf fn)) (layC E.C S.head S.cp x) (roundK E.C S.head S.cp S.outs)=st x):LoopOk P E fn.ntmps kq (loopAt b (bodyOf fn)) S:=
 Vd5 hmix hE hlp rounds hok hs hf hgo
end
mutual
def DOk:D->Prop
 | .int k n=>(Lit.int k n).wf=true
 | .str l=>l.length<=maxLen
 | .rs _ rows=>rows.length<=maxLen/\DOkR rows
 | .agg cs=>DOkL cs
 | _=>True
def DOkL:List D->Prop
 | []=>True
 | d::r=>DOk d/\DOkL r
def DOkR:List (List D)->Prop
 | []=>True
 | d::r=>DOkL d/\DOkR r
end
theorem Vh3:∀ {a b:List D},DOkL a->DOkL b->DOkL (a++b)
 | [],_,_,hb=>hb
 | d::r,b,ha,hb=>by
  simp only [DOkL,List.cons_append] at ha |-;exact ⟨ha.1,Vh3 ha.2 hb⟩
section
variable {T:Nat->Type} {C:Cd T} {P:Program} {w:World}
abbrev All (w:World):Nat->Prop:=λk=>k < w.heap.size
def joinL:(a b:List Lf)->tyLs T a->tyLs T b->tyLs T (a++b)
 | [],_,_,y=>y
 | _::r,b,x,y=>(x.1,joinL r b x.2 y)
theorem Veh (C:Cd T):∀ (a b:List Lf) (x:tyLs T a) (y:tyLs T b),encLD C (a++b) (joinL a b x y)=encLD C a x++encLD C b y
 | [],_,_,_=>rfl
 | l::r,b,x,y=>by
  show encLD1 C l x.1::encLD C (r++b) (joinL r b x.2 y)=encLD1 C l x.1::(encLD C r x.2++encLD C b y);rw [Veh C r b]
theorem Vf4 (C:Cd T):∀ (a:List Lf) (x:tyLs T a),(encLD C a x).length=a.length
 | [],_=>rfl
 | l::r,x=>by
  show (encLD1 C l x.1::encLD C r x.2).length=_;simp [Vf4 C r x.2]
theorem Vod {I:Nat->Prop} {l:Lf} {x:l.ty T} {v:Value} (h:V I w (encLD1 C l x) free v):v.oneCell'=true:=by
 cases l<;>simp only [encLD1,V] at h
 case rs c=>
  rcases h with ⟨_,p,cap,rfl⟩ | ⟨b,o,cap,rfl,_⟩<;>rfl
 case rn c=>
  have h:=Vmk h;simp only [V] at h;rcases h with ⟨_,p,cap,rfl⟩ | ⟨b,o,cap,rfl,_⟩<;>rfl
 all_goals subst h; rfl
theorem VC_of {I:Nat->Prop} {b:Nat}:∀ (ls:List Lf) (x:tyLs T ls) (vs:List Value) (o:Nat),VL I w (encLD C ls x) free vs->(∀ i v,vs[i]? = some v->w.cell? ⟨b,o+i,none⟩=some v)->VC I w (encLD C ls x) b o
 | [],_,_,_,_,_=>by simp only [encLD,VC]
 | l::r,x,vs,o,h,hc=>by
  change VL I w (encLD1 C l x.1::encLD C r x.2) free vs at h;show VC I w (encLD1 C l x.1::encLD C r x.2) b o;simp only [VL] at h;obtain ⟨v,vr,rfl,h1,h2⟩:=h;simp only [VC];refine ⟨⟨v,by simpa using hc 0 v rfl,Vod h1,h1⟩,VC_of r x.2 vr (o+1) h2 λi u hu=>?_⟩;have:=hc (i+1) u (by simpa using hu);rwa [show o+(i+1)=o+1+i by omega] at this
def Opens (P:Program) (C:Cd T) (t:TypeId) (ls:List Lf):Prop:=
  ∀ (H:Type) (enc:TypeId × Value -> H) (w:World) (spare:Nat -> Bool) (held:Bool) (fuel:Nat) (cs:List Value) (x:DataW H × List MemPlace),DataW.trod enc P w 0 spare held fuel t cs=some x ->
    ∃ y:tyLs T ls,VL (All w) w (encLD C ls y) free cs /\ DOkL (encLD C ls y)
theorem Vpf {t:TypeId} (hu:P.underlying t=some .bool):Opens P C t [.bool]:=by
 intro H enc w spare held fuel cs x h;obtain ⟨b,rfl,_⟩:=DataW.trod_bool hu h;exact ⟨(b,()),by simp [encLD,encLD1,VL,V],by simp [encLD,encLD1,DOkL,DOk]⟩
theorem Vvr {t:TypeId} {k:IntKind} (hu:P.underlying t=some (.int k)):Opens P C t [.int k]:=by
 intro H enc w spare held fuel cs x h;obtain ⟨n,rfl,_,hw⟩:=DataW.trod_int hu h;exact ⟨(n,()),by simp [encLD,encLD1,VL,V],by simp [encLD,encLD1,DOkL,DOk,hw]⟩
theorem Vy9 {k:IntKind} (hs:k.signed=false) {n:Int} (h:(Lit.int k n).wf=true):0<=n/\n < 2 ^ k.bits:=by
 cases k<;>simp [IntKind.signed] at hs<;>simp [Lit.wf,IntKind.min,IntKind.max,IntKind.signed,IntKind.bits] at h |-<;>omega
theorem Vxo {t:TypeId} (hu:P.underlying t=some (.int .u8)):Opens P C t [.u8]:=by
 intro H enc w spare held fuel cs x h;obtain ⟨n,rfl,_,hw⟩:=DataW.trod_int hu h;have hr:=Vy9 rfl hw;simp only [IntKind.bits] at hr;have e:(((UInt8.ofNat n.toNat).toNat:Nat):Int)=n:=by
  simp only [UInt8.toNat_ofNat'];omega
 exact ⟨(UInt8.ofNat n.toNat,()),by simp only [encLD,encLD1,VL,V,e]; exact ⟨_,_,rfl,rfl,rfl⟩,by simp only [encLD,encLD1,DOkL,DOk,e]; exact ⟨hw,trivial⟩⟩
theorem Vvs {t:TypeId} (hu:P.underlying t=some (.int .u64)):Opens P C t [.u64]:=by
 intro H enc w spare held fuel cs x h;obtain ⟨n,rfl,_,hw⟩:=DataW.trod_int hu h;have hr:=Vy9 rfl hw;simp only [IntKind.bits] at hr;have e:(((BitVec.ofNat 64 n.toNat).toNat:Nat):Int)=n:=by
  simp only [BitVec.toNat_ofNat];omega
 exact ⟨(BitVec.ofNat 64 n.toNat,()),by simp only [encLD,encLD1,VL,V,e]; exact ⟨_,_,rfl,rfl,rfl⟩,by simp only [encLD,encLD1,DOkL,DOk,e]; exact ⟨hw,trivial⟩⟩
theorem Vvt {t:TypeId} (hu:P.underlying t=some .string):Opens P C t [.str]:=by
 intro H enc w spare held fuel cs x h;obtain ⟨s,rfl,_,hw⟩:=DataW.trod_string hu h;refine ⟨(s.data.toList,()),?_,?_⟩
 ·simp only [encLD,encLD1,VL,V];exact ⟨_,_,rfl,rfl,rfl⟩
 ·simp only [encLD,encLD1,DOkL,DOk];refine ⟨?_,trivial⟩;have e:s.data.toList.length=s.size:=by rw [Array.length_toList]; rfl
  rw [e];exact hw
theorem Vvu {v:Value} (h:∀ cs,v≠.agg cs):v.cells.toList=[v]:=by
 cases v<;>first | rfl | exact absurd rfl (h _)
theorem Vj8 {t:TypeId} {w:World} {r:Reach} {base:Nat} {v:Value} (h:Value.okWide P w r base t v) (h1:∀ fs,P.underlying t≠some (.struct fs)) (h2:∀ n e,P.underlying t≠some (.array n e)):∀ cs,v≠.agg cs:=by
 rintro cs rfl;unfold Value.okWide at h;split at h
 ·rename_i fs hq; exact h1 _ hq
 ·rename_i n e hq; exact h2 _ _ hq
 ·unfold Cell.okWide at h;split at h<;>simp_all [Cell.ok]
def slots (vs:List VT):List Slot:=vs.map λv=>.f (.v v)
def ArgD (C:Cd T):(vs:List VT)->tySs T (slots vs)->Prop
 | [],_=>True
 | v::r,x=>DOk (den C (encV C v x.1))/\ArgD C r x.2
theorem Va6a {c:Nat} {l:List (T c)} (h:DOk (den C (encV C (.rs c) l))):l.length < 9223372036854775808:=by
 change DOk (.rs (C.sz c) (l.map (C.encD c))) at h;simp only [DOk,List.length_map,maxLen] at h;omega
theorem Vvv {G:Nat->Option (List D)} {f:FuncId} {S:FSpec T} {vts:List VT} {args:List Value} (hs:SoundT P C G f S) (hps:S.ps=slots vts) (hrs:S.rs=[.v .bool]) (x:tySs T (slots vts)) (hx:SVSs C (All w) w (slots vts) x args none')
  (hg:Glob G (All w) w) (hf:∀ r,S.fn (hps ▸ x)=r->∃ o b,r=some (o,b)/\b=(hrs ▸ (true,()))):Calls P f args.toArray w λe w'=>e = .returned (.bool true)/\RowKit.Below w.heap.size w w':=by
 obtain ⟨ps,rs,F⟩:=S;simp only at hps hrs;subst hps; subst hrs;obtain ⟨o,b,hr,hb⟩:=hf _ rfl;simp only at hb hr;refine (hs.2 (All w) none' w args x (o,b) (λ_ h=>h) (λ_ h=>h.elim) hg hx hr).mono ?_;rintro e w' ⟨vs,I',o1,o2,rfl,hfr,_,_,_,_,_,_,_,hv⟩;subst hb;simp only [SVVs] at hv;obtain ⟨v,vr,_,_,rfl,h1,rfl,_⟩:=hv;simp only [SVV,encV,den,V] at h1;subst h1;exact ⟨rfl,hfr.os,hfr.tape,hfr.output,hfr.size,λk hk=>hfr.block k hk (λh=>by rcases h with h | h; exact h; omega)⟩
theorem Vf5 {H:Type} {enc:TypeId×Value->H} {W W':World} (hl:laidOutB P=true) (hb:RowKit.Below W.heap.size W W'):∀ {ts:List TypeId} {vs:List Value} {ds:List (DataW H)} {p:List MemPlace},(∀ t∈ts,P.readableRec t=true/\t < P.types.size)->(∀ x∈p,x.block < W.heap.size) ->
  DataW.TrodAll enc P W 0 (λ_=>true) true ts vs ds p->DataW.TrodAll enc P W' 0 (λb=>decide (b < W.heap.size)) true ts vs ds p
 | [],vs,ds,p,_,_,h=>by
  cases vs<;>cases ds<;>simp only [DataW.TrodAll] at h |-;exact h
 | t::ts,vs,ds,p,hr,hlt,h=>by
  cases vs with
  | nil=>simp only [DataW.TrodAll] at h
  | cons v vs=>
   cases ds with
   | nil=>simp only [DataW.TrodAll] at h
   | cons d ds=>
    obtain ⟨p1,q1,h3,h4,rfl⟩:=h;have ht:=hr t (by simp);exact ⟨p1,q1,RowKit.Below.trod hl ht.1 ht.2 h3 hb (λx hx=>hlt x (by simp [hx])),Vf5 hl hb (λt ht=>hr t (by simp [ht])) (λx hx=>hlt x (by simp [hx])) h4,rfl⟩
end
open Go Go.ChangeShapes Go.WideShapes Go.ChangeAt Go.RowKit
section
variable {T:Nat->Type} {C:Cd T} {P:Program}
theorem Vdc {H:Type} {enc:TypeId×Value->H} {w:World} {spare:Nat->Bool} {held:Bool}:∀ {ts:List TypeId} {vs:List Value} {ds:List (DataW H)} {p:List MemPlace},DataW.TrodAll enc P w 0 spare held ts vs ds p->ds.length=ts.length
 | [],vs,ds,p,h=>by cases vs<;>cases ds<;>simp only [DataW.TrodAll] at h<;>rfl
 | t::ts,vs,ds,p,h=>by
  cases vs with
  | nil=>simp only [DataW.TrodAll] at h
  | cons v vs=>
   cases ds with
   | nil=>simp only [DataW.TrodAll] at h
   | cons d ds=>
    obtain ⟨p1,q1,h3,h4,rfl⟩:=h;simp [Vdc h4]
end
theorem Vbl {n:Int} (h1:-9223372036854775808<=n) (h2:n < 9223372036854775808):IntKind.wrap .i64 n=n:=by
 simp only [IntKind.wrap,IntKind.bits,IntKind.signed];simp;omega
theorem Vab:rounds=1180591620717411303424:=rfl
def ati {α:Type} [Inhabited α] (l:List α) (i:Int):α:=l.getD i.toNat default
theorem Vb3 {α:Type} [Inhabited α] {l:List α} {i:Int} (h1:0<=i) (h2:i < l.length):getI l i=some (ati l i):=by
 unfold getI ati;have:i.toNat < l.length:=by omega
 simp [h1,this]
theorem Val {α β:Type} (f:α->Option (α⊕β)) (n:Nat) (s:α):iter f (n+1) s=(f s).bind (Sum.elim (iter f n) some):=rfl
theorem Va7a {α β:Type} {f:α->Option (α⊕β)} (Inv:α->Prop) (μ:α->Nat) (Q:β->Prop)
  (h:∀ s,Inv s->(∃ t,f s=some (.inl t)/\Inv t/\μ t < μ s)\/∃ b,f s=some (.inr b)/\Q b):∀ (n:Nat) (s:α),Inv s->μ s < n->∃ b,iter f n s=some b/\Q b:=by
 intro n;induction n with
 | zero=>intro s _ hm; omega
 | succ n ih=>
  intro s hs hm;rw [Val];rcases h s hs with ⟨t,h1,h2,h3⟩ | ⟨b,h1,h2⟩
  ·rw [h1];exact ih t h2 (by omega)
  ·rw [h1];exact ⟨b,rfl,h2⟩
theorem Vbs {α β:Type} {f:α->Option (α⊕β)} (Inv:α->Prop) (μ:α->Nat) (F:α->β)
  (h:∀ s,Inv s->(∃ t,f s=some (.inl t)/\Inv t/\μ t < μ s/\F s=F t)\/f s=some (.inr (F s))):∀ (n:Nat) (s:α),Inv s->μ s < n->iter f n s=some (F s):=by
 intro n;induction n with
 | zero=>intro s _ hm; omega
 | succ n ih=>
  intro s hs hm;rw [Val];rcases h s hs with ⟨t,h1,h2,h3,h4⟩ | h1
  ·rw [h1,h4];exact ih t h2 (by omega)
  ·rw [h1]; rfl
def Ok {α:Type} (m:Option α) (Q:α->Prop):Prop:=∃ a,m=some a/\Q a
theorem Ok.some {α:Type} {a:α} {Q:α->Prop} (h:Q a):Ok (some a) Q:=⟨a,rfl,h⟩
theorem Ok.bind {α β:Type} {m:Option α} {f:α->Option β} {Q:β->Prop} (h:Ok m λa=>Ok (f a) Q):Ok (m.bind f) Q:=by
 obtain ⟨a,rfl,h⟩:=h;exact h
theorem Ok.cond {α:Type} {c:Bool} {a b:Option α} {Q:α->Prop} (h1:c=true->Ok a Q) (h2:c=false->Ok b Q):Ok (bif c then a else b) Q:=by
 cases c
 ·exact h2 rfl
 ·exact h1 rfl
theorem Ok.mono {α:Type} {m:Option α} {Q R:α->Prop} (h:Ok m Q) (hq:∀ a,Q a->R a):Ok m R:=by
 obtain ⟨a,h1,h2⟩:=h;exact ⟨a,h1,hq a h2⟩
theorem Ok.bm {α β:Type} {m:Option α} {f:α->Option β} {Q:α->Prop} {R:β->Prop} (h:Ok m Q) (k:∀ a,Q a->Ok (f a) R):Ok (m.bind f) R:=Ok.bind (Ok.mono h k)
theorem dT (p:Prop) [Decidable p] (h:p):decide p=true:=decide_eq_true h
theorem wI (n:Int) (h:-9223372036854775808<=n/\n < 9223372036854775808):IntKind.wrap .i64 n=n:=Vbl h.1 h.2
theorem Ok.get {α β:Type} {l:List α} {i:Nat} {f:α->Option β} {Q:β->Prop} (h:i < l.length) (h2:∀ x,Ok (f x) Q):Ok ((l[i]?).bind f) Q:=by
 rw [List.getElem?_eq_getElem h];exact h2 _
theorem Ok.iter {α β:Type} {f:α->Option (α⊕β)} {s:α} {n:Nat} {Q:β->Prop} (Inv:α->Prop) (μ:α->Nat) (h0:Inv s) (hn:μ s < n) (h:∀ s,Inv s->Ok (f s) (λr=>match r with | .inl t=>Inv t/\μ t < μ s | .inr b=>Q b)):Ok (iter f n s) Q:=by
 refine Va7a Inv μ Q (λs hs=>?_) n s h0 hn;obtain ⟨r,h1,h2⟩:=h s hs;cases r with
 | inl t=>exact .inl ⟨t,h1,h2⟩
 | inr b=>exact .inr ⟨b,h1,h2⟩
section
variable {T:Nat->Type} {C:Cd T} {P:Program}
theorem Vco {I:Nat->Prop} {w w2:World} {own own2:Nat->Prop} {I2:Nat->Prop}:∀ (vts:List VT) (o:tyO T (slots vts)) (x:tySs T (slots vts)) (args:List Value),SVSs C I w (slots vts) x args own->SVOuts C I2 w2 (slots vts) o args own2
 | [],_,_,_,_=>trivial
 | v::r,o,x,args,h=>by
  obtain ⟨v,vr,o1,o2,rfl,h1,h2,_⟩:=h;exact ⟨v,vr,rfl,Vco r o x.2 vr h2⟩
theorem Vbm {G:Nat->Option (List D)} {f:FuncId} {vts:List VT} {rts:List VT} {F:tySs T (slots vts)->Option (tyO T (slots vts)×tyFs T (rts.map Fld.v))}
  (hfn : ∃ fn, P.funcs[f]? = some fn ∧ fn.body.isSome = true ∧ (fn.name == "runtime.NumGoroutine") = false)
  (h:∀ (I own:Nat->Prop) (w:World) (args:List Value) (x:tySs T (slots vts)) (r:tyO T (slots vts)×tyFs T (rts.map Fld.v)),Glob G I w->SVSs C I w (slots vts) x args own->F x=some r ->
   ∃ vs,(∀ (I':Nat->Prop) (w':World),SVVs C I' w' (rts.map Fld.v) r.2 vs none')/\Calls P f args.toArray w λe w'=>e = .returned (resV vs)/\RowKit.Below w.heap.size w w') :
  SoundT P C G f ⟨slots vts,rts.map Fld.v,F⟩:=by
 refine ⟨hfn,λI own w args x r hI hown hG hv hF=>?_⟩;obtain ⟨vs,h1,h2⟩:=h I own w args x r hG hv hF;refine h2.mono ?_;rintro e w' ⟨rfl,hb⟩;refine ⟨vs,I,none',none',rfl,⟨hb.os,hb.tape,hb.output,hb.size,λb hb1 _=>hb.block b hb1⟩,?_,λ_ h=>h,λ_ h=>.inl h,λk hk=>Nat.lt_of_lt_of_le (hI k hk) hb.size,λk hk=>by rcases hk with hk | hk<;>exact hk.elim,λk hk=>hk.elim,Vco vts _ _ _ hv,h1 I w'⟩;intro b;by_cases hlt:b < w.heap.size
 ·unfold rowSize; rw [hb.block b hlt]; exact Nat.le_refl _
 ·unfold rowSize;have:w.heap[b]? = none:=by simp; omega
  simp [this]
theorem Vfy {G : Nat → Option (List D)} {f : FuncId} {ps : List Slot} {rs : List Fld} (hfn : ∃ fn, P.funcs[f]? = some fn ∧ fn.body.isSome = true ∧ (fn.name == "runtime.NumGoroutine") = false) : SoundT P C G f ⟨ps, rs, fun _ => none⟩ :=
 ⟨hfn,λ_ _ _ _ _ _ _ _ _ _ h=>by cases h⟩
theorem Vza {I:Nat->Prop} {w:World} {b:Nat}:∀ {cs:List D} {o i:Nat} {d:D},VC I w cs b o->cs[i]? = some d->∃ c,w.cell? ⟨b,o+i,none⟩=some c/\V I w d free c
 | [],_,_,_,_,h=>by simp at h
 | d::r,o,0,d',hv,h=>by
  simp only [VC] at hv;obtain ⟨⟨c,h1,_,h2⟩,_⟩:=hv;simp only [List.getElem?_cons_zero,Option.some.injEq] at h;subst h;exact ⟨c,h1,h2⟩
 | d::r,o,i+1,d',hv,h=>by
  simp only [VC] at hv;obtain ⟨c,h1,h2⟩:=Vza (o:=o+1) (i:=i) hv.2 (by simpa using h);exact ⟨c,by rw [show o+(i+1)=o+1+i by omega]; exact h1,h2⟩
theorem VC_mk {I:Nat->Prop} {w:World} {b:Nat}:∀ {cs:List D} {o:Nat},(∀ i d,cs[i]? = some d->∃ c,w.cell? ⟨b,o+i,none⟩=some c/\c.oneCell'=true/\V I w d free c)->VC I w cs b o
 | [],_,_=>by simp only [VC]
 | d::r,o,h=>by
  simp only [VC];refine ⟨?_,VC_mk λi d' hi=>?_⟩
  ·exact h 0 d rfl
  ·have:=h (i+1) d' (by simpa using hi);rwa [show o+(i+1)=o+1+i by omega] at this
def byteD (c:UInt8):List D:=[.int .u8 c.toNat]
theorem Vgk {I:Nat->Prop} {w:World} {b:Nat}:∀ {l:List UInt8} {o i:Nat} {c:UInt8},VR I w 1 (l.map byteD) b o->l[i]? = some c->w.cell? ⟨b,o+i,none⟩=some (.int .u8 c.toNat)
 | [],_,_,_,_,h=>by simp at h
 | d::r,o,0,c,hv,h=>by
  simp only [List.map_cons,VR,byteD,VC] at hv;obtain ⟨_,⟨⟨v,h1,_,h2⟩,_⟩,_⟩:=hv;simp only [V] at h2;simp only [List.getElem?_cons_zero,Option.some.injEq] at h;subst h;rw [<- h2]; exact h1
 | d::r,o,i+1,c,hv,h=>by
  simp only [List.map_cons,VR] at hv;have:=Vgk (o:=o+1) (i:=i) hv.2.2 (by simpa using h);rwa [show o+(i+1)=o+1+i by omega]
theorem Vh4 {I:Nat->Prop} {w:World} {b:Nat}:∀ {l:List UInt8} {o:Nat},(∀ i c,l[i]? = some c->w.cell? ⟨b,o+i,none⟩=some (.int .u8 c.toNat))->VR I w 1 (l.map byteD) b o
 | [],_,_=>by simp only [List.map_nil,VR]
 | d::r,o,h=>by
  simp only [List.map_cons,VR,byteD,VC];refine ⟨rfl,⟨⟨_,h 0 d rfl,rfl,by simp [V]⟩,trivial⟩,Vh4 λi c hi=>?_⟩;have:=h (i+1) c (by simpa using hi);rwa [show o+(i+1)=o+1+i by omega] at this
theorem Vmv {G:Nat->Option (List D)} {f:FuncId} {c:Nat} (hc:T c=UInt8) {F:tySs T (slots [.rs c])->Option (tyO T (slots [.rs c])×tyFs T [.own c])}
  (hz:C.sz c=1) (he:∀ l:List (T c),l.map (C.encD c)=(cast (congrArg List hc) l).map byteD)
  (hfn : ∃ fn, P.funcs[f]? = some fn ∧ fn.body.isSome = true ∧ (fn.name == "runtime.NumGoroutine") = false) {te : TypeId}
  (hF:∀ x r,F x=some r->r.2.1=x.1/\List.length x.1<=140737488355328)
  (hnil:∀ (n cap:Nat) (w:World),Calls P f #[.slice none n cap] w λe w'=>e = .returned (.slice none 0 0)/\w'=w)
  (hat:∀ (a:Addr) (n cap:Nat) (xs:List Int) (w:World),xs.length=n->n<=140737488355328->(∀ i,i < n->w.cell? (a.add i)=some (.int .u8 (xs.getD i 0))) ->
   Calls P f #[.slice (some a) n cap] w λe w'=>∃ v',e = .returned v'/\w'.ownsRow w.heap.size te 1 v' n (xs.map (Value.int .u8))/\v'≠.slice none 0 0/\RowKit.Below w.heap.size w w') :
  SoundT P C G f ⟨slots [.rs c],[.own c],F⟩:=by
 refine ⟨hfn,λI own w args x r hI hown hG hv hFx=>?_⟩;obtain ⟨hr,hlen⟩:=hF x r hFx;have hv0:=hv;obtain ⟨v,vr,_,_,rfl,h1,rfl,_⟩:=hv;change V I w (.rs (C.sz c) (List.map (C.encD c) x.1)) free v at h1
 -- what is left to show,once the copy is known
 have fin:∀ (a:Addr) (cap:Nat),v = .slice (some a) (List.length x.1) cap->(∀ i b,(cast (congrArg List hc) x.1:List UInt8)[i]? = some b->w.cell? (a.add i)=some (.int .u8 b.toNat))->Calls P f #[v] w λe w'=>∃ vs I' o1 o2,e = .returned (resV vs)/\Fr (λk=>own k\/w.heap.size<=k) w w'/\(∀ b,rowSize w b<=rowSize w' b)/\(∀ k,I k->I' k)/\(∀ k,I' k->I k\/own k\/w.heap.size<=k)/\(∀ k,I' k->k < w'.heap.size) /\
   (∀ k,o1 k\/o2 k->(own k\/w.heap.size<=k)/\¬ I' k/\k < w'.heap.size)/\(∀ k,o1 k->¬ o2 k)/\SVOuts C I' w' (slots [.rs c]) r.1 [v] o1/\SVVs C I' w' [.own c] r.2 vs o2:=by
  intro a cap hva hcell;generalize hL:(cast (congrArg List hc) x.1:List UInt8)=L at hcell;have hLl:L.length=List.length x.1:=by
   rw [<- hL];have:∀ {A B:Type} (e:A=B) (l:List A),(cast (congrArg List e) l).length=l.length:=by intro A B e l; subst e; rfl
   exact this hc x.1
  subst hva;refine (hat a (List.length x.1) cap (L.map λb=>(b.toNat:Int)) w (by simp [hLl]) hlen ?_).mono ?_
  ·intro i hi;have hi':i < L.length:=by omega
   rw [hcell i L[i] (by simp [hi'])];simp [List.getD_eq_getElem?_getD,hi']
  ·rintro e w' ⟨v',rfl,⟨hxl,hrow⟩,hne,hb⟩;rcases hrow with ⟨h,_⟩ | ⟨g,cap',cur,hv',hge,hheap,hn,_,hcs,htk⟩
   ·exact absurd h hne
   have hg:g < w'.heap.size:=(Array.getElem?_eq_some_iff.1 hheap).1;refine ⟨[v'],I,none',λk=>k=g,rfl,⟨hb.os,hb.tape,hb.output,hb.size,λb hb1 _=>hb.block b hb1⟩,?_,λ_ h=>h,λ_ h=>.inl h,λk hk=>Nat.lt_of_lt_of_le (hI k hk) hb.size,?_,λ_ h=>h.elim,Vco [.rs c] _ _ _ hv0,?_⟩
   ·intro b;by_cases hlt:b < w.heap.size
    ·unfold rowSize; rw [hb.block b hlt]; exact Nat.le_refl _
    ·unfold rowSize;have:w.heap[b]? = none:=by simp; omega
     simp [this]
   ·rintro k (hk | rfl)
    ·exact hk.elim
    ·exact ⟨.inr hge,λh=>absurd (hI _ h) (by omega),hg⟩
   ·refine ⟨v',[],λk=>k=g,none',rfl,?_,rfl,λ_ h=>h,λ_ h=>h.elim,λ_ _ h=>h⟩;show SVO C I w' c r.2.1 v' _;rw [hr];refine .inr ⟨g,0,cap',cur,te,(0,0),hv',hn,.inr rfl,by rw [hz,hcs]; omega,by rw [hz,hcs]; omega,hheap,unfz0 _,rfl,?_⟩;rw [hz];have e3:List.map (C.encD c) x.1=List.map byteD L:=(he x.1).trans (congrArg (List.map byteD) hL);refine Eq.mpr (congrArg (λz=>VR I w' 1 z g 0) e3) (Vh4 λi b hi=>?_);have hi2:i < L.length:=(List.getElem?_eq_some_iff.1 hi).1;have e1:cur.toList[i]? = some (.int .u8 b.toNat):=by
     have e2:=congrArg (·[i]?) htk;simp only [Nat.mul_one] at e2;rw [List.getElem?_take_of_lt (by omega)] at e2;rw [e2];simp [hi]
    simp only [World.cell?,hheap,Nat.zero_add];simpa using e1
 simp only [V] at h1;rcases h1 with ⟨hrows,p,cap,rfl⟩ | ⟨b,o,cap,rfl,hcap,hIb,hvr⟩
 ·have hx0:x.1=[]:=List.map_eq_nil_iff.1 hrows;cases p with
  | some a=>exact fin a cap (by rw [hx0]; rfl) (λi b hb=>by
    have:(cast (congrArg List hc) x.1:List UInt8)=[]:=by
     rw [hx0];have:∀ {A B:Type} (e:A=B),(cast (congrArg List e) ([]:List A))=([]:List B):=by intro A B e; subst e; rfl
     exact this hc
    rw [this] at hb;simp at hb)
  | none=>
   refine (hnil 0 cap w).mono ?_;rintro e w' ⟨rfl,rfl⟩;refine ⟨[.slice none 0 0],I,none',none',rfl,⟨rfl,rfl,rfl,Nat.le_refl _,λ_ _ _=>rfl⟩,λ_=>Nat.le_refl _,λ_ h=>h,λ_ h=>.inl h,hI,λk hk=>by rcases hk with hk | hk<;>exact hk.elim,λ_ h=>h.elim,Vco [.rs c] _ _ _ hv0,?_⟩;refine ⟨_,[],none',none',rfl,?_,rfl,λ_ h=>h,λ_ h=>h,λ_ h=>h.elim⟩;show SVO C I _ c r.2.1 _ _;rw [hr,hx0];exact .inl ⟨rfl,rfl⟩
 ·refine fin ⟨b,o,none⟩ cap (congrArg (λn=>Value.slice (some ⟨b,o,none⟩) n cap) (List.length_map (C.encD c))) ?_;intro i c' hi;rw [hz] at hvr;have:=Vgk (Eq.mp (congrArg (λz=>VR I w 1 z b o) (he x.1)) hvr) hi;rw [<- this];congr 1;simp only [Addr.add];split<;>simp_all
def tabD (k:IntKind) (l:List Int):List D:=l.map λn=>.int k n
theorem Vgl {I:Nat->Prop} {w:World} {k:IntKind} {l:List Int} {b:Nat} (h:VC I w (tabD k l) b 0) {i:Nat} {n:Int} (hn:l[i]? = some n):w.cell? ⟨b,i,none⟩=some (.int k n):=by
 obtain ⟨c,h1,h2⟩:=Vza (i:=i) (d:=.int k n) h (by simp [tabD,hn]);simp only [V] at h2;rw [<- h2,<- h1];simp
theorem Vgm {w:World} {I:Nat->Prop} {k:IntKind} {l:List Int} {b:Nat} (h:∀ i n,l[i]? = some n->w.cell? ⟨b,i,none⟩=some (.int k n)):VC I w (tabD k l) b 0:=by
 refine VC_mk λi d hi=>?_;simp only [tabD,List.getElem?_map,Option.map_eq_some_iff] at hi;obtain ⟨n,hn,rfl⟩:=hi;exact ⟨_,by rw [Nat.zero_add]; exact h i n hn,rfl,by simp [V]⟩
end
section
variable {T:Nat->Type} {C:Cd T} {P:Program}
def strD (l:List UInt8):List D:=[.str l]
def strV (l:List UInt8):Value:=.string ⟨l.toArray⟩
theorem Vix {I:Nat->Prop} {w:World} {b:Nat}:∀ {l:List (List UInt8)} {o:Nat},(∀ i c,l[i]? = some c->w.cell? ⟨b,o+i,none⟩=some (strV c))->VR I w 1 (l.map strD) b o
 | [],_,_=>by simp only [List.map_nil,VR]
 | d::r,o,h=>by
  simp only [List.map_cons,VR,strD,VC];refine ⟨rfl,⟨⟨_,h 0 d rfl,rfl,by simp [V,strV]⟩,trivial⟩,Vix λi c hi=>?_⟩;have:=h (i+1) c (by simpa using hi);rwa [show o+(i+1)=o+1+i by omega] at this
theorem Vvw {I:Nat->Prop} {w:World} {b:Nat}:∀ {l:List (List UInt8)} {o i:Nat} {c:List UInt8},VR I w 1 (l.map strD) b o->l[i]? = some c->w.cell? ⟨b,o+i,none⟩=some (strV c)
 | [],_,_,_,_,h=>by simp at h
 | d::r,o,0,c,hv,h=>by
  simp only [List.map_cons,VR,strD,VC] at hv;obtain ⟨_,⟨⟨v,h1,_,h2⟩,_⟩,_⟩:=hv;simp only [V] at h2;simp only [List.getElem?_cons_zero,Option.some.injEq] at h;subst h;rw [show strV d=v from h2.symm]; exact h1
 | d::r,o,i+1,c,hv,h=>by
  simp only [List.map_cons,VR] at hv;have:=Vvw (o:=o+1) (i:=i) hv.2.2 (by simpa using h);rwa [show o+(i+1)=o+1+i by omega]
theorem Vpg {G:Nat->Option (List D)} {f:FuncId} {c:Nat} (hc:T c=List UInt8) {vts:List VT} {F:tySs T (slots vts)->Option (tyO T (slots vts)×tyFs T [.own c])}
  (hz:C.sz c=1) (he:∀ l:List (T c),l.map (C.encD c)=(cast (congrArg List hc) l).map strD)
  (hfn : ∃ fn, P.funcs[f]? = some fn ∧ fn.body.isSome = true ∧ (fn.name == "runtime.NumGoroutine") = false) {te : TypeId}
  (h:∀ (I own:Nat->Prop) (w:World) (args:List Value) (x:tySs T (slots vts)) (r:tyO T (slots vts)×tyFs T [.own c]),Glob G I w->SVSs C I w (slots vts) x args own->F x=some r ->
   Calls P f args.toArray w λe w'=>e = .returned (.slice (some ⟨w.heap.size,0,none⟩) (cast (congrArg List hc) r.2.1:List (List UInt8)).length (cast (congrArg List hc) r.2.1:List (List UInt8)).length)/\w'=w.alloc (.cells ((cast (congrArg List hc) r.2.1:List (List UInt8)).map strV).toArray te)) :
  SoundT P C G f ⟨slots vts,[.own c],F⟩:=by
 refine ⟨hfn,λI own w args x r hI hown hG hv hF=>?_⟩;have hx:=h I own w args x r hG hv hF;have hl:(cast (congrArg List hc) r.2.1:List (List UInt8)).length=List.length r.2.1:=by
  have:∀ {A B:Type} (e:A=B) (l:List A),(cast (congrArg List e) l).length=l.length:=by intro A B e l; subst e; rfl
  exact this hc r.2.1
 have he':=he r.2.1;generalize (cast (congrArg List hc) r.2.1:List (List UInt8))=L at hx hl he';refine hx.mono ?_;rintro e w' ⟨rfl,rfl⟩;have hsz:(w.alloc (.cells (L.map strV).toArray te)).heap.size=w.heap.size+1:=Array.size_push _;have hold:∀ b,b < w.heap.size->(w.alloc (.cells (L.map strV).toArray te)).heap[b]? = w.heap[b]?:=λb hb=>by
  show (w.heap.push _)[b]? = _;rw [Array.getElem?_push_lt hb,Array.getElem?_eq_getElem hb]
 have hnew:(w.alloc (.cells (L.map strV).toArray te)).heap[w.heap.size]? = some (.cells (L.map strV).toArray te (0,0)):=Array.getElem?_push_size;refine ⟨[.slice (some ⟨w.heap.size,0,none⟩) L.length L.length],I,none',λk=>k=w.heap.size,rfl,⟨rfl,rfl,rfl,by omega,λb hb1 _=>hold b hb1⟩,?_,λ_ h=>h,λ_ h=>.inl h,λk hk=>by have:=hI k hk; omega,?_,λ_ h=>h.elim,Vco vts _ _ _ hv,?_⟩
 ·intro b;by_cases hlt:b < w.heap.size
  ·unfold rowSize; rw [hold b hlt]; exact Nat.le_refl _
  ·unfold rowSize;have:w.heap[b]? = none:=by simp; omega
   simp [this]
 ·rintro k (hk | rfl)
  ·exact hk.elim
  ·exact ⟨.inr (Nat.le_refl _),λh=>absurd (hI _ h) (by omega),by omega⟩
 ·refine ⟨_,[],λk=>k=w.heap.size,none',rfl,?_,rfl,λ_ h=>h,λ_ h=>h.elim,λ_ _ h=>h⟩;show SVO C I _ c r.2.1 _ _;refine .inr ⟨w.heap.size,0,L.length,(L.map strV).toArray,te,(0,0),by rw [hl],by omega,.inr rfl,by rw [hz]; simp,by rw [hz]; simp [hl],hnew,unfz0 _,rfl,?_⟩;rw [hz];refine Eq.mpr (congrArg (λz=>VR I _ 1 z w.heap.size 0) he') (Vix λi b hi=>?_);simp only [World.cell?,hnew,Nat.zero_add];simp [hi]
end
def scan {γ A β:Type} (step:Nat->γ->A->A⊕β) (fin:A->β):Nat->List γ->A->β
 | _,[],a=>fin a
 | i,x::r,a=>match step i x a with
  | .inl a'=>scan step fin (i+1) r a'
  | .inr b=>b
theorem Vam {σ γ A β:Type} {f:σ->Option (σ⊕β)} (mk:Int->A->σ) (l:List γ) (step:Nat->γ->A->A⊕β) (fin:A->β) (Inv:Nat->A->Prop)
  (h:∀ (i:Nat) x a,l[i]? = some x->Inv i a->f (mk i a)=some (Sum.map (mk ((i:Int)+1)) id (step i x a))/\∀ a',step i x a = .inl a'->Inv (i+1) a')
  (h2:∀ a,Inv l.length a->f (mk l.length a)=some (.inr (fin a))) (a0:A) (h0:Inv 0 a0) (n:Nat) (hn:l.length < n):iter f n (mk 0 a0)=some (scan step fin 0 l a0):=by
 have key:∀ (r:List γ) (i:Nat) (a:A) (n:Nat),l.drop i=r->i+r.length=l.length->Inv i a->r.length < n->iter f n (mk i a)=some (scan step fin i r a):=by
  intro r;induction r with
  | nil=>
   intro i a n hd hl hi hn;cases n with
   | zero=>omega
   | succ n=>
    have:i=l.length:=by simpa using hl
    subst this;rw [Val,h2 a hi];rfl
  | cons x r ih=>
   intro i a n hd hl hi hn;cases n with
   | zero=>omega
   | succ n=>
    have hx:l[i]? = some x:=by
     have:=congrArg (λz=>z[0]?) hd;simpa using this
    have hd':l.drop (i+1)=r:=by
     have:=congrArg (λz=>z.drop 1) hd;simpa [Nat.add_comm] using this
    obtain ⟨e1,e2⟩:=h i x a hx hi;rw [Val,e1];unfold scan;cases hs:step i x a with
    | inl a'=>
     simp only [List.length_cons] at hl hn;exact ih (i+1) a' n hd' (by omega) (e2 a' hs) (by omega)
    | inr b=>rfl
 exact key l 0 a0 n (by simp) (by simp) h0 hn
def allI {γ:Type} (p:Nat->γ->Bool):Nat->List γ->Bool
 | _,[]=>true
 | i,x::r=>p i x&&allI p (i+1) r
theorem Vfe {γ:Type} {p:Nat->γ->Bool}:∀ {l:List γ} {k:Nat},allI p k l=true↔∀ (i:Nat) x,l[i]? = some x->p (k+i) x=true
 | [],k=>by simp [allI]
 | y::r,k=>by
  simp only [allI,Bool.and_eq_true,Vfe (l:=r)];constructor
  ·rintro ⟨h1,h2⟩ i x hx;cases i with
   | zero=>simp only [List.getElem?_cons_zero,Option.some.injEq] at hx; subst hx; exact h1
   | succ i=>have:=h2 i x (by simpa using hx); rwa [show k+(i+1)=k+1+i by omega]
  ·intro h;refine ⟨h 0 y rfl,λi x hx=>?_⟩;have:=h (i+1) x (by simpa using hx);rwa [show k+(i+1)=k+1+i by omega] at this
theorem Vdd {γ:Type} (p:γ->Bool):∀ (l:List γ) (k:Nat),allI (λ_ x=>p x) k l=l.all p
 | [],_=>rfl
 | x::r,k=>by simp only [allI,List.all_cons,Vdd p r]
theorem Vbb {γ β:Type} (p:Nat->γ->Bool) (b e:β):∀ (l:List γ) (k:Nat),scan (λi x (_:Unit)=>bif p i x then .inl () else .inr b) (λ_=>e) k l ()=bif allI p k l then e else b
 | [],_=>rfl
 | x::r,k=>by
  unfold scan allI;cases p k x
  ·rfl
  ·exact Vbb p b e r (k+1)
theorem Vh5 {γ A β:Type} (g:A->γ->A) (fin:A->β):∀ (l:List γ) (k:Nat) (a:A),scan (λ_ x a=>.inl (g a x)) fin k l a=fin (l.foldl g a)
 | [],_,_=>rfl
 | x::r,k,a=>Vh5 g fin r (k+1) (g a x)
theorem bindS {α β:Type} (a:α) (f:α->Option β):(some a).bind f=f a:=by
 cases h:f a<;>exact h
end Go.Abs
