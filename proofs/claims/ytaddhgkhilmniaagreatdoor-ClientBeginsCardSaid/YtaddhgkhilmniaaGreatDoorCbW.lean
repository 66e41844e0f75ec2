/- A law's arguments with the weight condition: every slice that is reached from them has no more places than a machine has bytes. No condition. -/
import Derived.Test.YtaddhgkhilmniaaGreatDoorLib8
namespace Go.Abs
open Go Go.ChangeShapes Go.WideShapes Go.ChangeAt Go.RowKit
open _root_.List renaming mem_append → Qa, append_nil → Qb, map_cons → Qc, cons_append → Qd
set_option linter.unusedSimpArgs false
set_option linter.unusedVariables false
mutual
def WOk:D->Prop
 | .rs _ rows=>rows.length<=reachBytes/\WOkR rows
 | .agg cs=>WOkL cs
 | _=>True
def WOkL:List D->Prop
 | []=>True
 | d::r=>WOk d/\WOkL r
def WOkR:List (List D)->Prop
 | []=>True
 | d::r=>WOkL d/\WOkR r
end
theorem Vgo:∀ {a b:List D},WOkL a->WOkL b->WOkL (a++b)
 | [],_,_,hb=>hb
 | d::r,b,ha,hb=>by
  simp only [WOkL,Qd] at ha |-;exact ⟨ha.1,Vgo ha.2 hb⟩
theorem Vmw:∀ {rows:List (List D)},WOkR rows->∀ x∈rows,WOkL x
 | [],_,x,hx=>by cases hx
 | d::r,h,x,hx=>by
  simp only [WOkR] at h;rcases List.mem_cons.1 hx with rfl | hx
  ·exact h.1
  ·exact Vmw h.2 x hx
section
variable {T:Nat->Type} {C:Cd T} {P:Program} {w:World}
theorem weightsAll_mem' {H:Type} {e:TypeId}:∀ {l:List (DataW H)} {d:DataW H},d∈l->∀ n∈d.weights P e,n∈DataW.weightsAll P e l
 | x::r,d,hd,n,hn=>by
  simp only [DataW.weightsAll,Qa];rcases List.mem_cons.1 hd with rfl | hd
  ·exact .inl hn
  ·exact .inr (weightsAll_mem' hd n hn)
def OpensW (P:Program) (C:Cd T) (t:TypeId) (ls:List Lf):Prop:=
  ∀ (H:Type) (enc:TypeId × Value -> H) (w:World) (spare:Nat -> Bool) (held:Bool) (fuel:Nat) (cs:List Value) (x:DataW H × List MemPlace),DataW.trod enc P w 0 spare held fuel t cs=some x -> (∀ n ∈ x.1.weights P t,n <= reachBytes) ->
    ∃ y:tyLs T ls,VL (All w) w (encLD C ls y) free cs /\ DOkL (encLD C ls y) /\ WOkL (encLD C ls y)
theorem Vcb {t:TypeId} {l:Lf} (ho:Opens P C t [l]) (h:∀ x,WOk (encLD1 C l x)):OpensW P C t [l]:=by
 intro H enc w spare held fuel cs x ht _;obtain ⟨y,h1,h2⟩:=ho H enc w spare held fuel cs x ht;exact ⟨y,h1,h2,⟨h y.1,trivial⟩⟩
theorem Vdh {t e:TypeId} {c:Nat} {ls:List Lf} {of:tyLs T ls->T c} (hu:P.underlying t=some (.slice e)) (ho:OpensW P C e ls) (he:∀ y,C.encD c (of y)=encLD C ls y)
  (hs:P.cellsOf e=ls.length) (hz:C.sz c=ls.length) (hp:0 < ls.length) (hbz:0 < P.bytesOf e):OpensW P C t [.rs c]:=by
 intro H enc w spare held fuel cs x h hw;rcases DataW.trod_slice hu h with ⟨rfl,rfl⟩ | ⟨a,len,cap,elems,rest,n,_,rfl,rfl,_,hl,hm,hlen,hel,_,_⟩
 ·refine ⟨([],()),?_,?_,by simp [encLD,encLD1,WOkL,WOk,WOkR]⟩
  ·simp only [encLD,encLD1,VL,V];exact ⟨_,_,rfl,.inl ⟨rfl,_,_,rfl⟩,rfl⟩
  ·simp [encLD,encLD1,DOkL,DOk,DOkR]
 ·have hw1:(elems.length+rest.length) * P.bytesOf e<=reachBytes:=hw _ (by simp [DataW.weights,hu]);have hlen2:elems.length<=reachBytes:=Nat.le_trans (Nat.le_trans (Nat.le_add_right _ _) (Nat.le_mul_of_pos_right _ hbz)) hw1
  -- each element
  have each:∀ i,i < len->∃ y:tyLs T ls,∃ cs',w.cells? 0 (a.add (i * ls.length)) ls.length=some cs'/\VL (All w) w (encLD C ls y) free cs'/\DOkL (encLD C ls y)/\WOkL (encLD C ls y):=by
   intro i hi;have h1:=hel i hi;rw [hs,show elems[i]? = some (elems[i]'(by omega)) from List.getElem?_eq_getElem (by omega),Option.bind_eq_some_iff] at h1;obtain ⟨cs',hc,ht⟩:=h1;obtain ⟨y,hy,hd,hq⟩:=ho H enc w spare held n cs' _ ht (λm hm=>hw m (by
    simp only [DataW.weights,hu,List.mem_cons,Qa];exact .inr (.inl (weightsAll_mem' (List.mem_map.2 ⟨_,List.getElem_mem (by omega),rfl⟩) m hm))))
   exact ⟨y,cs',hc,hy,hd,hq⟩
  by_cases h0:len=0
  ·subst h0;refine ⟨([],()),?_,?_,by simp [encLD,encLD1,WOkL,WOk,WOkR]⟩
   ·simp only [encLD,encLD1,VL,V];exact ⟨_,_,rfl,.inl ⟨rfl,_,_,rfl⟩,rfl⟩
   ·simp [encLD,encLD1,DOkL,DOk,DOkR]
  ·-- the address is a plain one
   obtain ⟨y0,cs0,hc0,_,_,_⟩:=each 0 (by omega);have hcell:=(World.cells?_some hc0).2.2 0 hp;have hsp:a.spot=none/\a.block < w.heap.size:=by
    have e1:(a.add (0 * ls.length)).add 0=a:=by simp [Addr.add]
    rw [e1] at hcell;have hlen0:cs0[0]?≠none:=by
     have hl0:=(World.cells?_some hc0).2.1;simp only [ne_eq,List.getElem?_eq_none_iff];omega
    cases hv:cs0[0]? with
    | none=>exact absurd hv hlen0
    | some v=>
     rw [hv] at hcell;unfold World.cell? at hcell;split at hcell
     ·rename_i c t' fz hq;constructor
      ·cases hs':a.spot with
       | none=>rfl
       | some k=>simp [hs'] at hcell
      ·exact (Array.getElem?_eq_some_iff.1 hq).1
     ·cases hcell
   obtain ⟨ab,ao,asp⟩:=a;simp only at hsp;obtain ⟨rfl,hblk⟩:=hsp;have step : ∀ (m : Nat) (j : Nat), j+m = len->∃ l : List (T c), l.length = m/\VR (All w) w ls.length (l.map (C.encD c)) ab (ao+j * ls.length)/\DOkR (l.map (C.encD c))/\WOkR (l.map (C.encD c)) := by
    intro m;induction m with
    | zero=>intro j _; exact ⟨[],rfl,by simp [VR],by simp [DOkR],by simp [WOkR]⟩
    | succ m ih=>
     intro j hj;obtain ⟨l,hl1,hl2,hl3,hl4⟩:=ih (j+1) (by omega);obtain ⟨y,cs',hc,hv,hd,hq⟩:=each j (by omega);refine ⟨of y::l,by simp [hl1],?_,?_,by simp only [Qc,WOkR]; exact ⟨by rw [he]; exact hq,hl4⟩⟩
     ·simp only [Qc,VR];refine ⟨by rw [he,Vf4],?_,?_⟩
      ·rw [he];refine VC_of ls y cs' _ hv λi v hi=>?_;have hcs:=World.cells?_some hc;have hi':i < ls.length:=by
        have:=(List.getElem?_eq_some_iff.1 hi).1;omega
       have:=hcs.2.2 i hi';rw [hi] at this;rw [<- this];congr 1;simp only [Addr.add];split<;>split<;>simp_all<;>omega
      ·rwa [show ao+j * ls.length+ls.length=ao+(j+1) * ls.length by rw [Nat.succ_mul]; omega]
     ·simp only [Qc,DOkR];exact ⟨by rw [he]; exact hd,hl3⟩
   obtain ⟨l,hl1,hl2,hl3,hl4⟩:=step len 0 (by omega);refine ⟨(l,()),?_,?_,by simp only [encLD,encLD1,WOkL,WOk]; exact ⟨⟨by simp [hl1]; omega,hl4⟩,trivial⟩⟩
   ·simp only [encLD,encLD1,VL,V];refine ⟨_,_,rfl,.inr ⟨ab,ao,cap,?_,?_,hblk,?_⟩,rfl⟩
    ·simp [hl1]
    ·simpa [hl1] using hl
    ·rw [hz]; simpa using hl2
   ·simp only [encLD,encLD1,DOkL,DOk];exact ⟨⟨by simp [hl1]; omega,hl3⟩,trivial⟩
def OpensTsW (P:Program) (C:Cd T):List (TypeId×Nat)->Nat->List Lf->Prop
 | [],_,ls=>ls=[]
 | f::r,pos,ls=>∃ a b,ls=a++b/\f.2=pos/\P.cellsOf f.1=a.length/\OpensW P C f.1 a/\OpensTsW P C r (pos+a.length) b
theorem Vf0 {pos:Nat}:OpensTsW P C [] pos []:=rfl
theorem Vai {t o:Nat} {r:List (TypeId×Nat)} {pos:Nat} {a b:List Lf} (h1:o=pos) (h2:P.cellsOf t=a.length) (h3:OpensW P C t a) (h4:OpensTsW P C r (pos+a.length) b):OpensTsW P C ((t,o)::r) pos (a++b):=
 ⟨a,b,rfl,h1,h2,h3,h4⟩
theorem Vgp {H:Type} {enc:TypeId×Value->H} {spare:Nat->Bool} {held:Bool} {n:Nat}:∀ (fs:List Field) (ps:List (TypeId×Nat)) (pos:Nat) (ls:List Lf) (cs:List Value) (xs:List (DataW H×List MemPlace)),fs.map (λf=>(f.type,f.offset))=ps->OpensTsW P C ps pos ls->xs.length=fs.length->cs.length=pos+ls.length ->
  (∀ (i:Nat) (f:Field),fs[i]? = some f->DataW.trod enc P w 0 spare held n f.type ((cs.drop f.offset).take (P.cellsOf f.type))=xs[i]?)->(∀ m∈DataW.weightsEach P (fs.map (·.type)) (xs.map (·.1)),m<=reachBytes)->∃ y:tyLs T ls,VL (All w) w (encLD C ls y) free (cs.drop pos)/\DOkL (encLD C ls y)/\WOkL (encLD C ls y)
 | [],ps,pos,ls,cs,xs,hp,ho,hx,hl,_,_=>by
  subst hp;cases ho;refine ⟨(),?_,trivial,trivial⟩;simp only [encLD,VL];apply List.drop_eq_nil_of_le;simp at hl; omega
 | f::r,ps,pos,ls,cs,xs,hp,ho,hx,hl,ht,hw=>by
  subst hp;obtain ⟨a,b,rfl,h1,h2,h3,h4⟩:=ho;dsimp only at h1 h2 h3;have q:=ht 0 f rfl;rw [h1,h2] at q;cases xs with
  | nil=>cases hx
  | cons x xr=>
   simp only [Qc,DataW.weightsEach,Qa] at hw;obtain ⟨y1,hy1,hd1,hq1⟩:=h3 H enc w spare held n _ x q (λm hm=>hw m (.inl hm));obtain ⟨y2,hy2,hd2,hq2⟩:=Vgp r _ (pos+a.length) b cs xr rfl h4 (by simpa using hx) (by simp at hl; omega) (λi f hf=>ht (i+1) f (by simpa using hf)) (λm hm=>hw m (.inr hm));refine ⟨joinL a b y1 y2,?_,?_,?_⟩
   ·rw [Veh];have e:cs.drop pos=(cs.drop pos).take a.length++cs.drop (pos+a.length):=by
     rw [<- List.drop_drop,List.take_append_drop]
    rw [e];exact Var hy1 hy2
   ·rw [Veh]; exact Vh3 hd1 hd2
   ·rw [Veh]; exact Vgo hq1 hq2
theorem Vei {t:TypeId} {fs:Array Field} {ps:List (TypeId×Nat)} {ls:List Lf} (hu:P.underlying t=some (.struct fs)) (hp:fs.toList.map (λf=>(f.type,f.offset))=ps) (ho:OpensTsW P C ps 0 ls) (hs:P.cellsOf t=ls.length):OpensW P C t ls:=by
 intro H enc w spare held fuel cs x h hw;obtain ⟨xs,n,_,rfl,hl,hxl,hf⟩:=DataW.trod_struct hu h;obtain ⟨y,h1,h2,h3⟩:=Vgp (C:=C) (w:=w) fs.toList ps 0 ls cs xs hp ho (by simpa using hxl) (by omega) (λi f hi=>hf i f (by simpa using hi)) (λm hm=>hw m (by simp only [DataW.weights,hu]; exact hm));exact ⟨y,by simpa using h1,h2,h3⟩
def ArgOkW (P:Program) (C:Cd T) (t:TypeId) (vt:VT):Prop:=
  ∀ (H:Type) (enc:TypeId × Value -> H) (w:World) (r:Reach) (base:Nat) (v:Value) (d:DataW H) (p:List MemPlace),Value.okWide P w r base t v -> DataW.Trod enc P w 0 (λ_=>true) true t v d p -> (∀ n ∈ d.weights P t,n <= reachBytes) ->
    ∃ x:vt.ty T,V (All w) w (den C (encV C vt x)) free v /\ DOk (den C (encV C vt x)) /\ WOk (den C (encV C vt x))
theorem Vdi {t:TypeId} {l:Lf} {vt:VT} (ho:OpensW P C t [l]) (h1:∀ fs,P.underlying t≠some (.struct fs)) (h2:∀ n e,P.underlying t≠some (.array n e)) (of:l.ty T->vt.ty T) (he:∀ x,den C (encV C vt (of x))=encLD1 C l x):ArgOkW P C t vt:=by
 intro H enc w r base v d p hok ⟨fuel,ht⟩ hw;obtain ⟨y,hy,hd,hq⟩:=ho H enc w _ _ fuel _ _ ht hw;rw [Vvu (Vj8 hok h1 h2)] at hy;refine ⟨of y.1,?_,?_,?_⟩
 ·rw [he];change VL (All w) w (encLD1 C l y.1::encLD C [] y.2) free [v] at hy;simp only [VL] at hy;obtain ⟨v',vr,h3,h4,_⟩:=hy;simp only [List.cons.injEq] at h3;rw [h3.1]; exact h4
 ·rw [he];change DOkL (encLD1 C l y.1::encLD C [] y.2) at hd;simp only [DOkL] at hd;exact hd.1
 ·rw [he];change WOkL (encLD1 C l y.1::encLD C [] y.2) at hq;simp only [WOkL] at hq;exact hq.1
theorem Vgq {t:TypeId} {fs:Array Field} {ls:List Lf} {c:Nat} {of:tyLs T ls->T c} (hu:P.underlying t=some (.struct fs)) (ho:OpensW P C t ls) (he:∀ y,C.encD c (of y)=encLD C ls y) (hC:CdOk C):ArgOkW P C t (.agg c):=by
 intro H enc w r base v d p hok ⟨fuel,ht⟩ hw;obtain ⟨y,hy,hd,hq⟩:=ho H enc w _ _ fuel _ _ ht hw;unfold Value.okWide at hok;rw [hu] at hok;obtain ⟨cs,rfl,_,_⟩:=hok;have e:den C (encV C (.agg c) (of y)) = .agg (encLD C ls y):=by
  show D.agg (denL C (C.enc c (of y)))=_;rw [hC.enc,he]
 refine ⟨of y,?_,?_,?_⟩
 ·rw [e];simp only [V];refine ⟨cs.toList,by simp,?_,by simpa [Value.cells] using hy⟩;have hy':VL (All w) w (encLD C ls y) free cs.toList:=by simpa [Value.cells] using hy
  clear hd hq hw e hy ht he ho;generalize cs.toList=l at hy';induction ls generalizing l with
  | nil=>simp only [encLD,VL] at hy'; subst hy'; simp
  | cons a b ih=>
   change VL (All w) w (encLD1 C a y.1::encLD C b y.2) free l at hy';simp only [VL] at hy';obtain ⟨v,vr,rfl,h1,h2⟩:=hy';intro x hx;rcases List.mem_cons.1 hx with rfl | hx
   ·exact Vod h1
   ·exact ih (of:=λq=>of (y.1,q)) y.2 vr h2 x hx
 ·rw [e];simp only [DOk];exact hd
 ·rw [e];simp only [WOk];exact hq
def ArgsOkW (P:Program) (C:Cd T):List TypeId->List VT->Prop
 | [],vs=>vs=[]
 | t::ts,vs=>∃ v r,vs=v::r/\ArgOkW P C t v/\ArgsOkW P C ts r
theorem Vlu:ArgsOkW P C [] []:=rfl
theorem Va7 {t:TypeId} {ts:List TypeId} {v:VT} {r:List VT} (h:ArgOkW P C t v) (h2:ArgsOkW P C ts r):ArgsOkW P C (t::ts) (v::r):=⟨v,r,rfl,h,h2⟩
def ArgW (C:Cd T):(vs:List VT)->tySs T (slots vs)->Prop
 | [],_=>True
 | v::r,x=>WOk (den C (encV C v x.1))/\ArgW C r x.2
theorem Vic {H:Type} {enc:TypeId×Value->H} {rr:Reach} {base:Nat}:∀ {ts:List TypeId} {vts:List VT} {vs:List Value} {ds:List (DataW H)} {p:List MemPlace},ArgsOkW P C ts vts->(∀ (j:Nat) (t:TypeId) (v:Value),ts[j]? = some t->vs[j]? = some v->Value.okWide P w rr base t v) ->
  DataW.TrodAll enc P w 0 (λ_=>true) true ts vs ds p->(∀ n∈DataW.weightsEach P ts ds,n<=reachBytes)->∃ x:tySs T (slots vts),SVSs C (All w) w (slots vts) x vs none'/\ArgD C vts x/\ArgW C vts x
 | [],vts,vs,ds,p,ha,_,ht,_=>by
  cases ha;cases vs<;>cases ds<;>simp only [DataW.TrodAll] at ht;exact ⟨(),rfl,trivial,trivial⟩
 | t::ts,vts,vs,ds,p,ha,hok,ht,hw=>by
  obtain ⟨vt,vr,rfl,h1,h2⟩:=ha;cases vs with
  | nil=>simp only [DataW.TrodAll] at ht
  | cons v vs=>
   cases ds with
   | nil=>simp only [DataW.TrodAll] at ht
   | cons d ds=>
    simp only [DataW.weightsEach,Qa] at hw;obtain ⟨p1,q1,h3,h4,_⟩:=ht;obtain ⟨x,hx1,hx2,hx3⟩:=h1 H enc w rr base v d p1 (hok 0 t v rfl rfl) h3 (λn hn=>hw n (.inl hn));obtain ⟨y,hy1,hy2,hy3⟩:=Vic h2 (λj t v a b=>hok (j+1) t v (by simpa using a) (by simpa using b)) h4 (λn hn=>hw n (.inr hn));exact ⟨(x,y),⟨v,vs,none',none',rfl,hx1,hy1,λ_ h=>h,λ_ h=>h,λ_ h=>h.elim⟩,⟨hx2,hy2⟩,⟨hx3,hy3⟩⟩
theorem Vdj {H:Type} {tys:List TypeId} {n:Nat}:∀ {ts:List TypeId} {ds:List (DataW H)},n∈DataW.weightsEach P ts ds->n∈DataW.weightsEach P (ts++tys) ds
 | t::ts,d::r,h=>by
  simp only [Qd,DataW.weightsEach,Qa] at h |-;exact h.imp id Vdj
 | [],_,h=>by simp [DataW.weightsEach] at h
 | _::_,[],h=>by simp [DataW.weightsEach] at h
theorem Vpl {G:Nat->Option (List D)} {f:FuncId} {fn:Func} {s:ChangeSpec} {ts:List TypeId} {tys:List TypeId} {tb:TypeId} {vts:List VT} {F:tySs T (slots vts)->Option (tyO T (slots vts)×tyFs T [.v .bool])} {H:Type} {enc:TypeId×Value->H} {W:World} {base:Nat} {args:Array Value} {ds gs:List (DataW H)} {before:List MemPlace}
  (hl:laidOutB P=true) (hpar:fn.params.toList=ts) (hres:fn.resultTypes = #[tb]) (hub:P.underlying tb=some .bool) (hr:(ts.all λt=>P.readableRec t&&decide (t < P.types.size))=true) (hargs:ArgsOkW P C ts vts)
  (hsv:s.vars=[]) (hsp:∀ ds:List (DataW H),ds.length=ts.length->s.fn H ds = { results:=[.lit (.bool true)],args:=ds })
  (hs:SoundT P C G f ⟨slots vts,[.v .bool],F⟩) (law:∀ x,ArgD C vts x->ArgW C vts x->∃ o,F x=some (o,true,()))
  (hval:∀ (j:Nat) t v,fn.params[j]? = some t->args[j]? = some v->Value.okWide P W .any base t v) (hW:DataW.Whole enc P fn.params.toList s.vars false W args.toList ds gs before) (hwt:(DataW.weightsEach P (fn.params.toList++tys) (ds++gs)).all (·<=reachBytes)=true) (hg:Glob G (All W) W) :
  Calls P f args W λe W'=>∃ v,e = .returned v/\s.post enc P fn false true false false W args v W':=by
 have hW':=hW;obtain ⟨p,q,hA,hV,rfl,hfz,hnd⟩:=hW;rw [hsv] at hV;obtain ⟨rfl,rfl⟩:gs=[]/\q=[]:=by
  cases gs<;>simp only [DataW.TrodVars] at hV;exact ⟨rfl,hV⟩
 rw [hpar] at hA;have hw2:∀ n∈DataW.weightsEach P ts ds,n<=reachBytes:=λn hn=>by
  rw [hpar,Qb] at hwt;have:=List.all_eq_true.1 hwt n (Vdj hn);simpa using this
 obtain ⟨x,hx,hd,hq⟩:=Vic (C:=C) (rr:=.any) (base:=base) hargs (λj t v a b=>hval j t v (by rw [<- hpar] at a; simpa using a) (by simpa using b)) hA hw2;obtain ⟨o,ho⟩:=law x hd hq;have hc:=Vvv (P:=P) (S:=⟨slots vts,[.v .bool],F⟩) hs rfl rfl x hx hg (λr hr=>⟨o,(true,()),by rw [<- hr]; exact ho,rfl⟩);rw [show args.toList.toArray=args by simp] at hc;refine hc.mono λe W' ⟨he,bel⟩=>?_;subst he;have hlt:∀ x∈p,x.block < W.heap.size:=λx hx=>by simpa using hW'.lt x (by simp [hx])
 have hst:=Vf5 hl bel (λt ht=>by
  have:=List.all_eq_true.1 hr t ht;simpa using this) hlt hA
 refine ⟨_,rfl,ds,[],p++[],[],p,[],hW',?_,?_,?_,bel.frame _,λh=>by cases h⟩
 ·rw [Qb,hsp ds (Vdc hA),hres];exact trodAll_mk1 (shut_bool hub _)
 ·rw [Qb,hsp ds (Vdc hA),hpar];exact hst
 ·rw [Qb,hsp ds (Vdc hA),hsv];rfl
end
end Go.Abs
