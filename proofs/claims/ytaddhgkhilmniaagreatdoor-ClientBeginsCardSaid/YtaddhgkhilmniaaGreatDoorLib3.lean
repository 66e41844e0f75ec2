/- The library of abstract values, part 3: see the remarks ahead of each part. No condition. -/
import Derived.Test.YtaddhgkhilmniaaGreatDoorLib2
import Derived.Laws.BytesString
import Derived.Laws.BytesArg
set_option linter.unusedVariables false
set_option linter.unusedSimpArgs false
namespace Go.Abs
open Go
def Glob (G:Nat->Option (List D)) (I:Nat->Prop) (w:World):Prop:=∀ g cs,G g=some cs->I g/\VC I w cs g 0/\rowSize w g=cs.length
def none':Nat->Prop:=λ_=>False
def Sound (P:Program) (G:Nat->Option (List D)) (f:FuncId) (kind:Nat) (F:List D->Option (D×List Box)):Prop:=
 (∃ fn, P.funcs[f]? = some fn ∧ fn.body.isSome = true ∧ (fn.name == "runtime.NumGoroutine") = false) ∧
 ∀ (I:Nat->Prop) (w:World) (args:List Value) (ds:List D) (r:D) (bx:List Box),
  (∀ k,I k->k < w.heap.size)->Glob G I w->VL I w ds free args->F ds=some (r,bx) ->
  Calls P f args.toArray w λe w'=>∃ v I' loc',e = .returned v/\Fr none' w w'/\(if kind<=1 then I'=none' else (∀ k,I k->I' k)/\∀ k,I' k->I k\/w.heap.size<=k) /\
   V I' w' r loc' v/\MRel (λk=>w.heap.size<=k) I' loc' ⟨bx.length,bxOf bx⟩ w'
section
variable {P:Program} {O I:Nat->Prop} {w:World} {loc:Nat->Nat->Loc} {m:Mem}
theorem imm_all {J:Nat->Prop} (hI:∀ k,I k->J k):Ext I J w w:=⟨hI,λ_ _=>rfl,λ_=>Nat.le_refl _⟩
theorem Vla {J:Nat->Prop} (hm:MRel O I loc m w) (hI:∀ k,I k->J k) (hJ:∀ k,k < w.heap.size->J k):∀ n,
  (∀ d d' v,snap m n d=some d'->V I w d loc v->V J w d' free v)/\(∀ ds ds' vs,snapL m n ds=some ds'->VL I w ds loc vs->VL J w ds' free vs)
 | 0=>by
  refine ⟨λd d' v h=>by simp [snap] at h,λds ds' vs h hv=>?_⟩;cases ds with
  | nil=>simp only [snapL,Option.some.injEq] at h; subst h; simpa only [VL] using hv
  | cons d r=>simp [snapL] at h
 | n+1 => by
  have ih:=Vla hm hI hJ n;have hone : ∀ d d' v, snap m (n+1) d = some d'->V I w d loc v->V J w d' free v := by
   intro d d' v h hv;have he:Ext I J w w:=imm_all hI;cases d<;>simp only [snap] at h
   case bs b g s i k=>
    rw [Option.map_eq_some_iff] at h;obtain ⟨rows,hr,rfl⟩:=h;obtain ⟨all,ha,hle,rfl⟩:=Vnk hr;simp only [V] at hv |-;have hlt:b < m.nb:=lt_nb (g:=g) hm (by intro e; simp [e] at hv);rcases Ver hm hlt ha with ⟨hl,rfl⟩ | ⟨c,hl,hvr⟩
    ·simp only [hl] at hv;obtain ⟨rfl,rfl,rfl⟩:=hv;left; exact ⟨by simp,_,_,rfl⟩
    ·simp only [hl] at hv;obtain ⟨o,cap,rfl,hn,ho,hrs⟩:=hv;right;have hlen:((all.drop i).take k).length=k:=by simp; omega
     rw [hlen];have hc:c < w.heap.size:=by
      rcases Nat.lt_or_ge c w.heap.size with h | h
      ·exact h
      ·have hz:w.heap[c]? = none:=Array.getElem?_eq_none h;rcases Vg7 ha with e | e
       ·have hx:=hm.box b hlt;rw [e] at hx; simp only [RelB] at hx;rcases hx.2 with ⟨h1,_⟩ | ⟨c',_,_,_,h1,h2,_⟩
        ·rw [hl] at h1; cases h1
        ·rw [hl] at h1; cases h1; rw [hz] at h2; cases h2
       ·have hx:=hm.box b hlt;rw [e] at hx; simp only [RelB] at hx;rcases hx.2 with ⟨h1,_⟩ | ⟨c',h1,h2,_⟩
        ·rw [hl] at h1; cases h1
        ·rw [hl] at h1; cases h1; exact hm.imm c h2
     refine ⟨c,o,cap,rfl,hn,hJ c hc,?_⟩;rcases ho with ho | ho
     ·have:k=0:=by omega
      subst this;simp [VR]
     ·subst ho;have:=Vb4 he s _ c _ rfl (Vdr k (Vg3 i hvr));simpa using this
   case bp b off=>
    split at h
    case h_2=>cases h
    rename_i cs hb;rw [Option.map_eq_some_iff] at h;obtain ⟨cs',hc,rfl⟩:=h;simp only [V] at hv |-;have hlt:b < m.nb:=lt_nb (g:=0) hm (by intro e; simp [e] at hv);have hbx:=hm.box b hlt;rw [hb] at hbx; simp only [RelB] at hbx;obtain ⟨_,k,c,el,fz,hl,hw,_,h1,hvl⟩:=hbx;simp only [hl] at hv; subst hv;have hk:k < w.heap.size:=by
     rcases Nat.lt_or_ge k w.heap.size with h | h
     ·exact h
     ·rw [Array.getElem?_eq_none h] at hw; cases hw
    refine ⟨k,off,rfl,hJ k hk,Vc6 (ih.2 _ _ _ hc (Vct off hvl)) (λx hx=>h1 x (List.mem_of_mem_drop hx)) λj x hj=>?_⟩;rw [List.getElem?_drop] at hj;simp [World.cell?,hw];simpa using hj
   case ap b g s i off=>
    split at h
    case h_2=>cases h
    rename_i rows hr;rw [Option.map_eq_some_iff] at h;obtain ⟨row,hrow,rfl⟩:=h;simp only [V] at hv |-;have hlt:b < m.nb:=lt_nb (g:=g) hm (by intro e; simp [e] at hv);rcases Ver hm hlt hr with ⟨_,rfl⟩ | ⟨k,hl,hvr⟩
    ·simp at hrow
    simp only [hl] at hv; subst hv;have hc:=(Vde hvr hrow).2;have hk:k < w.heap.size:=by
     rcases Nat.lt_or_ge k w.heap.size with h | h
     ·exact h
     ·have hz:w.heap[k]? = none:=Array.getElem?_eq_none h;rcases Vg7 hr with e | e
      ·have hx:=hm.box b hlt;rw [e] at hx; simp only [RelB] at hx;rcases hx.2 with ⟨h1,_⟩ | ⟨c',_,_,_,h1,h2,_⟩
       ·rw [hl] at h1; cases h1
       ·rw [hl] at h1; cases h1; rw [hz] at h2; cases h2
      ·have hx:=hm.box b hlt;rw [e] at hx; simp only [RelB] at hx;rcases hx.2 with ⟨h1,_⟩ | ⟨c',h1,h2,_⟩
       ·rw [hl] at h1; cases h1
       ·rw [hl] at h1; cases h1; exact hm.imm k h2
    have h2:=Vfk he _ k _ rfl (Vfm off hc);simp only [Nat.zero_add] at h2;exact ⟨k,_,rfl,hJ k hk,h2⟩
   case agg cs=>
    rw [Option.map_eq_some_iff] at h;obtain ⟨cs',hc,rfl⟩:=h;simp only [V] at hv |-;obtain ⟨vs,rfl,h1,hl⟩:=hv;exact ⟨vs,rfl,h1,ih.2 _ _ _ hc hl⟩
   case tup cs=>
    rw [Option.map_eq_some_iff] at h;obtain ⟨cs',hc,rfl⟩:=h;simp only [V] at hv |-;obtain ⟨vs,rfl,hl⟩:=hv;exact ⟨vs,rfl,ih.2 _ _ _ hc hl⟩
   case fn f cs=>
    rw [Option.map_eq_some_iff] at h;obtain ⟨cs',hc,rfl⟩:=h;simp only [V] at hv |-;obtain ⟨vs,rfl,hl⟩:=hv;exact ⟨vs,rfl,ih.2 _ _ _ hc hl⟩
   case mp b=>cases h
   all_goals
    simp only [Option.some.injEq] at h; subst h;first
     | trivial
     | (simpa only [V] using hv)
     | (exact Vaz he _ free free _ (.refl _) (by simpa only [V] using hv))
  refine ⟨hone,λds=>?_⟩;induction ds with
  | nil=>intro ds' vs h hv; simp only [snapL,Option.some.injEq] at h; subst h; simpa only [VL] using hv
  | cons d r ihr=>
   intro ds' vs h hv;simp only [snapL] at h;split at h
   case h_2=>cases h
   rename_i x y hx hy;simp only [Option.some.injEq] at h; subst h;simp only [VL] at hv |-;obtain ⟨v,vr,rfl,h1,h2⟩:=hv;exact ⟨v,vr,rfl,ih.1 _ _ _ hx h1,ihr _ _ hy h2⟩
end
section
variable {P:Program} {O I:Nat->Prop} {w:World} {loc:Nat->Nat->Loc} {m:Mem}
def locJoin (loc:Nat->Nat->Loc) (n:Nat) (loc':Nat->Nat->Loc):Nat->Nat->Loc:=λb g=>if b < n then loc b g else loc' (b - n) g
mutual
theorem Vaga {J K:Nat->Prop} (hJ:∀ k,J k->K k) {loc':Nat->Nat->Loc} (n:Nat):∀ (d:D) (v:Value),V J w d loc' v->V K w (d.shift n) (locJoin loc n loc') v
 | .dead,_,_=>trivial
 | .bool _,_,h=>by simpa only [V,D.shift] using h
 | .int _ _,_,h=>by simpa only [V,D.shift] using h
 | .str _,_,h=>by simpa only [V,D.shift] using h
 | .lit _,_,h=>by simpa only [V,D.shift] using h
 | .nilp,_,h=>by simpa only [V,D.shift] using h
 | .nils,_,h=>by simpa only [V,D.shift] using h
 | .rs s rows,v,h=>Vaz (imm_all hJ) (.rs s rows) free _ v (.free _) (by simpa only [V] using h)
 | .rp cs,v,h=>Vaz (imm_all hJ) (.rp cs) free _ v (.free _) (by simpa only [V] using h)
 | .bp b off,v,h=>by
  simp only [V,D.shift,locJoin] at h |-;rw [if_neg (by omega),Nat.add_sub_cancel]; exact h
 | .mp b,v,h=>by
  simp only [V,D.shift,locJoin] at h |-;rw [if_neg (by omega),Nat.add_sub_cancel]; exact h
 | .ap b g s i off,v,h=>by
  simp only [V,D.shift,locJoin] at h |-;rw [if_neg (by omega),Nat.add_sub_cancel]; exact h
 | .bs b g s i k,v,h=>by
  simp only [V,D.shift,locJoin] at h |-;rw [if_neg (by omega),Nat.add_sub_cancel]; exact h
 | .agg cs,v,h=>by
  simp only [V,D.shift] at h |-;obtain ⟨vs,rfl,h1,h2⟩:=h;exact ⟨vs,rfl,h1,Ve3 hJ n cs vs h2⟩
 | .tup cs,v,h=>by
  simp only [V,D.shift] at h |-;obtain ⟨vs,rfl,h2⟩:=h;exact ⟨vs,rfl,Ve3 hJ n cs vs h2⟩
 | .fn f cs,v,h=>by
  simp only [V,D.shift] at h |-;obtain ⟨vs,rfl,h2⟩:=h;exact ⟨vs,rfl,Ve3 hJ n cs vs h2⟩
theorem Ve3 {J K:Nat->Prop} (hJ:∀ k,J k->K k) {loc':Nat->Nat->Loc} (n:Nat):∀ (ds:List D) (vs:List Value),VL J w ds loc' vs->VL K w (shiftL n ds) (locJoin loc n loc') vs
 | [],_,h=>by simpa only [VL,shiftL] using h
 | d::r,vs,h=>by
  simp only [VL,shiftL] at h |-;obtain ⟨v,vr,rfl,h1,h2⟩:=h;exact ⟨v,vr,rfl,Vaga hJ n d v h1,Ve3 hJ n r vr h2⟩
end
theorem Vhe {w':World} {K:Nat->Prop} (hf:Fr none' w w') (hi:∀ k,I k->k < w.heap.size) (hK:∀ k,I k->K k):Ext I K w w':=by
 refine ⟨hK,λk hk=>hf.block k (hi k hk) (λh=>h),λk=>?_⟩;rcases Nat.lt_or_ge k w.heap.size with h | h
 ·simp only [rowSize,hf.block k h (λh=>h)]; exact Nat.le_refl _
 ·have:w.heap[k]? = none:=Array.getElem?_eq_none h;simp [rowSize,this]
theorem MRel.step {w':World} (hm:MRel O I loc m w) (hf:Fr none' w w'):MRel O I loc m w':=by
 have he:=Vhe hf hm.imm (λ_ h=>h);refine ⟨λb hb=>Va3 he (.refl _) (λ_=>rfl) (λho g k hk=>?_) (hm.box b hb),hm.free,λb g k hb ho hk=>?_,hm.inj,λk hk=>?_,λk hk=>hm.up k ?_⟩
 ·exact hf.block k (hm.own b g k hb ho hk).2.2 (λh=>h)
 ·have:=hm.own b g k hb ho hk;exact ⟨this.1,this.2.1,Nat.lt_of_lt_of_le this.2.2 hf.size⟩
 ·exact Nat.lt_of_lt_of_le (hm.imm k hk) hf.size
 ·exact Nat.le_trans hf.size hk
theorem Box.shift_owned (n:Nat) (b:Box):(b.shift n).owned=b.owned:=by cases b<;>rfl
theorem Voy {J K:Nat->Prop} (hJ:∀ k,J k->K k) {loc':Nat->Nat->Loc} {n b:Nat} {x:Box} (h:RelB J w loc' b x):RelB K w (locJoin loc n loc') (b+n) (x.shift n):=by
 have hl:∀ g,locJoin loc n loc' (b+n) g=loc' b g:=λg=>by unfold locJoin; rw [if_neg (by omega),Nat.add_sub_cancel]
 have he:Ext J K w w:=imm_all hJ;cases x with
 | gone=>simp only [RelB,Box.shift] at h |-; intro g; rw [hl]; exact h g
 | lent=>trivial
 | var cs=>
  simp only [RelB,Box.shift] at h |-;obtain ⟨h0,k,c,el,fz,h1,h2,h3,h4,h5⟩:=h;exact ⟨λg hg=>by rw [hl]; exact h0 g hg,k,c,el,fz,by rw [hl]; exact h1,h2,h3,h4,Ve3 hJ n cs _ h5⟩
 | arr g s rows=>
  simp only [RelB,Box.shift] at h |-;refine ⟨⟨λg' hg=>by rw [hl]; exact h.1.1 g' hg,λg' hg=>by rw [hl]; exact h.1.2 g' hg⟩,?_⟩;rcases h.2 with ⟨h1,h2⟩ | ⟨k,c,el,fz,h1,h2,h3,h4,h5⟩
  ·exact .inl ⟨by rw [hl]; exact h1,h2⟩
  ·exact .inr ⟨k,c,el,fz,by rw [hl]; exact h1,h2,h3,h4,Vb4 he s rows k 0 rfl h5⟩
 | frz g s rows=>
  simp only [RelB,Box.shift] at h |-;refine ⟨⟨λg' hg=>by rw [hl]; exact h.1.1 g' hg,λg' hg=>by rw [hl]; exact h.1.2 g' hg⟩,?_⟩;rcases h.2 with ⟨h1,h2⟩ | ⟨k,h1,h2,h3⟩
  ·exact .inl ⟨by rw [hl]; exact h1,h2⟩
  ·exact .inr ⟨k,by rw [hl]; exact h1,hJ k h2,Vb4 he s rows k 0 rfl h3⟩
 | iter l pos=>
  simp only [RelB,Box.shift] at h |-;obtain ⟨h0,k,h1,h2⟩:=h;exact ⟨λg hg=>by rw [hl]; exact h0 g hg,k,by rw [hl]; exact h1,h2⟩
 | mset ks=>
  simp only [RelB,Box.shift] at h |-;obtain ⟨h0,k,es,ck,h1,h2⟩:=h;exact ⟨λg hg=>by rw [hl]; exact h0 g hg,k,es,ck,by rw [hl]; exact h1,h2⟩
theorem MRel.join {J K:Nat->Prop} {w0:World} {loc':Nat->Nat->Loc} {bx:List Box} (hm:MRel O I loc m w) (hm2:MRel (λk=>w0.heap.size<=k) J loc' ⟨bx.length,bxOf bx⟩ w)
  (hI:∀ k,I k->K k) (hJ:∀ k,J k->K k) (hK:∀ k,K k->k < w.heap.size) (hO:∀ k,w0.heap.size<=k->O k)
  (hold:∀ b g k,b < m.nb->(m.bx b).owned=true->loc b g = .blk k->k < w0.heap.size/\¬ K k) (hnew:∀ k,w0.heap.size<=k->¬ J k->¬ K k) :
  MRel O K (locJoin loc m.nb loc') (m.join bx) w/\LocExt loc (locJoin loc m.nb loc'):=by
 have hl1:∀ b g,b < m.nb->locJoin loc m.nb loc' b g=loc b g:=λb g h=>by unfold locJoin; rw [if_pos h]
 have hl2:∀ b g,¬ b < m.nb->locJoin loc m.nb loc' b g=loc' (b - m.nb) g:=λb g h=>by unfold locJoin; rw [if_neg h]
 have hext:LocExt loc (locJoin loc m.nb loc'):=λb g=>by
  by_cases h:b < m.nb
  ·exact .inr (.inr (hl1 b g h))
  ·exact .inl (hm.free b g (by omega))
 have hb1:∀ b,b < m.nb->(m.join bx).bx b=m.bx b:=λb h=>by simp [Mem.join,h]
 have hb2:∀ b,¬ b < m.nb->(m.join bx).bx b=(bxOf bx (b - m.nb)).shift m.nb:=λb h=>by simp [Mem.join,h]
 have hnb:(m.join bx).nb=m.nb+bx.length:=rfl;refine ⟨⟨λb hb=>?_,λb g hb=>?_,λb g k hb ho hk=>?_,λb b' g g' k hb hb' ho ho' hk hk'=>?_,hK,hm.up⟩,hext⟩
 ·by_cases h:b < m.nb
  ·rw [hb1 b h];exact Va3 (imm_all hI) hext (λg=>hl1 b g h) (λ_ _ _ _=>rfl) (hm.box b h)
  ·rw [hb2 b h];have:=Voy (loc:=loc) (n:=m.nb) hJ (hm2.box (b - m.nb) (by simp only; omega));rwa [Nat.sub_add_cancel (by omega)] at this
 ·rw [hl2 b g (by omega)];exact hm2.free _ g (by simp only; omega)
 ·by_cases h:b < m.nb
  ·rw [hb1 b h] at ho;rw [hl1 b g h] at hk;have h1:=hm.own b g k h ho hk;exact ⟨h1.1,(hold b g k h ho hk).2,h1.2.2⟩
  ·rw [hb2 b h,Box.shift_owned] at ho;rw [hl2 b g h] at hk;have h1:=hm2.own (b - m.nb) g k (by simp only; omega) ho hk;exact ⟨hO k h1.1,hnew k h1.1 h1.2.1,h1.2.2⟩
 ·by_cases h:b < m.nb
  ·by_cases h':b' < m.nb
   ·rw [hb1 b h] at ho;rw [hb1 b' h'] at ho';rw [hl1 b g h] at hk;rw [hl1 b' g' h'] at hk';exact hm.inj b b' g g' k h h' ho ho' hk hk'
   ·rw [hb1 b h] at ho;rw [hb2 b' h',Box.shift_owned] at ho';rw [hl1 b g h] at hk;rw [hl2 b' g' h'] at hk';have h1:=(hold b g k h ho hk).1;have h2:w0.heap.size<=k:=(hm2.own (b' - m.nb) g' k (by simp only; omega) ho' hk').1;omega
  ·by_cases h':b' < m.nb
   ·rw [hb2 b h,Box.shift_owned] at ho;rw [hb1 b' h'] at ho';rw [hl2 b g h] at hk;rw [hl1 b' g' h'] at hk';have h1:=(hold b' g' k h' ho' hk').1;have h2:w0.heap.size<=k:=(hm2.own (b - m.nb) g k (by simp only; omega) ho hk).1;omega
   ·rw [hb2 b h,Box.shift_owned] at ho;rw [hb2 b' h',Box.shift_owned] at ho';rw [hl2 b g h] at hk;rw [hl2 b' g' h'] at hk';have:=hm2.inj (b - m.nb) (b' - m.nb) g g' k (by simp only; omega) (by simp only; omega) ho ho' hk hk';omega
theorem Va0 {G:Nat->Option (List D)} {I':Nat->Prop} {w':World} (h:Glob G I w) (he:Ext I I' w w'):Glob G I' w':=λg cs hg=>by
 obtain ⟨h1,h2,h3⟩:=h g cs hg;exact ⟨he.imm g h1,Vfk he cs g 0 (he.same g h1) h2,by rw [<- h3]; unfold rowSize; rw [he.same g h1]⟩
def SpecsOk (P:Program) (Sp:Specs):Prop:=∀ f k F,Sp.fn f=some (k,F)->Sound P Sp.glob f k F
theorem Fr.weaken {w':World} (h:Fr none' w w'):Fr O w w':=⟨h.os,h.tape,h.output,h.size,λb hb _=>h.block b hb (λh=>h)⟩
def Follows (P:Program) (Sp:Specs) (O I:Nat -> Prop) (loc:Nat -> Nat -> Loc) (w:World) (o:Oper) (r:Result Next) (d:D) (m':Mem):Prop:=
  ∀ (a:Act) (next:Act -> World -> Prop) (Q:Exit -> Act -> World -> Prop),(∀ v w' I' loc',MRel O I' loc' m' w' -> Glob Sp.glob I' w' -> V I' w' d loc' v -> Ext I I' w w' -> (∀ k,I' k -> I k \/ w.heap.size <= k) -> LocExt loc loc' -> Fr O w w' -> next (a.put o.dst v) w') ->
    o.upon P a next Q r
theorem Follows.of_res {Sp:Specs} {o:Oper} {r:Result Next} {d:D} {m':Mem} (hG:Glob Sp.glob I w) (h:Res O I loc w r d m'):Follows P Sp O I loc w o r d m':=by
 obtain ⟨v,w',loc',h1,h2,h3,h4,h5,h6⟩:=h;intro a next Q hn
 have:=hn v w' I loc' h2 (Va0 hG h4) h3 h4 (λ_ h=>.inl h) h5 h6;rcases h1 with rfl | ⟨rfl,rfl⟩
 ·exact this
 ·exact this
theorem Vjb {ρ:Operand->Value} {f:Operand} {args:Array Operand} {at':Array TypeId} {k:Nat} {vs:List Value} (hf:ρ f = .func (.func k) #[] vs.toArray)
  (hb : ∃ fn, P.funcs[k]? = some fn ∧ fn.body.isSome = true ∧ (fn.name == "runtime.NumGoroutine") = false) (dst : Option Tmp) (ty : TypeId) (pos : String) (af : Array Edge) (gd : Option (Nat × Bool)) :
  (execOp ρ ⟨dst,.call ⟨.value f,args,at'⟩,ty,pos,af,gd⟩).run P w = .ok (.enter k (args.toList.map ρ++vs).toArray) w:=by
 obtain ⟨fn,h1,h2,h3⟩:=hb;have hn:fn.body.isNone=false:=by cases h:fn.body<;>simp_all
 have:args.map ρ++vs.toArray=(args.toList.map ρ++vs).toArray:=by apply Array.ext'; simp
 simp only [execOp,resolve,hf,Deferred.ofValue,Sem.run_bind,Sem.run_pure,Result.andThen_ok,invoke,callFunc,run_program,h1,h3,Bool.false_eq_true,if_false,hn,Array.empty_append,this]
theorem Vwr {Sp:Specs} (hSp:SpecsOk P Sp) (hm:MRel O I loc m w) (hG:Glob Sp.glob I w) {e:Operand->D} {ρ:Operand->Value} (he:∀ x,V I w (e x) loc (ρ x)) {f:Operand} {args:Array Operand} {at':Array TypeId}
  {dst:Option Tmp} {ty:TypeId} {pos:String} {af:Array Edge} {gd:Option (Nat×Bool)} {k:Nat} {cap:List D} {F:List D->Option (D×List Box)} {ds:List D} {d:D}
  (hf:e f = .fn k cap) (hs:Sp.fn k=some (0,F)) (hF:F ds=some (d,[])) (hds:snapL m 8 (args.toList.map e++cap)=some ds) :
  Follows P Sp O I loc w ⟨dst,.call ⟨.value f,args,at'⟩,ty,pos,af,gd⟩ ((execOp ρ ⟨dst,.call ⟨.value f,args,at'⟩,ty,pos,af,gd⟩).run P w) d m:=by
 have hv:=he f;rw [hf] at hv; simp only [V] at hv;obtain ⟨vs,hv1,hv2⟩:=hv;obtain ⟨hb,hS⟩:=hSp k 0 F hs;rw [Vjb hv1 hb];have hall:VL I w (args.toList.map e++cap) loc (args.toList.map ρ++vs):=Var (Vf2 he _) hv2;intro a next Q hn
 simp only [Oper.upon];have hJ:=(Vla (J:=λk=>k < w.heap.size) hm hm.imm (λ_ h=>h) 8).2 _ _ _ hds hall;refine (hS (λk=>k < w.heap.size) w _ ds d [] (λ_ h=>h) (Va0 hG (imm_all hm.imm)) hJ hF).mono ?_;rintro _ w' ⟨v,I',loc',rfl,hfr,hI',hvv,hm2⟩;rw [if_pos (by omega)] at hI';subst hI';have hl:loc'=free:=by funext b g; exact hm2.free b g (Nat.zero_le _)
 subst hl;have hx:=Vhe hfr hm.imm (λ_ h=>h);exact hn v w' I loc (hm.step hfr) (Va0 hG hx) (Vaz (imm_all (λ_ h=>h.elim)) d free loc v (.free _) hvv) hx (λ_ h=>.inl h) (.refl _) hfr.weaken
theorem Vik:∀ (rows:List (List D)) (l:List UInt8) (vs:List Value),bytesOf rows=some l->VL I w rows.flatten free vs ->
  ∃ ns:List Int,vs=ns.map (Value.int .u8)/\(ns.map λn=>UInt8.ofNat n.toNat)=l
 | [],l,vs,h,hv=>by
  simp only [bytesOf,Option.some.injEq] at h; subst h;simp only [List.flatten_nil,VL] at hv; subst hv;exact ⟨[],rfl,rfl⟩
 | row::r,l,vs,h,hv=>by
  unfold bytesOf at h;split at h
  ·rename_i heq; cases heq
  ·rename_i n r' heq;simp only [List.cons.injEq] at heq;obtain ⟨rfl,rfl⟩:=heq;split at h
   ·rw [Option.map_eq_some_iff] at h;obtain ⟨l',hl,rfl⟩:=h;simp only [List.flatten_cons,List.cons_append,List.nil_append,VL] at hv;obtain ⟨v,vr,rfl,h1,h2⟩:=hv;simp only [V] at h1; subst h1;obtain ⟨ns,rfl,rfl⟩:=Vik r l' vr hl h2;exact ⟨n::ns,rfl,rfl⟩
   ·cases h
  ·cases h
theorem Vjc {s:Nat} {x:D} {u:Value} {rows:List (List D)} (hx:V I w x loc u) (h:rowsOf m s x=some rows):∃ a n cap,u = .slice a n cap:=by
 unfold rowsOf at h;split at h
 ·simp only [V] at hx; exact ⟨_,_,_,hx⟩
 ·simp only [V] at hx;rcases hx with ⟨_,_,_,rfl⟩ | ⟨b,o,cap,rfl,_⟩<;>exact ⟨_,_,_,rfl⟩
 ·rename_i b g s' i n;simp only [V] at hx;cases hl:loc b g<;>simp only [hl] at hx
  ·obtain ⟨a,cap,rfl,_⟩:=hx; exact ⟨_,_,_,rfl⟩
  ·exact ⟨_,_,_,hx.2.2⟩
  ·obtain ⟨o,cap,rfl,_⟩:=hx; exact ⟨_,_,_,rfl⟩
 ·cases h
theorem Vt1 {Sp:Specs} (hSp:SpecsOk P Sp) (hm:MRel O I loc m w) (hG:Glob Sp.glob I w) {e:Operand->D} {ρ:Operand->Value} (he:∀ x,V I w (e x) loc (ρ x)) {o:Oper} {d:D} (h:semR P Sp o.op e m=some d) :
  Follows P Sp O I loc w o ((execOp ρ o).run P w) d m:=by
 obtain ⟨dst,op,type,pos,after,guard⟩:=o;simp only at h;unfold semR at h;split at h
 ·rename_i t x;obtain ⟨z,hz,hv⟩:=Vk6 (P:=P) hm (he x) h;exact Follows.of_res hG (Res.of_same hm ⟨z,by simp [execOp,hz],hv⟩)
 ·rename_i src dst' x;split at h
  case h_2=>cases h
  rename_i el hel;split at h
  case isFalse=>cases h
  rename_i hc;split at h
  case h_2=>cases h
  rename_i rows hr;rw [Option.map_eq_some_iff] at h;obtain ⟨l,hl,rfl⟩:=h;obtain ⟨vs,hsrc⟩:=Vnl (P:=P) hm (he x) hr;obtain ⟨a,n,cap,hu⟩:=Vjc (he x) hr;obtain ⟨ns,rfl,rfl⟩:=Vik rows l vs hl hsrc.vl;have hlen:=hsrc.len;rw [hu] at hlen;have hn:n=rows.length:=by
   have:=congrArg (λs:Sem Nat=>s.run P w) hlen;simpa [Builtin.lenOf] using this
  have hfirst:=hsrc.first w rfl
  rw [hu] at hfirst;have hconv:=run_convert_bytes_string (P:=P) w src dst' el a n cap (Vag hel) (Vep hc.1) (Vcf hc.2);refine Follows.of_res hG (Res.of_same hm ⟨.string ⟨(ns.map λn=>UInt8.ofNat n.toNat).toArray⟩,?_,by simp [V]⟩);have:(Conv.bytesToString (.slice a n cap)).run P w = .ok (.string ⟨(ns.map λn=>UInt8.ofNat n.toNat).toArray⟩) w:=by
   cases a with
   | none=>
    simp only [Builtin.firstCells,Sem.run_pure,Result.ok.injEq,and_true] at hfirst;have hns:ns=[]:=by
     have:=congrArg Array.toList hfirst;simpa using this.symm
    subst hns;rfl
   | some a=>
    subst hn;simp only [Builtin.firstCells,Nat.mul_one] at hfirst;rw [run_bytesToString w a rows.length cap ns hfirst,foldl_push_bytes];simp [ByteArray.empty,ByteArray.emptyWithCapacity];rfl
  simp [execOp,hu,hconv,this]
 ·rename_i f args at';split at h
  case h_2=>cases h
  rename_i k cap hf;split at h
  case h_2=>cases h
  rename_i F hs;split at h
  case h_2=>cases h
  rename_i ds hds;split at h
  case h_2=>cases h
  rename_i d' hF;simp only [Option.some.injEq] at h; subst h;exact Vwr hSp hm hG he hf hs hF hds
 ·cases h
end
structure Rel (Sp:Specs) (O I0:Nat->Prop) (w0:World) (n:Nat) (I:Nat->Prop) (loc:Nat->Nat->Loc) (σ:S) (a:Act) (w:World):Prop where
 size:a.tmps.size=n
 defers:a.defers=[]
 tmp:∀ i,V I w (σ.t i) loc (a.tmps.getD i undef)
 mem:MRel O I loc σ.m w
 glob:Glob Sp.glob I w
 fr:Fr O w0 w
 imm0:∀ k,I0 k->I k
 imm1:∀ k,I k->I0 k\/w0.heap.size<=k
def gslot (ops:Array Oper) (o:Oper):Option (Option Nat×Bool):=
 match o.guard with
 | none=>none
 | some (j,want)=>some ((ops[j]?).bind (·.dst),want)
def gd (ops:Array Oper) (o:Oper) (t:Nat->D):Option Bool:=
 match gslot ops o with
 | none=>some true
 | some (some k,want)=>match t k with
  | .bool b=>some (b == want)
  | _=>none
 | some (none,_)=>none
def stepO (P:Program) (Sp:Specs) (ops:Array Oper) (o:Oper) (σ:S):Option S:=
 match gd ops o σ.t with
 | none=>none
 | some false=>some (σ.put o.dst .dead)
 | some true=>match sem P Sp o.op (ev Sp σ.t) σ.m with
  | some (d,m')=>some ({ σ with m:=m' }.put o.dst d)
  | none=>none
section
variable {P:Program} {Sp:Specs} {O I0 I:Nat->Prop} {w0 w:World} {n:Nat} {loc:Nat->Nat->Loc} {σ:S} {a:Act}
theorem Rel.put (h:Rel Sp O I0 w0 n I loc σ a w) {m':Mem} {w':World} {I':Nat->Prop} {loc':Nat->Nat->Loc} {d:D} {v:Value} (dst:Option Nat) (hd:∀ k,dst=some k->k < n)
  (hm:MRel O I' loc' m' w') (hG:Glob Sp.glob I' w') (hv:V I' w' d loc' v) (he:Ext I I' w w') (hI:∀ k,I' k->I k\/w.heap.size<=k) (hl:LocExt loc loc') (hf:Fr O w w') :
  Rel Sp O I0 w0 n I' loc' ({ σ with m:=m' }.put dst d) (a.put dst v) w':=by
 have hold:∀ i,V I' w' (σ.t i) loc' (a.tmps.getD i undef):=λi=>Vaz he _ loc loc' _ hl (h.tmp i);have hi1:∀ k,I' k->I0 k\/w0.heap.size<=k:=λk hk=>by
  rcases hI k hk with h1 | h1
  ·exact h.imm1 k h1
  ·exact .inr (Nat.le_trans h.fr.size h1)
 cases dst with
 | none=>exact ⟨h.size,h.defers,hold,hm,hG,h.fr.trans hf,λk hk=>he.imm k (h.imm0 k hk),hi1⟩
 | some k=>
  have hk:=hd k rfl;refine ⟨by simp [Act.put,h.size],h.defers,λi=>?_,hm,hG,h.fr.trans hf,λk hk=>he.imm k (h.imm0 k hk),hi1⟩;simp only [S.put,Act.put,upd];by_cases e:i=k
  ·subst e;rw [if_pos rfl];have:(a.tmps.setIfInBounds i v).getD i undef=v:=by
    simp [Array.getD_eq_getD_getElem?,Array.getElem?_setIfInBounds,h.size,hk]
   rw [this]; exact hv
  ·rw [if_neg e];have:(a.tmps.setIfInBounds k v).getD i undef=a.tmps.getD i undef:=by
    simp [Array.getD_eq_getD_getElem?,Array.getElem?_setIfInBounds,Ne.symm e]
   rw [this]; exact hold i
end
def Cls.clash:Cls->Cls->Bool
 | .w,.w=>true
 | .w,.r=>true
 | .r,.w=>true
 | _,_=>false
def maskE (acc:List Nat):List Edge->Nat
 | []=>0
 | e::r=>if Region.binds .any e=true then 2 ^ e.on ||| acc.getD e.on 0 ||| maskE acc r else maskE acc r
def masks:List Oper->List Nat->List Nat
 | [],acc=>acc
 | o::r,acc=>masks r (acc++[maskE acc o.after.toList])
section
variable {P:Program} {Sp:Specs} {ops:Array Oper}
theorem Vlb {o:Oper} {x:Nat} (h:Operand.tmp x∈o.op.operands):x∈o.looksAt ops:=by
 unfold Oper.looksAt;rw [List.mem_append];left;rw [List.mem_filterMap];exact ⟨.tmp x,by simpa using h,rfl⟩
theorem S.put_comm (σ:S) {x y:Option Nat} (d d':D) (h:∀ k,x=some k->y≠some k):(σ.put x d).put y d'=(σ.put y d').put x d:=by
 cases x with
 | none=>rfl
 | some k=>
  cases y with
  | none=>rfl
  | some q=>
   have hne:k≠q:=λe=>h k rfl (by rw [e]);simp only [S.put];congr 1;funext j;simp only [upd];by_cases h1:j=k
   ·subst h1; simp [hne]
   ·simp [h1]
def left (n:Nat) (listed:Array Bool):List Nat:=(List.range n).filter λi=>!listed.getD i true
theorem mem_left {n i:Nat} {listed:Array Bool}:i∈left n listed↔i < n/\listed.getD i true=false:=by
 simp [left,List.mem_filter]
def Closed (ops:Array Oper) (listed:Array Bool):Prop:=∀ (k:Nat) (o:Oper),ops[k]? = some o->listed.getD k false=true->∀ e∈o.after,Region.binds .any e=true->listed.getD e.on false=true
theorem Vfq {acc:List Nat} {j:Nat}:∀ {es:List Edge},(maskE acc es).testBit j=true->∃ e∈es,Region.binds .any e=true/\(e.on=j\/(acc.getD e.on 0).testBit j=true)
 | [],h=>by simp [maskE] at h
 | e::r,h=>by
  simp only [maskE] at h;split at h
  ·rename_i hb;simp only [Nat.testBit_or,Bool.or_eq_true] at h;rcases h with (h | h) | h
   ·rw [Nat.testBit_two_pow] at h;exact ⟨e,by simp,hb,.inl (by simpa using h)⟩
   ·exact ⟨e,by simp,hb,.inr h⟩
   ·obtain ⟨e',h1,h2⟩:=Vfq h;exact ⟨e',by simp [h1],h2⟩
  ·obtain ⟨e',h1,h2⟩:=Vfq h;exact ⟨e',by simp [h1],h2⟩
def GoodMask (ops:Array Oper) (i m:Nat):Prop:=∀ listed,Closed ops listed->∀ o,ops[i]? = some o->(∀ e∈o.after,Region.binds .any e=true->listed.getD e.on false=true)->∀ j,m.testBit j=true->listed.getD j false=true
theorem Vfr:∀ (l:List Oper) (acc:List Nat),(∀ i,i < l.length->ops[acc.length+i]? = l[i]?)->(∀ i,i < acc.length->GoodMask ops i (acc.getD i 0))->(∀ i,acc.length<=i->acc.getD i 0=0) ->
  ∀ i,GoodMask ops i ((masks l acc).getD i 0)
 | [],acc,_,hg,h0,i=>by
  simp only [masks];by_cases hi:i < acc.length
  ·exact hg i hi
  ·rw [h0 i (by omega)]; intro _ _ _ _ _ j hj; simp at hj
 | o::r, acc, ho, hg, h0, i => by
  simp only [masks];refine Vfr r _ (λk hk=>?_) (λk hk=>?_) (λk hk=>?_) i
  ·have:=ho (k+1) (by simpa using hk);simp only [List.length_append,List.length_singleton,List.getElem?_cons_succ] at this |-;rw [<- this]; congr 1; omega
  ·by_cases e:k < acc.length
   ·have:(acc++[maskE acc o.after.toList]).getD k 0=acc.getD k 0:=by simp [List.getD,List.getElem?_append_left e]
    rw [this]; exact hg k e
   ·have hk':k=acc.length:=by simp at hk; omega
    subst hk';have hm:(acc++[maskE acc o.after.toList]).getD acc.length 0=maskE acc o.after.toList:=by simp [List.getD]
    rw [hm];have hoi:=ho 0 (by simp);simp only [Nat.add_zero,List.getElem?_cons_zero] at hoi;intro listed hcl o' ho' hd j hj;rw [hoi] at ho'; cases ho';obtain ⟨e,he,hb,hor⟩:=Vfq hj;have hel:=hd e (by simpa using he) hb;rcases hor with rfl | hor
    ·exact hel
    ·by_cases hlt:e.on < acc.length
     ·cases hoe:ops[e.on]? with
      | none=>
       have h3:=hg e.on hlt;exfalso;have:e.on < ops.size:=by
        have:acc.length < ops.size:=by
         rcases Nat.lt_or_ge acc.length ops.size with h | h
         ·exact h
         ·rw [Array.getElem?_eq_none h] at hoi; cases hoi
        omega
       simp [this] at hoe
      | some oe=>exact hg e.on hlt listed hcl oe hoe (hcl e.on oe hoe hel) j hor
     ·rw [h0 e.on (by omega)] at hor; simp at hor
  ·simp only [List.length_append,List.length_singleton] at hk;simp only [List.getD];rw [List.getElem?_eq_none (by simp; omega)];rfl
theorem Vea {n i:Nat} {listed:Array Bool} (_hsz:listed.size=n) (hi:i∈left n listed) :
  ∃ l r,left n listed=l++i::r/\(∀ j∈l,j < i/\listed.getD j true=false)/\left n (listed.setIfInBounds i true)=l++r:=by
 obtain ⟨hlt,hf⟩:=mem_left.1 hi;have hr:List.range n=List.range i++i::(List.range (n - i - 1)).map (i+1+·):=by
  have e:n=i+(1+(n - i - 1)):=by omega
  conv=>lhs; rw [e,List.range_add,List.range_add]
  simp [List.range_succ,Nat.add_assoc]
 refine ⟨(List.range i).filter (λk=>!listed.getD k true),((List.range (n - i - 1)).map (i+1+·)).filter (λk=>!listed.getD k true),?_,?_,?_⟩
 ·unfold left;rw [hr,List.filter_append,List.filter_cons,if_pos (by simp [hf])]
 ·intro j hj;simp only [List.mem_filter,List.mem_range] at hj;exact ⟨hj.1,by simpa using hj.2⟩
 ·unfold left;rw [hr,List.filter_append,List.filter_cons];have hi':(listed.setIfInBounds i true).getD i true=true:=by
   simp [Array.getD_eq_getD_getElem?,Array.getElem?_setIfInBounds];split<;>rfl
  rw [if_neg (by simp [hi'])];have hne:∀ k,k≠i->(listed.setIfInBounds i true).getD k true=listed.getD k true:=λk hk=>by
   simp [Array.getD_eq_getD_getElem?,Array.getElem?_setIfInBounds,Ne.symm hk]
  congr 1
  ·apply List.filter_congr;intro k hk;simp only [List.mem_range] at hk;rw [hne k (by omega)]
  ·apply List.filter_congr;intro k hk;simp only [List.mem_map,List.mem_range] at hk;obtain ⟨q,_,rfl⟩:=hk;rw [hne _ (by omega)]
end
inductive Ex where
 | normal
 | exit (id:Nat)
 | ret
def Weak (Sp:Specs) (σ σ':S):Prop:=∀ (O I0:Nat->Prop) (w0:World) (n:Nat) (I:Nat->Prop) (loc:Nat->Nat->Loc) (a:Act) (w:World),Rel Sp O I0 w0 n I loc σ a w->∃ I' loc',Rel Sp O I0 w0 n I' loc' σ' a w
section
variable {P:Program} {Sp:Specs} {O I0:Nat->Prop} {w0:World} {n:Nat}
theorem Vlc (ops:Array Oper):ops.toList.map some=(List.range ops.size).map (ops[·]?):=by
 apply List.ext_getElem
 ·simp
 ·intro i h1 h2;simp at h1;simp [h1]
theorem Rel.drew {σ:S} {I:Nat->Prop} {loc:Nat->Nat->Loc} {a:Act} {w:World} (h:Rel Sp O I0 w0 n I loc σ a w):Rel Sp O I0 w0 n I loc σ a { w with drawn:=w.drawn+1 }:=by
 have he:Ext I I w { w with drawn:=w.drawn+1 }:=Ext.of_heap rfl;exact ⟨h.size,h.defers,λi=>Vaz he _ loc loc _ (.refl _) (h.tmp i),MRel.of_heap (w:=w) rfl h.mem,Va0 h.glob he,h.fr.trans ⟨rfl,rfl,rfl,Nat.le_refl _,λ_ _ _=>rfl⟩,h.imm0,h.imm1⟩
theorem Weak.refl (σ:S):Weak Sp σ σ:=λ_ _ _ _ I loc _ _ h=>⟨I,loc,h⟩
def rdv (a:Act):ResultVar->Sem Value
 | .tmp t=>pure (a.tmps.getD t undef)
 | .cell x t=>do loadVar t (<- asAddr (a.tmps.getD x undef))
def t0 (ds:List D):Nat->D:=λi=>ds.getD i .dead
def S0 (ds:List D):S:=⟨t0 ds,⟨0,λ_=>.gone⟩⟩
end
end Go.Abs
