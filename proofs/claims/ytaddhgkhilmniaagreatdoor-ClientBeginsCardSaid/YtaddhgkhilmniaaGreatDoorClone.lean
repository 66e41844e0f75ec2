/- slices.Clone at whatever element type: a contract out of the kit's theorem. No condition. -/
import Derived.Test.YtaddhgkhilmniaaGreatDoorLib8
import Derived.Shelf.SlicesE.Clone
namespace Go.Abs
open Go Go.Proofs Go.Shelf Go.RowKit
open _root_.Nat renaming le_refl → Qa, zero_add → Qd
open _root_.List renaming getElem?_append_right → Qb, getElem?_append_left → Qc, length_map → Qf
set_option linter.unusedSimpArgs false
set_option linter.unusedVariables false
theorem Vnc {I:Nat->Prop} {w:World} {b:Nat}:∀ {cs:List D} {o:Nat},VC I w cs b o->∃ news:List Value,news.length=cs.length/\(∀ j u,news[j]? = some u->w.cell? ⟨b,o+j,none⟩=some u)/\(∀ u∈news,u.oneCell'=true) /\
  ∀ (I':Nat->Prop) (w':World) (b' o':Nat),Ext I I' w w'->(∀ j u,news[j]? = some u->w'.cell? ⟨b',o'+j,none⟩=some u)->VC I' w' cs b' o'
 | [],o,_=>⟨[],rfl,λj u h=>by simp at h,λu h=>by simp at h,λI' w' b' o' _ _=>by simp only [VC]⟩
 | d::r,o,h=>by
  simp only [VC] at h;obtain ⟨⟨c,h1,h2,h3⟩,h4⟩:=h;obtain ⟨news,n1,n2,n3,n4⟩:=Vnc h4;refine ⟨c::news,by simp [n1],?_,?_,?_⟩
  ·intro j u hj;cases j with
   | zero=>simp at hj; subst hj; exact h1
   | succ j=>
    have:=n2 j u (by simpa using hj);rwa [show o+1+j=o+(j+1) by omega] at this
  ·intro u hu;rcases List.mem_cons.1 hu with rfl | hu
   ·exact h2
   ·exact n3 u hu
  ·intro I' w' b' o' he hc;simp only [VC];refine ⟨⟨c,hc 0 c rfl,h2,Vaz he d free free c (.refl _) h3⟩,n4 I' w' b' (o'+1) he λj u hj=>?_⟩;rw [show o'+1+j=o'+(j+1) by omega];exact hc (j+1) u (by simpa using hj)
theorem Vnd {I:Nat->Prop} {w:World} {b s:Nat}:∀ {rows:List (List D)} {o:Nat},VR I w s rows b o->∃ news:List Value,news.length=rows.length * s/\(∀ j u,news[j]? = some u->w.cell? ⟨b,o+j,none⟩=some u)/\(∀ u∈news,u.oneCell'=true) /\
  ∀ (I':Nat->Prop) (w':World) (b' o':Nat),Ext I I' w w'->(∀ j u,news[j]? = some u->w'.cell? ⟨b',o'+j,none⟩=some u)->VR I' w' s rows b' o'
 | [],o,_=>⟨[],by simp,λj u h=>by simp at h,λu h=>by simp at h,λI' w' b' o' _ _=>by simp only [VR]⟩
 | row::r,o,h=>by
  simp only [VR] at h;obtain ⟨h1,h2,h3⟩:=h;obtain ⟨m,m1,m2,m3,m4⟩:=Vnc h2;obtain ⟨news,n1,n2,n3,n4⟩:=Vnd h3;refine ⟨m++news,by rw [List.length_append,m1,n1,List.length_cons,Nat.add_mul]; omega,?_,?_,?_⟩
  ·intro j u hj;by_cases hl:j < m.length
   ·rw [Qc hl] at hj;exact m2 j u hj
   ·rw [Qb (by omega)] at hj;have:=n2 _ u hj;rwa [show o+s+(j - m.length)=o+j by omega] at this
  ·intro u hu;rcases List.mem_append.1 hu with hu | hu
   ·exact m3 u hu
   ·exact n3 u hu
  ·intro I' w' b' o' he hc;simp only [VR];refine ⟨h1,m4 I' w' b' o' he λj u hj=>hc j u ?_,n4 I' w' b' (o'+s) he λj u hj=>?_⟩
   ·have hl:j < m.length:=(List.getElem?_eq_some_iff.1 hj).1;rw [Qc hl]; exact hj
   ·have:=hc (s+j) u (by rw [Qb (by omega),show s+j - m.length=j by omega]; exact hj);rwa [show o'+(s+j)=o'+s+j by omega] at this
set_option maxHeartbeats 2000000 in
set_option maxRecDepth 100000 in
theorem Vne {P:Program} {ρ:Ren} (L:SlLaysE0.n41 P ρ) (i0:TypeInfo) (z:Value) (size bytes:Nat) (hi:P.info? (ρ.t 23)=some i0) (hz0:i0.zero=some z) (hz1:i0.size=size) (hz2:i0.bytes=bytes) (hzs:z.cells.size=size) (hsz:0 < size)
  (z23:∀ w,(Go.sizeOf (ρ.t 23)).run P w = .ok size w) (a:Addr) (n c:Nat) (news:List Value) (w:World) (hl:news.length=n * size) (hn:n<=maxLen) (hbig:n * bytes<=140737488355328)
  (hc:∀ j u,news[j]? = some u->w.cell? (a.add j)=some u) (h1:∀ u∈news,u.oneCell'=true) :
  Calls P (ρ.f 41) #[.slice (some a) n c] w λe w'=>∃ v',e = .returned v'/\w'.ownsRow w.heap.size (ρ.t 23) size v' n news/\v'≠.slice none 0 0/\Below w.heap.size w w':=by
 have mixed:=L.mixed; have t4:=L.t4; have a4:=L.a4; have z4:=L.z4; have v4:=L.v4; have t22:=L.t22; have a22:=L.a22; have z22:=L.z22; have v22:=L.v22;have q22:∀ (w:World) (a:Option Addr) (n c n' c':Nat),(binOp .eql (ρ.t 22) (.slice a n c) (.slice none n' c')).run P w = .ok (.bool a.isNone) w:=λw a n c n' c'=>Lib.run_eql_slice_nil w _ _ a n c n' c' L.t22;have u22:∀ w,Sem.run P (underlying (ρ.t 22)) w = .ok (TypeDesc.slice (ρ.t 23)) w:=run_underlying t22;have A:Aside (∀ j u,news[j]? = some u->w.cell? (a.add j)=some u):=hc;clear hc;obtain ⟨_,_,FG⟩:=L.f41;go_enter FG,SlBodyN.n41_ntmps ρ;go_wp2_with (at_builtin; refine wpList_append_own _ rfl _ _ (ρ.t 22) rfl w.heap.size (ρ.t 23) i0 z size bytes t22 hi hz0 hz1 hz2 hzs hsz _ _ _ rfl (World.ownsRow_made w #[] 0 (Qa _) (Nat.zero_le _) (by simp)) a n c news rfl ?qc1 ?qc2 ?qc3 ?qc4 ?qc5 ?qc6 ?_)
 case qc1=>exact hl
 case qc2=>
  intro j u hj;exact Lib.cell?_alloc_some _ (A.out j u hj)
 case qc3=>exact h1
 case qc4=>rw [Qd]; exact hn
 case qc5=>rw [Qd]; exact hbig
 case qc6=>simp
 intro v' w1 hown hgrow hnil;go_wp2;go_ret;refine ⟨v',rfl,by simpa using hown,?_,?_⟩
 ·exact hnil
 ·exact ((Below.refl _ w).alloc (Qa _) _).grown hgrow (by simp) (by intro k hk; simp [Value.ownBlock] at hk; omega)
theorem Vf1 {T:Nat->Type} {C:Cd T} {P:Program} {G:Nat->Option (List D)} {f:FuncId} {c:Nat} {F:tySs T (slots [.rs c])->Option (tyO T (slots [.rs c])×tyFs T [.own c])}
  (hsz:0 < C.sz c)
  (hfn : ∃ fn, P.funcs[f]? = some fn ∧ fn.body.isSome = true ∧ (fn.name == "runtime.NumGoroutine") = false) {te : TypeId}
  (hF:∀ x r,F x=some r->r.2.1=x.1/\List.length x.1<=1000000)
  (hnil:∀ (n cap:Nat) (w:World),Calls P f #[.slice none n cap] w λe w'=>e = .returned (.slice none 0 0)/\w'=w)
  (hat:∀ (a:Addr) (n cap:Nat) (news:List Value) (w:World),news.length=n * C.sz c->n<=1000000->(∀ j u,news[j]? = some u->w.cell? (a.add j)=some u)->(∀ u∈news,u.oneCell'=true) ->
   Calls P f #[.slice (some a) n cap] w λe w'=>∃ v',e = .returned v'/\w'.ownsRow w.heap.size te (C.sz c) v' n news/\v'≠.slice none 0 0/\RowKit.Below w.heap.size w w') :
  SoundT P C G f ⟨slots [.rs c],[.own c],F⟩:=by
 refine ⟨hfn,λI own w args x r hI hown hG hv hFx=>?_⟩;obtain ⟨hr,hlen⟩:=hF x r hFx;have hv0:=hv;obtain ⟨v,vr,_,_,rfl,h1,rfl,_⟩:=hv;change V I w (.rs (C.sz c) (List.map (C.encD c) x.1)) free v at h1;have fin:∀ (a:Addr) (cap:Nat) (news:List Value),v = .slice (some a) (List.length x.1) cap->news.length=List.length x.1 * C.sz c->(∀ j u,news[j]? = some u->w.cell? (a.add j)=some u)->(∀ u∈news,u.oneCell'=true) ->
   (∀ (I':Nat->Prop) (w':World) (b' o':Nat),Ext I I' w w'->(∀ j u,news[j]? = some u->w'.cell? ⟨b',o'+j,none⟩=some u)->VR I' w' (C.sz c) (List.map (C.encD c) x.1) b' o') ->
   Calls P f #[v] w λe w'=>∃ vs I' o1 o2,e = .returned (resV vs)/\Fr (λk=>own k\/w.heap.size<=k) w w'/\(∀ b,rowSize w b<=rowSize w' b)/\(∀ k,I k->I' k)/\(∀ k,I' k->I k\/own k\/w.heap.size<=k)/\(∀ k,I' k->k < w'.heap.size) /\
   (∀ k,o1 k\/o2 k->(own k\/w.heap.size<=k)/\¬ I' k/\k < w'.heap.size)/\(∀ k,o1 k->¬ o2 k)/\SVOuts C I' w' (slots [.rs c]) r.1 [v] o1/\SVVs C I' w' [.own c] r.2 vs o2:=by
  intro a cap news hva hnl hcell hone hback;subst hva;refine (hat a (List.length x.1) cap news w hnl hlen hcell hone).mono ?_;rintro e w' ⟨v',rfl,⟨hxl,hrow⟩,hne,hb⟩;rcases hrow with ⟨h,_⟩ | ⟨g,cap',cur,hv',hge,hheap,hn,_,hcs,htk⟩
  ·exact absurd h hne
  have hg:g < w'.heap.size:=(Array.getElem?_eq_some_iff.1 hheap).1;have hrows:∀ b,rowSize w b<=rowSize w' b:=by
   intro b;by_cases hlt:b < w.heap.size
   ·unfold rowSize; rw [hb.block b hlt]; exact Qa _
   ·unfold rowSize;have:w.heap[b]? = none:=by simp; omega
    simp [this]
  refine ⟨[v'],I,none',λk=>k=g,rfl,⟨hb.os,hb.tape,hb.output,hb.size,λb hb1 _=>hb.block b hb1⟩,hrows,λ_ h=>h,λ_ h=>.inl h,λk hk=>Nat.lt_of_lt_of_le (hI k hk) hb.size,?_,λ_ h=>h.elim,Vco [.rs c] _ _ _ hv0,?_⟩
  ·rintro k (hk | rfl)
   ·exact hk.elim
   ·exact ⟨.inr hge,λh=>absurd (hI _ h) (by omega),hg⟩
  ·refine ⟨v',[],λk=>k=g,none',rfl,?_,rfl,λ_ h=>h,λ_ h=>h.elim,λ_ _ h=>h⟩;show SVO C I w' c r.2.1 v' _;rw [hr];have hle:List.length x.1 * C.sz c<=cap' * C.sz c:=Nat.mul_le_mul_right _ hn;refine .inr ⟨g,0,cap',cur,te,(0,0),hv',hn,.inr rfl,by rw [hcs]; omega,by rw [hcs]; omega,hheap,unfz0 _,rfl,?_⟩;refine hback I w' g 0 ⟨λ_ h=>h,λb hb1=>hb.block b (hI b hb1),hrows⟩ λj u hj=>?_;have hj2:j < news.length:=(List.getElem?_eq_some_iff.1 hj).1;have e1:cur.toList[j]? = some u:=by
    have e2:=congrArg (·[j]?) htk;dsimp only at e2;rw [List.getElem?_take_of_lt (by omega)] at e2;rw [e2];exact hj
   simp only [World.cell?,hheap,Qd];simpa using e1
 simp only [V] at h1;rcases h1 with ⟨hrows,p,cap,rfl⟩ | ⟨b,o,cap,rfl,hcap,hIb,hvr⟩
 ·have hx0:x.1=[]:=List.map_eq_nil_iff.1 hrows;cases p with
  | some a=>exact fin a cap [] (by rw [hx0]; rfl) (by rw [hx0]; simp) (λj u h=>by simp at h) (λu h=>by simp at h) (λI' w' b' o' _ _=>by rw [hx0,List.map_nil]; simp only [VR])
  | none=>
   refine (hnil 0 cap w).mono ?_;rintro e w' ⟨rfl,rfl⟩;refine ⟨[.slice none 0 0],I,none',none',rfl,⟨rfl,rfl,rfl,Qa _,λ_ _ _=>rfl⟩,λ_=>Qa _,λ_ h=>h,λ_ h=>.inl h,hI,λk hk=>by rcases hk with hk | hk<;>exact hk.elim,λ_ h=>h.elim,Vco [.rs c] _ _ _ hv0,?_⟩;refine ⟨_,[],none',none',rfl,?_,rfl,λ_ h=>h,λ_ h=>h,λ_ h=>h.elim⟩;show SVO C I _ c r.2.1 _ _;rw [hr,hx0];exact .inl ⟨rfl,rfl⟩
 ·obtain ⟨news,n1,n2,n3,n4⟩:=Vnd hvr;have n1:news.length=List.length x.1 * C.sz c:=n1.trans (congrArg (· * C.sz c) (Qf (C.encD c)));refine fin ⟨b,o,none⟩ cap news (congrArg (λn=>Value.slice (some ⟨b,o,none⟩) n cap) (Qf (C.encD c))) n1 ?_ n3 n4;intro j u hj;rw [<- n2 j u hj];congr 1;simp only [Addr.add];split<;>simp_all
end Go.Abs
