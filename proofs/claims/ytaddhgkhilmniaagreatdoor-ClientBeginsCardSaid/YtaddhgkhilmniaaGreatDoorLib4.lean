/- The library of abstract values, part 4: see the remarks ahead of each part. No condition. -/
import Derived.Test.YtaddhgkhilmniaaGreatDoorLib2
import Derived.Test.YtaddhgkhilmniaaGreatDoorLib3
set_option linter.unusedVariables false
set_option linter.unusedSimpArgs false
namespace Go.Abs
open Go
inductive DT (T:Nat->Type) where
 | dead
 | bool (b:Bool)
 | int (k:IntKind) (n:Int)
 | u8 (x:UInt8)
 | u16 (x:BitVec 16)
 | u32 (x:BitVec 32)
 | u64 (x:BitVec 64)
 | str (l:List UInt8)
 | lit (v:Value)
 | nilp
 | rp (cs:List (DT T))
 | bp (b off:Nat)
 | mp (b:Nat)
 | ap (b g c i off:Nat)
 | nils
 | rs (c:Nat) (l:List (T c))
 | rn (c:Nat) (l:List (T c))
 | bs (b g c i n:Nat)
 | bw (b g c n:Nat)
 | agg (cs:List (DT T))
 | tup (vs:List (DT T))
 | fn (f:Nat) (cap:List (DT T))
def rnD (s:Nat) (rows:List (List D)):D:=
 match rows with
 | []=>.nils
 | row::r=>.rs s (row::r)
theorem Vjd (s:Nat) (rows:List (List D)) (l:List D):(rnD s rows = .agg l)=False:=by
 cases rows<;>simp [rnD]
def dval:D->Value
 | .bool b=>.bool b
 | .int k n=>.int k n
 | .str l=>.string ⟨l.toArray⟩
 | _=>.nilFunc
def keyV (a:Bool) (cs:List D):Value:=
 match a with
 | true=>.agg (cs.map dval).toArray
 | false=>dval (cs.headD .dead)
structure Cd (T:Nat->Type) where
 sz:Nat->Nat
 encD:(c:Nat)->T c->List D
 enc:(c:Nat)->T c->List (DT T)
 dec:(c:Nat)->List (DT T)->Option (T c)
 bt:Nat
 hb:T bt=UInt8
 rn:Nat->List Bool:=λ_=>[]
 im:Nat->Bool:=λ_=>false
 la:Nat->Option Nat:=λ_=>none
 keq:(c:Nat)->Option (List Nat×(T c->T c->Bool)):=λ_=>none
inductive BoxT (T:Nat->Type) where
 | gone
 | lent
 | var (cs:List (DT T))
 | arr (g c:Nat) (l:List (T c))
 | frz (g c:Nat) (l:List (T c))
 | iter (l:List UInt8) (pos:Nat)
 | mset (a:Bool) (c:Nat) (l:List (T c))
variable {T:Nat->Type}
mutual
def den (C:Cd T):DT T->D
 | .dead=>.dead
 | .bool b=>.bool b
 | .int k n=>.int k n
 | .u8 x=>.int .u8 x.toNat
 | .u16 x=>.int .u16 x.toNat
 | .u32 x=>.int .u32 x.toNat
 | .u64 x=>.int .u64 x.toNat
 | .str l=>.str l
 | .lit v=>.lit v
 | .nilp=>.nilp
 | .rp cs=>.rp (denL C cs)
 | .bp b off=>.bp b off
 | .mp b=>.mp b
 | .ap b g c i off=>.ap b g (C.sz c) i off
 | .nils=>.nils
 | .rs c l=>.rs (C.sz c) (l.map (C.encD c))
 | .rn c l=>rnD (C.sz c) (l.map (C.encD c))
 | .bs b g c i n=>.bs b g (C.sz c) i n
 | .bw b g c n=>.bs b g (C.sz c) 0 n
 | .agg cs=>.agg (denL C cs)
 | .tup cs=>.tup (denL C cs)
 | .fn f cs=>.fn f (denL C cs)
def denL (C:Cd T):List (DT T)->List D
 | []=>[]
 | d::r=>den C d::denL C r
end
theorem Vaq (C:Cd T):∀ l:List (DT T),denL C l=l.map (den C)
 | []=>rfl
 | d::r=>by simp [denL,Vaq C r]
def denB (C:Cd T):BoxT T->Box
 | .gone=>.gone
 | .lent=>.lent
 | .var cs=>.var (denL C cs)
 | .arr g c l=>.arr g (C.sz c) (l.map (C.encD c))
 | .frz g c l=>.frz g (C.sz c) (l.map (C.encD c))
 | .iter l pos=>.iter l pos
 | .mset a c l=>.mset (l.map λx=>keyV a (C.encD c x))
abbrev MT (T:Nat->Type):=List (BoxT T)
def MT.get (m:MT T) (b:Nat):BoxT T:=List.getD m b .gone
def denM (C:Cd T) (m:MT T):Mem:=⟨m.length,λb=>denB C (m.get b)⟩
mutual
def DT.pure:DT T->Bool
 | .dead=>true
 | .bool _=>true
 | .int _ _=>true
 | .u8 _=>true
 | .u16 _=>true
 | .u32 _=>true
 | .u64 _=>true
 | .str _=>true
 | .lit _=>true
 | .nilp=>true
 | .nils=>true
 | .rs _ _=>true
 | .rn _ _=>true
 | .rp _=>true
 | .agg cs=>pureTL cs
 | _=>false
def pureTL:List (DT T)->Bool
 | []=>true
 | d::r=>d.pure&&pureTL r
end
mutual
def WfD (L:Nat->Nat->Nat):DT T->Prop
 | .bw b g _ n=>L b g=n
 | .agg cs=>WfL L cs
 | .tup cs=>WfL L cs
 | .fn _ cs=>WfL L cs
 | _=>True
def WfL (L:Nat->Nat->Nat):List (DT T)->Prop
 | []=>True
 | d::r=>WfD L d/\WfL L r
end
def WfB (L:Nat->Nat->Nat) (b:Nat):BoxT T->Prop
 | .var cs=>WfL L cs
 | .arr g _ l=>L b g=l.length
 | .frz g _ l=>L b g=l.length
 | _=>True
def WfM (L:Nat->Nat->Nat) (m:MT T):Prop:=∀ b,WfB L b (m.get b)
mutual
theorem DT.pure_den (C:Cd T):∀ d:DT T,d.pure=true->(den C d).pure=true
 | .dead,_=>rfl
 | .bool _,_=>rfl
 | .int _ _,_=>rfl
 | .u8 _,_=>rfl
 | .u16 _,_=>rfl
 | .u32 _,_=>rfl
 | .u64 _,_=>rfl
 | .str _,_=>rfl
 | .lit _,_=>rfl
 | .nilp,_=>rfl
 | .nils,_=>rfl
 | .rs _ _,_=>rfl
 | .rn _ l,_=>by cases l<;>rfl
 | .rp _,_=>rfl
 | .agg cs,h=>by
  simp only [DT.pure] at h;simp only [den,D.pure];exact Vca C cs h
 | .bp _ _,h=>by cases h
 | .mp _,h=>by cases h
 | .ap _ _ _ _ _,h=>by cases h
 | .bs _ _ _ _ _,h=>by cases h
 | .bw _ _ _ _,h=>by cases h
 | .tup _,h=>by cases h
 | .fn _ _,h=>by cases h
theorem Vca (C:Cd T):∀ l:List (DT T),pureTL l=true->pureL (denL C l)=true
 | [],_=>rfl
 | d::r,h=>by
  simp only [pureTL,Bool.and_eq_true] at h;simp only [denL,pureL,Bool.and_eq_true];exact ⟨DT.pure_den C d h.1,Vca C r h.2⟩
end
mutual
theorem Vws (L:Nat->Nat->Nat):∀ d:DT T,d.pure=true->WfD L d
 | .agg cs,h=>by
  simp only [DT.pure] at h;simp only [WfD];exact Vje L cs h
 | .dead,_=>trivial
 | .bool _,_=>trivial
 | .int _ _,_=>trivial
 | .u8 _,_=>trivial
 | .u16 _,_=>trivial
 | .u32 _,_=>trivial
 | .u64 _,_=>trivial
 | .str _,_=>trivial
 | .lit _,_=>trivial
 | .nilp,_=>trivial
 | .nils,_=>trivial
 | .rs _ _,_=>trivial
 | .rn _ _,_=>trivial
 | .rp _,_=>trivial
 | .bp _ _,h=>by cases h
 | .mp _,h=>by cases h
 | .ap _ _ _ _ _,h=>by cases h
 | .bs _ _ _ _ _,h=>by cases h
 | .bw _ _ _ _,h=>by cases h
 | .tup _,h=>by cases h
 | .fn _ _,h=>by cases h
theorem Vje (L:Nat->Nat->Nat):∀ l:List (DT T),pureTL l=true->WfL L l
 | [],_=>trivial
 | d::r,h=>by
  simp only [pureTL,Bool.and_eq_true] at h;exact ⟨Vws L d h.1,Vje L r h.2⟩
end
def DT.cells:DT T->List (DT T)
 | .agg cs=>cs
 | d=>[d]
def DT.one:DT T->Bool
 | .agg _=>false
 | .tup _=>false
 | .dead=>false
 | .lit (.agg _)=>false
 | .lit (.tuple _)=>false
 | _=>true
def DT.fit:DT T->Bool
 | .agg _=>true
 | d=>d.one
def solidL:List (DT T)->Bool
 | []=>true
 | d::r=>(d.pure&&d.one)&&solidL r
theorem Vcy:∀ {l:List (DT T)},solidL l=true->pureTL l=true
 | [],_=>rfl
 | d::r,h=>by
  simp only [solidL,Bool.and_eq_true] at h;simp only [pureTL,Bool.and_eq_true];exact ⟨h.1.1,Vcy h.2⟩
theorem Vhf:∀ {l:List (DT T)},solidL l=true->∀ d∈l,d.pure=true/\d.one=true
 | [],_,d,hd=>by simp at hd
 | x::r,h,d,hd=>by
  simp only [solidL,Bool.and_eq_true] at h;rcases List.mem_cons.1 hd with rfl | hd
  ·exact h.1
  ·exact Vhf h.2 d hd
structure CdOk (C:Cd T):Prop where
 len:∀ c x,(C.encD c x).length=C.sz c
 enc:∀ c x,denL C (C.enc c x)=C.encD c x
 epure:∀ c x,pureTL (C.enc c x)=true
 byte:∀ x,C.encD C.bt x=[.int .u8 (cast C.hb x).toNat]
 bsz:C.sz C.bt=1
 dec:∀ c ds x,C.dec c ds=some x->solidL ds=true/\∀ (I:Nat->Prop) (w:World) (vs:List Value),VL I w (denL C ds) free vs->VL I w (C.encD c x) free vs
 keq:∀ c q f,C.keq c=some (q,f)->∀ x y,eqCells q (C.encD c x) (C.encD c y)=some (f x y):=by intro _ _ _ h; cases h
theorem Vbe (C:Cd T) (d:DT T):(den C d).cells=denL C d.cells:=by
 cases d
 case rn c l=>cases l<;>rfl
 all_goals rfl
theorem Vbw (C:Cd T) (d:DT T):d.fit=true->(den C d).fit=true:=by
 cases d
 case rn c l=>intro _; cases l<;>rfl
 all_goals simp [DT.fit,DT.one,den,D.fit,D.one]
 rename_i v;cases v<;>simp
theorem Vbp {L:Nat->Nat->Nat} {d:DT T} (h:WfD L d):WfL L d.cells:=by
 cases d<;>first | exact ⟨h,trivial⟩ | exact h
theorem WfL_iff {L:Nat->Nat->Nat}:∀ {l:List (DT T)},WfL L l↔∀ d∈l,WfD L d
 | []=>by simp [WfL]
 | d::r=>by simp [WfL,WfL_iff (l:=r)]
theorem Veb {L:Nat->Nat->Nat} {l:List (DT T)} (n:Nat) (h:WfL L l):WfL L (l.drop n):=
 WfL_iff.2 λd hd=>WfL_iff.1 h d (List.mem_of_mem_drop hd)
theorem Vjf {L:Nat->Nat->Nat} {l:List (DT T)} (n:Nat) (h:WfL L l):WfL L (l.take n):=
 WfL_iff.2 λd hd=>WfL_iff.1 h d (List.mem_of_mem_take hd)
theorem Va1 (C:Cd T) (l:List (DT T)) (n:Nat):denL C (l.drop n)=(denL C l).drop n:=by simp [Vaq]
theorem Vcz (C:Cd T) (l:List (DT T)) (n:Nat):denL C (l.take n)=(denL C l).take n:=by simp [Vaq]
theorem Van (C:Cd T) (l:List (DT T)):(denL C l).length=l.length:=by simp [Vaq]
theorem Vwt (C:Cd T) (l:List (DT T)) (i:Nat):(denL C l)[i]? = (l[i]?).map (den C):=by simp [Vaq]
def setT:List (DT T)->Nat->List (DT T)->List (DT T)
 | cs,_,[]=>cs
 | [],_,_::_=>[]
 | _::cs,0,v::vs=>v::setT cs 0 vs
 | c::cs,k+1,v::vs=>c::setT cs k (v::vs)
theorem Vc0 (C:Cd T):∀ (cs:List (DT T)) (k:Nat) (vs:List (DT T)),denL C (setT cs k vs)=setCells (denL C cs) k (denL C vs)
 | cs,k,[]=>by cases cs<;>cases k<;>simp [setT,setCells,denL]
 | [],k,_::_=>by simp [setT,setCells,denL]
 | c::cs,0,v::vs=>by simp [setT,setCells,denL,Vc0 C cs 0 vs]
 | c::cs,k+1,v::vs=>by
  have:=Vc0 C cs k (v::vs);simp only [denL] at this;simp [setT,setCells,denL,this]
theorem Vgb {L:Nat->Nat->Nat}:∀ (cs:List (DT T)) (k:Nat) (vs:List (DT T)),WfL L cs->WfL L vs->WfL L (setT cs k vs)
 | cs,k,[],h,_=>by cases cs<;>cases k<;>simpa [setT] using h
 | [],k,_::_,h,_=>by simp [setT,WfL]
 | c::cs,0,v::vs,h,hv=>by
  simp only [WfL] at h hv;simp only [setT,WfL];exact ⟨hv.1,Vgb cs 0 vs h.2 hv.2⟩
 | c::cs,k+1,v::vs,h,hv=>by
  simp only [WfL] at h;simp only [setT,WfL];exact ⟨h.1,Vgb cs k (v::vs) h.2 hv⟩
inductive TK where
 | bool | str | int (k:IntKind) | slice (e:Nat) | arr (n e:Nat) | strct | ptr (e:Nat) | map (k e:Nat) | other
 deriving DecidableEq
inductive Zc where
 | b | i (k:IntKind) | s | np | ns | nf | ni | nm
 deriving DecidableEq
structure TI where
 code:Nat
 sz:Nat
 bts:Nat
 kind:TK
 zero:List Zc
 flds:List (Option (Nat×Nat))
 places:List (Nat×Nat)
 eqs:Option (List Nat)
def TK.agg:TK->Bool
 | .strct=>true
 | .arr _ _=>true
 | _=>false
def mkInt (k:IntKind) (n:Int):DT T:=
 match k with
 | .u8=>.u8 (UInt8.ofBitVec (BitVec.ofInt 8 n))
 | .u16=>.u16 (BitVec.ofInt 16 n)
 | .u32=>.u32 (BitVec.ofInt 32 n)
 | .u64=>.u64 (BitVec.ofInt 64 n)
 | k=>.int k n
def Zc.toT:Zc->DT T
 | .b=>.bool false
 | .i k=>mkInt k 0
 | .s=>.str []
 | .np=>.nilp
 | .ns=>.nils
 | .nf=>.lit .nilFunc
 | .ni=>.lit .nilIface
 | .nm=>.lit (.map none)
def Zc.toD:Zc->D
 | .b=>.bool false
 | .i k=>.int k 0
 | .s=>.str []
 | .np=>.nilp
 | .ns=>.nils
 | .nf=>.lit .nilFunc
 | .ni=>.lit .nilIface
 | .nm=>.lit (.map none)
theorem Zc.den (C:Cd T) (z:Zc):Abs.den C (z.toT:DT T)=z.toD:=by
 cases z with
 | i k=>cases k<;>rfl
 | _=>rfl
inductive Tr where
 | leaf
 | node (l:Tr) (k:Nat) (v:TI) (r:Tr)
def Tr.find:Tr->Nat->Option TI
 | .leaf,_=>none
 | .node l k v r,t=>match Nat.beq t k with
  | true=>some v
  | false=>match Nat.blt t k with
   | true=>l.find t
   | false=>r.find t
structure TIok (P:Program) (t:Nat) (i:TI):Prop where
 sz:tsz P t=some i.sz
 bts:tbytes P t=some i.bts
 agg:tagg P t=some i.kind.agg
 int:∀ k,i.kind = .int k->tint P t=some k
 str:i.kind = .str->tstr P t=true
 bool:i.kind = .bool->tbool P t=true
 elem:∀ e,i.kind = .slice e->telem P t=some e
 nelem:(∀ e,i.kind≠.slice e)->telem P t=none
 arr:∀ n e,i.kind = .arr n e->tarr P t=some (n,e)
 narr:(∀ n e,i.kind≠.arr n e)->tarr P t=none
 ptr:∀ e,i.kind = .ptr e->P.underlying t=some (.pointer e)
 zero:tzero P t=some (if i.kind.agg=true then .agg (i.zero.map Zc.toD) else (i.zero.map Zc.toD).headD .dead)
 zlen:i.zero.length=i.sz
 one:i.kind.agg=false->i.sz=1
 fld:∀ k o ft,i.flds[k]? = some (some (o,ft))->tfld P t k=some (o,ft)
 places:i.kind = .strct->tplaces P t=some i.places
 nplaces:i.kind≠.strct->tplaces P t=none
 eqs:∀ q,i.eqs=some q->flatEq P t=some q
 map:∀ k e,i.kind = .map k e->P.underlying t=some (.map k e)
def TysOk (P:Program) (Y:Nat->Option TI):Prop:=∀ t i,Y t=some i->TIok P t i
def Tr.All (p:Nat->TI->Prop):Tr->Prop
 | .leaf=>True
 | .node l k v r=>l.All p/\p k v/\r.All p
theorem Tr.find_all {p:Nat->TI->Prop}:∀ {y:Tr} {t:Nat} {i:TI},y.All p->y.find t=some i->p t i
 | .leaf,_,_,_,h=>by cases h
 | .node l k v r,t,i,ha,h=>by
  simp only [Tr.find] at h;split at h
  ·rename_i e;simp only [Option.some.injEq] at h; subst h;have:=Nat.eq_of_beq_eq_true e;subst this; exact ha.2.1
  ·split at h
   ·exact Tr.find_all ha.1 h
   ·exact Tr.find_all ha.2.2 h
def getI {α:Type} (l:List α) (i:Int):Option α:=bif decide (0<=i) then l[i.toNat]? else none
section
variable {T:Nat->Type} {R:Type}
def mapK {α β:Type} (f:α->(β->Option R)->Option R):List α->(List β->Option R)->Option R
 | [],K=>K []
 | d::r,K=>f d λd'=>mapK f r λr'=>K (d'::r')
def atK {α:Type} (l:List α) (x:DT T) (K:α->Option R):Option R:=
 match x with
 | .int _ i=>(getI l i).bind K
 | .u8 x=>(l[x.toNat]?).bind K
 | .u16 x=>(l[x.toNat]?).bind K
 | .u32 x=>(l[x.toNat]?).bind K
 | .u64 x=>(l[x.toNat]?).bind K
 | _=>none
def ltK (x:DT T) (n:Nat) (K:Nat->Option R):Option R:=
 match x with
 | .int _ i=>bif decide (0<=i)&&decide (i < n) then K i.toNat else none
 | .u8 x=>bif decide (x.toNat < n) then K x.toNat else none
 | .u16 x=>bif decide (x.toNat < n) then K x.toNat else none
 | .u32 x=>bif decide (x.toNat < n) then K x.toNat else none
 | .u64 x=>bif decide (x.toNat < n) then K x.toNat else none
 | _=>none
def leK (x:DT T) (n:Nat) (K:Nat->Option R):Option R:=
 match x with
 | .int _ i=>bif decide (0<=i)&&decide (i<=n) then K i.toNat else none
 | .u8 x=>bif decide (x.toNat<=n) then K x.toNat else none
 | .u16 x=>bif decide (x.toNat<=n) then K x.toNat else none
 | .u32 x=>bif decide (x.toNat<=n) then K x.toNat else none
 | .u64 x=>bif decide (x.toNat<=n) then K x.toNat else none
 | _=>none
def cutK {R:Type} (n:Nat) (lo hi:Option (DT T)) (K:Option Nat->Option Nat->Option R):Option R:=
 match lo,hi with
 | none,none=>K none none
 | some a,none=>leK a n λa=>K (some a) none
 | none,some b=>leK b n λb=>K none (some b)
 | some a,some b=>leK b n λb=>leK a b λa=>K (some a) (some b)
def cutL {α:Type} (l:List α):Option Nat->Option Nat->List α
 | none,none=>l
 | some a,none=>l.drop a
 | none,some b=>l.take b
 | some a,some b=>(l.take b).drop a
def cntK (y:DT T) (K:Nat->Option R):Option R:=
 match y with
 | .int _ n=>bif decide (0<=n) then K n.toNat else none
 | .u8 x=>K x.toNat
 | .u16 x=>K x.toNat
 | .u32 x=>K x.toNat
 | .u64 x=>K x.toNat
 | _=>none
def intK (op:BinOp) (k:IntKind) (a:Int) (k':IntKind) (b:Int) (K:DT T->Option R):Option R:=
 match decide (k=k') with
 | false=>none
 | true=>match op with
  | .add=>K (.int k (k.wrap (a+b)))
  | .sub=>K (.int k (k.wrap (a - b)))
  | .mul=>K (.int k (k.wrap (a * b)))
  | .quo=>bif decide (b=0) then none else K (.int k (k.wrap (a.tdiv b)))
  | .rem=>bif decide (b=0) then none else K (.int k (a.tmod b))
  | .and=>K (.int k (k.wrap (BitVec.ofInt k.bits a &&& BitVec.ofInt k.bits b).toNat))
  | .or=>K (.int k (k.wrap (BitVec.ofInt k.bits a ||| BitVec.ofInt k.bits b).toNat))
  | .xor=>K (.int k (k.wrap (BitVec.ofInt k.bits a ^^^ BitVec.ofInt k.bits b).toNat))
  | .andNot=>K (.int k (k.wrap (BitVec.ofInt k.bits a &&& ~~~ BitVec.ofInt k.bits b).toNat))
  | .eql=>K (.bool (decide (a=b)))
  | .neq=>K (.bool (!decide (a=b)))
  | .lss=>K (.bool (decide (a < b)))
  | .leq=>K (.bool (decide (a<=b)))
  | .gtr=>K (.bool (decide (b < a)))
  | .geq=>K (.bool (decide (b<=a)))
  | _=>none
def bvK {w:Nat} (op:BinOp) (a b:BitVec w) (K:BitVec w->Option R) (Q:Bool->Option R):Option R:=
 match op with
 | .add=>K (a+b)
 | .sub=>K (a - b)
 | .mul=>K (a * b)
 | .quo=>bif decide (b=0) then none else K (a / b)
 | .rem=>bif decide (b=0) then none else K (a % b)
 | .and=>K (a &&& b)
 | .or=>K (a ||| b)
 | .xor=>K (a ^^^ b)
 | .andNot=>K (a &&& ~~~ b)
 | .eql=>Q (decide (a=b))
 | .neq=>Q (!decide (a=b))
 | .lss=>Q (decide (a.toNat < b.toNat))
 | .leq=>Q (decide (a.toNat<=b.toNat))
 | .gtr=>Q (decide (b.toNat < a.toNat))
 | .geq=>Q (decide (b.toNat<=a.toNat))
 | _=>none
def shlK (x:DT T) (n:Nat) (K:DT T->Option R):Option R:=
 match x with
 | .int k a=>K (.int k (k.wrap (a * 2 ^ (min n k.bits))))
 | .u8 x=>K (.u8 (UInt8.ofBitVec (x.toBitVec <<< n)))
 | .u16 x=>K (.u16 (x <<< n))
 | .u32 x=>K (.u32 (x <<< n))
 | .u64 x=>K (.u64 (x <<< n))
 | _=>none
def shrK (x:DT T) (n:Nat) (K:DT T->Option R):Option R:=
 match x with
 | .int k a=>K (.int k (a.fdiv (2 ^ (min n k.bits))))
 | .u8 x=>K (.u8 (UInt8.ofBitVec (x.toBitVec >>> n)))
 | .u16 x=>K (.u16 (x >>> n))
 | .u32 x=>K (.u32 (x >>> n))
 | .u64 x=>K (.u64 (x >>> n))
 | _=>none
def strK (op:BinOp) (a b:List UInt8) (K:DT T->Option R):Option R:=
 match op with
 | .add=>bif Nat.ble (a.length+b.length) 9223372036854775807 then K (.str (a++b)) else none
 | .eql=>K (.bool (decide (a=b)))
 | .neq=>K (.bool (!decide (a=b)))
 | .lss=>K (.bool (Op.bytesLess a b))
 | .leq=>K (.bool (Op.bytesLess a b||decide (a=b)))
 | .gtr=>K (.bool (!(Op.bytesLess a b||decide (a=b))))
 | .geq=>K (.bool (!Op.bytesLess a b))
 | _=>none
def eqC1:Nat->DT T->DT T->Option Bool
 | 3,.int k a,.int k' b=>match decide (k=k') with
  | true=>some (decide (a=b))
  | false=>none
 | 3,.u8 a,.u8 b=>some (decide (a=b))
 | 3,.u16 a,.u16 b=>some (decide (a=b))
 | 3,.u32 a,.u32 b=>some (decide (a=b))
 | 3,.u64 a,.u64 b=>some (decide (a=b))
 | 1,.bool a,.bool b=>some (a == b)
 | 2,.str a,.str b=>some (decide (a=b))
 | _,_,_=>none
def eqCT:List Nat->List (DT T)->List (DT T)->Option Bool
 | [],[],[]=>some true
 | q::qs,x::r,y::r'=>match eqC1 q x y with
  | some p=>match eqCT qs r r' with
   | some p'=>some (p&&p')
   | none=>none
  | none=>none
 | _,_,_=>none
def elemT (Y:Nat->Option TI) (t:Nat):Option Nat:=
 match Y t with
 | some i=>match i.kind with
  | .slice e=>some e
  | _=>none
 | none=>none
def binK (Y : Nat->Option TI) (op : BinOp) (t : Nat) (x y : DT T) (K : DT T->Option R) : Option R :=
 match op with
 | .shl=>cntK y λn=>shlK x n K
 | .shr=>cntK y λn=>shrK x n K
 | _ => match x with
  | .int k a=>match y with
   | .int k' b=>intK op k a k' b K
   | _=>none
  | .u8 a=>match y with
   | .u8 b=>bvK op a.toBitVec b.toBitVec (λz=>K (.u8 (UInt8.ofBitVec z))) (λq=>K (.bool q))
   | _=>none
  | .u16 a=>match y with
   | .u16 b=>bvK op a b (λz=>K (.u16 z)) (λq=>K (.bool q))
   | _=>none
  | .u32 a=>match y with
   | .u32 b=>bvK op a b (λz=>K (.u32 z)) (λq=>K (.bool q))
   | _=>none
  | .u64 a=>match y with
   | .u64 b=>bvK op a b (λz=>K (.u64 z)) (λq=>K (.bool q))
   | _=>none
  | .str a=>match y with
   | .str b=>strK op a b K
   | _=>none
  | .bool a=>match y with
   | .bool b=>match Y t with
    | some i=>match i.kind with
     | .bool=>match op with
      | .eql=>K (.bool (a == b))
      | .neq=>K (.bool (!(a == b)))
      | _=>none
     | _=>none
    | none=>none
   | _=>none
  | .agg xs => match y with
   | .agg ys=>match Y t with
    | some i=>match i.eqs with
     | some q=>match op with
      | .eql=>match eqCT q xs ys with
       | some p=>K (.bool p)
       | none=>none
      | .neq=>match eqCT q xs ys with
       | some p=>K (.bool (!p))
       | none=>none
      | _=>none
     | none=>none
    | none=>none
   | _=>none
  | .rn _ l=>match y with
   | .nils=>match elemT Y t with
    | some _=>match op with
     | .eql=>K (.bool l.isEmpty)
     | .neq=>K (.bool (!l.isEmpty))
     | _=>none
    | none=>none
   | _=>none
  | _=>none
def unK (op:UnOp) (x:DT T) (K:DT T->Option R):Option R:=
 match op,x with
 | .not,.bool b=>K (.bool (!b))
 | .neg,.int k n=>K (.int k (k.wrap (0 - n)))
 | .neg,.u8 x=>K (.u8 (UInt8.ofBitVec (- x.toBitVec)))
 | .neg,.u16 x=>K (.u16 (- x))
 | .neg,.u32 x=>K (.u32 (- x))
 | .neg,.u64 x=>K (.u64 (- x))
 | .xor,.int k n=>K (.int k (k.wrap (BitVec.ofInt k.bits (if k.signed then -1 else k.max) ^^^ BitVec.ofInt k.bits n).toNat))
 | .xor,.u8 x=>K (.u8 (UInt8.ofBitVec (~~~ x.toBitVec)))
 | .xor,.u16 x=>K (.u16 (~~~ x))
 | .xor,.u32 x=>K (.u32 (~~~ x))
 | .xor,.u64 x=>K (.u64 (~~~ x))
 | _,_=>none
def cvtU {w:Nat} (k:IntKind) (x:BitVec w):DT T:=
 match k with
 | .u8=>.u8 (UInt8.ofBitVec (x.setWidth 8))
 | .u16=>.u16 (x.setWidth 16)
 | .u32=>.u32 (x.setWidth 32)
 | .u64=>.u64 (x.setWidth 64)
 | k=>match Nat.blt w k.bits with
  | true=>.int k x.toNat
  | false=>.int k (k.wrap x.toNat)
def cvtI (k:IntKind) (n:Int):DT T:=
 match k with
 | .u8=>.u8 (UInt8.ofBitVec (BitVec.ofInt 8 n))
 | .u16=>.u16 (BitVec.ofInt 16 n)
 | .u32=>.u32 (BitVec.ofInt 32 n)
 | .u64=>.u64 (BitVec.ofInt 64 n)
 | k=>.int k (k.wrap n)
def convK (Y:Nat->Option TI) (src dst:Nat) (x:DT T) (K:DT T->Option R):Option R:=
 match Y src with
 | none=>none
 | some _=>match Y dst with
  | none=>none
  | some i=>match i.kind with
   | .int k=>match x with
    | .int _ n=>K (cvtI k n)
    | .u8 x=>K (cvtU k x.toBitVec)
    | .u16 x=>K (cvtU k x)
    | .u32 x=>K (cvtU k x)
    | .u64 x=>K (cvtU k x)
    | _=>none
   | .str=>match x with
    | .int _ n=>K (.str (Utf8.encode n).data.toList)
    | .str l=>K (.str l)
    | _=>none
   | _=>none
def loadT (Y:Nat->Option TI) (t:Nat) (cs:List (DT T)):Option (DT T):=
 match Y t with
 | none=>none
 | some i=>match i.kind.agg with
  | true=>match Nat.ble i.sz cs.length with
   | true=>some (.agg (cs.take i.sz))
   | false=>none
  | false=>cs.head?
def ldK (Y:Nat->Option TI) (t:Nat) (cs:List (DT T)) (K:DT T->Option R):Option R:=
 match loadT Y t cs with
 | some d=>K d
 | none=>none
def fillT (place:Nat->Option (Nat×Nat)):List (DT T)->List (Nat×DT T)->Option (List (DT T))
 | cells,[]=>some cells
 | cells,(i,x)::r=>match place i with
  | some (o,s)=>match x.fit&&(Nat.beq x.cells.length s&&Nat.ble (o+s) cells.length) with
   | true=>fillT place (setT cells o x.cells) r
   | false=>none
  | none=>none
def buildT (Y:Nat->Option TI) (t:Nat) (parts:List (Nat×DT T)):Option (DT T):=
 match Y t with
 | none=>none
 | some i=>match i.kind with
  | .strct=>(fillT (λj=>i.places[j]?) (i.zero.map Zc.toT) parts).map .agg
  | .arr _ e=>match Y e with
   | some j=>(fillT (λk=>some (k * j.sz,j.sz)) (i.zero.map Zc.toT) parts).map .agg
   | none=>none
  | _=>none
def fldT (Y:Nat->Option TI) (t k:Nat):Option (Nat×Nat):=
 match Y t with
 | some i=>match i.flds[k]? with
  | some q=>q
  | none=>none
 | none=>none
def fieldAddrT (Y:Nat->Option TI) (t:Nat) (x:DT T) (k:Nat):Option (DT T):=
 match fldT Y t k with
 | some (o,_)=>match x with
  | .bp b off=>some (.bp b (off+o))
  | .ap b g c i off=>some (.ap b g c i (off+o))
  | .rp cs=>some (.rp (cs.drop o))
  | _=>none
 | none=>none
def fieldT (Y:Nat->Option TI) (t:Nat) (x:DT T) (k:Nat):Option (DT T):=
 match fldT Y t k with
 | some (o,ft)=>match x with
  | .agg cs=>loadT Y ft (cs.drop o)
  | _=>none
 | none=>none
def arrT (Y:Nat->Option TI) (t:Nat):Option (Nat×Nat×Nat):=
 match Y t with
 | some i=>match i.kind with
  | .arr n e=>match Y e with
   | some j=>some (n,e,j.sz)
   | none=>none
  | _=>none
 | none=>none
def isStr (Y:Nat->Option TI) (t:Nat):Bool:=
 match Y t with
 | some i=>match i.kind with
  | .str=>true
  | _=>false
 | none=>false
def elemC (Y:Nat->Option TI) (C:Cd T) (t c:Nat):Bool:=
 match elemT Y t with
 | some e=>match Y e with
  | some j=>Nat.beq j.sz (C.sz c)
  | none=>false
 | none=>false
def u32s:List (DT T)->Option (List (BitVec 32))
 | []=>some []
 | .u32 v::r=>(u32s r).map λl=>v::l
 | _=>none
def splitN:Nat->Nat->(Nat->Option R)->Option R
 | 0,_,_=>none
 | n+1,k,K=>bif Nat.beq k n then K n else splitN n k K
def indexAddrK (Y:Nat->Option TI) (C:Cd T) (t:Nat) (x i:DT T) (K:DT T->Option R):Option R:=
 match x with
 | .rs c l=>match elemC Y C t c with
  | true=>atK l i λx=>K (.rp (C.enc c x))
  | false=>none
 | .bw b g c n=>match elemC Y C t c with
  | true=>ltK i n λk=>K (.ap b g c k 0)
  | false=>none
 | .bs b g c o n=>match elemC Y C t c with
  | true=>ltK i n λk=>K (.ap b g c (k+o) 0)
  | false=>none
 | .bp b off=>match arrT Y t with
  | some (n,_,s)=>ltK i n λk=>splitN n k λk=>K (.bp b (off+k * s))
  | none=>none
 | .rp cs=>match arrT Y t with
  | some (n,_,s)=>match Nat.beq s 1,u32s cs with
   | true,some l=>ltK i n λk=>(l[k]?).bind λv=>K (.rp (.u32 v::cs.drop (k+1)))
   | _,_=>ltK i n λk=>splitN n k λk=>K (.rp (cs.drop (k * s)))
  | none=>none
 | .ap b g c j 0=>match arrT Y t with
  | some (n,_,s)=>match Nat.beq s (C.sz c) with
   | true=>ltK i n λk=>K (.ap b g c (k+j) 0)
   | false=>none
  | none=>none
 | _=>none
def firstsK (C:Cd T) (c:Nat) (l:List (T c)):Nat->Nat->(List (DT T)->Option R)->Option R
 | 0,_,K=>K []
 | n+1,i,K=>(l[i]?).bind λx=>firstsK C c l n (i+1) λcs=>K (C.enc c x++cs)
def arrayAtK (Y:Nat->Option TI) (C:Cd T) (t:Nat) (x:DT T) (K:DT T->Option R):Option R:=
 match arrT Y t with
 | some (n,_,s)=>match Nat.blt 0 n with
  | true=>match x with
   | .rs c l=>match Nat.beq s (C.sz c) with
    | true=>firstsK C c l n 0 λcs=>K (.rp cs)
    | false=>none
   | .bw b g c m=>match Nat.beq s (C.sz c) with
    | true=>bif decide (n<=m) then K (.ap b g c 0 0) else none
    | false=>none
   | .bs b g c o m=>match Nat.beq s (C.sz c) with
    | true=>bif decide (n<=m) then K (.ap b g c o 0) else none
    | false=>none
   | _=>none
  | false=>none
 | none=>none
def capK (Y:Nat->Option TI) (t:Nat) (x:DT T) (K:DT T->Option R):Option R:=
 match x with
 | .nils=>match elemT Y t with
  | some _=>K (.int .i64 0)
  | none=>none
 | _=>none
def indexK (Y:Nat->Option TI) (t:Nat) (x i:DT T) (K:DT T->Option R):Option R:=
 match x with
 | .str l=>match isStr Y t with
  | true=>atK l i λb=>K (.u8 b)
  | false=>none
 | .agg cs=>match arrT Y t with
  | some (n,e,s)=>ltK i n λk=>ldK Y e (cs.drop (k * s)) K
  | none=>none
 | _=>none
def cutB (b g c o n:Nat):Option Nat->Option Nat->DT T
 | none,none=>.bs b g c o n
 | some a,none=>.bs b g c (a+o) (n - a)
 | none,some h=>.bs b g c o h
 | some a,some h=>.bs b g c (a+o) (h - a)
def sliceK (Y:Nat->Option TI) (C:Cd T) (t:Nat) (x:DT T) (lo hi:Option (DT T)) (K:DT T->Option R):Option R:=
 match x with
 | .str l=>match isStr Y t with
  | true=>cutK l.length lo hi λa b=>K (.str (cutL l a b))
  | false=>none
 | .nils=>match elemT Y t with
  | some e=>match Y e with
   | some _=>cutK 0 lo hi λ_ _=>K .nils
   | none=>none
  | none=>none
 | .rs c l=>match elemC Y C t c with
  | true=>cutK l.length lo hi λa b=>K (.rs c (cutL l a b))
  | false=>none
 | .bw b g c n=>match elemC Y C t c with
  | true=>cutK n lo hi λp q=>K (cutB b g c 0 n p q)
  | false=>none
 | .bs b g c o n=>match elemC Y C t c with
  | true=>cutK n lo hi λp q=>K (cutB b g c o n p q)
  | false=>none
 | _=>none
def sliceMK (Y:Nat->Option TI) (C:Cd T) (t:Nat) (x h m:DT T) (K:DT T->Option R):Option R:=
 match x with
 | .bw b g c n=>match elemC Y C t c with
  | true=>leK m n λk=>leK h k λq=>K (.bs b g c 0 q)
  | false=>none
 | .bs b g c o n=>match elemC Y C t c with
  | true=>leK m n λk=>leK h k λq=>K (.bs b g c o q)
  | false=>none
 | _=>none
def lenK (Y:Nat->Option TI) (t:Nat) (x:DT T) (K:DT T->Option R):Option R:=
 match x with
 | .str l=>match isStr Y t with
  | true=>K (.int .i64 l.length)
  | false=>none
 | .nils=>match elemT Y t with
  | some _=>K (.int .i64 0)
  | none=>none
 | .rs _ l=>match elemT Y t with
  | some _=>K (.int .i64 l.length)
  | none=>none
 | .bs _ _ _ _ n=>match elemT Y t with
  | some _=>K (.int .i64 n)
  | none=>none
 | .bw _ _ _ n=>match elemT Y t with
  | some _=>K (.int .i64 n)
  | none=>none
 | .agg _=>match arrT Y t with
  | some (n,_)=>K (.int .i64 n)
  | none=>none
 | .bp _ _=>match Y t with
  | some i=>match i.kind with
   | .ptr a=>match arrT Y a with
    | some (n,_)=>K (.int .i64 n)
    | none=>none
   | _=>none
  | none=>none
 | _=>none
def mnK (x y:DT T) (K:DT T->Option R):Option R:=
 match x,y with
 | .int k a,.int _ b=>K (.int k (bif decide (b < a) then b else a))
 | .u64 a,.u64 b=>K (.u64 (bif decide (b.toNat < a.toNat) then b else a))
 | _,_=>none
def mxK (x y:DT T) (K:DT T->Option R):Option R:=
 match x,y with
 | .int k a,.int _ b=>K (.int k (bif decide (a < b) then b else a))
 | .u64 a,.u64 b=>K (.u64 (bif decide (a.toNat < b.toNat) then b else a))
 | _,_=>none
def foldK (f:DT T->DT T->(DT T->Option R)->Option R):DT T->List (DT T)->(DT T->Option R)->Option R
 | x,[],K=>K x
 | x,y::r,K=>f x y λz=>foldK f z r K
def pickK (q:Bool) (a b:DT T) (K:DT T->Option R):Option R:=
 match a,b with
 | .bool x,.bool y=>K (.bool (bif q then x else y))
 | .int k x,.int k' y=>match decide (k=k') with
  | true=>K (.int k (bif q then x else y))
  | false=>none
 | a,b=>bif q then K a else K b
def nK (Y:Nat->Option TI) (C:Cd T) (o:Op) (e:Operand->DT T) (K:DT T->Option R):Option R:=
 match o with
 | .move x=>K (e x)
 | .assign x=>K (e x)
 | .pick c a b=>match e c with
  | .bool q=>pickK q (e a) (e b) K
  | _=>none
 | .nilCheck x=>match e x with
  | .bp b i=>K (.bp b i)
  | .ap b g s i k=>K (.ap b g s i k)
  | .rp cs=>K (.rp cs)
  | .fn f cap=>K (.fn f cap)
  | _=>none
 | .binOp op t x y _=>binK Y op t (e x) (e y) K
 | .unOp op _ x=>unK op (e x) K
 | .convert src dst x=>convK Y src dst (e x) K
 | .build t parts=>match buildT Y t (parts.toList.map λp=>(p.1,e p.2)) with
  | some d=>K d
  | none=>none
 | .fieldAddr t x k=>match fieldAddrT Y t (e x) k with
  | some d=>K d
  | none=>none
 | .field t x k=>match fieldT Y t (e x) k with
  | some d=>K d
  | none=>none
 | .indexAddr t x i=>indexAddrK Y C t (e x) (e i) K
 | .index t x i=>indexK Y t (e x) (e i) K
 | .slice t x lo hi none=>sliceK Y C t (e x) (lo.map e) (hi.map e) K
 | .slice t x none (some hi) (some mx)=>sliceMK Y C t (e x) (e hi) (e mx) K
 | .extract x i=>match e x with
  | .tup vs=>match vs[i]? with
   | some d=>K d
   | none=>none
  | _=>none
 | .makeFunc (.func f) first cap=>match first.toList with
  | []=>K (.fn f (cap.toList.map e))
  | _=>none
 | .call { callee:=.builtin .len,args,argTypes }=>match args.toList,argTypes.toList with
  | [x],[t]=>lenK Y t (e x) K
  | _,_=>none
 | .sliceToArrayPointer t x=>arrayAtK Y C t (e x) K
 | .call { callee:=.builtin .cap,args,argTypes }=>match args.toList,argTypes.toList with
  | [x],[t]=>capK Y t (e x) K
  | _,_=>none
 | .call { callee:=.builtin .min,args,.. }=>match args.toList.map e with
  | x::r=>foldK mnK x r K
  | []=>none
 | .call { callee:=.builtin .max,args,.. }=>match args.toList.map e with
  | x::r=>foldK mxK x r K
  | []=>none
 | _=>none
def inK (k:IntKind) (n:Int):Bool:=decide (0<=n)&&decide (n < 2 ^ k.bits)
mutual
def ofVT:Value->DT T
 | .bool b=>.bool b
 | .int k n=>match k.signed with
  | true=>.int k n
  | false=>match inK k n with
   | true=>mkInt k n
   | false=>.dead
 | .string s=>.str s.data.toList
 | .pointer none=>.nilp
 | .slice none 0 0=>.nils
 | .agg ⟨cs⟩=>match cs.all (·.oneCell') with
  | true=>.agg (ofVTs cs)
  | false=>.dead
 | .nilFunc=>.lit .nilFunc
 | .nilIface=>.lit .nilIface
 | .map none=>.lit (.map none)
 | _=>.dead
def ofVTs:List Value->List (DT T)
 | []=>[]
 | v::r=>ofVT v::ofVTs r
end
def tget:List (Nat×DT T)->Nat->DT T
 | [],_=>.dead
 | (i,d)::r,j=>match Nat.beq j i with
  | true=>d
  | false=>tget r j
def evT (G:Nat->Option (List (DT T))) (t:Nat->DT T):Operand->DT T
 | .tmp i=>t i
 | .const v=>ofVT v
 | .global g=>match G g with | some cs=>.rp cs | none=>.dead
 | .func f=>.fn f []
end
theorem wrapU (k:IntKind) (h:k.signed=false) (n:Int):k.wrap n=n % 2 ^ k.bits:=by
 cases k<;>first | (simp [IntKind.signed] at h; done) | simp [IntKind.wrap,IntKind.bits,IntKind.signed]
theorem wrapN (k:IntKind) (h:k.signed=false) (n:Nat):k.wrap n=((n % 2 ^ k.bits:Nat):Int):=by
 rw [wrapU k h]; simp
theorem Vt2 (k:IntKind) (h:k.signed=false) (z:BitVec k.bits):k.wrap z.toNat=z.toNat:=by
 rw [wrapN k h,Nat.mod_eq_of_lt z.isLt]
theorem Vb7 {w:Nat} (z:BitVec w):BitVec.ofInt w (z.toNat:Int)=z:=by simp
theorem bv_eq {w:Nat} (a b:BitVec w):((a.toNat:Int) == (b.toNat:Int))=decide (a=b):=by
 rw [Bool.eq_iff_iff];simp;constructor
 ·intro h; exact BitVec.eq_of_toNat_eq (by omega)
 ·intro h; rw [h]
theorem bv_ok {R:Type} (k:IntKind) (hk:k.signed=false) {w:Nat} (hkw:k.bits=w) (op:BinOp) (a b:BitVec w) {K:BitVec w->Option R} {Q:Bool->Option R} {r:R} (h:bvK op a b K Q=some r) :
  (∃ z,intBin op k a.toNat k b.toNat=some (.int k z.toNat)/\K z=some r)\/(∃ q,intBin op k a.toNat k b.toNat=some (.bool q)/\Q q=some r):=by
 subst hkw;have hw:=Vt2 k hk;cases op<;>simp only [bvK] at h<;>try (cases h; done)
 case add=>
  refine .inl ⟨_,?_,h⟩;simp only [intBin];rw [if_neg (by simp)];rw [BitVec.toNat_add,<- wrapN k hk]; simp
 case sub=>
  refine .inl ⟨_,?_,h⟩;simp only [intBin];rw [if_neg (by simp)];rw [BitVec.toNat_sub,<- wrapN k hk];congr 2;rw [wrapU k hk,wrapU k hk];have hb:=b.isLt;have:((2 ^ k.bits - b.toNat+a.toNat:Nat):Int)=(a.toNat:Int) - b.toNat+2 ^ k.bits:=by
   rw [Int.natCast_add,Int.natCast_sub (Nat.le_of_lt hb)]; simp; omega
  rw [this]; simp
 case mul=>
  refine .inl ⟨_,?_,h⟩;simp only [intBin];rw [if_neg (by simp)];rw [BitVec.toNat_mul,<- wrapN k hk]; simp
 case quo=>
  cases hb:decide (b=0)<;>simp only [hb,cond_true,cond_false] at h
  ·refine .inl ⟨_,?_,h⟩;have hb:b≠0:=by simpa using hb
   have hb':¬ ((b.toNat:Int)=0):=λe=>hb (BitVec.eq_of_toNat_eq (by simpa using e));simp only [intBin];rw [if_neg (by simp),if_neg hb'];have:(a.toNat:Int).tdiv b.toNat=((a / b).toNat:Int):=by rw [Int.tdiv_eq_ediv_of_nonneg (by omega)]; simp
   rw [this,hw]
  ·cases h
 case rem=>
  cases hb:decide (b=0)<;>simp only [hb,cond_true,cond_false] at h
  ·refine .inl ⟨_,?_,h⟩;have hb:b≠0:=by simpa using hb
   have hb':¬ ((b.toNat:Int)=0):=λe=>hb (BitVec.eq_of_toNat_eq (by simpa using e));simp only [intBin];rw [if_neg (by simp),if_neg hb'];have:(a.toNat:Int).tmod b.toNat=((a % b).toNat:Int):=by rw [Int.tmod_eq_emod_of_nonneg (by omega)]; simp
   rw [this]
  ·cases h
 case and=>refine .inl ⟨_,?_,h⟩; simp only [intBin]; rw [if_neg (by simp),Vb7,Vb7,hw]
 case or=>refine .inl ⟨_,?_,h⟩; simp only [intBin]; rw [if_neg (by simp),Vb7,Vb7,hw]
 case xor=>refine .inl ⟨_,?_,h⟩; simp only [intBin]; rw [if_neg (by simp),Vb7,Vb7,hw]
 case andNot=>refine .inl ⟨_,?_,h⟩; simp only [intBin]; rw [if_neg (by simp),Vb7,Vb7,hw]
 case eql=>refine .inr ⟨_,?_,h⟩; simp only [intBin]; rw [if_neg (by simp),bv_eq]
 case neq=>refine .inr ⟨_,?_,h⟩; simp only [intBin]; rw [if_neg (by simp)]; simp only [bne,bv_eq]
 case lss=>refine .inr ⟨_,?_,h⟩; simp only [intBin]; rw [if_neg (by simp)]; simp
 case leq=>refine .inr ⟨_,?_,h⟩; simp only [intBin]; rw [if_neg (by simp)]; simp
 case gtr=>refine .inr ⟨_,?_,h⟩; simp only [intBin]; rw [if_neg (by simp)]; simp
 case geq=>refine .inr ⟨_,?_,h⟩; simp only [intBin]; rw [if_neg (by simp)]; simp
section
variable {T:Nat->Type} {R:Type} {C:Cd T} {L:Nat->Nat->Nat} {P:Program} {Y:Nat->Option TI}
theorem ex_of {o:Option D} {K:DT T->Option R} {d:DT T} {r:R} (h:K d=some r) (ha:o=some (den C d)) (hw:WfD L d):∃ d:DT T,o=some (den C d)/\WfD L d/\K d=some r:=⟨d,ha,hw,h⟩
theorem Vt3 {y:DT T} {K:Nat->Option R} {r:R} (h:cntK y K=some r):∃ (kd:IntKind) (n:Nat),den C y = .int kd n/\K n=some r:=by
 unfold cntK at h;split at h
 ·rename_i k n;cases hn:decide (0<=n)<;>simp only [hn,cond_true,cond_false] at h
  ·cases h
  ·have hn:0<=n:=by simpa using hn
   exact ⟨k,n.toNat,by simp only [den]; congr 1; omega,h⟩
 ·exact ⟨_,_,rfl,h⟩
 ·exact ⟨_,_,rfl,h⟩
 ·exact ⟨_,_,rfl,h⟩
 ·exact ⟨_,_,rfl,h⟩
 ·cases h
theorem Vnm (k:IntKind) (hk:k.signed=false) (x:BitVec k.bits) (n:Nat):k.wrap ((x.toNat:Int) * 2 ^ (min n k.bits))=((x <<< n).toNat:Int):=by
 have e:(x.toNat:Int) * 2 ^ (min n k.bits)=((x.toNat * 2 ^ (min n k.bits):Nat):Int):=by simp
 rw [e,wrapN k hk,BitVec.toNat_shiftLeft,Nat.shiftLeft_eq];congr 1;rcases Nat.le_total n k.bits with h | h
 ·rw [Nat.min_eq_left h]
 ·rw [Nat.min_eq_right h];have:2 ^ n=2 ^ k.bits * 2 ^ (n - k.bits):=by rw [<- Nat.pow_add]; congr 1; omega
  rw [this,Nat.mul_mod_left,<- Nat.mul_assoc,Nat.mul_right_comm,Nat.mul_mod_left]
theorem Vnn (k:IntKind) (x:BitVec k.bits) (n:Nat):(x.toNat:Int).fdiv (2 ^ (min n k.bits))=((x >>> n).toNat:Int):=by
 rw [Int.fdiv_eq_ediv_of_nonneg _ (by exact Int.le_of_lt (Int.pow_pos (by decide)))];rw [BitVec.toNat_ushiftRight,Nat.shiftRight_eq_div_pow];have:(2:Int) ^ (min n k.bits)=((2 ^ (min n k.bits):Nat):Int):=by simp
 rw [this];have:(x.toNat:Int) / ((2 ^ (min n k.bits):Nat):Int)=((x.toNat / 2 ^ (min n k.bits):Nat):Int):=by simp
 rw [this];congr 1;rcases Nat.le_total n k.bits with h | h
 ·rw [Nat.min_eq_left h]
 ·rw [Nat.min_eq_right h];have hx:=x.isLt;rw [Nat.div_eq_of_lt hx,Nat.div_eq_of_lt (Nat.lt_of_lt_of_le hx (Nat.pow_le_pow_right (by decide) h))]
theorem Vld (k kd:IntKind) (a:Int) (n:Nat):intBin .shl k a kd n=some (.int k (k.wrap (a * 2 ^ (min n k.bits)))):=by
 simp only [intBin]; rw [if_neg (by omega)]; simp
theorem Vle (k kd:IntKind) (a:Int) (n:Nat):intBin .shr k a kd n=some (.int k (a.fdiv (2 ^ (min n k.bits)))):=by
 simp only [intBin]; rw [if_neg (by omega)]; simp
theorem Vaha {x:DT T} {n:Nat} {K:DT T->Option R} {r:R} (kd:IntKind) (t:Nat) (h:shlK x n K=some r):∃ d:DT T,binD P .shl t (den C x) (.int kd n)=some (den C d)/\WfD L d/\K d=some r:=by
 unfold shlK at h;split at h
 ·exact ex_of h (by simp only [den,binD,Vld]) trivial
 ·rename_i x;refine ⟨.u8 (UInt8.ofBitVec (x.toBitVec <<< n)),?_,trivial,h⟩;simp only [den,binD,Vld];exact congrArg (λz=>some (D.int .u8 z)) (Vnm .u8 rfl x.toBitVec n)
 ·rename_i x; exact ⟨.u16 (x <<< n),by simp only [den,binD,Vld]; exact congrArg (λz=>some (D.int .u16 z)) (Vnm .u16 rfl x n),trivial,h⟩
 ·rename_i x; exact ⟨.u32 (x <<< n),by simp only [den,binD,Vld]; exact congrArg (λz=>some (D.int .u32 z)) (Vnm .u32 rfl x n),trivial,h⟩
 ·rename_i x; exact ⟨.u64 (x <<< n),by simp only [den,binD,Vld]; exact congrArg (λz=>some (D.int .u64 z)) (Vnm .u64 rfl x n),trivial,h⟩
 ·cases h
theorem Vaia {x:DT T} {n:Nat} {K:DT T->Option R} {r:R} (kd:IntKind) (t:Nat) (h:shrK x n K=some r):∃ d:DT T,binD P .shr t (den C x) (.int kd n)=some (den C d)/\WfD L d/\K d=some r:=by
 unfold shrK at h;split at h
 ·exact ex_of h (by simp only [den,binD,Vle]) trivial
 ·rename_i x;refine ⟨.u8 (UInt8.ofBitVec (x.toBitVec >>> n)),?_,trivial,h⟩;simp only [den,binD,Vle];exact congrArg (λz=>some (D.int .u8 z)) (Vnn .u8 x.toBitVec n)
 ·rename_i x; exact ⟨.u16 (x >>> n),by simp only [den,binD,Vle]; exact congrArg (λz=>some (D.int .u16 z)) (Vnn .u16 x n),trivial,h⟩
 ·rename_i x; exact ⟨.u32 (x >>> n),by simp only [den,binD,Vle]; exact congrArg (λz=>some (D.int .u32 z)) (Vnn .u32 x n),trivial,h⟩
 ·rename_i x; exact ⟨.u64 (x >>> n),by simp only [den,binD,Vle]; exact congrArg (λz=>some (D.int .u64 z)) (Vnn .u64 x n),trivial,h⟩
 ·cases h
theorem Vaja {op:BinOp} {k k':IntKind} {a b:Int} {K:DT T->Option R} {r:R} (hs1:op≠.shl) (hs2:op≠.shr) (h:intK op k a k' b K=some r):∃ d:DT T,intBin op k a k' b=some (den C d)/\WfD L d/\K d=some r:=by
 unfold intK at h;split at h
 ·cases h
 ·rename_i hk;have hk:k=k':=by simpa using hk
  subst hk;cases op<;>simp only [] at h<;>try (cases h; done)
  case quo=>
   cases hb:decide (b=0)<;>simp only [hb,cond_true,cond_false] at h
   ·exact ex_of h (by simp only [intBin]; rw [if_neg (by simp),if_neg (by simpa using hb)]; rfl) trivial
   ·cases h
  case rem=>
   cases hb:decide (b=0)<;>simp only [hb,cond_true,cond_false] at h
   ·exact ex_of h (by simp only [intBin]; rw [if_neg (by simp),if_neg (by simpa using hb)]; rfl) trivial
   ·cases h
  case neq=>exact ex_of h (by simp only [intBin]; rw [if_neg (by simp)]; rfl) trivial
  all_goals exact ex_of h (by simp only [intBin]; rw [if_neg (by simp)]; rfl) trivial
theorem Vaka {α:Type} [DecidableEq α] (a b:α):(a == b)=decide (a=b):=by
 rw [Bool.eq_iff_iff]; simp
theorem Vno (a b:List UInt8):(a == b)=decide (a=b):=by
 rw [Bool.eq_iff_iff]; simp
theorem Vala {op:BinOp} {a b:List UInt8} {K:DT T->Option R} {r:R} (h:strK op a b K=some r):∃ d:DT T,strBin op a b=some (den C d)/\WfD L d/\K d=some r:=by
 unfold strK at h;cases op<;>simp only [] at h<;>try (cases h; done)
 case add=>
  have hbe:Nat.ble (a.length+b.length) 9223372036854775807=decide (((a.length+b.length:Nat):Int)<=IntKind.i64.max):=by
   rw [Bool.eq_iff_iff,Nat.ble_eq,decide_eq_true_eq];simp only [IntKind.max,IntKind.signed,IntKind.bits];simp;omega
  rw [hbe] at h;cases hb:decide (((a.length+b.length:Nat):Int)<=IntKind.i64.max)<;>simp only [hb,cond_true,cond_false] at h
  ·cases h
  ·exact ex_of h (by simp only [strBin]; rw [if_neg (by have:=of_decide_eq_true hb; omega)]; rfl) trivial
 all_goals exact ex_of h (by simp only [strBin,Vno]; rfl) trivial
theorem Vcga (a b:UInt8):((a.toNat:Int) == (b.toNat:Int))=decide (a=b):=by
 rw [Bool.eq_iff_iff];simp;constructor
 ·intro h; exact UInt8.toNat_inj.1 (by omega)
 ·intro h; rw [h]
theorem Vme:∀ {q:List Nat} {xs ys:List (DT T)} {p:Bool},eqCT q xs ys=some p->eqCells q (denL C xs) (denL C ys)=some p
 | [],[],[],p,h=>by simpa [eqCT,eqCells,denL] using h
 | [],[],_::_,p,h=>by simp [eqCT] at h
 | [],_::_,[],p,h=>by simp [eqCT] at h
 | [],_::_,_::_,p,h=>by simp [eqCT] at h
 | _::_,[],[],p,h=>by simp [eqCT] at h
 | _::_,[],_::_,p,h=>by simp [eqCT] at h
 | _::_,_::_,[],p,h=>by simp [eqCT] at h
 | q::qs,x::xs,y::ys,p,h=>by
  simp only [eqCT] at h;split at h
  case h_2=>cases h
  rename_i p1 h1;split at h
  case h_2=>cases h
  rename_i p2 h2;simp only [Option.some.injEq] at h; subst h;have ih:=Vme h2;unfold eqC1 at h1;split at h1
  ·split at h1
   ·rename_i k a k' b _ hk;have hk:k=k':=by simpa using hk
    simp only [Option.some.injEq] at h1; subst h1;simp [denL,den,eqCells,hk,ih,Vaka]
   ·cases h1
  ·simp only [Option.some.injEq] at h1; subst h1;simp only [denL,den,eqCells,if_true,ih,Option.map_some,Vcga]
  ·simp only [Option.some.injEq] at h1; subst h1;simp only [denL,den,eqCells,if_true,ih,Option.map_some,bv_eq]
  ·simp only [Option.some.injEq] at h1; subst h1;simp only [denL,den,eqCells,if_true,ih,Option.map_some,bv_eq]
  ·simp only [Option.some.injEq] at h1; subst h1;simp only [denL,den,eqCells,if_true,ih,Option.map_some,bv_eq]
  ·simp only [Option.some.injEq] at h1; subst h1;simp only [denL,den,eqCells,ih,Option.map_some]
  ·simp only [Option.some.injEq] at h1; subst h1;simp only [denL,den,eqCells,ih,Option.map_some,Vno]
  ·cases h1
theorem Vama (hY:TysOk P Y) {op:BinOp} {t:Nat} {x y:DT T} {K:DT T->Option R} {r:R} (h:binK Y op t x y K=some r):∃ d:DT T,binD P op t (den C x) (den C y)=some (den C d)/\WfD L d/\K d=some r:=by
 unfold binK at h;split at h
 ·obtain ⟨kd,n,h1,h2⟩:=Vt3 (C:=C) h;rw [h1]; exact Vaha kd t h2
 ·obtain ⟨kd,n,h1,h2⟩:=Vt3 (C:=C) h;rw [h1]; exact Vaia kd t h2
 ·rename_i hs1 hs2;split at h
  ·split at h
   ·simp only [den,binD]; exact Vaja (C:=C) (λe=>hs1 e) (λe=>hs2 e) h
   ·cases h
  ·rename_i a; split at h
   ·rename_i b;simp only [den,binD];rcases bv_ok .u8 rfl (w:=8) rfl op a.toBitVec b.toBitVec h with ⟨z,h1,h2⟩ | ⟨q,h1,h2⟩
    ·exact ex_of h2 h1 trivial
    ·exact ex_of h2 h1 trivial
   ·cases h
  ·rename_i a; split at h
   ·rename_i b;simp only [den,binD];rcases bv_ok .u16 rfl (w:=16) rfl op a b h with ⟨z,h1,h2⟩ | ⟨q,h1,h2⟩
    ·exact ex_of h2 h1 trivial
    ·exact ex_of h2 h1 trivial
   ·cases h
  ·rename_i a; split at h
   ·rename_i b;simp only [den,binD];rcases bv_ok .u32 rfl (w:=32) rfl op a b h with ⟨z,h1,h2⟩ | ⟨q,h1,h2⟩
    ·exact ex_of h2 h1 trivial
    ·exact ex_of h2 h1 trivial
   ·cases h
  ·rename_i a; split at h
   ·rename_i b;simp only [den,binD];rcases bv_ok .u64 rfl (w:=64) rfl op a b h with ⟨z,h1,h2⟩ | ⟨q,h1,h2⟩
    ·exact ex_of h2 h1 trivial
    ·exact ex_of h2 h1 trivial
   ·cases h
  ·split at h
   ·simp only [den,binD]; exact Vala (C:=C) h
   ·cases h
  ·rename_i a; split at h
   case h_2=>cases h
   rename_i b;split at h
   case h_2=>cases h
   rename_i i hi;split at h
   case h_2=>cases h
   rename_i hk;have hb:=(hY t i hi).bool hk;cases op<;>simp only [] at h<;>try (cases h; done)
   ·exact ex_of h (by simp only [den,binD,hb,if_true]) trivial
   ·exact ex_of h (by simp only [den,binD,hb,if_true]) trivial
  ·rename_i xs; split at h
   case h_2=>cases h
   rename_i ys;split at h
   case h_2=>cases h
   rename_i i hi;split at h
   case h_2=>cases h
   rename_i q hq;have hf:=(hY t i hi).eqs q hq;cases op<;>simp only [] at h<;>try (cases h; done)
   ·split at h
    ·rename_i p hp;exact ⟨.bool p,by simp only [den,binD,hf,Vme (C:=C) hp,Option.map_some],trivial,h⟩
    ·cases h
   ·split at h
    ·rename_i p hp;exact ⟨.bool (!p),by simp only [den,binD,hf,Vme (C:=C) hp,Option.map_some],trivial,h⟩
    ·cases h
  ·rename_i c l; split at h
   case h_2=>cases h
   split at h
   case h_2=>cases h
   rename_i e he;have hel:telem P t=some e:=by
    unfold elemT at he;split at he
    case h_2=>cases he
    rename_i i hi;split at he
    case h_2=>cases he
    rename_i e' hk;cases he;exact (hY t i hi).elem _ hk
   cases op<;>simp only [] at h<;>try (cases h; done)
   ·refine ex_of h ?_ trivial;cases l<;>simp [den,rnD,binD,hel]
   ·refine ex_of h ?_ trivial;cases l<;>simp [den,rnD,binD,hel]
  ·cases h
end
section
variable {T:Nat->Type} {R:Type} {C:Cd T} {L:Nat->Nat->Nat} {P:Program} {Y:Nat->Option TI}
theorem Vnp (k:IntKind) (hk:k.signed=false) (x:BitVec k.bits):k.wrap (0 - (x.toNat:Int))=((- x).toNat:Int):=by
 rw [BitVec.toNat_neg,<- wrapN k hk,wrapU k hk,wrapU k hk];have hx:=x.isLt;have:((2 ^ k.bits - x.toNat:Nat):Int)=0 - (x.toNat:Int)+2 ^ k.bits:=by
  rw [Int.natCast_sub (Nat.le_of_lt hx)]; simp; omega
 rw [this]; simp
theorem Vnq (k:IntKind) (hk:k.signed=false) (x:BitVec k.bits):k.wrap (BitVec.ofInt k.bits (if k.signed then -1 else k.max) ^^^ BitVec.ofInt k.bits (x.toNat:Int)).toNat=((~~~ x).toNat:Int):=by
 rw [Vb7];have:BitVec.ofInt k.bits (if k.signed then -1 else k.max)=BitVec.allOnes k.bits:=by
  cases k<;>first | (simp [IntKind.signed] at hk; done) | decide
 rw [this,BitVec.allOnes_xor,Vt2 k hk]
theorem Vcha {op:UnOp} {x:DT T} {K:DT T->Option R} {r:R} (h:unK op x K=some r):∃ d:DT T,unD op (den C x)=some (den C d)/\WfD L d/\K d=some r:=by
 unfold unK at h;split at h
 ·exact ex_of h rfl trivial
 ·exact ex_of h rfl trivial
 ·rename_i x; exact ex_of h (congrArg (λz=>some (D.int .u8 z)) (Vnp .u8 rfl x.toBitVec)) trivial
 ·rename_i x; exact ex_of h (congrArg (λz=>some (D.int .u16 z)) (Vnp .u16 rfl x)) trivial
 ·rename_i x; exact ex_of h (congrArg (λz=>some (D.int .u32 z)) (Vnp .u32 rfl x)) trivial
 ·rename_i x; exact ex_of h (congrArg (λz=>some (D.int .u64 z)) (Vnp .u64 rfl x)) trivial
 ·exact ex_of h rfl trivial
 ·rename_i x; exact ex_of h (congrArg (λz=>some (D.int .u8 z)) (Vnq .u8 rfl x.toBitVec)) trivial
 ·rename_i x; exact ex_of h (congrArg (λz=>some (D.int .u16 z)) (Vnq .u16 rfl x)) trivial
 ·rename_i x; exact ex_of h (congrArg (λz=>some (D.int .u32 z)) (Vnq .u32 rfl x)) trivial
 ·rename_i x; exact ex_of h (congrArg (λz=>some (D.int .u64 z)) (Vnq .u64 rfl x)) trivial
 ·cases h
theorem Vwu (k:IntKind) (n:Int):den C (cvtI k n:DT T) = .int k (k.wrap n):=by
 have e:∀ (w:Nat),((BitVec.ofInt w n).toNat:Int)=n % 2 ^ w:=λw=>by
  rw [BitVec.toNat_ofInt]; simp [Int.emod_nonneg];exact Int.max_eq_left (Int.emod_nonneg n (Int.ne_of_gt (Int.pow_pos (n:=2) (m:=w) (by decide))))
 cases k<;>simp only [cvtI,den]
 ·rw [wrapU .u8 rfl]; exact congrArg (D.int .u8) (e 8)
 ·rw [wrapU .u16 rfl]; exact congrArg (D.int .u16) (e 16)
 ·rw [wrapU .u32 rfl]; exact congrArg (D.int .u32) (e 32)
 ·rw [wrapU .u64 rfl]; exact congrArg (D.int .u64) (e 64)
theorem wrapS (k:IntKind) (hk:k.signed=true) (n:Nat) (h:n < 2 ^ (k.bits - 1)):k.wrap n=n:=by
 cases k<;>first | (simp [IntKind.signed] at hk; done) | (simp [IntKind.wrap,IntKind.bits,IntKind.signed] at h |-; omega)
theorem Vgc {w:Nat} (k:IntKind) (x:BitVec w):den C (cvtU k x:DT T) = .int k (k.wrap x.toNat):=by
 have e:∀ (k:IntKind),k.signed=false->(((x.setWidth k.bits).toNat:Nat):Int)=k.wrap x.toNat:=λk hk=>by
  rw [BitVec.toNat_setWidth,wrapN k hk]
 have s:∀ (k:IntKind),k.signed=true->den C ((match Nat.blt w k.bits with | true=>.int k x.toNat | false=>.int k (k.wrap x.toNat)):DT T) = .int k (k.wrap x.toNat):=λk hk=>by
  split
  ·rename_i hb;have hb:w < k.bits:=by simpa [Nat.blt_eq] using hb
   simp only [den];rw [wrapS k hk];exact Nat.lt_of_lt_of_le x.isLt (Nat.pow_le_pow_right (by decide) (by omega))
  ·rfl
 cases k
 ·exact s .i8 rfl
 ·exact s .i16 rfl
 ·exact s .i32 rfl
 ·exact s .i64 rfl
 ·exact congrArg (D.int .u8) (e .u8 rfl)
 ·exact congrArg (D.int .u16) (e .u16 rfl)
 ·exact congrArg (D.int .u32) (e .u32 rfl)
 ·exact congrArg (D.int .u64) (e .u64 rfl)
theorem Vana (k:IntKind) (n:Int):WfD L (cvtI k n:DT T):=by cases k<;>trivial
theorem Vjg {w:Nat} (k:IntKind) (x:BitVec w):WfD L (cvtU k x:DT T):=by
 unfold cvtU; split<;>first | trivial | (split<;>trivial)
theorem Vt4 {t:Nat} (h:tstr P t=true):tint P t=none:=by
 have:=Vcf h; simp [tint,this]
theorem Vaoa {t:Nat} {b:Bool} (h:tagg P t=some b):(P.underlying t).isSome=true:=by
 unfold tagg at h;rw [Option.map_eq_some_iff] at h;obtain ⟨i,hi,_⟩:=h;simp [hi]
theorem Vwv (hY:TysOk P Y) {src dst:Nat} {x:DT T} {K:DT T->Option R} {r:R} (h:convK Y src dst x K=some r) :
  (P.underlying src).isSome=true/\∃ d:DT T,convD P dst (den C x)=some (den C d)/\WfD L d/\K d=some r:=by
 unfold convK at h;split at h
 ·cases h
 rename_i i0 h0;refine ⟨Vaoa (hY src i0 h0).agg,?_⟩;split at h
 ·cases h
 rename_i i hi;split at h
 ·rename_i k hk;have ht:=(hY dst i hi).int k hk;split at h
  ·exact ex_of h (by simp only [den,convD,ht,Vwu]) (Vana _ _)
  ·exact ex_of h (by simp only [den,convD,ht,Vgc]; rfl) (Vjg _ _)
  ·exact ex_of h (by simp only [den,convD,ht,Vgc]) (Vjg _ _)
  ·exact ex_of h (by simp only [den,convD,ht,Vgc]) (Vjg _ _)
  ·exact ex_of h (by simp only [den,convD,ht,Vgc]) (Vjg _ _)
  ·cases h
 ·rename_i hk;have ht:=(hY dst i hi).str hk;split at h
  ·exact ex_of h (by simp only [den,convD,Vt4 ht,ht,if_true]) trivial
  ·exact ex_of h (by simp only [den,convD,ht,if_true]) trivial
  ·cases h
 ·cases h
theorem Vjh (hY:TysOk P Y) {t:Nat} {cs:List (DT T)} {d:DT T} (hw:WfL L cs) (h:loadT Y t cs=some d):loadD P t (denL C cs)=some (den C d)/\WfD L d:=by
 unfold loadT at h;split at h
 ·cases h
 rename_i i hi;have ha:=(hY t i hi).agg;have hs:=(hY t i hi).sz;split at h
 ·rename_i hk;split at h
  ·rename_i hb;have hb:i.sz<=cs.length:=by simpa using hb
   simp only [Option.some.injEq] at h; subst h;refine ⟨?_,Vjf _ hw⟩;simp only [loadD,ha,hk,hs,Van,hb,if_true,den,Vcz]
  ·cases h
 ·rename_i hk;cases cs with
  | nil=>cases h
  | cons c r=>
   simp only [List.head?_cons,Option.some.injEq] at h; subst h;simp only [WfL] at hw;exact ⟨by simp only [loadD,ha,hk,denL],hw.1⟩
theorem Vji {place:Nat->Option (Nat×Nat)}:∀ {cells:List (DT T)} {ps:List (Nat×DT T)} {r:List (DT T)},WfL L cells->(∀ p∈ps,WfD L p.2)->fillT place cells ps=some r ->
  fillD place (denL C cells) (ps.map λp=>(p.1,den C p.2))=some (denL C r)/\WfL L r
 | cells,[],r,hc,hp,h=>by
  simp only [fillT,Option.some.injEq] at h; subst h;exact ⟨rfl,hc⟩
 | cells,(i,x)::ps,r,hc,hp,h=>by
  simp only [fillT] at h;split at h
  case h_2=>cases h
  rename_i o s hpl;split at h
  case h_2=>cases h
  rename_i hq;simp only [Bool.and_eq_true,Nat.beq_eq,Nat.ble_eq] at hq;obtain ⟨h1,h2,h3⟩:=hq;have hx:WfD L x:=hp (i,x) (by simp);have ih:=Vji (Vgb cells o x.cells hc (Vbp hx)) (λp hpp=>hp p (by simp [hpp])) h;refine ⟨?_,ih.2⟩;simp only [List.map_cons,fillD,hpl];rw [if_pos ⟨Vbw C x h1,by rw [Vbe,Van]; exact h2,by rw [Van]; exact h3⟩,Vbe,<- Vc0];exact ih.1
theorem Vdw (l:List Zc):denL C (l.map Zc.toT:List (DT T))=l.map Zc.toD:=by
 rw [Vaq,List.map_map]; congr 1; funext z; exact Zc.den C z
theorem Vjj (l:List Zc):WfL L (l.map Zc.toT:List (DT T)):=by
 rw [WfL_iff];intro d hd;simp only [List.mem_map] at hd;obtain ⟨z,_,rfl⟩:=hd;cases z with
 | i k=>cases k<;>trivial
 | _=>trivial
theorem Vt5 (hY:TysOk P Y) {t:Nat} {ps:List (Nat×DT T)} {d:DT T} (hp:∀ p∈ps,WfD L p.2) (h:buildT Y t ps=some d) :
  buildD P t (ps.map λp=>(p.1,den C p.2))=some (den C d)/\WfD L d:=by
 unfold buildT at h;split at h
 ·cases h
 rename_i i hi;have hz:=(hY t i hi).zero;split at h
 ·rename_i hk;rw [Option.map_eq_some_iff] at h;obtain ⟨r,hr,rfl⟩:=h;have:=Vji (C:=C) (L:=L) (Vjj i.zero) hp hr;rw [Vdw] at this;refine ⟨?_,this.2⟩;have hpl:=(hY t i hi).places hk;simp only [hk,TK.agg,if_true] at hz;simp only [buildD,hz,hpl,this.1,Option.map_some,den]
 ·rename_i n e hk;split at h
  case h_2=>cases h
  rename_i j hj;rw [Option.map_eq_some_iff] at h;obtain ⟨r,hr,rfl⟩:=h;have:=Vji (C:=C) (L:=L) (Vjj i.zero) hp hr;rw [Vdw] at this;refine ⟨?_,this.2⟩;have hpl:=(hY t i hi).nplaces (by rw [hk]; simp);have ha:=(hY t i hi).arr n e hk;have hs:=(hY e j hj).sz;simp only [hk,TK.agg,if_true] at hz;simp only [buildD,hz,hpl,ha,hs,this.1,Option.map_some,den]
 ·cases h
theorem Vt6 (hY:TysOk P Y) {t k o ft:Nat} (h:fldT Y t k=some (o,ft)):tfld P t k=some (o,ft):=by
 unfold fldT at h;split at h
 ·rename_i i hi;split at h
  ·rename_i q hq;exact (hY t i hi).fld k o ft (by rw [hq,h])
  ·cases h
 ·cases h
theorem Vjk (hY:TysOk P Y) {t k:Nat} {x d:DT T} (h:fieldAddrT Y t x k=some d):fieldAddrD P t (den C x) k=some (den C d)/\WfD L d:=by
 unfold fieldAddrT at h;split at h
 case h_2=>cases h
 rename_i o ft hf;have hf:=Vt6 hY hf;split at h<;>simp only [Option.some.injEq,reduceCtorEq] at h<;>subst h
 ·exact ⟨by simp only [fieldAddrD,hf,den],trivial⟩
 ·exact ⟨by simp only [fieldAddrD,hf,den],trivial⟩
 ·exact ⟨by simp only [fieldAddrD,hf,den,Va1],trivial⟩
theorem Vt7 (hY:TysOk P Y) {t k:Nat} {x d:DT T} (hw:WfD L x) (h:fieldT Y t x k=some d):fieldD P t (den C x) k=some (den C d)/\WfD L d:=by
 unfold fieldT at h;split at h
 case h_2=>cases h
 rename_i o ft hf;have hf:=Vt6 hY hf;split at h
 ·simp only [WfD] at hw;have:=Vjh (C:=C) hY (Veb o hw) h;rw [Va1] at this;exact ⟨by simp only [fieldD,hf,den,this.1],this.2⟩
 ·cases h
theorem Vaw (hY:TysOk P Y) {t e:Nat} (h:elemT Y t=some e):telem P t=some e:=by
 unfold elemT at h;split at h
 ·rename_i i hi;split at h
  ·rename_i e' hk;simp only [Option.some.injEq] at h; subst h;exact (hY t i hi).elem e' hk
  ·cases h
 ·cases h
theorem Vc8 (hY:TysOk P Y) {t n e s:Nat} (h:arrT Y t=some (n,e,s)):tarr P t=some (n,e)/\tsz P e=some s:=by
 unfold arrT at h;split at h
 ·rename_i i hi;split at h
  ·rename_i n' e' hk;split at h
   ·rename_i j hj;simp only [Option.some.injEq,Prod.mk.injEq] at h;obtain ⟨rfl,rfl,rfl⟩:=h;exact ⟨(hY t i hi).arr _ _ hk,(hY _ j hj).sz⟩
   ·cases h
  ·cases h
 ·cases h
theorem Vc9 (hY:TysOk P Y) {t:Nat} (h:isStr Y t=true):tstr P t=true:=by
 unfold isStr at h;split at h
 ·rename_i i hi;split at h
  ·rename_i hk; exact (hY t i hi).str hk
  ·cases h
 ·cases h
theorem Vb8 (hY:TysOk P Y) {t c:Nat} (h:elemC Y C t c=true):∃ e,telem P t=some e/\tsz P e=some (C.sz c):=by
 unfold elemC at h;split at h
 ·rename_i e he;split at h
  ·rename_i j hj;have h:j.sz=C.sz c:=by simpa using h
   exact ⟨e,Vaw hY he,by rw [<- h]; exact (hY e j hj).sz⟩
  ·cases h
 ·cases h
theorem Vyw {α:Type} {l:List α} {x:DT T} {K:α->Option R} {r:R} (h:atK l x K=some r):∃ k a,idx (den C x) l.length=some k/\l[k]? = some a/\K a=some r:=by
 have nat:∀ (kd:IntKind) (n:Nat),(l[n]?).bind K=some r->∃ k a,idx (.int kd n) l.length=some k/\l[k]? = some a/\K a=some r:=λkd n hb=>by
  rw [Option.bind_eq_some_iff] at hb;obtain ⟨a,h1,h2⟩:=hb;have hlt:n < l.length:=by
   rcases Nat.lt_or_ge n l.length with h | h
   ·exact h
   ·rw [List.getElem?_eq_none h] at h1; cases h1
  exact ⟨n,a,by simp [idx,hlt],h1,h2⟩
 unfold atK at h;split at h
 ·rename_i k i;unfold getI at h;cases hi:decide (0<=i)<;>simp only [hi,cond_true,cond_false] at h
  ·cases h
  ·have hi:0<=i:=by simpa using hi
   have:=nat k i.toNat h;rw [Int.toNat_of_nonneg hi] at this;exact this
 ·exact nat _ _ h
 ·exact nat _ _ h
 ·exact nat _ _ h
 ·exact nat _ _ h
 ·cases h
theorem Vhg {x:DT T} {n:Nat} {K:Nat->Option R} {r:R} (h:ltK x n K=some r):∃ k,idx (den C x) n=some k/\K k=some r:=by
 have nat:∀ (kd:IntKind) (m:Nat),(bif decide (m < n) then K m else none)=some r->∃ k,idx (.int kd m) n=some k/\K k=some r:=λkd m hb=>by
  cases hm:decide (m < n)<;>simp only [hm,cond_true,cond_false] at hb
  ·cases hb
  ·have hm:m < n:=by simpa using hm
   exact ⟨m,by simp [idx,hm],hb⟩
 unfold ltK at h;split at h
 ·rename_i k i;cases hi:(decide (0<=i)&&decide (i < n))<;>simp only [hi,cond_true,cond_false] at h
  ·cases h
  ·have hi:0<=i/\i < n:=by simpa using hi
   exact ⟨i.toNat,by simp [den,idx,hi],h⟩
 ·exact nat _ _ h
 ·exact nat _ _ h
 ·exact nat _ _ h
 ·exact nat _ _ h
 ·cases h
theorem Vlf:∀ {cs:List (DT T)} {l:List (BitVec 32)} {k:Nat} {v:BitVec 32},u32s cs=some l->l[k]? = some v->cs.drop k = .u32 v::cs.drop (k+1)
 | [],l,k,v,h,hk=>by
  simp only [u32s,Option.some.injEq] at h;subst h;simp at hk
 | .u32 a::r,l,k,v,h,hk=>by
  simp only [u32s,Option.map_eq_some_iff] at h;obtain ⟨q,h1,rfl⟩:=h;cases k with
  | zero=>simp at hk; subst hk; rfl
  | succ k=>simpa using Vlf h1 (by simpa using hk)
theorem Vhh:∀ {n k:Nat} {K:Nat->Option R} {r:R},splitN n k K=some r->K k=some r
 | 0,_,_,_,h=>by cases h
 | n+1,k,K,r,h=>by
  simp only [splitN] at h;cases hb:Nat.beq k n<;>simp only [hb,cond_true,cond_false] at h
  ·exact Vhh h
  ·rw [Nat.eq_of_beq_eq_true hb]; exact h
theorem Vjl (hY:TysOk P Y) (hC:CdOk C) {t:Nat} {x i:DT T} {K:DT T->Option R} {r:R} (h:indexAddrK Y C t x i K=some r) :
  ∃ d:DT T,indexAddrD P t (den C x) (den C i)=some (den C d)/\WfD L d/\K d=some r:=by
 unfold indexAddrK at h;split at h
 ·rename_i c l;split at h
  case h_2=>cases h
  rename_i he;obtain ⟨e,h1,h2⟩:=Vb8 hY he;obtain ⟨k,a,h3,h4,h5⟩:=Vyw (C:=C) h;refine ex_of h5 ?_ trivial;simp only [den,indexAddrD,h1,h2,if_true,List.length_map,h3,List.getElem?_map,h4,Option.map_some,hC.enc]
 ·split at h
  case h_2=>cases h
  rename_i he;obtain ⟨e,h1,h2⟩:=Vb8 hY he;obtain ⟨k,h3,h4⟩:=Vhg (C:=C) h;refine ex_of h4 ?_ trivial;simp only [den,indexAddrD,h1,h2,if_true,h3,Option.map_some,Nat.zero_add]
 ·split at h
  case h_2=>cases h
  rename_i he;obtain ⟨e,h1,h2⟩:=Vb8 hY he;obtain ⟨k,h3,h4⟩:=Vhg (C:=C) h;refine ex_of h4 ?_ trivial;simp only [den,indexAddrD,h1,h2,if_true,h3,Option.map_some,Nat.add_comm]
 ·split at h
  case h_2=>cases h
  rename_i n e s ha;have ha:=Vc8 hY ha;obtain ⟨k,h3,h4⟩:=Vhg (C:=C) h;have h4:=Vhh h4;refine ex_of h4 ?_ trivial;simp only [den,indexAddrD,ha.1,ha.2,h3,Option.map_some]
 ·split at h
  case h_2=>cases h
  rename_i n e s ha;have ha:=Vc8 hY ha;split at h
  ·rename_i l hs hl;obtain ⟨k,h3,h4⟩:=Vhg (C:=C) h;rw [Option.bind_eq_some_iff] at h4;obtain ⟨v,h5,h6⟩:=h4;refine ex_of h6 ?_ trivial;have hs1:s=1:=Nat.eq_of_beq_eq_true hs;subst hs1;simp only [den,indexAddrD,ha.1,ha.2,h3,Option.map_some,Nat.mul_one];rw [<- Vlf hl h5,Va1]
  ·obtain ⟨k,h3,h4⟩:=Vhg (C:=C) h;have h4:=Vhh h4;refine ex_of h4 ?_ trivial;simp only [den,indexAddrD,ha.1,ha.2,h3,Option.map_some,Va1]
 ·split at h
  case h_2=>cases h
  rename_i n e s ha;have ha:=Vc8 hY ha;split at h
  case h_2=>cases h
  rename_i hs;have hs:=Nat.eq_of_beq_eq_true hs;subst hs;obtain ⟨k,h3,h4⟩:=Vhg (C:=C) h;refine ex_of h4 ?_ trivial;simp only [den,indexAddrD,ha.1,ha.2,if_true,h3,Option.map_some,Nat.add_comm]
 ·cases h
theorem Vww (C:Cd T) (a b:List (DT T)):denL C (a++b)=denL C a++denL C b:=by simp [Vaq]
theorem Vil:∀ (a b:List (DT T)),pureTL (a++b)=(pureTL a&&pureTL b)
 | [],b=>by simp [pureTL]
 | d::a,b=>by simp only [List.cons_append,pureTL,Vil a b,Bool.and_assoc]
theorem Vfs (hC:CdOk C) {c:Nat} {l:List (T c)}:∀ {n i:Nat} {K:List (DT T)->Option R} {r:R},firstsK C c l n i K=some r->∃ cs,K cs=some r/\denL C cs=(((l.drop i).take n).map (C.encD c)).flatten/\i+n<=i+(l.drop i).length/\pureTL cs=true/\cs.length=n * C.sz c
 | 0,i,K,r,h=>⟨[],h,by simp [denL],by simp,rfl,by simp⟩
 | n+1,i,K,r,h=>by
  unfold firstsK at h;rw [Option.bind_eq_some_iff] at h;obtain ⟨x,hx,h⟩:=h;obtain ⟨cs,h1,h2,h3,h4,h5⟩:=Vfs hC h;have hi:i < l.length:=(List.getElem?_eq_some_iff.1 hx).1;have hd:l.drop i=x::l.drop (i+1):=by
   rw [List.drop_eq_getElem_cons hi];congr 1;rw [List.getElem?_eq_getElem hi] at hx;exact Option.some.inj hx
  refine ⟨C.enc c x++cs,h1,?_,?_,?_,?_⟩
  ·rw [hd,List.take_succ_cons,List.map_cons,List.flatten_cons,<- h2,Vww,hC.enc]
  ·rw [hd,List.length_cons]; rw [List.length_drop] at h3 |-; omega
  ·rw [Vil,hC.epure,h4]; rfl
  ·have:(C.enc c x).length=C.sz c:=by rw [<- Van C,hC.enc,hC.len]
   rw [List.length_append,this,h5,Nat.add_mul]; omega
theorem Vmf (hY:TysOk P Y) (hC:CdOk C) {t:Nat} {x:DT T} {K:DT T->Option R} {r:R} (h:arrayAtK Y C t x K=some r) :
  ∃ d:DT T,arrayAtD P t (den C x)=some (den C d)/\WfD L d/\K d=some r:=by
 unfold arrayAtK at h;split at h
 case h_2=>cases h
 rename_i n e s ha;have ha:=Vc8 hY ha;split at h
 case h_2=>cases h
 rename_i h0;have h0:0 < n:=by simpa using h0
 split at h
 ·rename_i c l;split at h
  case h_2=>cases h
  rename_i hs;have hs:=Nat.eq_of_beq_eq_true hs;subst hs;obtain ⟨cs,h1,h2,h3,h4,_⟩:=Vfs hC h;simp only [List.drop_zero,Nat.zero_add] at h2 h3;refine ⟨.rp cs,?_,?_,h1⟩
  ·simp only [arrayAtD,ha.1,den,ha.2,List.length_map,h2];rw [if_pos ⟨trivial,h0,h3⟩,List.map_take]
  ·simp only [WfD]
 ·rename_i b g c m;split at h
  case h_2=>cases h
  rename_i hs;have hs:=Nat.eq_of_beq_eq_true hs;subst hs;cases hn:decide (n<=m)<;>simp only [hn,cond_true,cond_false] at h
  ·cases h
  refine ex_of h ?_ trivial;simp only [arrayAtD,ha.1,den,ha.2];rw [if_pos ⟨trivial,h0,by simpa using hn⟩]
 ·rename_i b g c o m;split at h
  case h_2=>cases h
  rename_i hs;have hs:=Nat.eq_of_beq_eq_true hs;subst hs;cases hn:decide (n<=m)<;>simp only [hn,cond_true,cond_false] at h
  ·cases h
  refine ex_of h ?_ trivial;simp only [arrayAtD,ha.1,den,ha.2];rw [if_pos ⟨trivial,h0,by simpa using hn⟩]
 ·cases h
theorem Vapa (hY:TysOk P Y) {t:Nat} {x:DT T} {K:DT T->Option R} {r:R} (h:capK Y t x K=some r) :
  ∃ d:DT T,capD P t (den C x)=some (den C d)/\WfD L d/\K d=some r:=by
 unfold capK at h;split at h
 case h_2=>cases h
 split at h
 case h_2=>cases h
 rename_i e he;refine ex_of h ?_ trivial;simp only [den,capD,Vaw hY he,Option.map_some,Int.ofNat_zero];try rfl
theorem Vt8 (hY:TysOk P Y) {t:Nat} {x i:DT T} {K:DT T->Option R} {r:R} (hw:WfD L x) (h:indexK Y t x i K=some r) :
  ∃ d:DT T,indexD P t (den C x) (den C i)=some (den C d)/\WfD L d/\K d=some r:=by
 unfold indexK at h;split at h
 ·split at h
  case h_2=>cases h
  rename_i hs;obtain ⟨k,a,h3,h4,h5⟩:=Vyw (C:=C) h;refine ex_of h5 ?_ trivial;simp only [den,indexD,Vc9 hY hs,if_true,h3,h4,Option.map_some]
 ·split at h
  case h_2=>cases h
  rename_i n e s ha;have ha:=Vc8 hY ha;obtain ⟨k,h3,h4⟩:=Vhg (C:=C) h;unfold ldK at h4;split at h4
  case h_2=>cases h4
  rename_i d hd;simp only [WfD] at hw;have:=Vjh (C:=C) hY (Veb _ hw) hd;rw [Va1] at this;refine ex_of h4 ?_ this.2;simp only [den,indexD,ha.1,ha.2,h3,this.1]
 ·cases h
theorem Vim {x:DT T} {n:Nat} {K:Nat->Option R} {r:R} (dflt:Nat) (h:leK x n K=some r):∃ k,bound (some (den C x)) dflt n=some k/\k<=n/\K k=some r:=by
 have nat:∀ (kd:IntKind) (m:Nat),(bif decide (m<=n) then K m else none)=some r->∃ k,bound (some (.int kd m)) dflt n=some k/\k<=n/\K k=some r:=λkd m hb=>by
  cases hm:decide (m<=n)<;>simp only [hm,cond_true,cond_false] at hb
  ·cases hb
  ·have hm:m<=n:=by simpa using hm
   exact ⟨m,by simp [bound,hm],hm,hb⟩
 unfold leK at h;split at h
 ·rename_i k i;cases hi:(decide (0<=i)&&decide (i<=n))<;>simp only [hi,cond_true,cond_false] at h
  ·cases h
  ·have hi:0<=i/\i<=n:=by simpa using hi
   exact ⟨i.toNat,by simp [den,bound,hi],by omega,h⟩
 ·exact nat _ _ h
 ·exact nat _ _ h
 ·exact nat _ _ h
 ·exact nat _ _ h
 ·cases h
theorem Vhi {n:Nat} {lo hi:Option (DT T)} {K:Option Nat->Option Nat->Option R} {r:R} (h:cutK n lo hi K=some r) :
  ∃ a b,bound (hi.map (den C)) n n=some (b.getD n)/\bound (lo.map (den C)) 0 (b.getD n)=some (a.getD 0)/\b.getD n<=n/\a.getD 0<=b.getD n/\K a b=some r:=by
 unfold cutK at h;split at h
 ·exact ⟨none,none,by simp [bound],by simp [bound],by simp,by simp,h⟩
 ·obtain ⟨k,h1,h2,h3⟩:=Vim (C:=C) 0 h;exact ⟨some k,none,by simp [bound],by simpa using h1,by simp,by simpa using h2,h3⟩
 ·obtain ⟨k,h1,h2,h3⟩:=Vim (C:=C) n h;exact ⟨none,some k,by simpa using h1,by simp [bound],by simpa using h2,by simp,h3⟩
 ·obtain ⟨k,h1,h2,h3⟩:=Vim (C:=C) n h;obtain ⟨j,h4,h5,h6⟩:=Vim (C:=C) 0 h3;exact ⟨some j,some k,by simpa using h1,by simpa using h4,by simpa using h2,by simpa using h5,h6⟩
theorem Vt9 {α:Type} (l:List α) (a b:Option Nat):cutL l a b=(l.take (b.getD l.length)).drop (a.getD 0):=by
 cases a<;>cases b<;>simp [cutL]
theorem Vnr (b g c o n:Nat) (p q:Option Nat) (_h:p.getD 0<=q.getD n):den C (cutB b g c o n p q:DT T) = .bs b g (C.sz c) (o+p.getD 0) (q.getD n - p.getD 0):=by
 cases p<;>cases q<;>simp [cutB,den,Nat.add_comm]
theorem Vua (b g c o n:Nat) (p q:Option Nat):WfD L (cutB b g c o n p q:DT T):=by cases p<;>cases q<;>trivial
theorem Vub (hY:TysOk P Y) {t:Nat} {x:DT T} {lo hi:Option (DT T)} {K:DT T->Option R} {r:R} (h:sliceK Y C t x lo hi K=some r) :
  ∃ d:DT T,sliceD P t (den C x) (lo.map (den C)) (hi.map (den C))=some (den C d)/\WfD L d/\K d=some r:=by
 unfold sliceK at h;split at h
 ·split at h
  case h_2=>cases h
  rename_i hs;obtain ⟨a,b,h1,h2,h3,h4,h5⟩:=Vhi (C:=C) h;refine ex_of h5 ?_ trivial;simp only [den,sliceD,Vc9 hY hs,if_true,h1,h2,Option.map_some,Vt9]
 ·split at h
  case h_2=>cases h
  rename_i e he;split at h
  case h_2=>cases h
  rename_i j hj;obtain ⟨a,b,h1,h2,h3,h4,h5⟩:=Vhi (C:=C) h;refine ex_of h5 ?_ trivial;simp only [den,sliceD,Vaw hY he,(hY e j hj).sz,Option.isSome_some,if_true,h1,h2,Option.map_some]
 ·rename_i c l;split at h
  case h_2=>cases h
  rename_i he;obtain ⟨e,g1,g2⟩:=Vb8 hY he;obtain ⟨a,b,h1,h2,h3,h4,h5⟩:=Vhi (C:=C) h;refine ex_of h5 ?_ trivial;simp only [den,sliceD,g1,g2,if_true,List.length_map,h1,h2,Option.map_some,Vt9,List.map_drop,List.map_take]
 ·split at h
  case h_2=>cases h
  rename_i he;obtain ⟨e,g1,g2⟩:=Vb8 hY he;obtain ⟨a,b,h1,h2,h3,h4,h5⟩:=Vhi (C:=C) h;refine ex_of h5 ?_ (Vua _ _ _ _ _ _ _);rw [Vnr _ _ _ _ _ _ _ h4];simp only [den,sliceD,g1,g2,if_true,h1,h2,Option.map_some]
 ·split at h
  case h_2=>cases h
  rename_i he;obtain ⟨e,g1,g2⟩:=Vb8 hY he;obtain ⟨a,b,h1,h2,h3,h4,h5⟩:=Vhi (C:=C) h;refine ex_of h5 ?_ (Vua _ _ _ _ _ _ _);rw [Vnr _ _ _ _ _ _ _ h4];simp only [den,sliceD,g1,g2,if_true,h1,h2,Option.map_some]
 ·cases h
theorem Voz (hY:TysOk P Y) {t:Nat} {x h m:DT T} {K:DT T->Option R} {r:R} (hr:sliceMK Y C t x h m K=some r) :
  ∃ d:DT T,sliceMD P t (den C x) (den C h) (den C m)=some (den C d)/\WfD L d/\K d=some r:=by
 unfold sliceMK at hr;split at hr
 case h_3=>cases hr
 all_goals
  split at hr
  case h_2=>cases hr
  rename_i he;obtain ⟨e,g1,g2⟩:=Vb8 hY he;rename_i n _;obtain ⟨k,h1,h2,h3⟩:=Vim (C:=C) n hr;obtain ⟨q,h4,h5,h6⟩:=Vim (C:=C) k h3;refine ex_of h6 ?_ trivial;simp only [den,sliceMD,g1,g2,if_true,h1,h4,Option.map_some]
theorem Vaqa (hY:TysOk P Y) {t:Nat} {x:DT T} {K:DT T->Option R} {r:R} (h:lenK Y t x K=some r):∃ d:DT T,lenD P t (den C x)=some (den C d)/\WfD L d/\K d=some r:=by
 unfold lenK at h;split at h
 ·split at h
  ·rename_i hs; exact ex_of h (by simp only [den,lenD,Vc9 hY hs,if_true]) trivial
  ·cases h
 ·split at h
  ·rename_i e he; exact ex_of h (by simp only [den,lenD,Vaw hY he,Option.map_some]) trivial
  ·cases h
 ·split at h
  ·rename_i e he; exact ex_of h (by simp only [den,lenD,Vaw hY he,Option.map_some,List.length_map]) trivial
  ·cases h
 ·split at h
  ·rename_i e he; exact ex_of h (by simp only [den,lenD,Vaw hY he,Option.map_some]) trivial
  ·cases h
 ·split at h
  ·rename_i e he; exact ex_of h (by simp only [den,lenD,Vaw hY he,Option.map_some]) trivial
  ·cases h
 ·split at h
  ·rename_i n q he;obtain ⟨e,s⟩:=q;exact ex_of h (by simp only [den,lenD,(Vc8 hY he).1,Option.map_some]) trivial
  ·cases h
 ·split at h
  ·rename_i i hi;split at h
   ·rename_i a ha;split at h
    ·rename_i n q he;obtain ⟨e,s⟩:=q;exact ex_of h (by simp only [den,lenD,(hY t i hi).ptr a ha,(Vc8 hY he).1,Option.map_some]) trivial
    ·cases h
   ·cases h
  ·cases h
 ·cases h
theorem Vjm {f:DT T->DT T->(DT T->Option R)->Option R} {g:D->D->Option D} (hf:∀ x y K (r:R),f x y K=some r->∃ d:DT T,g (den C x) (den C y)=some (den C d)/\WfD L d/\K d=some r) :
  ∀ (l:List (DT T)) (x:DT T) (K:DT T->Option R) (r:R),WfD L x->foldK f x l K=some r->∃ d:DT T,foldD g (den C x) (denL C l)=some (den C d)/\WfD L d/\K d=some r
 | [],x,K,r,hx,h=>⟨x,rfl,hx,h⟩
 | y::l,x,K,r,hx,h=>by
  simp only [foldK] at h;obtain ⟨z,h1,h2,h3⟩:=hf x y _ r h;obtain ⟨d,h4,h5,h6⟩:=Vjm hf l z K r h2 h3;exact ⟨d,by simp only [denL,foldD,h1,h4],h5,h6⟩
theorem Vjn {α:Type} (p:Prop) [Decidable p] (a b:α):(bif decide p then a else b)=if p then a else b:=by
 by_cases h:p<;>simp [h]
theorem Vcia (x y:DT T) (K:DT T->Option R) (r:R) (h:mnK x y K=some r):∃ d:DT T,minD (den C x) (den C y)=some (den C d)/\WfD L d/\K d=some r:=by
 unfold mnK at h;split at h
 ·exact ex_of h (by simp only [den,minD,Vjn]) trivial
 ·rename_i a b;refine ex_of h ?_ trivial;simp only [den,minD,Vjn];by_cases hb:b.toNat < a.toNat
  ·rw [if_pos (by omega),if_pos hb]
  ·rw [if_neg (by omega),if_neg hb]
 ·cases h
theorem Vcja (x y:DT T) (K:DT T->Option R) (r:R) (h:mxK x y K=some r):∃ d:DT T,maxD (den C x) (den C y)=some (den C d)/\WfD L d/\K d=some r:=by
 unfold mxK at h;split at h
 ·refine ex_of h ?_ trivial;simp only [den,maxD,Vjn,gt_iff_lt]
 ·rename_i a b;refine ex_of h ?_ trivial;simp only [den,maxD,Vjn,gt_iff_lt];by_cases hb:a.toNat < b.toNat
  ·rw [if_pos (by omega),if_pos hb]
  ·rw [if_neg (by omega),if_neg hb]
 ·cases h
theorem Vwx {q:Bool} {a b:DT T} {K:DT T->Option R} {r:R} (ha:WfD L a) (hb:WfD L b) (h:pickK q a b K=some r):∃ d:DT T,(if q=true then den C a else den C b)=den C d/\WfD L d/\K d=some r:=by
 unfold pickK at h;split at h
 ·rename_i x y;exact ⟨.bool (bif q then x else y),by cases q<;>rfl,trivial,h⟩
 ·rename_i k x k' y;split at h
  ·rename_i hk;have hk:=of_decide_eq_true hk;subst hk;exact ⟨.int k (bif q then x else y),by cases q<;>rfl,trivial,h⟩
  ·cases h
 ·cases q
  ·exact ⟨b,by simp,hb,h⟩
  ·exact ⟨a,by simp,ha,h⟩
theorem nK_ok (hY:TysOk P Y) (hC:CdOk C) {o:Op} {e:Operand->DT T} {K:DT T->Option R} {r:R} (hw:∀ x,WfD L (e x)) (h:nK Y C o e K=some r) :
  ∃ d:DT T,semN P o (λx=>den C (e x))=some (den C d)/\WfD L d/\K d=some r:=by
 unfold nK at h;split at h
 ·exact ⟨_,rfl,hw _,h⟩
 ·exact ⟨_,rfl,hw _,h⟩
 ·rename_i c a b;split at h
  ·rename_i q hq;obtain ⟨d,h1,h2,h3⟩:=Vwx (C:=C) (hw a) (hw b) h;refine ⟨d,?_,h2,h3⟩;simp only [semN,hq,den];cases q<;>simp_all
  ·cases h
 ·rename_i x;split at h
  ·rename_i hx; exact ex_of h (by simp only [semN,hx,den]) trivial
  ·rename_i hx; exact ex_of h (by simp only [semN,hx,den]) trivial
  ·rename_i hx; exact ex_of h (by simp only [semN,hx,den]) trivial
  ·rename_i f cap hx;have:=hw x; rw [hx] at this;exact ⟨_,by simp only [semN,hx,den],this,h⟩
  ·cases h
 ·exact Vama hY h
 ·exact Vcha h
 ·obtain ⟨h1,h2⟩:=Vwv (C:=C) (L:=L) hY h;simp only [semN,h1,if_true]; exact h2
 ·split at h
  ·rename_i t ps d hd;have:=Vt5 (C:=C) (L:=L) hY (λp hp=>by
    simp only [List.mem_map] at hp;obtain ⟨q,_,rfl⟩:=hp;exact hw _) hd
   refine ⟨d,?_,this.2,h⟩;simp only [semN];rw [<- this.1]; simp [List.map_map,Function.comp_def]
  ·cases h
 ·split at h
  ·rename_i d hd;have:=Vjk (C:=C) (L:=L) hY hd;exact ⟨d,this.1,this.2,h⟩
  ·cases h
 ·split at h
  ·rename_i d hd;have:=Vt7 (C:=C) (L:=L) hY (hw _) hd;exact ⟨d,this.1,this.2,h⟩
  ·cases h
 ·exact Vjl hY hC h
 ·exact Vt8 hY (hw _) h
 ·rename_i t x lo hi;obtain ⟨d,h1,h2,h3⟩:=Vub (C:=C) (L:=L) hY h;refine ⟨d,?_,h2,h3⟩;simp only [semN];rw [<- h1]; simp [Option.map_map,Function.comp_def]
 ·exact Voz (C:=C) (L:=L) hY h
 ·rename_i x i;split at h
  ·rename_i vs hx;split at h
   ·rename_i d hd;have hv:=hw x; rw [hx] at hv; simp only [WfD] at hv;refine ⟨d,?_,WfL_iff.1 hv d (List.mem_of_getElem? hd),h⟩;simp only [semN,hx,den,Vwt,hd,Option.map_some]
   ·cases h
  ·cases h
 ·rename_i f first cap
  split at h
  ·rename_i hf;have hf:first = #[]:=by apply Array.ext'; simpa using hf
   subst hf;refine ⟨_,?_,?_,h⟩
   ·simp only [semN]; simp [den,Vaq,List.map_map,Function.comp_def]
   ·simp only [WfD,WfL_iff,List.mem_map];rintro d ⟨x,_,rfl⟩; exact hw x
  ·cases h
 ·rename_i args argTypes;split at h
  ·rename_i x t hx ht;obtain ⟨d,h1,h2,h3⟩:=Vaqa (C:=C) (L:=L) hY h;exact ⟨d,by simp only [semN,hx,ht,h1],h2,h3⟩
  ·cases h
 ·exact Vmf hY hC h
 ·rename_i args argTypes;split at h
  ·rename_i x t hx ht;obtain ⟨d,h1,h2,h3⟩:=Vapa (C:=C) (L:=L) hY h;exact ⟨d,by simp only [semN,hx,ht,h1],h2,h3⟩
  ·cases h
 ·rename_i args argTypes;split at h
  ·rename_i x l hx;have hq:args.toList.map (λx=>den C (e x))=den C x::denL C l:=by
    have:=congrArg (denL C) hx;simpa [Vaq,List.map_map,Function.comp_def] using this
   have hxw:WfD L x:=by
    have:x∈args.toList.map e:=by rw [hx]; simp
    simp only [List.mem_map] at this;obtain ⟨y,_,rfl⟩:=this; exact hw y
   obtain ⟨d,h1,h2,h3⟩:=Vjm (C:=C) (L:=L) Vcia l x K r hxw h;exact ⟨d,by simp only [semN,hq,h1],h2,h3⟩
  ·cases h
 ·rename_i args argTypes;split at h
  ·rename_i x l hx;have hq:args.toList.map (λx=>den C (e x))=den C x::denL C l:=by
    have:=congrArg (denL C) hx;simpa [Vaq,List.map_map,Function.comp_def] using this
   have hxw:WfD L x:=by
    have:x∈args.toList.map e:=by rw [hx]; simp
    simp only [List.mem_map] at this;obtain ⟨y,_,rfl⟩:=this; exact hw y
   obtain ⟨d,h1,h2,h3⟩:=Vjm (C:=C) (L:=L) Vcja l x K r hxw h;exact ⟨d,by simp only [semN,hq,h1],h2,h3⟩
  ·cases h
 ·cases h
end
section
variable {T:Nat->Type} {R:Type}
def castL {c c':Nat} (h:c=c') (l:List (T c)):List (T c'):=h ▸ l
def boxL (m:MT T) (b g c:Nat):Option (List (T c)):=
 match m.get b with
 | .arr g' c' l=>match Nat.beq g g' with
  | true=>match Nat.decEq c' c with
   | .isTrue h=>some (castL h l)
   | .isFalse _=>none
  | false=>none
 | .frz g' c' l=>match Nat.beq g g' with
  | true=>match Nat.decEq c' c with
   | .isTrue h=>some (castL h l)
   | .isFalse _=>none
  | false=>none
 | _=>none
def boxA (m:MT T) (b g c:Nat):Option (List (T c)):=
 match m.get b with
 | .arr g' c' l=>match Nat.beq g g' with
  | true=>match Nat.decEq c' c with
   | .isTrue h=>some (castL h l)
   | .isFalse _=>none
  | false=>none
 | _=>none
def winK {α:Type} (l:List α) (i n:Nat) (K:List α->Option R):Option R:=bif decide (n+i<=l.length) then K ((l.drop i).take n) else none
def rowsK (m:MT T) (c:Nat) (x:DT T) (K:List (T c)->Option R):Option R:=
 match x with
 | .nils=>K []
 | .rs c' l=>match Nat.decEq c' c with
  | .isTrue h=>K (castL h l)
  | .isFalse _=>none
 | .bw b g c' _=>match Nat.beq c' c with
  | true=>match boxL m b g c with
   | some l=>K l
   | none=>none
  | false=>none
 | .bs b g c' i n=>match Nat.beq c' c with
  | true=>match boxL m b g c with
   | some l=>winK l i n K
   | none=>none
  | false=>none
 | _=>none
def purK (C:Cd T) (m:MT T) (sn:Bool):Nat->DT T->(DT T->Option R)->Option R
 | 0,_,_=>none
 | n+1,d,K=>match d with
  | .bw b g c _=>match boxL m b g c with
   | some l=>K (.rs c l)
   | none=>none
  | .bs b g c i k=>match boxL m b g c with
   | some l=>winK l i k λl'=>K (.rs c l')
   | none=>none
  | .bp b off=>match sn with
   | true=>match m.get b with
    | .var cs=>mapK (purK C m sn n) (cs.drop off) λcs'=>K (.rp cs')
    | _=>none
   | false=>none
  | .ap b g c i off=>match sn with
   | true=>match boxL m b g c with
    | some l=>(l[i]?).bind λx=>K (.rp ((C.enc c x).drop off))
    | none=>none
   | false=>none
  | .agg cs=>mapK (purK C m sn n) cs λcs'=>K (.agg cs')
  | .fn f cs=>mapK (purK C m sn n) cs λcs'=>K (.fn f cs')
  | .tup _=>none
  | .mp _=>none
  | d=>K d
def refs:Nat->DT T->List Nat
 | 0,_=>[]
 | n+1,d=>match d with
  | .bw b _ _ _=>[b]
  | .bs b _ _ _ _=>[b]
  | .agg cs=>cs.flatMap (refs n)
  | .fn _ cs=>cs.flatMap (refs n)
  | _=>[]
def MT.put (m:MT T) (b:Nat) (x:BoxT T):MT T:=List.set m b x
def fz1 (m:MT T) (b:Nat):MT T:=
 match m.get b with
 | .arr g c l=>m.put b (.frz g c l)
 | _=>m
def fzAll (m:MT T) (ids:List Nat):MT T:=ids.foldl fz1 m
def frK (C:Cd T) (m:MT T) (cs:List (DT T)) (K:List (DT T)->MT T->Option R):Option R:=
 mapK (purK C m false 4) cs λcs'=>K cs' (fzAll m (cs.flatMap (refs 4)))
def castB (C:Cd T) (l:List (T C.bt)):List UInt8:=cast (congrArg List C.hb) l
def castT (C:Cd T) (l:List UInt8):List (T C.bt):=cast (congrArg List C.hb.symm) l
def isInt (Y:Nat->Option TI) (e:Nat):Bool:=
 match Y e with
 | some i=>match i.kind with
  | .int _=>true
  | _=>false
 | none=>false
def isU8 (Y:Nat->Option TI) (e:Nat):Bool:=
 match Y e with
 | some i=>match i.kind with
  | .int .u8=>true
  | _=>false
 | none=>false
def arrN (Y:Nat->Option TI) (t s:Nat):Option Nat:=
 match arrT Y t with
 | some (n,_,s')=>match Nat.beq s' s with
  | true=>some n
  | false=>none
 | none=>none
def elemsT (C:Cd T) (c:Nat):Nat->List (DT T)->Option (List (T c))
 | 0,cs=>match cs with
  | []=>some []
  | _=>none
 | n+1,cs=>match C.dec c (cs.take (C.sz c)) with
  | some x=>match elemsT C c n (cs.drop (C.sz c)) with
   | some l=>some (x::l)
   | none=>none
  | none=>none
def DT.isAgg:DT T->Bool
 | .agg _=>true
 | _=>false
def isMap (Y:Nat->Option TI) (t:Nat):Bool:=
 match Y t with
 | some i=>match i.kind with
  | .map _ _=>true
  | _=>false
 | none=>false
def rK (Y : Nat->Option TI) (C : Cd T) (o : Op) (e : Operand->DT T) (m : MT T) (K : DT T->Option R) : Option R :=
 match o with
 | .load t x=>match e x with
  | .bp b off=>match m.get b with
   | .var cs=>ldK Y t (cs.drop off) K
   | _=>none
  | .ap b g c i off=>match boxL m b g c with
   | some l=>match arrN Y t (C.sz c) with
    | some n=>match off with
     | 0=>firstsK C c l n i λcs=>ldK Y t cs K
     | _=>none
    | none=>(l[i]?).bind λx=>ldK Y t ((C.enc c x).drop off) K
   | none=>none
  | .rp cs=>ldK Y t cs K
  | _=>none
 | .slice t x none none none=>match e x with
  | .ap b g c 0 0=>match arrN Y t (C.sz c) with
   | some n=>match boxL m b g c with
    | some l=>bif decide (l.length=n) then K (.bw b g c l.length) else none
    | none=>none
   | none=>none
  | _=>none
 | .slice t x (some lo) none none=>match e x with
  | .ap b g c 0 0=>match e lo with
   | .int .i64 z=>match arrN Y t (C.sz c) with
    | some n=>match boxL m b g c with
     | some l=>bif decide (l.length=n)&&(decide (0<=z)&&decide (z < (n:Int))) then K (.bs b g c z.toNat (n - z.toNat)) else none
     | none=>none
    | none=>none
   | _=>none
  | _=>none
 | .convert src dst x=>match elemT Y src with
  | some el=>match isU8 Y el&&isStr Y dst with
   | true=>rowsK m C.bt (e x) λl=>K (.str (castB C l))
   | false=>none
  | none=>none
 | _=>none
def zeroE (C:Cd T) (i:TI):Option (T i.code):=
 match Nat.beq i.sz (C.sz i.code) with
 | true=>C.dec i.code (i.zero.map Zc.toT)
 | false=>none
def partsK (C:Cd T) (el:Nat):List (Nat×DT T)->MT T->List (T el)->(List (T el)->MT T->Option R)->Option R
 | [],m,rows,K=>K rows m
 | (i, x)::r, m, rows, K => match x.fit with
  | true=>frK C m x.cells λcs m'=>match C.dec el cs with
   | some y=>match Nat.blt i rows.length with
    | true=>partsK C el r m' (rows.set i y) K
    | false=>none
   | none=>none
  | false=>none
def appK (m:MT T) (bts el:Nat) (s:DT T) (rows:List (T el)) (K:DT T->MT T->Option R):Option R:=
 match s with
 | .nils=>bif small rows.length bts then K (.bw m.length 0 el rows.length) (m++[.arr 0 el rows]) else none
 | .bw b g c' _=>match Nat.beq c' el with
  | true=>match boxA m b g el with
   | some l=>bif small (l.length+rows.length) bts then K (.bw b (g+1) el (l++rows).length) (m.put b (.arr (g+1) el (l++rows))) else none
   | none=>none
  | false=>none
 | .bs b g c' 0 n=>match Nat.beq c' el with
  | true=>match boxA m b g el with
   | some l=>bif decide (n<=l.length)&&small (n+rows.length) bts then K (.bw b (g+1) el (l.take n++rows).length) (m.put b (.arr (g+1) el (l.take n++rows))) else none
   | none=>none
  | false=>none
 | _=>none
def copyK (m:MT T) (b g c:Nat) (rows:List (T c)) (K:DT T->MT T->Option R):Option R:=
 match boxA m b g c with
 | some l=>bif decide (rows.length<=l.length) then K (.int .i64 rows.length) (m.put b (.arr g c (rows++l.drop rows.length))) else none
 | none=>none
def copyA (m:MT T) (b g c i n:Nat) (rows:List (T c)) (K:DT T->MT T->Option R):Option R:=
 match boxA m b g c with
 | some l=>bif decide (0 < rows.length)&&decide (rows.length<=n)&&decide (i+n<=l.length) then K (.int .i64 rows.length) (m.put b (.arr g c (l.take i++(rows++l.drop (i+rows.length))))) else none
 | none=>none
def copyS (Y:Nat->Option TI) (C:Cd T) (m:MT T) (b g c t':Nat) (d:DT T) (K:DT T->MT T->Option R):Option R:=
 match isStr Y t' with
 | true=>match Nat.beq c C.bt with
  | true=>match d with
   | .str l=>copyK m b g C.bt (castT C l) K
   | _=>none
  | false=>none
 | false=>none
def sameK (Y:Nat->Option TI) (C:Cd T) (m:MT T) (src dst:Nat) (d:DT T) (K:DT T->MT T->Option R):Option R:=
 match Nat.beq src dst with
 | true=>match elemT Y src with
  | some el=>match isU8 Y el with
   | true=>match d with
    | .bw b g c n=>match boxA m b g c with
     | some l=>bif l.isEmpty then none else K (.bw b g c n) m
     | none=>none
    | _=>none
   | false=>none
  | none=>none
 | false=>none
def rnK:List Bool->List (DT T)->(List (DT T)->Option R)->Option R
 | _,[],K=>K []
 | [],d::r,K=>K (d::r)
 | q::qs,d::r,K=>match q with
  | true=>match d with
   | .rs c l=>bif l.isEmpty then none else rnK qs r λr'=>K (.rn c l::r')
   | d=>rnK qs r λr'=>K (d::r')
  | false=>rnK qs r λr'=>K (d::r')
def wK (Y : Nat -> Option TI) (C : Cd T) (o : Op) (e : Operand -> DT T) (m : MT T) (K : DT T -> MT T -> Option R) : Option R :=
  match o with
  | .alloc t=>match Y t with
    | some i=>match C.la t with
      | some c=>match arrN Y t (C.sz c) with
        | some n=>match elemsT C c n (i.zero.map Zc.toT) with
          | some l=>K (.ap m.length 0 c 0 0) (m ++ [.arr 0 c l])
          | none=>none
        | none=>none
      | none=>K (.bp m.length 0) (m ++ [.var (i.zero.map Zc.toT)])
    | none=>none
  | .box t x=>match (e x).fit with
    | true=>match C.im t with
      | true=>match solidL (e x).cells with
        | true=>K (.rp (e x).cells) m
        | false=>none
      | false=>match C.la t with
        | some c=>match arrN Y t (C.sz c) with
          | some n=>frK C m (e x).cells λcs m'=>match elemsT C c n cs with
            | some l=>K (.ap m'.length 0 c 0 0) (m' ++ [.arr 0 c l])
            | none=>none
          | none=>none
        | none=>K (.bp m.length 0) (m ++ [.var (e x).cells])
    | false=>none
  | .store t x y=>match Y t with
    | some i => match (e y).fit && Nat.beq (e y).cells.length i.sz with
      | true => match e x with
        | .bp b off=>match m.get b with
          | .var cs=>match Nat.ble (off + i.sz) cs.length with
            | true=>K .dead (m.put b (.var (setT cs off (e y).cells)))
            | false=>none
          | _=>none
        | .ap b g c k off=>match C.la t with
          | some c'=>match Nat.beq c' c && (Nat.beq k 0 && Nat.beq off 0) with
            | true=>match arrN Y t (C.sz c) with
              | some n=>frK C m (e y).cells λcs m'=>match elemsT C c n cs with
                | some l'=>match boxA m' b g c with
                  | some l=>bif decide (l.length=n) then K .dead (m'.put b (.arr g c l')) else none
                  | none=>none
                | none=>none
              | none=>none
            | false=>none
          | none=>match boxA m b g c with
          | some l=>(l[k]?).bind λx=>frK C m (e y).cells λcs0 m'=>rnK ((C.rn c).drop off) cs0 λcs=>
              match Nat.ble (off + i.sz) (C.enc c x).length with
              | true=>match C.dec c (setT (C.enc c x) off cs) with
                | some x'=>match m'.get b with
                  | .arr _ _ _=>K .dead (m'.put b (.arr g c (l.set k x')))
                  | _=>none
                | none=>none
              | false=>none
          | none=>none
        | _=>none
      | false=>none
    | none=>none
  | .buildSlice t n parts=>match elemT Y t with
    | some el=>match Y el with
      | some j=>match zeroE C j with
        | some z=>match Nat.ble (n * j.sz) 16777216 with
          | true=>partsK C j.code (parts.toList.map λp=>(p.1,e p.2)) m (List.replicate n z) λrows m'=>K (.bw m'.length 0 j.code n) (m' ++ [.arr 0 j.code rows])
          | false=>none
        | none=>none
      | none=>none
    | none=>none
  | .range t x=>match e x with
    | .str l=>match isStr Y t with
      | true=>K (.bp m.length 0) (m ++ [.iter l 0])
      | false=>none
    | _=>none
  | .next x true=>match e x with
    | .bp b 0=>match m.get b with
      | .iter l pos=>bif decide (pos < l.length) then
          K (.tup [.bool true,.int .i64 pos,.int .i32 (Utf8.decode ⟨l.toArray⟩ pos).1]) (m.put b (.iter l (pos + (Utf8.decode ⟨l.toArray⟩ pos).2)))
        else K (.tup [.bool false]) m
      | _=>none
    | _=>none
  | .convert src dst x=>match isStr Y src with
    | true=>match elemT Y dst with
      | some el=>match isU8 Y el with
        | true=>match e x with
          | .str l=>K (.bw m.length 0 C.bt l.length) (m ++ [.arr 0 C.bt (castT C l)])
          | _=>none
        | false=>none
      | none=>none
    | false=>sameK Y C m src dst (e x) K
  | .makeSlice t len cap=>match elemT Y t with
    | some el=>match Y el with
      | some j=>match zeroE C j with
        | some z=>match e len with
          | .int _ n=>match e cap with
            | .int _ k=>bif decide (0 <= n) && (decide (n <= k) && decide ((j.bts:Int) * k <= 281474976710656 /\ k <= 9223372036854775807)) then
                K (.bw m.length 0 j.code n.toNat) (m ++ [.arr 0 j.code (List.replicate n.toNat z)]) else none
            | _=>none
          | _=>none
        | none=>none
      | none=>none
    | none=>none
  | .call { callee:=.builtin .copy,args,argTypes }=>match args.toList,argTypes.toList with
    | [s, x], [t, t'] => match e s with
      | .bw b g c _=>match elemC Y C t c with
        | true=>match elemT Y t' with
          | some _=>rowsK m c (e x) λrows=>copyK m b g c rows K
          | none=>copyS Y C m b g c t' (e x) K
        | false=>none
      | .bs b g c i n=>match elemC Y C t c with
        | true=>match elemT Y t' with
          | some _=>rowsK m c (e x) λrows=>copyA m b g c i n rows K
          | none=>none
        | false=>none
      | _=>none
    | _,_=>none
  | .call { callee:=.builtin .append,args,argTypes }=>match args.toList,argTypes.toList with
    | [s, x], [t, t'] => match elemT Y t with
      | some el => match Y el with
        | some j=>match zeroE C j with
          | some z=>match e x with
            | .int _ n=>match e s with
              | .nils=>match isInt Y t' with
                | true=>bif decide (0 < n) && (decide (n <= 9223372036854775807) && small n.toNat j.bts) then K (.bw m.length 0 j.code n.toNat) (m ++ [.arr 0 j.code (List.replicate n.toNat z)]) else none
                | false=>none
              | d=>match isInt Y t' with
                | true=>bif decide (0 <= n) && (decide (n <= 9223372036854775807) && small n.toNat j.bts) then appK m j.bts j.code d (List.replicate n.toNat z) K else none
                | false=>none
            | .str l=>match isStr Y t' with
              | true=>match Nat.decEq C.bt j.code with
                | .isTrue h=>appK m j.bts j.code (e s) (castL h (castT C l)) K
                | .isFalse _=>none
              | false=>none
            | d=>match elemT Y t' with
              | some _=>rowsK m j.code d λrows=>appK m j.bts j.code (e s) rows K
              | none=>none
          | none=>none
        | none=>none
      | none=>none
    | _,_=>none
  | _=>none
inductive VT where
 | bool | int (k:IntKind) | u8 | u16 | u32 | u64 | str | rs (c:Nat) | agg (c:Nat) | ref (t:VT) | fn (f:Nat) (caps:VT) | nil | cons (a b:VT) | kn
def VT.ty (T:Nat->Type):VT->Type
 | .bool=>Bool
 | .int _=>Int
 | .u8=>UInt8
 | .u16=>BitVec 16
 | .u32=>BitVec 32
 | .u64=>BitVec 64
 | .str=>List UInt8
 | .rs c=>List (T c)
 | .agg c=>T c
 | .ref t=>t.ty T
 | .fn _ cs=>cs.ty T
 | .nil=>Unit
 | .cons a b=>a.ty T×b.ty T
 | .kn=>Unit
def VT.sz (C:Cd T):VT->Nat
 | .agg c=>C.sz c
 | .nil=>0
 | .cons a b=>a.sz C+b.sz C
 | _=>1
def encC (C:Cd T):(t:VT)->t.ty T->List (DT T)
 | .bool,b=>[.bool b]
 | .int k,n=>[.int k n]
 | .u8,x=>[.u8 x]
 | .u16,x=>[.u16 x]
 | .u32,x=>[.u32 x]
 | .u64,x=>[.u64 x]
 | .str,l=>[.str l]
 | .rs c,l=>[.rs c l]
 | .agg c,x=>C.enc c x
 | .ref t,x=>[.rp (encC C t x)]
 | .fn f cs,x=>[.fn f (encC C cs x)]
 | .nil,_=>[]
 | .cons a b,x=>encC C a x.1++encC C b x.2
 | .kn,_=>[.nils]
def encV (C:Cd T) (t:VT) (x:t.ty T):DT T:=
 match t,x with
 | .agg c,x=>.agg (C.enc c x)
 | t,x=>(encC C t x).headD .dead
def one1:List (DT T)->DT T
 | [d]=>d
 | _=>.dead
def asBool:DT T->Option Bool
 | .bool b=>some b
 | _=>none
def asInt (k:IntKind):DT T->Option Int
 | .int k' n=>match decide (k=k') with
  | true=>some n
  | false=>none
 | _=>none
def asU8:DT T->Option UInt8
 | .u8 x=>some x
 | _=>none
def asU16:DT T->Option (BitVec 16)
 | .u16 x=>some x
 | _=>none
def asU32:DT T->Option (BitVec 32)
 | .u32 x=>some x
 | _=>none
def asU64:DT T->Option (BitVec 64)
 | .u64 x=>some x
 | _=>none
def asStr:DT T->Option (List UInt8)
 | .str x=>some x
 | _=>none
def asRs (c:Nat):DT T->Option (List (T c))
 | .nils=>some []
 | .rs c' l=>match Nat.decEq c' c with
  | .isTrue h=>some (castL h l)
  | .isFalse _=>none
 | .rn c' l=>match Nat.decEq c' c with
  | .isTrue h=>some (castL h l)
  | .isFalse _=>none
 | _=>none
def asRn (c:Nat):DT T->Option (List (T c))
 | .nils=>some []
 | .rn c' l=>match Nat.decEq c' c with
  | .isTrue h=>some (castL h l)
  | .isFalse _=>none
 | _=>none
def asRp:DT T->Option (List (DT T))
 | .rp cs=>some cs
 | _=>none
def asFn (f:Nat):DT T->Option (List (DT T))
 | .fn f' l=>match Nat.beq f f' with
  | true=>some l
  | false=>none
 | _=>none
def asNils:DT T->Option Unit
 | .nils=>some ()
 | _=>none
def decC (C:Cd T):(t:VT)->List (DT T)->Option (t.ty T)
 | .bool,cs=>asBool (one1 cs)
 | .int k,cs=>asInt k (one1 cs)
 | .u8,cs=>asU8 (one1 cs)
 | .u16,cs=>asU16 (one1 cs)
 | .u32,cs=>asU32 (one1 cs)
 | .u64,cs=>asU64 (one1 cs)
 | .str,cs=>asStr (one1 cs)
 | .rs c,cs=>asRs c (one1 cs)
 | .agg c,cs=>C.dec c cs
 | .ref t,cs=>match asRp (one1 cs) with
  | some ds=>decC C t (ds.take (t.sz C))
  | none=>none
 | .fn f c,cs=>match asFn f (one1 cs) with
  | some ds=>decC C c ds
  | none=>none
 | .nil,cs=>match cs with
  | []=>some ()
  | _=>none
 | .cons a b,cs=>match decC C a (cs.take (a.sz C)) with
  | some x=>match decC C b (cs.drop (a.sz C)) with
   | some y=>some (x,y)
   | none=>none
  | none=>none
 | .kn,cs=>asNils (one1 cs)
inductive Fld where
 | v (t:VT)
 | own (c:Nat)
 | pt (t:VT)
 | st (a:VT) (c:Nat) (b:VT)
 | fp (f:Nat) (t:VT)
inductive Slot where
 | f (x:Fld)
 | ptr (fs:List Fld)
 | inp (c:Nat)
 | iter
 | mset (a:Bool) (c:Nat)
 | lar (c:Nat)
def Fld.ty (T:Nat->Type):Fld->Type
 | .v t=>t.ty T
 | .own c=>List (T c)
 | .pt t=>t.ty T
 | .st a c b=>a.ty T×List (T c)×b.ty T
 | .fp _ t=>t.ty T
def tyFs (T:Nat->Type):List Fld->Type
 | []=>Unit
 | f::r=>f.ty T×tyFs T r
def Slot.ty (T:Nat->Type):Slot->Type
 | .f x=>x.ty T
 | .ptr fs=>tyFs T fs
 | .inp c=>List (T c)
 | .iter=>List UInt8×Nat
 | .mset _ c=>List (T c)
 | .lar c=>List (T c)
def tySs (T:Nat->Type):List Slot->Type
 | []=>Unit
 | s::r=>s.ty T×tySs T r
def tyO (T:Nat->Type):List Slot->Type
 | []=>Unit
 | .ptr fs::r=>tyFs T fs×tyO T r
 | .inp c::r=>List (T c)×tyO T r
 | _::r=>tyO T r
def Fld.sz (C:Cd T):Fld->Nat
 | .v t=>t.sz C
 | .own _=>1
 | .pt _=>1
 | .st a _ b=>a.sz C+(1+b.sz C)
 | .fp _ _=>1
def encF (C:Cd T) (base:Nat):(f:Fld)->f.ty T->List (DT T)×List (BoxT T)
 | .v t,x=>(encC C t x,[])
 | .own c,l=>([.bw base 0 c l.length],[.arr 0 c l])
 | .pt t,x=>([.bp base 0],[.var (encC C t x)])
 | .st a c b,x=>(encC C a x.1++(.bw base 0 c x.2.1.length::encC C b x.2.2),[.arr 0 c x.2.1])
 | .fp f t,x=>([.fn f [.bp base 0]],[.var (encC C t x)])
def encFs (C:Cd T) (base:Nat):(fs:List Fld)->tyFs T fs->List (DT T)×List (BoxT T)
 | [],_=>([],[])
 | f::r,x=>match encF C base f x.1 with
  | (a,b)=>match encFs C (base+b.length) r x.2 with
   | (a',b')=>(a++a',b++b')
def encFV (C:Cd T) (base:Nat):(f:Fld)->f.ty T->DT T×List (BoxT T)
 | .v t,x=>(encV C t x,[])
 | .own c,l=>(.bw base 0 c l.length,[.arr 0 c l])
 | .pt t,x=>(.bp base 0,[.var (encC C t x)])
 | .st a c b,x=>(.agg (encC C a x.1++(.bw base 0 c x.2.1.length::encC C b x.2.2)),[.arr 0 c x.2.1])
 | .fp f t,x=>(.fn f [.bp base 0],[.var (encC C t x)])
def encFVs (C:Cd T) (base:Nat):(fs:List Fld)->tyFs T fs->List (DT T)×List (BoxT T)
 | [],_=>([],[])
 | f::r,x=>match encFV C base f x.1 with
  | (a,b)=>match encFVs C (base+b.length) r x.2 with
   | (a',b')=>(a::a',b++b')
def encS (C:Cd T) (base:Nat):(s:Slot)->s.ty T->DT T×List (BoxT T)
 | .f x,y=>encFV C base x y
 | .ptr fs,x=>match encFs C base fs x with
  | (cs,bs)=>(.bp (base+bs.length) 0,bs++[.var cs])
 | .inp c,l=>(.bw base 0 c l.length,[.arr 0 c l])
 | .iter,x=>(.bp base 0,[.iter x.1 x.2])
 | .mset a c,l=>(.mp base,[.mset a c l])
 | .lar c,l=>(.ap base 0 c 0 0,[.arr 0 c l])
def encSs (C:Cd T) (base:Nat):(ss:List Slot)->tySs T ss->List (DT T)×List (BoxT T)
 | [],_=>([],[])
 | s::r,x=>match encS C base s x.1 with
  | (a,b)=>match encSs C (base+b.length) r x.2 with
   | (a',b')=>(a::a',b++b')
def VT.isAgg:VT->Bool
 | .agg _=>true
 | _=>false
def DT.as (d:DT T) (f:Fld):Bool:=
 match f with
 | .v t=>d.fit&&(d.isAgg == t.isAgg)
 | .st _ _ _=>d.fit&&d.isAgg
 | _=>d.fit&&!d.isAgg
def decOK (m:MT T) (c:Nat) (d:DT T) (K:List (T c)->MT T->Option R):Option R:=
 match d with
 | .nils=>K [] m
 | .bw b g c' _=>match Nat.beq c' c with
  | true=>match boxA m b g c with
   | some l=>K l (m.put b .gone)
   | none=>none
  | false=>none
 | .bs b g c' 0 n=>match Nat.beq c' c with
  | true=>match boxA m b g c with
   | some l=>bif decide (n<=l.length) then K (l.take n) (m.put b .gone) else none
   | none=>none
  | false=>none
 | _=>none
def decVK (C:Cd T) (m:MT T) (t:VT) (cs:List (DT T)) (K:t.ty T->MT T->Option R):Option R:=
 frK C m cs λcs' m'=>match decC C t cs' with
  | some x=>K x m'
  | none=>none
def decStK (C:Cd T) (m:MT T) (a:VT) (c:Nat) (b:VT) (cs:List (DT T)) (K:a.ty T×List (T c)×b.ty T->MT T->Option R):Option R:=
 match cs.drop (a.sz C) with
 | d::r=>decVK C m a (cs.take (a.sz C)) λx m1=>decOK m1 c d λl m2=>decVK C m2 b r λy m3=>K (x,l,y) m3
 | _=>none
def decFK (C:Cd T) (m:MT T) (f:Fld) (cs:List (DT T)) (K:f.ty T->MT T->Option R):Option R:=
 match f,K with
 | .v t,K=>decVK C m t cs K
 | .own c,K=>match cs with
  | [d]=>decOK m c d K
  | _=>none
 | .pt t,K=>match cs with
  | [.bp b 0]=>match m.get b with
   | .var cs=>decVK C (m.put b .gone) t cs K
   | _=>none
  | _=>none
 | .st a c b,K=>decStK C m a c b cs K
 | .fp f t,K=>match cs with
  | [.fn f' [.bp b 0]]=>match Nat.beq f' f with
   | true=>match m.get b with
    | .var cs=>decVK C (m.put b .gone) t cs K
    | _=>none
   | false=>none
  | _=>none
def decFsK (C:Cd T):(fs:List Fld)->MT T->List (DT T)->(tyFs T fs->MT T->Option R)->Option R
 | [],m,cs,K=>match cs with
  | []=>K () m
  | _=>none
 | f::r,m,cs,K=>decFK C m f (cs.take (f.sz C)) λx m'=>decFsK C r m' (cs.drop (f.sz C)) λy m''=>K (x,y) m''
def decSK (C:Cd T) (m:MT T) (s:Slot) (d:DT T) (K:s.ty T->MT T->Option R):Option R:=
 match s,K with
 | .f f,K=>match d.as f with
  | true=>decFK C m f d.cells K
  | false=>none
 | .ptr fs,K=>match d with
  | .bp b 0=>match m.get b with
   | .var cs=>decFsK C fs (m.put b .gone) cs K
   | _=>none
  | _=>none
 | .inp c,K=>decOK m c d K
 | .iter,K=>match d with
  | .bp b 0=>match m.get b with
   | .iter l p=>K (l,p) (m.put b .gone)
   | _=>none
  | _=>none
 | .mset a c,K=>match d with
  | .mp b=>match m.get b with
   | .mset a' c' l=>match a == a' with
    | true=>match Nat.decEq c' c with
     | .isTrue h=>K (castL h l) (m.put b .gone)
     | .isFalse _=>none
    | false=>none
   | _=>none
  | _=>none
 | .lar c,K=>match d with
  | .ap b g c' 0 0=>match Nat.beq c' c with
   | true=>match boxA m b g c with
    | some l=>K l (m.put b .gone)
    | none=>none
   | false=>none
  | _=>none
def decSsK (C:Cd T):(ss:List Slot)->MT T->List (DT T)->(tySs T ss->MT T->Option R)->Option R
 | [],m,ds,K=>match ds with
  | []=>K () m
  | _=>none
 | s::r,m,d::ds,K=>decSK C m s d λx m'=>decSsK C r m' ds λy m''=>K (x,y) m''
 | _::_,_,[],_=>none
def decFVsK (C:Cd T):(fs:List Fld)->MT T->List (DT T)->(tyFs T fs->MT T->Option R)->Option R
 | [],m,ds,K=>match ds with
  | []=>K () m
  | _=>none
 | f::r,m,d::ds,K=>match d.as f with
  | true=>decFK C m f d.cells λx m'=>decFVsK C r m' ds λy m''=>K (x,y) m''
  | false=>none
 | _::_,_,[],_=>none
inductive Lf where
 | bool | int (k:IntKind) | u8 | u16 | u32 | u64 | str | rs (c:Nat) | rn (c:Nat)
def Lf.ty (T:Nat->Type):Lf->Type
 | .bool=>Bool
 | .int _=>Int
 | .u8=>UInt8
 | .u16=>BitVec 16
 | .u32=>BitVec 32
 | .u64=>BitVec 64
 | .str=>List UInt8
 | .rs c=>List (T c)
 | .rn c=>List (T c)
def tyLs (T:Nat->Type):List Lf->Type
 | []=>Unit
 | l::r=>l.ty T×tyLs T r
def encL1:(l:Lf)->l.ty T->DT T
 | .bool,x=>.bool x
 | .int k,x=>.int k x
 | .u8,x=>.u8 x
 | .u16,x=>.u16 x
 | .u32,x=>.u32 x
 | .u64,x=>.u64 x
 | .str,x=>.str x
 | .rs c,x=>.rs c x
 | .rn c,x=>.rn c x
def encL:(ls:List Lf)->tyLs T ls->List (DT T)
 | [],_=>[]
 | l::r,x=>encL1 l x.1::encL r x.2
def decL1:(l:Lf)->DT T->Option (l.ty T)
 | .bool,d=>asBool d
 | .int k,d=>asInt k d
 | .u8,d=>asU8 d
 | .u16,d=>asU16 d
 | .u32,d=>asU32 d
 | .u64,d=>asU64 d
 | .str,d=>asStr d
 | .rs c,d=>asRs c d
 | .rn c,d=>asRn c d
def decL:(ls:List Lf)->List (DT T)->Option (tyLs T ls)
 | [],[]=>some ()
 | l::r,d::ds=>match decL1 l d with
  | some x=>match decL r ds with
   | some y=>some (x,y)
   | none=>none
  | none=>none
 | _,_=>none
structure FSpec (T:Nat->Type) where
 ps:List Slot
 rs:List Fld
 fn:tySs T ps->Option (tyO T ps×tyFs T rs)
def VT.flat:VT->Bool
 | .bool=>true
 | .int _=>true
 | .u8=>true
 | .u16=>true
 | .u32=>true
 | .u64=>true
 | .str=>true
 | _=>false
def Fld.isV:Fld->Bool
 | .v _=>true
 | _=>false
def Slot.isV:Slot->Bool
 | .f x=>x.isV
 | _=>false
def Fld.flat (fl:Nat->Bool):Fld->Bool
 | .v (.agg c)=>fl c
 | .v t=>t.flat
 | .own c=>fl c
 | .pt (.agg c)=>fl c
 | .pt t=>t.flat
 | .st _ _ _=>false
 | .fp _ _=>false
structure Env (T:Nat->Type) where
 Y:Nat->Option TI
 C:Cd T
 G:Nat->Option (List (DT T))
 fl:Nat->Bool
 F:Nat->List (DT T)->Option (FSpec T)
 ro:Nat->Bool
def decVsK (C:Cd T) (m:MT T):(ss:List Slot)->List (DT T)->(tySs T ss->Option R)->Option R
 | [],ds,K=>match ds with
  | []=>K ()
  | _=>none
 | .f (.v t)::r,d::ds,K=>match d.as (.v t) with
  | true=>mapK (purK C m true 8) d.cells λcs=>match decC C t cs with
   | some x=>decVsK C m r ds λy=>K (x,y)
   | none=>none
  | false=>none
 | _,_,_=>none
def oneOf:List (DT T)->DT T
 | [d]=>d
 | l=>.tup l
def callR (E:Env T) (f:Nat) (ds:List (DT T)) (m:MT T) (K:DT T->Option R):Option R:=
 match E.F f ds with
 | some S=>match S.ps.all Slot.isV&&S.rs.all (λr=>r.isV&&r.flat E.fl) with
  | true=>decVsK E.C m S.ps ds λx=>(S.fn x).bind λr=>K (oneOf (encFVs E.C 0 S.rs r.2).1)
  | false=>none
 | none=>none
def argsK (C:Cd T) (sn:Bool):(ss:List Slot)->MT T->List (DT T)->(tySs T ss->List Nat->MT T->Option R)->Option R
 | [],m,ds,K=>match ds with
  | []=>K () [] m
  | _=>none
 | .f (.v t)::r,m,d::ds,K=>match d.as (.v t) with
  | true=>match sn with
   | true=>mapK (purK C m true 8) d.cells λcs=>match decC C t cs with
    | some x=>argsK C sn r m ds λy ids m'=>K (x,y) ids m'
    | none=>none
   | false=>decFK C m (.v t) d.cells λx m'=>argsK C sn r m' ds λy ids m''=>K (x,y) ids m''
  | false=>none
 | .f (.own c)::r,m,d::ds,K=>decOK m c d λx m'=>argsK C sn r m' ds λy ids m''=>K (x,y) ids m''
 | .f (.fp f t)::r,m,d::ds,K=>match d.as (.fp f t) with
  | true=>decFK C m (.fp f t) d.cells λx m'=>argsK C sn r m' ds λy ids m''=>K (x,y) ids m''
  | false=>none
 | .ptr fs::r,m,d::ds,K=>match d with
  | .bp b 0=>match m.get b with
   | .var cs=>decFsK C fs (m.put b .lent) cs λx m'=>argsK C sn r m' ds λy ids m''=>K (x,y) (b::ids) m''
   | _=>none
  | _=>none
 | .inp c::r,m,d::ds,K=>match d with
  | .bw b g c' _=>match Nat.beq c' c with
   | true=>match boxA m b g c with
    | some l=>argsK C sn r (m.put b .lent) ds λy ids m''=>K (l,y) (b::ids) m''
    | none=>none
   | false=>none
  | _=>none
 | _,_,_,_=>none
def backO (C:Cd T) (m0:MT T):(ss:List Slot)->List Nat->tyO T ss->MT T->Option (MT T)
 | [],_,_,m=>some m
 | .ptr fs::r,b::ids,x,m=>match encFs C m.length fs x.1 with
  | (cs,bs)=>backO C m0 r ids x.2 ((m++bs).put b (.var cs))
 | .inp c::r,b::ids,x,m=>match m0.get b with
  | .arr g _ _=>backO C m0 r ids x.2 (m.put b (.arr g c x.1))
  | _=>none
 | .ptr _::_,[],_,_=>none
 | .inp _::_,[],_,_=>none
 | .f _::r,ids,x,m=>backO C m0 r ids x m
 | .iter::r,ids,x,m=>backO C m0 r ids x m
 | .mset _ _::r,ids,x,m=>backO C m0 r ids x m
 | .lar _::r,ids,x,m=>backO C m0 r ids x m
def callW (E:Env T) (f:Nat) (ds:List (DT T)) (m:MT T) (K:DT T->MT T->Option R):Option R:=
 match E.F f ds with
 | some S=>argsK E.C (S.ps.all Slot.isV&&S.rs.all (Fld.flat E.fl)) S.ps m ds λx ids m1=>(S.fn x).bind λr=>
   match backO E.C m S.ps ids r.1 m1 with
   | some m2=>match encFVs E.C m2.length S.rs r.2 with
    | (vs,bs)=>K (oneOf vs) (m2++bs)
   | none=>none
 | none=>none
def clsT (E:Env T) (o:Op):Cls:=
 match o with
 | .load _ _=>.r
 | .convert src dst _=>match elemT E.Y src with
  | some _=>match Nat.beq src dst with
   | true=>.w
   | false=>.r
  | none=>match elemT E.Y dst with
   | some _=>.w
   | none=>.n
 | .alloc _=>.w
 | .box _ _=>.w
 | .store _ _ _=>.w
 | .buildSlice _ _ _=>.w
 | .makeSlice _ _ _=>.w
 | .slice t _ _ _ _=>match arrT E.Y t with
  | some _=>match E.C.la t with
   | some _=>.r
   | none=>.w
  | none=>.n
 | .range _ _=>.w
 | .next _ _=>.w
 | .lookup _ _ _ _=>.r
 | .makeMap _ _=>.w
 | .mapUpdate _ _ _ _=>.w
 | .call { callee:=.builtin b,argTypes,.. }=>match b with
  | .len=>match argTypes.toList with
   | [t]=>match isMap E.Y t with
    | true=>.r
    | false=>.n
   | _=>.n
  | .cap=>.n
  | .min=>.n
  | .max=>.n
  | _=>.w
 | .call { callee:=.value (.func f),.. }=>match E.ro f with
  | true=>.r
  | false=>.w
 | .call _=>.w
 | _=>.n
def sliceVarK (Y:Nat->Option TI) (C:Cd T) (t:Nat) (x:DT T) (m:MT T) (K:DT T->MT T->Option R):Option R:=
 match x with
 | .bp b 0 => match m.get b with
  | .var cs=>match arrT Y t with
   | some (n,el,s)=>match Y el with
    | some j=>match Nat.beq (C.sz j.code) s with
     | true=>frK C m cs λcs' m'=>match elemsT C j.code n cs' with
      | some l=>K (.bw m'.length 0 j.code l.length) (m'.put b .gone++[.arr 0 j.code l])
      | none=>none
     | false=>none
    | none=>none
   | none=>none
  | _=>none
 | _=>none
def opK (E:Env T) (o:Op) (e:Operand->DT T) (m:MT T) (K:DT T->MT T->Option R):Option R:=
 match clsT E o with
 | .n=>nK E.Y E.C o e λd=>K d m
 | .r=>match o with
  | .call { callee:=.value (.func f),args,.. }=>callR E f (args.toList.map e) m λd=>K d m
  | o=>rK E.Y E.C o e m λd=>K d m
 | .w=>match o with
  | .call { callee:=.value f,args,.. }=>match e f with
   | .fn k cap=>callW E k (args.toList.map e++cap) m K
   | _=>none
  | .slice t x none none none=>sliceVarK E.Y E.C t (e x) m K
  | o=>wK E.Y E.C o e m K
mutual
def DT.ids:DT T->List Nat
 | .bp b _=>[b]
 | .mp b=>[b]
 | .ap b _ _ _ _=>[b]
 | .bs b _ _ _ _=>[b]
 | .bw b _ _ _=>[b]
 | .agg cs=>idsL cs
 | .tup cs=>idsL cs
 | .fn _ cs=>idsL cs
 | _=>[]
def idsL:List (DT T)->List Nat
 | []=>[]
 | d::r=>d.ids++idsL r
end
mutual
def DT.ren (ρ:Nat->Nat):DT T->DT T
 | .bp b off=>.bp (ρ b) off
 | .mp b=>.mp (ρ b)
 | .ap b g c i off=>.ap (ρ b) g c i off
 | .bs b g c i n=>.bs (ρ b) g c i n
 | .bw b g c n=>.bw (ρ b) g c n
 | .agg cs=>.agg (renL ρ cs)
 | .tup cs=>.tup (renL ρ cs)
 | .fn f cs=>.fn f (renL ρ cs)
 | d=>d
def renL (ρ:Nat->Nat):List (DT T)->List (DT T)
 | []=>[]
 | d::r=>d.ren ρ::renL ρ r
end
def BoxT.ids:BoxT T->List Nat
 | .var cs=>idsL cs
 | _=>[]
def BoxT.ren (ρ:Nat->Nat):BoxT T->BoxT T
 | .var cs=>.var (renL ρ cs)
 | x=>x
def BoxT.isLent:BoxT T->Bool
 | .lent=>true
 | _=>false
def reach (m:MT T):Nat->List Nat->List Nat
 | 0,l=>l
 | n+1,l=>l++reach m n (l.flatMap λb=>(m.get b).ids)
def has (Φ:List Nat) (k:Nat):Bool:=Φ.any (Nat.beq k)
def keepM (Φ:List Nat):Nat->MT T->MT T
 | _,[]=>[]
 | k,x::r=>(match has Φ k with | true=>x | false=>.lent)::keepM Φ (k+1) r
def inGap (base wd b:Nat):Bool:=Nat.ble base b&&Nat.blt b (base+wd)
def renG (N base b:Nat):Nat:=
 match Nat.blt b N with
 | true=>b
 | false=>base+(b - N)
def okG (Φ:List Nat) (N base wd b:Nat):Bool:=
 match Nat.blt b N with
 | true=>has Φ b&&!inGap base wd b
 | false=>Nat.blt b (N+wd)
def chkG (Φ:List Nat) (N base wd:Nat) (d:DT T) (m m':MT T):Bool:=
  (d.ids.all (okG Φ N base wd) && (Nat.ble m'.length (N + wd) && Nat.ble (base + wd) N)) &&
  ((Φ.all λb=>(m'.get b).ids.all (okG Φ N base wd) && (!(m.get b).isLent && !(m'.get b).isLent)) &&
   (List.range wd).all λj=>(m'.get (N + j)).ids.all (okG Φ N base wd) && ((m.get (base + j)).isLent && !(m'.get (N + j)).isLent))
def mergeM (Φ:List Nat) (N base wd:Nat) (m':MT T):Nat->MT T->MT T
 | _,[]=>[]
 | k,x::r=>(match inGap base wd k with
  | true=>(m'.get (N+(k - base))).ren (renG N base)
  | false=>match has Φ k with
   | true=>(m'.get k).ren (renG N base)
   | false=>x)::mergeM Φ N base wd m' (k+1) r
def wdOf:Op->Nat
 | .store _ _ _=>0
 | .next _ _=>0
 | .mapUpdate _ _ _ _=>0
 | .call { callee:=.value _,.. }=>4
 | _=>1
def widthG (E:Env T) (o:Op):Nat:=
 match clsT E o with
 | .w=>wdOf o
 | _=>0
def forceB (x:BoxT T) (K:BoxT T->Option R):Option R:=
 match x with
 | .gone=>K .gone
 | .lent=>K .lent
 | .var cs=>K (.var cs)
 | .arr g c l=>K (.arr g c l)
 | .frz g c l=>K (.frz g c l)
 | .iter l p=>K (.iter l p)
 | .mset a c l=>K (.mset a c l)
def forceM:MT T->(MT T->Option R)->Option R
 | [],K=>K []
 | x::r,K=>forceB x λx'=>forceM r λr'=>K (x'::r')
def semGK (E:Env T) (o:Op) (e:Operand->DT T) (m:MT T) (Φ:List Nat) (base:Nat) (K:DT T->MT T->Option R):Option R:=
 match clsT E o with
 | .n=>opK E o e m K
 | .r=>forceM (keepM Φ 0 m) λmk=>opK E o e mk λd m'=>match chkG Φ m.length 0 0 d m m' with
  | true=>K d m
  | false=>none
 | .w=>forceM (keepM Φ 0 m) λmk=>opK E o e mk λd m'=>forceM m' λm'=>match chkG Φ m.length base (wdOf o) d m m' with
  | true=>forceM (mergeM Φ m.length base (wdOf o) m' 0 m) λm2=>K (d.ren (renG m.length base)) m2
  | false=>none
def semGK0 (E:Env T) (o:Op) (e:Operand->DT T) (m:MT T) (Φ:List Nat) (base:Nat) (K:DT T->MT T->Option R):Option R:=
 match clsT E o with
 | .n=>opK E o e m K
 | .r=>opK E o e (keepM Φ 0 m) λd m'=>match chkG Φ m.length 0 0 d m m' with
  | true=>K d m
  | false=>none
 | .w=>opK E o e (keepM Φ 0 m) λd m'=>match chkG Φ m.length base (wdOf o) d m m' with
  | true=>K (d.ren (renG m.length base)) (mergeM Φ m.length base (wdOf o) m' 0 m)
  | false=>none
def fpG (E:Env T) (o:Op) (e:Operand->DT T) (m:MT T):List Nat:=
 match clsT E o with
 | .n=>[]
 | _=>reach m 4 (o.operands.toList.flatMap λx=>(e x).ids)
structure ST (T:Nat->Type) where
 ts:List (Nat×DT T)
 m:MT T
def ST.put (σ:ST T) (dst:Option Nat) (d:DT T):ST T:=
 match dst with
 | some k=>⟨(k,d)::σ.ts,σ.m⟩
 | none=>σ
def stepT (E:Env T) (o:Oper) (σ:ST T) (K:ST T->Option R):Option R:=
 opK E o.op (evT E.G (tget σ.ts)) σ.m λd m'=>K (ST.put ⟨σ.ts,m'⟩ o.dst d)
def runT (E:Env T) (ops:Array Oper):List Oper->ST T->(ST T->Option R)->Option R
 | [],σ,K=>K σ
 | o::r,σ,K=>match gslot ops o with
  | none=>stepT E o σ λσ'=>runT E ops r σ' K
  | some (some k,true)=>match tget σ.ts k with
   | .bool b=>bif b then stepT E o ⟨(k,.bool true)::σ.ts,σ.m⟩ (λσ'=>runT E ops r σ' K)
     else runT E ops r (ST.put ⟨(k,.bool false)::σ.ts,σ.m⟩ o.dst (.tup [])) K
   | .tup []=>runT E ops r (ST.put σ o.dst (.tup [])) K
   | _=>none
  | some (some k,false)=>match tget σ.ts k with
   | .bool b=>bif b then runT E ops r (ST.put ⟨(k,.bool true)::σ.ts,σ.m⟩ o.dst (.tup [])) K
     else stepT E o ⟨(k,.bool false)::σ.ts,σ.m⟩ (λσ'=>runT E ops r σ' K)
   | .tup []=>runT E ops r (ST.put σ o.dst (.tup [])) K
   | _=>none
  | some (none,_)=>none
def stepGK (E:Env T) (o:Oper) (base:Nat) (σ:ST T) (K:List Nat->ST T->Option R):Option R:=
 semGK E o.op (evT E.G (tget σ.ts)) σ.m (fpG E o.op (evT E.G (tget σ.ts)) σ.m) base λd m'=>K (fpG E o.op (evT E.G (tget σ.ts)) σ.m) (ST.put ⟨σ.ts,m'⟩ o.dst d)
def runGK (E:Env T) (ops:Array Oper):List Oper->Nat->List (List Nat×Nat)->ST T->(List (List Nat×Nat)->ST T->Option R)->Option R
 | [],_,acc,σ,K=>K acc σ
 | o::r,base,acc,σ,K=>match gslot ops o with
  | none=>stepGK E o base σ λΦ σ'=>runGK E ops r (base+widthG E o.op) (acc++[(Φ,base)]) σ' K
  | some (some k,true)=>match tget σ.ts k with
   | .bool b=>bif b then stepGK E o base ⟨(k,.bool true)::σ.ts,σ.m⟩ (λΦ σ'=>runGK E ops r (base+widthG E o.op) (acc++[(Φ,base)]) σ' K)
     else runGK E ops r (base+widthG E o.op) (acc++[([],base)]) (ST.put ⟨(k,.bool false)::σ.ts,σ.m⟩ o.dst (.tup [])) K
   | .tup []=>runGK E ops r (base+widthG E o.op) (acc++[([],base)]) (ST.put σ o.dst (.tup [])) K
   | _=>none
  | some (some k,false)=>match tget σ.ts k with
   | .bool b=>bif b then runGK E ops r (base+widthG E o.op) (acc++[([],base)]) (ST.put ⟨(k,.bool true)::σ.ts,σ.m⟩ o.dst (.tup [])) K
     else stepGK E o base ⟨(k,.bool false)::σ.ts,σ.m⟩ (λΦ σ'=>runGK E ops r (base+widthG E o.op) (acc++[(Φ,base)]) σ' K)
   | .tup []=>runGK E ops r (base+widthG E o.op) (acc++[([],base)]) (ST.put σ o.dst (.tup [])) K
   | _=>none
  | some (none,_)=>none
def disj (a b:List Nat):Bool:=a.all λx=>!has b x
def fullG (E:Env T) (acc:List (List Nat×Nat)) (o:Oper) (i:Nat):List Nat:=
 match acc.getD i ([],0) with
 | (Φ,base)=>Φ++(List.range (widthG E o.op)).map (base+·)
def indepG (E:Env T) (ops:Array Oper) (acc:List (List Nat×Nat)) (i:Nat) (x:Oper) (j:Nat) (y:Oper):Bool:=
 x.apart ops y&&(!(clsT E x.op).clash (clsT E y.op)||disj (fullG E acc x i) (fullG E acc y j))
def pairsAtG (E:Env T) (ops:Array Oper) (acc:List (List Nat×Nat)) (ms:List Nat) (i:Nat):Bool:=
 match ops[i]? with
  | some oi=>(oi.after.all λe=>!Region.binds .any e||decide (e.on < i)) &&
    (List.range i).all λj=>match ops[j]? with
     | some oj=>(ms.getD i 0).testBit j||indepG E ops acc j oj i oi
     | none=>false
  | none=>false
def pairsOkG (E:Env T) (ops:Array Oper) (acc:List (List Nat×Nat)):Bool:=
 (List.range ops.size).all (pairsAtG E ops acc (masks ops.toList []))
def clearM:MT T->MT T
 | []=>[]
 | x::r=>(match x with | .lent=>.gone | x=>x)::clearM r
def widths (E:Env T):List Oper->Nat
 | []=>0
 | o::r=>widthG E o.op+widths E r
def regionG (E:Env T) (ops:Array Oper) (σ:ST T) (K:ST T->Option R):Option R:=
 match List.all σ.m λx=>!x.isLent with
 | true=>forceM (σ.m++List.replicate (widths E ops.toList) .lent) λm0=>runGK E ops ops.toList σ.m.length [] ⟨σ.ts,m0⟩ λacc τ=>match pairsOkG E ops acc with
  | true=>forceM (clearM τ.m) λm1=>K ⟨τ.ts,m1⟩
  | false=>none
 | false=>none
abbrev Shape:=List (Nat×Slot)
def Shape.slots (s:Shape):List Slot:=s.map (·.2)
def lay (C:Cd T) (s:Shape) (x:tySs T s.slots):ST T:=
 match encSs C 0 s.slots x with
 | (ds,bs)=>⟨(s.map (·.1)).zip ds,bs⟩
def takeK (C:Cd T) (s:Shape) (σ:ST T) (K:tySs T s.slots->Option R):Option R:=
 decSsK C s.slots σ.m (s.map λp=>tget σ.ts p.1) λx _=>K x
def exB:Ex->Ex->Bool
 | .normal,.normal=>true
 | .ret,.ret=>true
 | .exit i,.exit j=>Nat.beq i j
 | _,_=>false
def tyX (T:Nat->Type):List (Ex×Shape)->Type
 | []=>Empty
 | [(_,s)]=>tySs T s.slots
 | (_,s)::p::r=>tySs T s.slots⊕tyX T (p::r)
def outX (C:Cd T):(xs:List (Ex×Shape))->(Ex->ST T->Option R)->tyX T xs->Option R
 | [],_=>λx=>nomatch x
 | [(e,s)],K=>λx=>K e (lay C s x)
 | (e,s)::p::r,K=>Sum.elim (λx=>K e (lay C s x)) (outX C (p::r) K)
def inX (C:Cd T):(xs:List (Ex×Shape))->Ex->ST T->(tyX T xs->Option R)->Option R
 | [],_,_,_=>none
 | [(e,s)],e',σ,K=>match exB e e' with
  | true=>takeK C s σ K
  | false=>none
 | (e,s)::p::r,e',σ,K=>match exB e e' with
  | true=>takeK C s σ λx=>K (.inl x)
  | false=>inX C (p::r) e' σ λx=>K (.inr x)
abbrev Cp:=Nat×Nat×Nat×Nat
def bwOf (c:Nat):DT T->DT T
 | .bw b g c' n=>match Nat.beq c' c with
  | true=>.bw b g c' n
  | false=>.dead
 | _=>.dead
def cpD (σ:ST T) (k off c:Nat):DT T:=
 match tget σ.ts k with
 | .bp b 0=>match σ.m.get b with
  | .var cs=>match cs[off]? with
   | some d=>bwOf c d
   | none=>.dead
  | _=>.dead
 | d=>bwOf c d
def cpTs (σ:ST T):List Cp->List (Nat×DT T)->List (Nat×DT T)
 | [],l=>l
 | (t,k,off,c)::r,l=>(t,cpD σ k off c)::cpTs σ r l
def layC (C:Cd T) (s:Shape) (cp:List Cp) (x:tySs T s.slots):ST T:=
 match lay C s x with
 | σ=>⟨cpTs σ cp σ.ts,σ.m⟩
def isArr (m:MT T) (b g c:Nat):Bool:=
 match m.get b with
 | .arr g' c' _=>Nat.beq g g'&&Nat.beq c c'
 | _=>false
def chkC (σ:ST T) (q:Cp):Bool:=
 match cpD σ q.2.1 q.2.2.1 q.2.2.2 with
 | .bw b g c _=>match tget σ.ts q.1 with
  | .bw b' g' c' _=>(Nat.beq b b'&&(Nat.beq g g'&&Nat.beq c c'))&&isArr σ.m b g c
  | _=>false
 | _=>false
def takeC (C:Cd T) (s:Shape) (cp:List Cp) (σ:ST T) (K:tySs T s.slots->Option R):Option R:=
 match cp.all (chkC σ) with
 | true=>takeK C s σ K
 | false=>none
structure LSpec (T:Nat->Type) where
 head:Shape
 outs:List (Ex×Shape)
 go:tySs T head.slots->Option (tyX T outs)
 cp:List Cp
def firstReg:Code->Option Nat
 | .region id _ _=>some id
 | .seq a _=>firstReg a
 | .block _ b=>firstReg b
 | .loop b=>firstReg b
 | .cond _ a b=>match firstReg a with
  | some r=>some r
  | none=>firstReg b
 | _=>none
structure Loc2 (T:Nat->Type) where
 lp:Nat->Option (LSpec T)
 jn:Nat->Option (Shape×Bool)
 gr:Nat->Bool:=λ_=>false
def run (E:Env T) (A:Loc2 T):Code->{R:Type}->ST T->(Ex->ST T->Option R)->Option R
 | .skip,_,σ,K=>K .normal σ
 | .region id ops _,_,σ,K=>match A.gr id with
  | true=>regionG E ops σ (K .normal)
  | false=>runT E ops ops.toList σ (K .normal)
 | .seq a b,_,σ,K=>match (firstReg b).bind A.jn with
  | none=>run E A a σ λe τ=>match e with
   | .normal=>run E A b τ K
   | e=>K e τ
  | some (s,false)=>(run E A a σ λe τ=>match e with
    | .normal=>takeK E.C s τ λx=>some (Sum.inl x)
    | e=>(K e τ).bind λr=>some (Sum.inr r)).bind (Sum.elim (λx=>run E A b (lay E.C s x) K) some)
  | some (s,true)=>(run E A a σ λe τ=>match e with
    | .normal=>takeK E.C s τ some
    | _=>none).bind λx=>run E A b (lay E.C s x) K
 | .cond c a b,_,σ,K=>match evT E.G (tget σ.ts) c with
  | .bool q=>bif q then run E A a σ K else run E A b σ K
  | _=>none
 | .block id c,_,σ,K=>match A.lp id with
  | some L=>takeC E.C L.head L.cp σ λx=>(L.go x).bind (outX E.C L.outs λe τ=>match e with
   | .exit j=>match Nat.beq j id with
    | true=>K .normal τ
    | false=>K (.exit j) τ
   | e=>K e τ)
  | none=>run E A c σ λe τ=>match e with
   | .exit j=>match Nat.beq j id with
    | true=>K .normal τ
    | false=>K (.exit j) τ
   | e=>K e τ
 | .exit id,_,σ,K=>K (.exit id) σ
 | .ret,_,σ,K=>K .ret σ
 | .label _,_,σ,K=>K .normal σ
 | _,_,_,_=>none
def loopAt (id:Nat):Code->Code
 | .seq a b=>match loopAt id a with
  | .skip=>loopAt id b
  | c=>c
 | .cond _ a b=>match loopAt id a with
  | .skip=>loopAt id b
  | c=>c
 | .block j c=>match c with
  | .loop b=>match Nat.beq j id with
   | true=>b
   | false=>loopAt id b
  | c=>loopAt id c
 | .loop b=>loopAt id b
 | _=>.skip
def fnAt (ds:List (DT T)) (i:Nat):Option Nat:=
 match ds[i]? with
 | some (.fn f _)=>some f
 | _=>none
def rounds:Nat:=1180591620717411303424
def iter {α β:Type} (f:α->Option (α⊕β)):Nat->α->Option β
 | 0,_=>none
 | n+1,x=>(f x).bind (Sum.elim (iter f n) some)
def roundK (C:Cd T) (s:Shape) (cp:List Cp) (xs:List (Ex×Shape)) (e:Ex) (σ:ST T):Option (tySs T s.slots⊕tyX T xs):=
 match e with
 | .normal=>takeC C s cp σ λx=>some (.inl x)
 | e=>inX C xs e σ λx=>some (.inr x)
def resK (E:Env T) (σ:ST T):List ResultVar->(List (DT T)->Option R)->Option R
 | [],K=>K []
 | .tmp t::r,K=>resK E σ r λl=>K (tget σ.ts t::l)
 | .cell a t::r,K=>rK E.Y E.C (.load t (.tmp a)) (evT E.G (tget σ.ts)) σ.m λd=>resK E σ r λl=>K (d::l)
def outsK (C:Cd T) (t:Nat->DT T):(ss:List Slot)->Nat->MT T->(tyO T ss->MT T->Option R)->Option R
 | [],_,m,K=>K () m
 | .ptr fs::r,j,m,K=>match t j with
  | .bp b 0=>match m.get b with
   | .var cs=>decFsK C fs (m.put b .gone) cs λx m'=>outsK C t r (j+1) m' λy m''=>K (x,y) m''
   | _=>none
  | _=>none
 | .inp c::r,j,m,K=>match t j with
  | .bw b g c' _=>match Nat.beq c' c with
   | true=>match boxA m b g c with
    | some l=>outsK C t r (j+1) (m.put b .gone) λy m''=>K (l,y) m''
    | none=>none
   | false=>none
  | _=>none
 | .f _::r,j,m,K=>outsK C t r (j+1) m K
 | .iter::r,j,m,K=>outsK C t r (j+1) m K
 | .mset _ _::r,j,m,K=>outsK C t r (j+1) m K
 | .lar _::r,j,m,K=>outsK C t r (j+1) m K
def retK (E:Env T) (res:List ResultVar) (ps:List Slot) (rs:List Fld) (e:Ex) (σ:ST T):Option (tyO T ps×tyFs T rs):=
 match e with
 | .exit _=>none
 | _=>resK E σ res λds=>outsK E.C (tget σ.ts) ps 0 σ.m λx m=>decFVsK E.C rs m ds λy _=>some (x,y)
def enterT (C:Cd T) (ps:List Slot) (x:tySs T ps):ST T:=
 match encSs C 0 ps x with
 | (ds,bs)=>⟨(List.range ds.length).zip ds,bs⟩
end
end Go.Abs
