/- The library of abstract values, part 4: see the remarks ahead of each part. No condition. -/
import Derived.Test.YthoblablopmhfaaGreatDoorLibA
import Derived.Laws.MakeOwn
import Derived.Laws.IdiomStrings
set_option linter.unusedVariables false
set_option linter.unusedSimpArgs false
namespace Go.Abs
open Go
open _root_.Option renaming bind_assoc → Qa, map_some → Qc, bind_some → Qd, map_eq_some_iff → Qe, bind_eq_some_iff → Qi, bind_eq_bind → Qa0, isSome_some → Qa2, pure_def → Qa8, map_none → Qa9
open _root_.Option.some renaming injEq → Qb, inj → Qal
open _root_.Nat renaming eq_of_beq_eq_true → Qf, lt_or_ge → Qu, zero_add → Qv, decEq → Q1, le_refl → Q6, ble → Q7, blt → Qae, min_eq_left → Qag, add_comm → Qa1, pow_le_pow_right → Qa4, mul_le_mul_right → Qa5, lt_of_lt_of_le → Qba, mul_mod_left → Qbd, min_eq_right → Qbe, div_eq_of_lt → Qbf
open _root_.Bool renaming and_eq_true → Qg, eq_iff_iff → Q3, and_self → Qay, false_eq_true → Qa7, true_and → Qbn
open _root_.List renaming replicate → Qh, map_cons → Qj, length_map → Qm, getD_eq_getElem?_getD → Qn, getElem?_eq_none → Qo, getElem?_map → Qp, length_append → Qs, getElem?_eq_getElem → Qt, getElem?_append_left → Qw, mem_map → Qz, take_append_drop → Q0, map_append → Q2, getElem?_set → Q4, flatten_cons → Q5, mem_cons → Q8, eq_of_mem_replicate → Q9, cons_append → Qaa, map_map → Qac, nil_append → Qaf, getElem?_toArray → Qah, mem_of_mem_drop → Qaj, drop_zero → Qak, map_take → Qam, map_drop → Qan, range → Qao, getElem?_drop → Qap, ext_getElem? → Qaq, mem_flatMap → Qar, length_drop → Qas, eq_nil_of_length_eq_zero → Qat, headD_cons → Qau, getElem?_append_right → Qav, drop_eq_getElem_cons → Qaw, getElem?_mapIdx → Qa3, flatten_append → Qa6, take_length → Qbb, length_cons → Qbc, length_nil → Qbg, take_zero → Qbi, mapM_cons → Qbj, zipWith → Qbo, toArray → Qbp, map_nil → Qbq
open _root_.BitVec renaming ofInt → Qk, eq_of_toNat_eq → Qad
open Go.Result renaming andThen_ok → Ql
open Go.Sem renaming run_bind → Qq, run_pure → Qx
open _root_.UInt8 renaming ofBitVec → Qr
open Go.IntKind renaming signed → Qy, bits → Qax, wrap → Qbh
open _root_.Array renaming ext' → Qab, getElem?_toList → Qaz
open _root_.Prod.mk renaming injEq → Qai
open _root_.Int renaming natCast_sub → Qbk, emod_nonneg → Qbl
open _root_.Sum renaming elim → Qbm
inductive DT (T:Nat→Type) where
 | dead
 | bool (b:Bool)
 | int (k:IntKind) (n:Int)
 | u8 (x:UInt8)
 | u16 (x:BitVec 16)
 | u32 (x:BitVec 32)
 | u64 (x:BitVec 64)
 | str (l:List UInt8)
 | lit (v:Value)
 | nilp
 | rp (cs:List (DT T))
 | bp (b off:Nat)
 | mp (b:Nat)
 | ap (b g c i off:Nat)
 | nils
 | rs (c:Nat) (l:List (T c))
 | rn (c:Nat) (l:List (T c))
 | bs (b g c i n:Nat)
 | bw (b g c n:Nat)
 | agg (cs:List (DT T))
 | tup (vs:List (DT T))
 | fn (f:Nat) (cap:List (DT T))
def rnD (s:Nat) (rows:List (List D)):D:=
 match rows with
 | []=>.nils
 | row::r=>.rs s (row::r)
theorem Vkc (s:Nat) (rows:List (List D)) (l:List D):(rnD s rows = .agg l)=False:=by
 cases rows<;>simp [rnD]
def dval:D→Value
 | .bool b=>.bool b
 | .int k n=>.int k n
 | .str l=>.string ⟨l.toArray⟩
 | _=>.nilFunc
def keyV (a:Bool) (cs:List D):Value:=
 match a with
 | true=>.agg (cs.map dval).toArray
 | false=>dval (cs.headD .dead)
structure Cd (T:Nat→Type) where
 sz:Nat→Nat
 encD:(c:Nat)→T c→List D
 enc:(c:Nat)→T c→List (DT T)
 dec:(c:Nat)→List (DT T)→Option (T c)
 bt:Nat
 hb:T bt=UInt8
 rn:Nat→List Bool:=fun _=>[]
 im:Nat→Bool:=fun _=>false
 la:Nat→Option Nat:=fun _=>none
 keq:(c:Nat)→Option (List Nat×(T c→T c→Bool)):=fun _=>none
inductive BoxT (T:Nat→Type) where
 | gone
 | lent
 | var (cs:List (DT T))
 | arr (g c:Nat) (l:List (T c))
 | frz (g c:Nat) (l:List (T c))
 | iter (l:List UInt8) (pos:Nat)
 | mset (a:Bool) (c:Nat) (l:List (T c))
variable {T:Nat→Type}
mutual
def den (C:Cd T):DT T→D
 | .dead=>.dead
 | .bool b=>.bool b
 | .int k n=>.int k n
 | .u8 x=>.int .u8 x.toNat
 | .u16 x=>.int .u16 x.toNat
 | .u32 x=>.int .u32 x.toNat
 | .u64 x=>.int .u64 x.toNat
 | .str l=>.str l
 | .lit v=>.lit v
 | .nilp=>.nilp
 | .rp cs=>.rp (denL C cs)
 | .bp b off=>.bp b off
 | .mp b=>.mp b
 | .ap b g c i off=>.ap b g (C.sz c) i off
 | .nils=>.nils
 | .rs c l=>.rs (C.sz c) (l.map (C.encD c))
 | .rn c l=>rnD (C.sz c) (l.map (C.encD c))
 | .bs b g c i n=>.bs b g (C.sz c) i n
 | .bw b g c n=>.bs b g (C.sz c) 0 n
 | .agg cs=>.agg (denL C cs)
 | .tup cs=>.tup (denL C cs)
 | .fn f cs=>.fn f (denL C cs)
def denL (C:Cd T):List (DT T)→List D
 | []=>[]
 | d::r=>den C d::denL C r
end
theorem Vau (C:Cd T):∀ l:List (DT T),denL C l=l.map (den C)
 | []=>rfl
 | d::r=>by simp [denL,Vau C r]
def denB (C:Cd T):BoxT T→Box
 | .gone=>.gone
 | .lent=>.lent
 | .var cs=>.var (denL C cs)
 | .arr g c l=>.arr g (C.sz c) (l.map (C.encD c))
 | .frz g c l=>.frz g (C.sz c) (l.map (C.encD c))
 | .iter l pos=>.iter l pos
 | .mset a c l=>.mset (l.map fun x=>keyV a (C.encD c x))
abbrev MT (T:Nat→Type):=List (BoxT T)
def MT.get (m:MT T) (b:Nat):BoxT T:=List.getD m b .gone
def denM (C:Cd T) (m:MT T):Mem:=⟨m.length,fun b=>denB C (m.get b)⟩
mutual
def DT.pure:DT T→Bool
 | .dead=>true
 | .bool _=>true
 | .int _ _=>true
 | .u8 _=>true
 | .u16 _=>true
 | .u32 _=>true
 | .u64 _=>true
 | .str _=>true
 | .lit _=>true
 | .nilp=>true
 | .nils=>true
 | .rs _ _=>true
 | .rn _ _=>true
 | .rp _=>true
 | .agg cs=>pureTL cs
 | _=>false
def pureTL:List (DT T)→Bool
 | []=>true
 | d::r=>d.pure&&pureTL r
end
mutual
def WfD (L:Nat→Nat→Nat):DT T→Prop
 | .bw b g _ n=>L b g=n
 | .agg cs=>WfL L cs
 | .tup cs=>WfL L cs
 | .fn _ cs=>WfL L cs
 | _=>True
def WfL (L:Nat→Nat→Nat):List (DT T)→Prop
 | []=>True
 | d::r=>WfD L d∧WfL L r
end
def WfB (L:Nat→Nat→Nat) (b:Nat):BoxT T→Prop
 | .var cs=>WfL L cs
 | .arr g _ l=>L b g=l.length
 | .frz g _ l=>L b g=l.length
 | _=>True
def WfM (L:Nat→Nat→Nat) (m:MT T):Prop:=∀ b,WfB L b (m.get b)
mutual
theorem DT.pure_den (C:Cd T):∀ d:DT T,d.pure=true→(den C d).pure=true
 | .dead,_=>rfl
 | .bool _,_=>rfl
 | .int _ _,_=>rfl
 | .u8 _,_=>rfl
 | .u16 _,_=>rfl
 | .u32 _,_=>rfl
 | .u64 _,_=>rfl
 | .str _,_=>rfl
 | .lit _,_=>rfl
 | .nilp,_=>rfl
 | .nils,_=>rfl
 | .rs _ _,_=>rfl
 | .rn _ l,_=>by cases l<;>rfl
 | .rp _,_=>rfl
 | .agg cs,h=>by
  simp only [DT.pure] at h
  simp only [den,D.pure]
  exact Vbx C cs h
 | .bp _ _,h=>by cases h
 | .mp _,h=>by cases h
 | .ap _ _ _ _ _,h=>by cases h
 | .bs _ _ _ _ _,h=>by cases h
 | .bw _ _ _ _,h=>by cases h
 | .tup _,h=>by cases h
 | .fn _ _,h=>by cases h
theorem Vbx (C:Cd T):∀ l:List (DT T),pureTL l=true→pureL (denL C l)=true
 | [],_=>rfl
 | d::r,h=>by
  simp only [pureTL,Qg] at h
  simp only [denL,pureL,Qg]
  exact ⟨DT.pure_den C d h.1,Vbx C r h.2⟩
end
mutual
theorem Vv4 (L:Nat→Nat→Nat):∀ d:DT T,d.pure=true→WfD L d
 | .agg cs,h=>by
  simp only [DT.pure] at h
  simp only [WfD]
  exact Vkd L cs h
 | .dead,_=>trivial
 | .bool _,_=>trivial
 | .int _ _,_=>trivial
 | .u8 _,_=>trivial
 | .u16 _,_=>trivial
 | .u32 _,_=>trivial
 | .u64 _,_=>trivial
 | .str _,_=>trivial
 | .lit _,_=>trivial
 | .nilp,_=>trivial
 | .nils,_=>trivial
 | .rs _ _,_=>trivial
 | .rn _ _,_=>trivial
 | .rp _,_=>trivial
 | .bp _ _,h=>by cases h
 | .mp _,h=>by cases h
 | .ap _ _ _ _ _,h=>by cases h
 | .bs _ _ _ _ _,h=>by cases h
 | .bw _ _ _ _,h=>by cases h
 | .tup _,h=>by cases h
 | .fn _ _,h=>by cases h
theorem Vkd (L:Nat→Nat→Nat):∀ l:List (DT T),pureTL l=true→WfL L l
 | [],_=>trivial
 | d::r,h=>by
  simp only [pureTL,Qg] at h
  exact ⟨Vv4 L d h.1,Vkd L r h.2⟩
end
def DT.cells:DT T→List (DT T)
 | .agg cs=>cs
 | d=>[d]
def DT.one:DT T→Bool
 | .agg _=>false
 | .tup _=>false
 | .dead=>false
 | .lit (.agg _)=>false
 | .lit (.tuple _)=>false
 | _=>true
def DT.fit:DT T→Bool
 | .agg _=>true
 | d=>d.one
def solidL:List (DT T)→Bool
 | []=>true
 | d::r=>(d.pure&&d.one)&&solidL r
theorem Vcm:∀ {l:List (DT T)},solidL l=true→pureTL l=true
 | [],_=>rfl
 | d::r,h=>by
  simp only [solidL,Qg] at h
  simp only [pureTL,Qg]
  exact ⟨h.1.1,Vcm h.2⟩
theorem Vhv:∀ {l:List (DT T)},solidL l=true→∀ d∈l,d.pure=true∧d.one=true
 | [],_,d,hd=>by simp at hd
 | x::r,h,d,hd=>by
  simp only [solidL,Qg] at h
  rcases List.mem_cons.1 hd with rfl | hd
  ·exact h.1
  ·exact Vhv h.2 d hd
structure CdOk (C:Cd T):Prop where
 len:∀ c x,(C.encD c x).length=C.sz c
 enc:∀ c x,denL C (C.enc c x)=C.encD c x
 epure:∀ c x,pureTL (C.enc c x)=true
 byte:∀ x,C.encD C.bt x=[.int .u8 (cast C.hb x).toNat]
 bsz:C.sz C.bt=1
 dec:∀ c ds x,C.dec c ds=some x→solidL ds=true∧∀ (I:Nat→Prop) (w:World) (vs:List Value),VL I w (denL C ds) free vs→VL I w (C.encD c x) free vs
 keq:∀ c q f,C.keq c=some (q,f)→∀ x y,eqCells q (C.encD c x) (C.encD c y)=some (f x y):=by intro _ _ _ h; cases h
theorem Vbe (C:Cd T) (d:DT T):(den C d).cells=denL C d.cells:=by
 cases d
 case rn c l=>cases l<;>rfl
 all_goals rfl
theorem Vby (C:Cd T) (d:DT T):d.fit=true→(den C d).fit=true:=by
 cases d
 case rn c l=>intro _; cases l<;>rfl
 all_goals simp [DT.fit,DT.one,den,D.fit,D.one]
 rename_i v
 cases v<;>simp
theorem Vbp {L:Nat→Nat→Nat} {d:DT T} (h:WfD L d):WfL L d.cells:=by
 cases d<;>first | exact ⟨h,trivial⟩ | exact h
theorem WfL_iff {L:Nat→Nat→Nat}:∀ {l:List (DT T)},WfL L l↔∀ d∈l,WfD L d
 | []=>by simp [WfL]
 | d::r=>by simp [WfL,WfL_iff (l:=r)]
theorem Ves {L:Nat→Nat→Nat} {l:List (DT T)} (n:Nat) (h:WfL L l):WfL L (l.drop n):=
 WfL_iff.2 fun d hd=>WfL_iff.1 h d (Qaj hd)
theorem Vke {L:Nat→Nat→Nat} {l:List (DT T)} (n:Nat) (h:WfL L l):WfL L (l.take n):=
 WfL_iff.2 fun d hd=>WfL_iff.1 h d (List.mem_of_mem_take hd)
theorem Va2 (C:Cd T) (l:List (DT T)) (n:Nat):denL C (l.drop n)=(denL C l).drop n:=by simp [Vau]
theorem Vdd (C:Cd T) (l:List (DT T)) (n:Nat):denL C (l.take n)=(denL C l).take n:=by simp [Vau]
theorem Vao (C:Cd T) (l:List (DT T)):(denL C l).length=l.length:=by simp [Vau]
theorem Vv5 (C:Cd T) (l:List (DT T)) (i:Nat):(denL C l)[i]? = (l[i]?).map (den C):=by simp [Vau]
def setT:List (DT T)→Nat→List (DT T)→List (DT T)
 | cs,_,[]=>cs
 | [],_,_::_=>[]
 | _::cs,0,v::vs=>v::setT cs 0 vs
 | c::cs,k+1,v::vs=>c::setT cs k (v::vs)
theorem Vde (C:Cd T):∀ (cs:List (DT T)) (k:Nat) (vs:List (DT T)),denL C (setT cs k vs)=setCells (denL C cs) k (denL C vs)
 | cs,k,[]=>by cases cs<;>cases k<;>simp [setT,setCells,denL]
 | [],k,_::_=>by simp [setT,setCells,denL]
 | c::cs,0,v::vs=>by simp [setT,setCells,denL,Vde C cs 0 vs]
 | c::cs,k+1,v::vs=>by
  have:=Vde C cs k (v::vs)
  simp only [denL] at this
  simp [setT,setCells,denL,this]
theorem Vg3 {L:Nat→Nat→Nat}:∀ (cs:List (DT T)) (k:Nat) (vs:List (DT T)),WfL L cs→WfL L vs→WfL L (setT cs k vs)
 | cs,k,[],h,_=>by cases cs<;>cases k<;>simpa [setT] using h
 | [],k,_::_,h,_=>by simp [setT,WfL]
 | c::cs,0,v::vs,h,hv=>by
  simp only [WfL] at h hv
  simp only [setT,WfL]
  exact ⟨hv.1,Vg3 cs 0 vs h.2 hv.2⟩
 | c::cs,k+1,v::vs,h,hv=>by
  simp only [WfL] at h
  simp only [setT,WfL]
  exact ⟨h.1,Vg3 cs k (v::vs) h.2 hv⟩
inductive TK where
 | bool | str | int (k:IntKind) | slice (e:Nat) | arr (n e:Nat) | strct | ptr (e:Nat) | map (k e:Nat) | other
 deriving DecidableEq
inductive Zc where
 | b | i (k:IntKind) | s | np | ns | nf | ni | nm
 deriving DecidableEq
structure TI where
 code:Nat
 sz:Nat
 bts:Nat
 kind:TK
 zero:List Zc
 flds:List (Option (Nat×Nat))
 places:List (Nat×Nat)
 eqs:Option (List Nat)
def TK.agg:TK→Bool
 | .strct=>true
 | .arr _ _=>true
 | _=>false
def mkInt (k:IntKind) (n:Int):DT T:=
 match k with
 | .u8=>.u8 (Qr (Qk 8 n))
 | .u16=>.u16 (Qk 16 n)
 | .u32=>.u32 (Qk 32 n)
 | .u64=>.u64 (Qk 64 n)
 | k=>.int k n
def Zc.toT:Zc→DT T
 | .b=>.bool false
 | .i k=>mkInt k 0
 | .s=>.str []
 | .np=>.nilp
 | .ns=>.nils
 | .nf=>.lit .nilFunc
 | .ni=>.lit .nilIface
 | .nm=>.lit (.map none)
def Zc.toD:Zc→D
 | .b=>.bool false
 | .i k=>.int k 0
 | .s=>.str []
 | .np=>.nilp
 | .ns=>.nils
 | .nf=>.lit .nilFunc
 | .ni=>.lit .nilIface
 | .nm=>.lit (.map none)
theorem Zc.den (C:Cd T) (z:Zc):Abs.den C (z.toT:DT T)=z.toD:=by
 cases z with
 | i k=>cases k<;>rfl
 | _=>rfl
inductive Tr where
 | leaf
 | node (l:Tr) (k:Nat) (v:TI) (r:Tr)
def Tr.find:Tr→Nat→Option TI
 | .leaf,_=>none
 | .node l k v r,t=>match Nat.beq t k with
  | true=>some v
  | false=>match Qae t k with
   | true=>l.find t
   | false=>r.find t
structure TIok (P:Program) (t:Nat) (i:TI):Prop where
 sz:tsz P t=some i.sz
 bts:tbytes P t=some i.bts
 agg:tagg P t=some i.kind.agg
 int:∀ k,i.kind = .int k→tint P t=some k
 str:i.kind = .str→tstr P t=true
 bool:i.kind = .bool→tbool P t=true
 elem:∀ e,i.kind = .slice e→telem P t=some e
 nelem:(∀ e,i.kind≠.slice e)→telem P t=none
 arr:∀ n e,i.kind = .arr n e→tarr P t=some (n,e)
 narr:(∀ n e,i.kind≠.arr n e)→tarr P t=none
 ptr:∀ e,i.kind = .ptr e→P.underlying t=some (.pointer e)
 zero:tzero P t=some (if i.kind.agg=true then .agg (i.zero.map Zc.toD) else (i.zero.map Zc.toD).headD .dead)
 zlen:i.zero.length=i.sz
 one:i.kind.agg=false→i.sz=1
 fld:∀ k o ft,i.flds[k]? = some (some (o,ft))→tfld P t k=some (o,ft)
 places:i.kind = .strct→tplaces P t=some i.places
 nplaces:i.kind≠.strct→tplaces P t=none
 eqs:∀ q,i.eqs=some q→flatEq P t=some q
 map:∀ k e,i.kind = .map k e→P.underlying t=some (.map k e)
def TysOk (P:Program) (Y:Nat→Option TI):Prop:=∀ t i,Y t=some i→TIok P t i
def Tr.All (p:Nat→TI→Prop):Tr→Prop
 | .leaf=>True
 | .node l k v r=>l.All p∧p k v∧r.All p
theorem Tr.find_all {p:Nat→TI→Prop}:∀ {y:Tr} {t:Nat} {i:TI},y.All p→y.find t=some i→p t i
 | .leaf,_,_,_,h=>by cases h
 | .node l k v r,t,i,ha,h=>by
  simp only [Tr.find] at h
  split at h
  ·rename_i e
   simp only [Qb] at h; subst h
   have:=Qf e
   subst this; exact ha.2.1
  ·split at h
   ·exact Tr.find_all ha.1 h
   ·exact Tr.find_all ha.2.2 h
def getI {α:Type} (l:List α) (i:Int):Option α:=bif decide (0≤i) then l[i.toNat]? else none
section
variable {T:Nat→Type} {R:Type}
def mapK {α β:Type} (f:α→(β→Option R)→Option R):List α→(List β→Option R)→Option R
 | [],K=>K []
 | d::r,K=>f d fun d'=>mapK f r fun r'=>K (d'::r')
def atK {α:Type} (l:List α) (x:DT T) (K:α→Option R):Option R:=
 match x with
 | .int _ i=>(getI l i).bind K
 | .u8 x=>(l[x.toNat]?).bind K
 | .u16 x=>(l[x.toNat]?).bind K
 | .u32 x=>(l[x.toNat]?).bind K
 | .u64 x=>(l[x.toNat]?).bind K
 | _=>none
def ltK (x:DT T) (n:Nat) (K:Nat→Option R):Option R:=
 match x with
 | .int _ i=>bif decide (0≤i)&&decide (i < n) then K i.toNat else none
 | .u8 x=>bif decide (x.toNat < n) then K x.toNat else none
 | .u16 x=>bif decide (x.toNat < n) then K x.toNat else none
 | .u32 x=>bif decide (x.toNat < n) then K x.toNat else none
 | .u64 x=>bif decide (x.toNat < n) then K x.toNat else none
 | _=>none
def leK (x:DT T) (n:Nat) (K:Nat→Option R):Option R:=
 match x with
 | .int _ i=>bif decide (0≤i)&&decide (i≤n) then K i.toNat else none
 | .u8 x=>bif decide (x.toNat≤n) then K x.toNat else none
 | .u16 x=>bif decide (x.toNat≤n) then K x.toNat else none
 | .u32 x=>bif decide (x.toNat≤n) then K x.toNat else none
 | .u64 x=>bif decide (x.toNat≤n) then K x.toNat else none
 | _=>none
def cutK {R:Type} (n:Nat) (lo hi:Option (DT T)) (K:Option Nat→Option Nat→Option R):Option R:=
 match lo,hi with
 | none,none=>K none none
 | some a,none=>leK a n fun a=>K (some a) none
 | none,some b=>leK b n fun b=>K none (some b)
 | some a,some b=>leK b n fun b=>leK a b fun a=>K (some a) (some b)
def cutL {α:Type} (l:List α):Option Nat→Option Nat→List α
 | none,none=>l
 | some a,none=>l.drop a
 | none,some b=>l.take b
 | some a,some b=>(l.take b).drop a
def cntK (y:DT T) (K:Nat→Option R):Option R:=
 match y with
 | .int _ n=>bif decide (0≤n) then K n.toNat else none
 | .u8 x=>K x.toNat
 | .u16 x=>K x.toNat
 | .u32 x=>K x.toNat
 | .u64 x=>K x.toNat
 | _=>none
def intK (op:BinOp) (k:IntKind) (a:Int) (k':IntKind) (b:Int) (K:DT T→Option R):Option R:=
 match decide (k=k') with
 | false=>none
 | true=>match op with
  | .add=>K (.int k (k.wrap (a+b)))
  | .sub=>K (.int k (k.wrap (a - b)))
  | .mul=>K (.int k (k.wrap (a * b)))
  | .quo=>bif decide (b=0) then none else K (.int k (k.wrap (a.tdiv b)))
  | .rem=>bif decide (b=0) then none else K (.int k (a.tmod b))
  | .and=>K (.int k (k.wrap (Qk k.bits a &&& Qk k.bits b).toNat))
  | .or=>K (.int k (k.wrap (Qk k.bits a ||| Qk k.bits b).toNat))
  | .xor=>K (.int k (k.wrap (Qk k.bits a ^^^ Qk k.bits b).toNat))
  | .andNot=>K (.int k (k.wrap (Qk k.bits a &&& ~~~ Qk k.bits b).toNat))
  | .eql=>K (.bool (decide (a=b)))
  | .neq=>K (.bool (!decide (a=b)))
  | .lss=>K (.bool (decide (a < b)))
  | .leq=>K (.bool (decide (a≤b)))
  | .gtr=>K (.bool (decide (b < a)))
  | .geq=>K (.bool (decide (b≤a)))
  | _=>none
def bvK {w:Nat} (op:BinOp) (a b:BitVec w) (K:BitVec w→Option R) (Q:Bool→Option R):Option R:=
 match op with
 | .add=>K (a+b)
 | .sub=>K (a - b)
 | .mul=>K (a * b)
 | .quo=>bif decide (b=0) then none else K (a / b)
 | .rem=>bif decide (b=0) then none else K (a % b)
 | .and=>K (a &&& b)
 | .or=>K (a ||| b)
 | .xor=>K (a ^^^ b)
 | .andNot=>K (a &&& ~~~ b)
 | .eql=>Q (decide (a=b))
 | .neq=>Q (!decide (a=b))
 | .lss=>Q (decide (a.toNat < b.toNat))
 | .leq=>Q (decide (a.toNat≤b.toNat))
 | .gtr=>Q (decide (b.toNat < a.toNat))
 | .geq=>Q (decide (b.toNat≤a.toNat))
 | _=>none
def shlK (x:DT T) (n:Nat) (K:DT T→Option R):Option R:=
 match x with
 | .int k a=>K (.int k (k.wrap (a * 2 ^ (min n k.bits))))
 | .u8 x=>K (.u8 (Qr (x.toBitVec <<< n)))
 | .u16 x=>K (.u16 (x <<< n))
 | .u32 x=>K (.u32 (x <<< n))
 | .u64 x=>K (.u64 (x <<< n))
 | _=>none
def shrK (x:DT T) (n:Nat) (K:DT T→Option R):Option R:=
 match x with
 | .int k a=>K (.int k (a.fdiv (2 ^ (min n k.bits))))
 | .u8 x=>K (.u8 (Qr (x.toBitVec >>> n)))
 | .u16 x=>K (.u16 (x >>> n))
 | .u32 x=>K (.u32 (x >>> n))
 | .u64 x=>K (.u64 (x >>> n))
 | _=>none
def strK (op:BinOp) (a b:List UInt8) (K:DT T→Option R):Option R:=
 match op with
 | .add=>bif Q7 (a.length+b.length) 9223372036854775807 then K (.str (a++b)) else none
 | .eql=>K (.bool (decide (a=b)))
 | .neq=>K (.bool (!decide (a=b)))
 | .lss=>K (.bool (Op.bytesLess a b))
 | .leq=>K (.bool (Op.bytesLess a b||decide (a=b)))
 | .gtr=>K (.bool (!(Op.bytesLess a b||decide (a=b))))
 | .geq=>K (.bool (!Op.bytesLess a b))
 | _=>none
def eqC1:Nat→DT T→DT T→Option Bool
 | 3,.int k a,.int k' b=>match decide (k=k') with
  | true=>some (decide (a=b))
  | false=>none
 | 3,.u8 a,.u8 b=>some (decide (a=b))
 | 3,.u16 a,.u16 b=>some (decide (a=b))
 | 3,.u32 a,.u32 b=>some (decide (a=b))
 | 3,.u64 a,.u64 b=>some (decide (a=b))
 | 1,.bool a,.bool b=>some (a == b)
 | 2,.str a,.str b=>some (decide (a=b))
 | _,_,_=>none
def eqCT:List Nat→List (DT T)→List (DT T)→Option Bool
 | [],[],[]=>some true
 | q::qs,x::r,y::r'=>match eqC1 q x y with
  | some p=>match eqCT qs r r' with
   | some p'=>some (p&&p')
   | none=>none
  | none=>none
 | _,_,_=>none
def elemT (Y:Nat→Option TI) (t:Nat):Option Nat:=
 match Y t with
 | some i=>match i.kind with
  | .slice e=>some e
  | _=>none
 | none=>none
def binK (Y : Nat→Option TI) (op : BinOp) (t : Nat) (x y : DT T) (K : DT T→Option R) : Option R :=
 match op with
 | .shl=>cntK y fun n=>shlK x n K
 | .shr=>cntK y fun n=>shrK x n K
 | _ => match x with
  | .int k a=>match y with
   | .int k' b=>intK op k a k' b K
   | _=>none
  | .u8 a=>match y with
   | .u8 b=>bvK op a.toBitVec b.toBitVec (fun z=>K (.u8 (Qr z))) (fun q=>K (.bool q))
   | _=>none
  | .u16 a=>match y with
   | .u16 b=>bvK op a b (fun z=>K (.u16 z)) (fun q=>K (.bool q))
   | _=>none
  | .u32 a=>match y with
   | .u32 b=>bvK op a b (fun z=>K (.u32 z)) (fun q=>K (.bool q))
   | _=>none
  | .u64 a=>match y with
   | .u64 b=>bvK op a b (fun z=>K (.u64 z)) (fun q=>K (.bool q))
   | _=>none
  | .str a=>match y with
   | .str b=>strK op a b K
   | _=>none
  | .bool a=>match y with
   | .bool b=>match Y t with
    | some i=>match i.kind with
     | .bool=>match op with
      | .eql=>K (.bool (a == b))
      | .neq=>K (.bool (!(a == b)))
      | _=>none
     | _=>none
    | none=>none
   | _=>none
  | .agg xs => match y with
   | .agg ys=>match Y t with
    | some i=>match i.eqs with
     | some q=>match op with
      | .eql=>match eqCT q xs ys with
       | some p=>K (.bool p)
       | none=>none
      | .neq=>match eqCT q xs ys with
       | some p=>K (.bool (!p))
       | none=>none
      | _=>none
     | none=>none
    | none=>none
   | _=>none
  | .rn _ l=>match y with
   | .nils=>match elemT Y t with
    | some _=>match op with
     | .eql=>K (.bool l.isEmpty)
     | .neq=>K (.bool (!l.isEmpty))
     | _=>none
    | none=>none
   | _=>none
  | _=>none
def unK (op:UnOp) (x:DT T) (K:DT T→Option R):Option R:=
 match op,x with
 | .not,.bool b=>K (.bool (!b))
 | .neg,.int k n=>K (.int k (k.wrap (0 - n)))
 | .neg,.u8 x=>K (.u8 (Qr (- x.toBitVec)))
 | .neg,.u16 x=>K (.u16 (- x))
 | .neg,.u32 x=>K (.u32 (- x))
 | .neg,.u64 x=>K (.u64 (- x))
 | .xor,.int k n=>K (.int k (k.wrap (Qk k.bits (if k.signed then -1 else k.max) ^^^ Qk k.bits n).toNat))
 | .xor,.u8 x=>K (.u8 (Qr (~~~ x.toBitVec)))
 | .xor,.u16 x=>K (.u16 (~~~ x))
 | .xor,.u32 x=>K (.u32 (~~~ x))
 | .xor,.u64 x=>K (.u64 (~~~ x))
 | _,_=>none
def cvtU {w:Nat} (k:IntKind) (x:BitVec w):DT T:=
 match k with
 | .u8=>.u8 (Qr (x.setWidth 8))
 | .u16=>.u16 (x.setWidth 16)
 | .u32=>.u32 (x.setWidth 32)
 | .u64=>.u64 (x.setWidth 64)
 | k=>match Qae w k.bits with
  | true=>.int k x.toNat
  | false=>.int k (k.wrap x.toNat)
def cvtI (k:IntKind) (n:Int):DT T:=
 match k with
 | .u8=>.u8 (Qr (Qk 8 n))
 | .u16=>.u16 (Qk 16 n)
 | .u32=>.u32 (Qk 32 n)
 | .u64=>.u64 (Qk 64 n)
 | k=>.int k (k.wrap n)
def convK (Y:Nat→Option TI) (src dst:Nat) (x:DT T) (K:DT T→Option R):Option R:=
 match Y src with
 | none=>none
 | some _=>match Y dst with
  | none=>none
  | some i=>match i.kind with
   | .int k=>match x with
    | .int _ n=>K (cvtI k n)
    | .u8 x=>K (cvtU k x.toBitVec)
    | .u16 x=>K (cvtU k x)
    | .u32 x=>K (cvtU k x)
    | .u64 x=>K (cvtU k x)
    | _=>none
   | .str=>match x with
    | .int _ n=>K (.str (Utf8.encode n).data.toList)
    | .str l=>K (.str l)
    | _=>none
   | _=>none
def loadT (Y:Nat→Option TI) (t:Nat) (cs:List (DT T)):Option (DT T):=
 match Y t with
 | none=>none
 | some i=>match i.kind.agg with
  | true=>match Q7 i.sz cs.length with
   | true=>some (.agg (cs.take i.sz))
   | false=>none
  | false=>cs.head?
def ldK (Y:Nat→Option TI) (t:Nat) (cs:List (DT T)) (K:DT T→Option R):Option R:=
 match loadT Y t cs with
 | some d=>K d
 | none=>none
def fillT (place:Nat→Option (Nat×Nat)):List (DT T)→List (Nat×DT T)→Option (List (DT T))
 | cells,[]=>some cells
 | cells,(i,x)::r=>match place i with
  | some (o,s)=>match x.fit&&(Nat.beq x.cells.length s&&Q7 (o+s) cells.length) with
   | true=>fillT place (setT cells o x.cells) r
   | false=>none
  | none=>none
def buildT (Y:Nat→Option TI) (t:Nat) (parts:List (Nat×DT T)):Option (DT T):=
 match Y t with
 | none=>none
 | some i=>match i.kind with
  | .strct=>(fillT (fun j=>i.places[j]?) (i.zero.map Zc.toT) parts).map .agg
  | .arr _ e=>match Y e with
   | some j=>(fillT (fun k=>some (k * j.sz,j.sz)) (i.zero.map Zc.toT) parts).map .agg
   | none=>none
  | _=>none
def fldT (Y:Nat→Option TI) (t k:Nat):Option (Nat×Nat):=
 match Y t with
 | some i=>match i.flds[k]? with
  | some q=>q
  | none=>none
 | none=>none
def fieldAddrT (Y:Nat→Option TI) (t:Nat) (x:DT T) (k:Nat):Option (DT T):=
 match fldT Y t k with
 | some (o,_)=>match x with
  | .bp b off=>some (.bp b (off+o))
  | .ap b g c i off=>some (.ap b g c i (off+o))
  | .rp cs=>some (.rp (cs.drop o))
  | _=>none
 | none=>none
def fieldT (Y:Nat→Option TI) (t:Nat) (x:DT T) (k:Nat):Option (DT T):=
 match fldT Y t k with
 | some (o,ft)=>match x with
  | .agg cs=>loadT Y ft (cs.drop o)
  | _=>none
 | none=>none
def arrT (Y:Nat→Option TI) (t:Nat):Option (Nat×Nat×Nat):=
 match Y t with
 | some i=>match i.kind with
  | .arr n e=>match Y e with
   | some j=>some (n,e,j.sz)
   | none=>none
  | _=>none
 | none=>none
def isStr (Y:Nat→Option TI) (t:Nat):Bool:=
 match Y t with
 | some i=>match i.kind with
  | .str=>true
  | _=>false
 | none=>false
def elemC (Y:Nat→Option TI) (C:Cd T) (t c:Nat):Bool:=
 match elemT Y t with
 | some e=>match Y e with
  | some j=>Nat.beq j.sz (C.sz c)
  | none=>false
 | none=>false
def u32s:List (DT T)→Option (List (BitVec 32))
 | []=>some []
 | .u32 v::r=>(u32s r).map fun l=>v::l
 | _=>none
def splitN:Nat→Nat→(Nat→Option R)→Option R
 | 0,_,_=>none
 | n+1,k,K=>bif Nat.beq k n then K n else splitN n k K
def indexAddrK (Y:Nat→Option TI) (C:Cd T) (t:Nat) (x i:DT T) (K:DT T→Option R):Option R:=
 match x with
 | .rs c l=>match elemC Y C t c with
  | true=>atK l i fun x=>K (.rp (C.enc c x))
  | false=>none
 | .bw b g c n=>match elemC Y C t c with
  | true=>ltK i n fun k=>K (.ap b g c k 0)
  | false=>none
 | .bs b g c o n=>match elemC Y C t c with
  | true=>ltK i n fun k=>K (.ap b g c (k+o) 0)
  | false=>none
 | .bp b off=>match arrT Y t with
  | some (n,_,s)=>ltK i n fun k=>splitN n k fun k=>K (.bp b (off+k * s))
  | none=>none
 | .rp cs=>match arrT Y t with
  | some (n,_,s)=>match Nat.beq s 1,u32s cs with
   | true,some l=>ltK i n fun k=>(l[k]?).bind fun v=>K (.rp (.u32 v::cs.drop (k+1)))
   | _,_=>ltK i n fun k=>splitN n k fun k=>K (.rp (cs.drop (k * s)))
  | none=>none
 | .ap b g c j 0=>match arrT Y t with
  | some (n,_,s)=>match Nat.beq s (C.sz c) with
   | true=>ltK i n fun k=>K (.ap b g c (k+j) 0)
   | false=>none
  | none=>none
 | _=>none
def firstsK (C:Cd T) (c:Nat) (l:List (T c)):Nat→Nat→(List (DT T)→Option R)→Option R
 | 0,_,K=>K []
 | n+1,i,K=>(l[i]?).bind fun x=>firstsK C c l n (i+1) fun cs=>K (C.enc c x++cs)
def arrayAtK (Y:Nat→Option TI) (C:Cd T) (t:Nat) (x:DT T) (K:DT T→Option R):Option R:=
 match arrT Y t with
 | some (n,_,s)=>match Qae 0 n with
  | true=>match x with
   | .rs c l=>match Nat.beq s (C.sz c) with
    | true=>firstsK C c l n 0 fun cs=>K (.rp cs)
    | false=>none
   | .bw b g c m=>match Nat.beq s (C.sz c) with
    | true=>bif decide (n≤m) then K (.ap b g c 0 0) else none
    | false=>none
   | .bs b g c o m=>match Nat.beq s (C.sz c) with
    | true=>bif decide (n≤m) then K (.ap b g c o 0) else none
    | false=>none
   | _=>none
  | false=>none
 | none=>none
def capK (Y:Nat→Option TI) (t:Nat) (x:DT T) (K:DT T→Option R):Option R:=
 match x with
 | .nils=>match elemT Y t with
  | some _=>K (.int .i64 0)
  | none=>none
 | _=>none
def indexK (Y:Nat→Option TI) (t:Nat) (x i:DT T) (K:DT T→Option R):Option R:=
 match x with
 | .str l=>match isStr Y t with
  | true=>atK l i fun b=>K (.u8 b)
  | false=>none
 | .agg cs=>match arrT Y t with
  | some (n,e,s)=>ltK i n fun k=>ldK Y e (cs.drop (k * s)) K
  | none=>none
 | _=>none
def cutB (b g c o n:Nat):Option Nat→Option Nat→DT T
 | none,none=>.bs b g c o n
 | some a,none=>.bs b g c (a+o) (n - a)
 | none,some h=>.bs b g c o h
 | some a,some h=>.bs b g c (a+o) (h - a)
def sliceK (Y:Nat→Option TI) (C:Cd T) (t:Nat) (x:DT T) (lo hi:Option (DT T)) (K:DT T→Option R):Option R:=
 match x with
 | .str l=>match isStr Y t with
  | true=>cutK l.length lo hi fun a b=>K (.str (cutL l a b))
  | false=>none
 | .nils=>match elemT Y t with
  | some e=>match Y e with
   | some _=>cutK 0 lo hi fun _ _=>K .nils
   | none=>none
  | none=>none
 | .rs c l=>match elemC Y C t c with
  | true=>cutK l.length lo hi fun a b=>K (.rs c (cutL l a b))
  | false=>none
 | .bw b g c n=>match elemC Y C t c with
  | true=>cutK n lo hi fun p q=>K (cutB b g c 0 n p q)
  | false=>none
 | .bs b g c o n=>match elemC Y C t c with
  | true=>cutK n lo hi fun p q=>K (cutB b g c o n p q)
  | false=>none
 | _=>none
def lenK (Y:Nat→Option TI) (t:Nat) (x:DT T) (K:DT T→Option R):Option R:=
 match x with
 | .str l=>match isStr Y t with
  | true=>K (.int .i64 l.length)
  | false=>none
 | .nils=>match elemT Y t with
  | some _=>K (.int .i64 0)
  | none=>none
 | .rs _ l=>match elemT Y t with
  | some _=>K (.int .i64 l.length)
  | none=>none
 | .bs _ _ _ _ n=>match elemT Y t with
  | some _=>K (.int .i64 n)
  | none=>none
 | .bw _ _ _ n=>match elemT Y t with
  | some _=>K (.int .i64 n)
  | none=>none
 | .agg _=>match arrT Y t with
  | some (n,_)=>K (.int .i64 n)
  | none=>none
 | .bp _ _=>match Y t with
  | some i=>match i.kind with
   | .ptr a=>match arrT Y a with
    | some (n,_)=>K (.int .i64 n)
    | none=>none
   | _=>none
  | none=>none
 | _=>none
def mnK (x y:DT T) (K:DT T→Option R):Option R:=
 match x,y with
 | .int k a,.int _ b=>K (.int k (bif decide (b < a) then b else a))
 | .u64 a,.u64 b=>K (.u64 (bif decide (b.toNat < a.toNat) then b else a))
 | _,_=>none
def mxK (x y:DT T) (K:DT T→Option R):Option R:=
 match x,y with
 | .int k a,.int _ b=>K (.int k (bif decide (a < b) then b else a))
 | .u64 a,.u64 b=>K (.u64 (bif decide (a.toNat < b.toNat) then b else a))
 | _,_=>none
def foldK (f:DT T→DT T→(DT T→Option R)→Option R):DT T→List (DT T)→(DT T→Option R)→Option R
 | x,[],K=>K x
 | x,y::r,K=>f x y fun z=>foldK f z r K
def pickK (q:Bool) (a b:DT T) (K:DT T→Option R):Option R:=
 match a,b with
 | .bool x,.bool y=>K (.bool (bif q then x else y))
 | .int k x,.int k' y=>match decide (k=k') with
  | true=>K (.int k (bif q then x else y))
  | false=>none
 | a,b=>bif q then K a else K b
def nK (Y:Nat→Option TI) (C:Cd T) (o:Op) (e:Operand→DT T) (K:DT T→Option R):Option R:=
 match o with
 | .move x=>K (e x)
 | .assign x=>K (e x)
 | .pick c a b=>match e c with
  | .bool q=>pickK q (e a) (e b) K
  | _=>none
 | .nilCheck x=>match e x with
  | .bp b i=>K (.bp b i)
  | .ap b g s i k=>K (.ap b g s i k)
  | .rp cs=>K (.rp cs)
  | .fn f cap=>K (.fn f cap)
  | _=>none
 | .binOp op t x y _=>binK Y op t (e x) (e y) K
 | .unOp op _ x=>unK op (e x) K
 | .convert src dst x=>convK Y src dst (e x) K
 | .build t parts=>match buildT Y t (parts.toList.map fun p=>(p.1,e p.2)) with
  | some d=>K d
  | none=>none
 | .fieldAddr t x k=>match fieldAddrT Y t (e x) k with
  | some d=>K d
  | none=>none
 | .field t x k=>match fieldT Y t (e x) k with
  | some d=>K d
  | none=>none
 | .indexAddr t x i=>indexAddrK Y C t (e x) (e i) K
 | .index t x i=>indexK Y t (e x) (e i) K
 | .slice t x lo hi none=>sliceK Y C t (e x) (lo.map e) (hi.map e) K
 | .extract x i=>match e x with
  | .tup vs=>match vs[i]? with
   | some d=>K d
   | none=>none
  | _=>none
 | .makeFunc (.func f) first cap=>match first.toList with
  | []=>K (.fn f (cap.toList.map e))
  | _=>none
 | .call { callee:=.builtin .len,args,argTypes }=>match args.toList,argTypes.toList with
  | [x],[t]=>lenK Y t (e x) K
  | _,_=>none
 | .sliceToArrayPointer t x=>arrayAtK Y C t (e x) K
 | .call { callee:=.builtin .cap,args,argTypes }=>match args.toList,argTypes.toList with
  | [x],[t]=>capK Y t (e x) K
  | _,_=>none
 | .call { callee:=.builtin .min,args,.. }=>match args.toList.map e with
  | x::r=>foldK mnK x r K
  | []=>none
 | .call { callee:=.builtin .max,args,.. }=>match args.toList.map e with
  | x::r=>foldK mxK x r K
  | []=>none
 | _=>none
def inK (k:IntKind) (n:Int):Bool:=decide (0≤n)&&decide (n < 2 ^ k.bits)
mutual
def ofVT:Value→DT T
 | .bool b=>.bool b
 | .int k n=>match k.signed with
  | true=>.int k n
  | false=>match inK k n with
   | true=>mkInt k n
   | false=>.dead
 | .string s=>.str s.data.toList
 | .pointer none=>.nilp
 | .slice none 0 0=>.nils
 | .agg ⟨cs⟩=>match cs.all (·.oneCell') with
  | true=>.agg (ofVTs cs)
  | false=>.dead
 | .nilFunc=>.lit .nilFunc
 | .nilIface=>.lit .nilIface
 | .map none=>.lit (.map none)
 | _=>.dead
def ofVTs:List Value→List (DT T)
 | []=>[]
 | v::r=>ofVT v::ofVTs r
end
def tget:List (Nat×DT T)→Nat→DT T
 | [],_=>.dead
 | (i,d)::r,j=>match Nat.beq j i with
  | true=>d
  | false=>tget r j
def evT (G:Nat→Option (List (DT T))) (t:Nat→DT T):Operand→DT T
 | .tmp i=>t i
 | .const v=>ofVT v
 | .global g=>match G g with | some cs=>.rp cs | none=>.dead
 | .func f=>.fn f []
end
theorem wrapU (k:IntKind) (h:k.signed=false) (n:Int):k.wrap n=n % 2 ^ k.bits:=by
 cases k<;>first | (simp [Qy] at h; done) | simp [Qbh,Qax,Qy]
theorem wrapN (k:IntKind) (h:k.signed=false) (n:Nat):k.wrap n=((n % 2 ^ k.bits:Nat):Int):=by
 rw [wrapU k h]; simp
theorem Vs7 (k:IntKind) (h:k.signed=false) (z:BitVec k.bits):k.wrap z.toNat=z.toNat:=by
 rw [wrapN k h,Nat.mod_eq_of_lt z.isLt]
theorem Vci {w:Nat} (z:BitVec w):Qk w (z.toNat:Int)=z:=by simp
theorem bv_eq {w:Nat} (a b:BitVec w):((a.toNat:Int) == (b.toNat:Int))=decide (a=b):=by
 rw [Q3]
 simp
 constructor
 ·intro h; exact Qad (by omega)
 ·intro h; rw [h]
theorem bv_ok {R:Type} (k:IntKind) (hk:k.signed=false) {w:Nat} (hkw:k.bits=w) (op:BinOp) (a b:BitVec w) {K:BitVec w→Option R} {Q:Bool→Option R} {r:R} (h:bvK op a b K Q=some r) :
  (∃ z,intBin op k a.toNat k b.toNat=some (.int k z.toNat)∧K z=some r)∨(∃ q,intBin op k a.toNat k b.toNat=some (.bool q)∧Q q=some r):=by
 subst hkw
 have hw:=Vs7 k hk
 cases op<;>simp only [bvK] at h<;>try (cases h; done)
 case add=>
  refine .inl ⟨_,?_,h⟩
  simp only [intBin]
  rw [if_neg (by simp)]
  rw [BitVec.toNat_add,← wrapN k hk]; simp
 case sub=>
  refine .inl ⟨_,?_,h⟩
  simp only [intBin]
  rw [if_neg (by simp)]
  rw [BitVec.toNat_sub,← wrapN k hk]
  congr 2
  rw [wrapU k hk,wrapU k hk]
  have hb:=b.isLt
  have:((2 ^ k.bits - b.toNat+a.toNat:Nat):Int)=(a.toNat:Int) - b.toNat+2 ^ k.bits:=by
   rw [Int.natCast_add,Qbk (Nat.le_of_lt hb)]; simp; omega
  rw [this]; simp
 case mul=>
  refine .inl ⟨_,?_,h⟩
  simp only [intBin]
  rw [if_neg (by simp)]
  rw [BitVec.toNat_mul,← wrapN k hk]; simp
 case quo=>
  cases hb:decide (b=0)<;>simp only [hb,cond_true,cond_false] at h
  ·refine .inl ⟨_,?_,h⟩
   have hb:b≠0:=by simpa using hb
   have hb':¬ ((b.toNat:Int)=0):=fun e=>hb (Qad (by simpa using e))
   simp only [intBin]
   rw [if_neg (by simp),if_neg hb']
   have:(a.toNat:Int).tdiv b.toNat=((a / b).toNat:Int):=by rw [Int.tdiv_eq_ediv_of_nonneg (by omega)]; simp
   rw [this,hw]
  ·cases h
 case rem=>
  cases hb:decide (b=0)<;>simp only [hb,cond_true,cond_false] at h
  ·refine .inl ⟨_,?_,h⟩
   have hb:b≠0:=by simpa using hb
   have hb':¬ ((b.toNat:Int)=0):=fun e=>hb (Qad (by simpa using e))
   simp only [intBin]
   rw [if_neg (by simp),if_neg hb']
   have:(a.toNat:Int).tmod b.toNat=((a % b).toNat:Int):=by rw [Int.tmod_eq_emod_of_nonneg (by omega)]; simp
   rw [this]
  ·cases h
 case and=>refine .inl ⟨_,?_,h⟩; simp only [intBin]; rw [if_neg (by simp),Vci,Vci,hw]
 case or=>refine .inl ⟨_,?_,h⟩; simp only [intBin]; rw [if_neg (by simp),Vci,Vci,hw]
 case xor=>refine .inl ⟨_,?_,h⟩; simp only [intBin]; rw [if_neg (by simp),Vci,Vci,hw]
 case andNot=>refine .inl ⟨_,?_,h⟩; simp only [intBin]; rw [if_neg (by simp),Vci,Vci,hw]
 case eql=>refine .inr ⟨_,?_,h⟩; simp only [intBin]; rw [if_neg (by simp),bv_eq]
 case neq=>refine .inr ⟨_,?_,h⟩; simp only [intBin]; rw [if_neg (by simp)]; simp only [bne,bv_eq]
 case lss=>refine .inr ⟨_,?_,h⟩; simp only [intBin]; rw [if_neg (by simp)]; simp
 case leq=>refine .inr ⟨_,?_,h⟩; simp only [intBin]; rw [if_neg (by simp)]; simp
 case gtr=>refine .inr ⟨_,?_,h⟩; simp only [intBin]; rw [if_neg (by simp)]; simp
 case geq=>refine .inr ⟨_,?_,h⟩; simp only [intBin]; rw [if_neg (by simp)]; simp
section
variable {T:Nat→Type} {R:Type} {C:Cd T} {L:Nat→Nat→Nat} {P:Program} {Y:Nat→Option TI}
theorem ex_of {o:Option D} {K:DT T→Option R} {d:DT T} {r:R} (h:K d=some r) (ha:o=some (den C d)) (hw:WfD L d):∃ d:DT T,o=some (den C d)∧WfD L d∧K d=some r:=⟨d,ha,hw,h⟩
theorem Vs8 {y:DT T} {K:Nat→Option R} {r:R} (h:cntK y K=some r):∃ (kd:IntKind) (n:Nat),den C y = .int kd n∧K n=some r:=by
 unfold cntK at h
 split at h
 ·rename_i k n
  cases hn:decide (0≤n)<;>simp only [hn,cond_true,cond_false] at h
  ·cases h
  ·have hn:0≤n:=by simpa using hn
   exact ⟨k,n.toNat,by simp only [den]; congr 1; omega,h⟩
 ·exact ⟨_,_,rfl,h⟩
 ·exact ⟨_,_,rfl,h⟩
 ·exact ⟨_,_,rfl,h⟩
 ·exact ⟨_,_,rfl,h⟩
 ·cases h
theorem Voq (k:IntKind) (hk:k.signed=false) (x:BitVec k.bits) (n:Nat):k.wrap ((x.toNat:Int) * 2 ^ (min n k.bits))=((x <<< n).toNat:Int):=by
 have e:(x.toNat:Int) * 2 ^ (min n k.bits)=((x.toNat * 2 ^ (min n k.bits):Nat):Int):=by simp
 rw [e,wrapN k hk,BitVec.toNat_shiftLeft,Nat.shiftLeft_eq]
 congr 1
 rcases Nat.le_total n k.bits with h | h
 ·rw [Qag h]
 ·rw [Qbe h]
  have:2 ^ n=2 ^ k.bits * 2 ^ (n - k.bits):=by rw [← Nat.pow_add]; congr 1; omega
  rw [this,Qbd,← Nat.mul_assoc,Nat.mul_right_comm,Qbd]
theorem Vor (k:IntKind) (x:BitVec k.bits) (n:Nat):(x.toNat:Int).fdiv (2 ^ (min n k.bits))=((x >>> n).toNat:Int):=by
 rw [Int.fdiv_eq_ediv_of_nonneg _ (by exact Int.le_of_lt (Int.pow_pos (by decide)))]
 rw [BitVec.toNat_ushiftRight,Nat.shiftRight_eq_div_pow]
 have:(2:Int) ^ (min n k.bits)=((2 ^ (min n k.bits):Nat):Int):=by simp
 rw [this]
 have:(x.toNat:Int) / ((2 ^ (min n k.bits):Nat):Int)=((x.toNat / 2 ^ (min n k.bits):Nat):Int):=by simp
 rw [this]
 congr 1
 rcases Nat.le_total n k.bits with h | h
 ·rw [Qag h]
 ·rw [Qbe h]
  have hx:=x.isLt
  rw [Qbf hx,Qbf (Qba hx (Qa4 (by decide) h))]
theorem Vl8 (k kd:IntKind) (a:Int) (n:Nat):intBin .shl k a kd n=some (.int k (k.wrap (a * 2 ^ (min n k.bits)))):=by
 simp only [intBin]; rw [if_neg (by omega)]; simp
theorem Vl9 (k kd:IntKind) (a:Int) (n:Nat):intBin .shr k a kd n=some (.int k (a.fdiv (2 ^ (min n k.bits)))):=by
 simp only [intBin]; rw [if_neg (by omega)]; simp
theorem Vzl {x:DT T} {n:Nat} {K:DT T→Option R} {r:R} (kd:IntKind) (t:Nat) (h:shlK x n K=some r):∃ d:DT T,binD P .shl t (den C x) (.int kd n)=some (den C d)∧WfD L d∧K d=some r:=by
 unfold shlK at h
 split at h
 ·exact ex_of h (by simp only [den,binD,Vl8]) trivial
 ·rename_i x
  refine ⟨.u8 (Qr (x.toBitVec <<< n)),?_,trivial,h⟩
  simp only [den,binD,Vl8]
  exact congrArg (fun z=>some (D.int .u8 z)) (Voq .u8 rfl x.toBitVec n)
 ·rename_i x; exact ⟨.u16 (x <<< n),by simp only [den,binD,Vl8]; exact congrArg (fun z=>some (D.int .u16 z)) (Voq .u16 rfl x n),trivial,h⟩
 ·rename_i x; exact ⟨.u32 (x <<< n),by simp only [den,binD,Vl8]; exact congrArg (fun z=>some (D.int .u32 z)) (Voq .u32 rfl x n),trivial,h⟩
 ·rename_i x; exact ⟨.u64 (x <<< n),by simp only [den,binD,Vl8]; exact congrArg (fun z=>some (D.int .u64 z)) (Voq .u64 rfl x n),trivial,h⟩
 ·cases h
theorem Vzm {x:DT T} {n:Nat} {K:DT T→Option R} {r:R} (kd:IntKind) (t:Nat) (h:shrK x n K=some r):∃ d:DT T,binD P .shr t (den C x) (.int kd n)=some (den C d)∧WfD L d∧K d=some r:=by
 unfold shrK at h
 split at h
 ·exact ex_of h (by simp only [den,binD,Vl9]) trivial
 ·rename_i x
  refine ⟨.u8 (Qr (x.toBitVec >>> n)),?_,trivial,h⟩
  simp only [den,binD,Vl9]
  exact congrArg (fun z=>some (D.int .u8 z)) (Vor .u8 x.toBitVec n)
 ·rename_i x; exact ⟨.u16 (x >>> n),by simp only [den,binD,Vl9]; exact congrArg (fun z=>some (D.int .u16 z)) (Vor .u16 x n),trivial,h⟩
 ·rename_i x; exact ⟨.u32 (x >>> n),by simp only [den,binD,Vl9]; exact congrArg (fun z=>some (D.int .u32 z)) (Vor .u32 x n),trivial,h⟩
 ·rename_i x; exact ⟨.u64 (x >>> n),by simp only [den,binD,Vl9]; exact congrArg (fun z=>some (D.int .u64 z)) (Vor .u64 x n),trivial,h⟩
 ·cases h
theorem Vzn {op:BinOp} {k k':IntKind} {a b:Int} {K:DT T→Option R} {r:R} (hs1:op≠.shl) (hs2:op≠.shr) (h:intK op k a k' b K=some r):∃ d:DT T,intBin op k a k' b=some (den C d)∧WfD L d∧K d=some r:=by
 unfold intK at h
 split at h
 ·cases h
 ·rename_i hk
  have hk:k=k':=by simpa using hk
  subst hk
  cases op<;>simp only [] at h<;>try (cases h; done)
  case quo=>
   cases hb:decide (b=0)<;>simp only [hb,cond_true,cond_false] at h
   ·exact ex_of h (by simp only [intBin]; rw [if_neg (by simp),if_neg (by simpa using hb)]; rfl) trivial
   ·cases h
  case rem=>
   cases hb:decide (b=0)<;>simp only [hb,cond_true,cond_false] at h
   ·exact ex_of h (by simp only [intBin]; rw [if_neg (by simp),if_neg (by simpa using hb)]; rfl) trivial
   ·cases h
  case neq=>exact ex_of h (by simp only [intBin]; rw [if_neg (by simp)]; rfl) trivial
  all_goals exact ex_of h (by simp only [intBin]; rw [if_neg (by simp)]; rfl) trivial
theorem Vzo {α:Type} [DecidableEq α] (a b:α):(a == b)=decide (a=b):=by
 rw [Q3]; simp
theorem Vos (a b:List UInt8):(a == b)=decide (a=b):=by
 rw [Q3]; simp
theorem Vzp {op:BinOp} {a b:List UInt8} {K:DT T→Option R} {r:R} (h:strK op a b K=some r):∃ d:DT T,strBin op a b=some (den C d)∧WfD L d∧K d=some r:=by
 unfold strK at h
 cases op<;>simp only [] at h<;>try (cases h; done)
 case add=>
  have hbe:Q7 (a.length+b.length) 9223372036854775807=decide (((a.length+b.length:Nat):Int)≤IntKind.i64.max):=by
   rw [Q3,Nat.ble_eq,decide_eq_true_eq]
   simp only [IntKind.max,Qy,Qax]
   simp
   omega
  rw [hbe] at h
  cases hb:decide (((a.length+b.length:Nat):Int)≤IntKind.i64.max)<;>simp only [hb,cond_true,cond_false] at h
  ·cases h
  ·exact ex_of h (by simp only [strBin]; rw [if_neg (by have:=of_decide_eq_true hb; omega)]; rfl) trivial
 all_goals exact ex_of h (by simp only [strBin,Vos]; rfl) trivial
theorem Vdta (a b:UInt8):((a.toNat:Int) == (b.toNat:Int))=decide (a=b):=by
 rw [Q3]
 simp
 constructor
 ·intro h; exact UInt8.toNat_inj.1 (by omega)
 ·intro h; rw [h]
theorem Vng:∀ {q:List Nat} {xs ys:List (DT T)} {p:Bool},eqCT q xs ys=some p→eqCells q (denL C xs) (denL C ys)=some p
 | [],[],[],p,h=>by simpa [eqCT,eqCells,denL] using h
 | [],[],_::_,p,h=>by simp [eqCT] at h
 | [],_::_,[],p,h=>by simp [eqCT] at h
 | [],_::_,_::_,p,h=>by simp [eqCT] at h
 | _::_,[],[],p,h=>by simp [eqCT] at h
 | _::_,[],_::_,p,h=>by simp [eqCT] at h
 | _::_,_::_,[],p,h=>by simp [eqCT] at h
 | q::qs,x::xs,y::ys,p,h=>by
  simp only [eqCT] at h
  split at h
  case h_2=>cases h
  rename_i p1 h1
  split at h
  case h_2=>cases h
  rename_i p2 h2
  simp only [Qb] at h; subst h
  have ih:=Vng h2
  unfold eqC1 at h1
  split at h1
  ·split at h1
   ·rename_i k a k' b _ hk
    have hk:k=k':=by simpa using hk
    simp only [Qb] at h1; subst h1
    simp [denL,den,eqCells,hk,ih,Vzo]
   ·cases h1
  ·simp only [Qb] at h1; subst h1
   simp only [denL,den,eqCells,if_true,ih,Qc,Vdta]
  ·simp only [Qb] at h1; subst h1
   simp only [denL,den,eqCells,if_true,ih,Qc,bv_eq]
  ·simp only [Qb] at h1; subst h1
   simp only [denL,den,eqCells,if_true,ih,Qc,bv_eq]
  ·simp only [Qb] at h1; subst h1
   simp only [denL,den,eqCells,if_true,ih,Qc,bv_eq]
  ·simp only [Qb] at h1; subst h1
   simp only [denL,den,eqCells,ih,Qc]
  ·simp only [Qb] at h1; subst h1
   simp only [denL,den,eqCells,ih,Qc,Vos]
  ·cases h1
theorem Vzq (hY:TysOk P Y) {op:BinOp} {t:Nat} {x y:DT T} {K:DT T→Option R} {r:R} (h:binK Y op t x y K=some r):∃ d:DT T,binD P op t (den C x) (den C y)=some (den C d)∧WfD L d∧K d=some r:=by
 unfold binK at h
 split at h
 ·obtain ⟨kd,n,h1,h2⟩:=Vs8 (C:=C) h
  rw [h1]; exact Vzl kd t h2
 ·obtain ⟨kd,n,h1,h2⟩:=Vs8 (C:=C) h
  rw [h1]; exact Vzm kd t h2
 ·rename_i hs1 hs2
  split at h
  ·split at h
   ·simp only [den,binD]; exact Vzn (C:=C) (fun e=>hs1 e) (fun e=>hs2 e) h
   ·cases h
  ·rename_i a; split at h
   ·rename_i b
    simp only [den,binD]
    rcases bv_ok .u8 rfl (w:=8) rfl op a.toBitVec b.toBitVec h with ⟨z,h1,h2⟩ | ⟨q,h1,h2⟩
    ·exact ex_of h2 h1 trivial
    ·exact ex_of h2 h1 trivial
   ·cases h
  ·rename_i a; split at h
   ·rename_i b
    simp only [den,binD]
    rcases bv_ok .u16 rfl (w:=16) rfl op a b h with ⟨z,h1,h2⟩ | ⟨q,h1,h2⟩
    ·exact ex_of h2 h1 trivial
    ·exact ex_of h2 h1 trivial
   ·cases h
  ·rename_i a; split at h
   ·rename_i b
    simp only [den,binD]
    rcases bv_ok .u32 rfl (w:=32) rfl op a b h with ⟨z,h1,h2⟩ | ⟨q,h1,h2⟩
    ·exact ex_of h2 h1 trivial
    ·exact ex_of h2 h1 trivial
   ·cases h
  ·rename_i a; split at h
   ·rename_i b
    simp only [den,binD]
    rcases bv_ok .u64 rfl (w:=64) rfl op a b h with ⟨z,h1,h2⟩ | ⟨q,h1,h2⟩
    ·exact ex_of h2 h1 trivial
    ·exact ex_of h2 h1 trivial
   ·cases h
  ·split at h
   ·simp only [den,binD]; exact Vzp (C:=C) h
   ·cases h
  ·rename_i a; split at h
   case h_2=>cases h
   rename_i b
   split at h
   case h_2=>cases h
   rename_i i hi
   split at h
   case h_2=>cases h
   rename_i hk
   have hb:=(hY t i hi).bool hk
   cases op<;>simp only [] at h<;>try (cases h; done)
   ·exact ex_of h (by simp only [den,binD,hb,if_true]) trivial
   ·exact ex_of h (by simp only [den,binD,hb,if_true]) trivial
  ·rename_i xs; split at h
   case h_2=>cases h
   rename_i ys
   split at h
   case h_2=>cases h
   rename_i i hi
   split at h
   case h_2=>cases h
   rename_i q hq
   have hf:=(hY t i hi).eqs q hq
   cases op<;>simp only [] at h<;>try (cases h; done)
   ·split at h
    ·rename_i p hp
     exact ⟨.bool p,by simp only [den,binD,hf,Vng (C:=C) hp,Qc],trivial,h⟩
    ·cases h
   ·split at h
    ·rename_i p hp
     exact ⟨.bool (!p),by simp only [den,binD,hf,Vng (C:=C) hp,Qc],trivial,h⟩
    ·cases h
  ·rename_i c l; split at h
   case h_2=>cases h
   split at h
   case h_2=>cases h
   rename_i e he
   have hel:telem P t=some e:=by
    unfold elemT at he
    split at he
    case h_2=>cases he
    rename_i i hi
    split at he
    case h_2=>cases he
    rename_i e' hk
    cases he
    exact (hY t i hi).elem _ hk
   cases op<;>simp only [] at h<;>try (cases h; done)
   ·refine ex_of h ?_ trivial
    cases l<;>simp [den,rnD,binD,hel]
   ·refine ex_of h ?_ trivial
    cases l<;>simp [den,rnD,binD,hel]
  ·cases h
end
section
variable {T:Nat→Type} {R:Type} {C:Cd T} {L:Nat→Nat→Nat} {P:Program} {Y:Nat→Option TI}
theorem Vot (k:IntKind) (hk:k.signed=false) (x:BitVec k.bits):k.wrap (0 - (x.toNat:Int))=((- x).toNat:Int):=by
 rw [BitVec.toNat_neg,← wrapN k hk,wrapU k hk,wrapU k hk]
 have hx:=x.isLt
 have:((2 ^ k.bits - x.toNat:Nat):Int)=0 - (x.toNat:Int)+2 ^ k.bits:=by
  rw [Qbk (Nat.le_of_lt hx)]; simp; omega
 rw [this]; simp
theorem Vou (k:IntKind) (hk:k.signed=false) (x:BitVec k.bits):k.wrap (Qk k.bits (if k.signed then -1 else k.max) ^^^ Qk k.bits (x.toNat:Int)).toNat=((~~~ x).toNat:Int):=by
 rw [Vci]
 have:Qk k.bits (if k.signed then -1 else k.max)=BitVec.allOnes k.bits:=by
  cases k<;>first | (simp [Qy] at hk; done) | decide
 rw [this,BitVec.allOnes_xor,Vs7 k hk]
theorem Vdua {op:UnOp} {x:DT T} {K:DT T→Option R} {r:R} (h:unK op x K=some r):∃ d:DT T,unD op (den C x)=some (den C d)∧WfD L d∧K d=some r:=by
 unfold unK at h
 split at h
 ·exact ex_of h rfl trivial
 ·exact ex_of h rfl trivial
 ·rename_i x; exact ex_of h (congrArg (fun z=>some (D.int .u8 z)) (Vot .u8 rfl x.toBitVec)) trivial
 ·rename_i x; exact ex_of h (congrArg (fun z=>some (D.int .u16 z)) (Vot .u16 rfl x)) trivial
 ·rename_i x; exact ex_of h (congrArg (fun z=>some (D.int .u32 z)) (Vot .u32 rfl x)) trivial
 ·rename_i x; exact ex_of h (congrArg (fun z=>some (D.int .u64 z)) (Vot .u64 rfl x)) trivial
 ·exact ex_of h rfl trivial
 ·rename_i x; exact ex_of h (congrArg (fun z=>some (D.int .u8 z)) (Vou .u8 rfl x.toBitVec)) trivial
 ·rename_i x; exact ex_of h (congrArg (fun z=>some (D.int .u16 z)) (Vou .u16 rfl x)) trivial
 ·rename_i x; exact ex_of h (congrArg (fun z=>some (D.int .u32 z)) (Vou .u32 rfl x)) trivial
 ·rename_i x; exact ex_of h (congrArg (fun z=>some (D.int .u64 z)) (Vou .u64 rfl x)) trivial
 ·cases h
theorem Vv6 (k:IntKind) (n:Int):den C (cvtI k n:DT T) = .int k (k.wrap n):=by
 have e:∀ (w:Nat),((Qk w n).toNat:Int)=n % 2 ^ w:=fun w=>by
  rw [BitVec.toNat_ofInt]; simp [Qbl]
  exact Int.max_eq_left (Qbl n (Int.ne_of_gt (Int.pow_pos (n:=2) (m:=w) (by decide))))
 cases k<;>simp only [cvtI,den]
 ·rw [wrapU .u8 rfl]; exact congrArg (D.int .u8) (e 8)
 ·rw [wrapU .u16 rfl]; exact congrArg (D.int .u16) (e 16)
 ·rw [wrapU .u32 rfl]; exact congrArg (D.int .u32) (e 32)
 ·rw [wrapU .u64 rfl]; exact congrArg (D.int .u64) (e 64)
theorem wrapS (k:IntKind) (hk:k.signed=true) (n:Nat) (h:n < 2 ^ (k.bits - 1)):k.wrap n=n:=by
 cases k<;>first | (simp [Qy] at hk; done) | (simp [Qbh,Qax,Qy] at h ⊢; omega)
theorem Vg4 {w:Nat} (k:IntKind) (x:BitVec w):den C (cvtU k x:DT T) = .int k (k.wrap x.toNat):=by
 have e:∀ (k:IntKind),k.signed=false→(((x.setWidth k.bits).toNat:Nat):Int)=k.wrap x.toNat:=fun k hk=>by
  rw [BitVec.toNat_setWidth,wrapN k hk]
 have s:∀ (k:IntKind),k.signed=true→den C ((match Qae w k.bits with | true=>.int k x.toNat | false=>.int k (k.wrap x.toNat)):DT T) = .int k (k.wrap x.toNat):=fun k hk=>by
  split
  ·rename_i hb
   have hb:w < k.bits:=by simpa [Nat.blt_eq] using hb
   simp only [den]
   rw [wrapS k hk]
   exact Qba x.isLt (Qa4 (by decide) (by omega))
  ·rfl
 cases k
 ·exact s .i8 rfl
 ·exact s .i16 rfl
 ·exact s .i32 rfl
 ·exact s .i64 rfl
 ·exact congrArg (D.int .u8) (e .u8 rfl)
 ·exact congrArg (D.int .u16) (e .u16 rfl)
 ·exact congrArg (D.int .u32) (e .u32 rfl)
 ·exact congrArg (D.int .u64) (e .u64 rfl)
theorem Vzr (k:IntKind) (n:Int):WfD L (cvtI k n:DT T):=by cases k<;>trivial
theorem Vkf {w:Nat} (k:IntKind) (x:BitVec w):WfD L (cvtU k x:DT T):=by
 unfold cvtU; split<;>first | trivial | (split<;>trivial)
theorem Vs9 {t:Nat} (h:tstr P t=true):tint P t=none:=by
 have:=Vcd h; simp [tint,this]
theorem Vzs {t:Nat} {b:Bool} (h:tagg P t=some b):(P.underlying t).isSome=true:=by
 unfold tagg at h
 rw [Qe] at h
 obtain ⟨i,hi,_⟩:=h
 simp [hi]
theorem Vv7 (hY:TysOk P Y) {src dst:Nat} {x:DT T} {K:DT T→Option R} {r:R} (h:convK Y src dst x K=some r) :
  (P.underlying src).isSome=true∧∃ d:DT T,convD P dst (den C x)=some (den C d)∧WfD L d∧K d=some r:=by
 unfold convK at h
 split at h
 ·cases h
 rename_i i0 h0
 refine ⟨Vzs (hY src i0 h0).agg,?_⟩
 split at h
 ·cases h
 rename_i i hi
 split at h
 ·rename_i k hk
  have ht:=(hY dst i hi).int k hk
  split at h
  ·exact ex_of h (by simp only [den,convD,ht,Vv6]) (Vzr _ _)
  ·exact ex_of h (by simp only [den,convD,ht,Vg4]; rfl) (Vkf _ _)
  ·exact ex_of h (by simp only [den,convD,ht,Vg4]) (Vkf _ _)
  ·exact ex_of h (by simp only [den,convD,ht,Vg4]) (Vkf _ _)
  ·exact ex_of h (by simp only [den,convD,ht,Vg4]) (Vkf _ _)
  ·cases h
 ·rename_i hk
  have ht:=(hY dst i hi).str hk
  split at h
  ·exact ex_of h (by simp only [den,convD,Vs9 ht,ht,if_true]) trivial
  ·exact ex_of h (by simp only [den,convD,ht,if_true]) trivial
  ·cases h
 ·cases h
theorem Vkg (hY:TysOk P Y) {t:Nat} {cs:List (DT T)} {d:DT T} (hw:WfL L cs) (h:loadT Y t cs=some d):loadD P t (denL C cs)=some (den C d)∧WfD L d:=by
 unfold loadT at h
 split at h
 ·cases h
 rename_i i hi
 have ha:=(hY t i hi).agg
 have hs:=(hY t i hi).sz
 split at h
 ·rename_i hk
  split at h
  ·rename_i hb
   have hb:i.sz≤cs.length:=by simpa using hb
   simp only [Qb] at h; subst h
   refine ⟨?_,Vke _ hw⟩
   simp only [loadD,ha,hk,hs,Vao,hb,if_true,den,Vdd]
  ·cases h
 ·rename_i hk
  cases cs with
  | nil=>cases h
  | cons c r=>
   simp only [List.head?_cons,Qb] at h; subst h
   simp only [WfL] at hw
   exact ⟨by simp only [loadD,ha,hk,denL],hw.1⟩
theorem Vkh {place:Nat→Option (Nat×Nat)}:∀ {cells:List (DT T)} {ps:List (Nat×DT T)} {r:List (DT T)},WfL L cells→(∀ p∈ps,WfD L p.2)→fillT place cells ps=some r →
  fillD place (denL C cells) (ps.map fun p=>(p.1,den C p.2))=some (denL C r)∧WfL L r
 | cells,[],r,hc,hp,h=>by
  simp only [fillT,Qb] at h; subst h
  exact ⟨rfl,hc⟩
 | cells,(i,x)::ps,r,hc,hp,h=>by
  simp only [fillT] at h
  split at h
  case h_2=>cases h
  rename_i o s hpl
  split at h
  case h_2=>cases h
  rename_i hq
  simp only [Qg,Nat.beq_eq,Nat.ble_eq] at hq
  obtain ⟨h1,h2,h3⟩:=hq
  have hx:WfD L x:=hp (i,x) (by simp)
  have ih:=Vkh (Vg3 cells o x.cells hc (Vbp hx)) (fun p hpp=>hp p (by simp [hpp])) h
  refine ⟨?_,ih.2⟩
  simp only [Qj,fillD,hpl]
  rw [if_pos ⟨Vby C x h1,by rw [Vbe,Vao]; exact h2,by rw [Vao]; exact h3⟩,Vbe,← Vde]
  exact ih.1
theorem Veb (l:List Zc):denL C (l.map Zc.toT:List (DT T))=l.map Zc.toD:=by
 rw [Vau,Qac]; congr 1; funext z; exact Zc.den C z
theorem Vki (l:List Zc):WfL L (l.map Zc.toT:List (DT T)):=by
 rw [WfL_iff]
 intro d hd
 simp only [Qz] at hd
 obtain ⟨z,_,rfl⟩:=hd
 cases z with
 | i k=>cases k<;>trivial
 | _=>trivial
theorem Vta (hY:TysOk P Y) {t:Nat} {ps:List (Nat×DT T)} {d:DT T} (hp:∀ p∈ps,WfD L p.2) (h:buildT Y t ps=some d) :
  buildD P t (ps.map fun p=>(p.1,den C p.2))=some (den C d)∧WfD L d:=by
 unfold buildT at h
 split at h
 ·cases h
 rename_i i hi
 have hz:=(hY t i hi).zero
 split at h
 ·rename_i hk
  rw [Qe] at h
  obtain ⟨r,hr,rfl⟩:=h
  have:=Vkh (C:=C) (L:=L) (Vki i.zero) hp hr
  rw [Veb] at this
  refine ⟨?_,this.2⟩
  have hpl:=(hY t i hi).places hk
  simp only [hk,TK.agg,if_true] at hz
  simp only [buildD,hz,hpl,this.1,Qc,den]
 ·rename_i n e hk
  split at h
  case h_2=>cases h
  rename_i j hj
  rw [Qe] at h
  obtain ⟨r,hr,rfl⟩:=h
  have:=Vkh (C:=C) (L:=L) (Vki i.zero) hp hr
  rw [Veb] at this
  refine ⟨?_,this.2⟩
  have hpl:=(hY t i hi).nplaces (by rw [hk]; simp)
  have ha:=(hY t i hi).arr n e hk
  have hs:=(hY e j hj).sz
  simp only [hk,TK.agg,if_true] at hz
  simp only [buildD,hz,hpl,ha,hs,this.1,Qc,den]
 ·cases h
theorem Vtb (hY:TysOk P Y) {t k o ft:Nat} (h:fldT Y t k=some (o,ft)):tfld P t k=some (o,ft):=by
 unfold fldT at h
 split at h
 ·rename_i i hi
  split at h
  ·rename_i q hq
   exact (hY t i hi).fld k o ft (by rw [hq,h])
  ·cases h
 ·cases h
theorem Vkj (hY:TysOk P Y) {t k:Nat} {x d:DT T} (h:fieldAddrT Y t x k=some d):fieldAddrD P t (den C x) k=some (den C d)∧WfD L d:=by
 unfold fieldAddrT at h
 split at h
 case h_2=>cases h
 rename_i o ft hf
 have hf:=Vtb hY hf
 split at h<;>simp only [Qb,reduceCtorEq] at h<;>subst h
 ·exact ⟨by simp only [fieldAddrD,hf,den],trivial⟩
 ·exact ⟨by simp only [fieldAddrD,hf,den],trivial⟩
 ·exact ⟨by simp only [fieldAddrD,hf,den,Va2],trivial⟩
theorem Vtc (hY:TysOk P Y) {t k:Nat} {x d:DT T} (hw:WfD L x) (h:fieldT Y t x k=some d):fieldD P t (den C x) k=some (den C d)∧WfD L d:=by
 unfold fieldT at h
 split at h
 case h_2=>cases h
 rename_i o ft hf
 have hf:=Vtb hY hf
 split at h
 ·simp only [WfD] at hw
  have:=Vkg (C:=C) hY (Ves o hw) h
  rw [Va2] at this
  exact ⟨by simp only [fieldD,hf,den,this.1],this.2⟩
 ·cases h
theorem Va7 (hY:TysOk P Y) {t e:Nat} (h:elemT Y t=some e):telem P t=some e:=by
 unfold elemT at h
 split at h
 ·rename_i i hi
  split at h
  ·rename_i e' hk
   simp only [Qb] at h; subst h
   exact (hY t i hi).elem e' hk
  ·cases h
 ·cases h
theorem Vdo (hY:TysOk P Y) {t n e s:Nat} (h:arrT Y t=some (n,e,s)):tarr P t=some (n,e)∧tsz P e=some s:=by
 unfold arrT at h
 split at h
 ·rename_i i hi
  split at h
  ·rename_i n' e' hk
   split at h
   ·rename_i j hj
    simp only [Qb,Qai] at h
    obtain ⟨rfl,rfl,rfl⟩:=h
    exact ⟨(hY t i hi).arr _ _ hk,(hY _ j hj).sz⟩
   ·cases h
  ·cases h
 ·cases h
theorem Vdp (hY:TysOk P Y) {t:Nat} (h:isStr Y t=true):tstr P t=true:=by
 unfold isStr at h
 split at h
 ·rename_i i hi
  split at h
  ·rename_i hk; exact (hY t i hi).str hk
  ·cases h
 ·cases h
theorem Vdq (hY:TysOk P Y) {t c:Nat} (h:elemC Y C t c=true):∃ e,telem P t=some e∧tsz P e=some (C.sz c):=by
 unfold elemC at h
 split at h
 ·rename_i e he
  split at h
  ·rename_i j hj
   have h:j.sz=C.sz c:=by simpa using h
   exact ⟨e,Va7 hY he,by rw [← h]; exact (hY e j hj).sz⟩
  ·cases h
 ·cases h
theorem Vx1 {α:Type} {l:List α} {x:DT T} {K:α→Option R} {r:R} (h:atK l x K=some r):∃ k a,idx (den C x) l.length=some k∧l[k]? = some a∧K a=some r:=by
 have nat:∀ (kd:IntKind) (n:Nat),(l[n]?).bind K=some r→∃ k a,idx (.int kd n) l.length=some k∧l[k]? = some a∧K a=some r:=fun kd n hb=>by
  rw [Qi] at hb
  obtain ⟨a,h1,h2⟩:=hb
  have hlt:n < l.length:=by
   rcases Qu n l.length with h | h
   ·exact h
   ·rw [Qo h] at h1; cases h1
  exact ⟨n,a,by simp [idx,hlt],h1,h2⟩
 unfold atK at h
 split at h
 ·rename_i k i
  unfold getI at h
  cases hi:decide (0≤i)<;>simp only [hi,cond_true,cond_false] at h
  ·cases h
  ·have hi:0≤i:=by simpa using hi
   have:=nat k i.toNat h
   rw [Int.toNat_of_nonneg hi] at this
   exact this
 ·exact nat _ _ h
 ·exact nat _ _ h
 ·exact nat _ _ h
 ·exact nat _ _ h
 ·cases h
theorem Vhw {x:DT T} {n:Nat} {K:Nat→Option R} {r:R} (h:ltK x n K=some r):∃ k,idx (den C x) n=some k∧K k=some r:=by
 have nat:∀ (kd:IntKind) (m:Nat),(bif decide (m < n) then K m else none)=some r→∃ k,idx (.int kd m) n=some k∧K k=some r:=fun kd m hb=>by
  cases hm:decide (m < n)<;>simp only [hm,cond_true,cond_false] at hb
  ·cases hb
  ·have hm:m < n:=by simpa using hm
   exact ⟨m,by simp [idx,hm],hb⟩
 unfold ltK at h
 split at h
 ·rename_i k i
  cases hi:(decide (0≤i)&&decide (i < n))<;>simp only [hi,cond_true,cond_false] at h
  ·cases h
  ·have hi:0≤i∧i < n:=by simpa using hi
   exact ⟨i.toNat,by simp [den,idx,hi],h⟩
 ·exact nat _ _ h
 ·exact nat _ _ h
 ·exact nat _ _ h
 ·exact nat _ _ h
 ·cases h
theorem Vma:∀ {cs:List (DT T)} {l:List (BitVec 32)} {k:Nat} {v:BitVec 32},u32s cs=some l→l[k]? = some v→cs.drop k = .u32 v::cs.drop (k+1)
 | [],l,k,v,h,hk=>by
  simp only [u32s,Qb] at h
  subst h
  simp at hk
 | .u32 a::r,l,k,v,h,hk=>by
  simp only [u32s,Qe] at h
  obtain ⟨q,h1,rfl⟩:=h
  cases k with
  | zero=>simp at hk; subst hk; rfl
  | succ k=>simpa using Vma h1 (by simpa using hk)
theorem Vhx:∀ {n k:Nat} {K:Nat→Option R} {r:R},splitN n k K=some r→K k=some r
 | 0,_,_,_,h=>by cases h
 | n+1,k,K,r,h=>by
  simp only [splitN] at h
  cases hb:Nat.beq k n<;>simp only [hb,cond_true,cond_false] at h
  ·exact Vhx h
  ·rw [Qf hb]; exact h
theorem Vkk (hY:TysOk P Y) (hC:CdOk C) {t:Nat} {x i:DT T} {K:DT T→Option R} {r:R} (h:indexAddrK Y C t x i K=some r) :
  ∃ d:DT T,indexAddrD P t (den C x) (den C i)=some (den C d)∧WfD L d∧K d=some r:=by
 unfold indexAddrK at h
 split at h
 ·rename_i c l
  split at h
  case h_2=>cases h
  rename_i he
  obtain ⟨e,h1,h2⟩:=Vdq hY he
  obtain ⟨k,a,h3,h4,h5⟩:=Vx1 (C:=C) h
  refine ex_of h5 ?_ trivial
  simp only [den,indexAddrD,h1,h2,if_true,Qm,h3,Qp,h4,Qc,hC.enc]
 ·split at h
  case h_2=>cases h
  rename_i he
  obtain ⟨e,h1,h2⟩:=Vdq hY he
  obtain ⟨k,h3,h4⟩:=Vhw (C:=C) h
  refine ex_of h4 ?_ trivial
  simp only [den,indexAddrD,h1,h2,if_true,h3,Qc,Qv]
 ·split at h
  case h_2=>cases h
  rename_i he
  obtain ⟨e,h1,h2⟩:=Vdq hY he
  obtain ⟨k,h3,h4⟩:=Vhw (C:=C) h
  refine ex_of h4 ?_ trivial
  simp only [den,indexAddrD,h1,h2,if_true,h3,Qc,Qa1]
 ·split at h
  case h_2=>cases h
  rename_i n e s ha
  have ha:=Vdo hY ha
  obtain ⟨k,h3,h4⟩:=Vhw (C:=C) h
  have h4:=Vhx h4
  refine ex_of h4 ?_ trivial
  simp only [den,indexAddrD,ha.1,ha.2,h3,Qc]
 ·split at h
  case h_2=>cases h
  rename_i n e s ha
  have ha:=Vdo hY ha
  split at h
  ·rename_i l hs hl
   obtain ⟨k,h3,h4⟩:=Vhw (C:=C) h
   rw [Qi] at h4
   obtain ⟨v,h5,h6⟩:=h4
   refine ex_of h6 ?_ trivial
   have hs1:s=1:=Qf hs
   subst hs1
   simp only [den,indexAddrD,ha.1,ha.2,h3,Qc,Nat.mul_one]
   rw [← Vma hl h5,Va2]
  ·obtain ⟨k,h3,h4⟩:=Vhw (C:=C) h
   have h4:=Vhx h4
   refine ex_of h4 ?_ trivial
   simp only [den,indexAddrD,ha.1,ha.2,h3,Qc,Va2]
 ·split at h
  case h_2=>cases h
  rename_i n e s ha
  have ha:=Vdo hY ha
  split at h
  case h_2=>cases h
  rename_i hs
  have hs:=Qf hs
  subst hs
  obtain ⟨k,h3,h4⟩:=Vhw (C:=C) h
  refine ex_of h4 ?_ trivial
  simp only [den,indexAddrD,ha.1,ha.2,if_true,h3,Qc,Qa1]
 ·cases h
theorem Vv8 (C:Cd T) (a b:List (DT T)):denL C (a++b)=denL C a++denL C b:=by simp [Vau]
theorem Vjg:∀ (a b:List (DT T)),pureTL (a++b)=(pureTL a&&pureTL b)
 | [],b=>by simp [pureTL]
 | d::a,b=>by simp only [Qaa,pureTL,Vjg a b,Bool.and_assoc]
theorem Vgc (hC:CdOk C) {c:Nat} {l:List (T c)}:∀ {n i:Nat} {K:List (DT T)→Option R} {r:R},firstsK C c l n i K=some r→∃ cs,K cs=some r∧denL C cs=(((l.drop i).take n).map (C.encD c)).flatten∧i+n≤i+(l.drop i).length∧pureTL cs=true∧cs.length=n * C.sz c
 | 0,i,K,r,h=>⟨[],h,by simp [denL],by simp,rfl,by simp⟩
 | n+1,i,K,r,h=>by
  unfold firstsK at h
  rw [Qi] at h
  obtain ⟨x,hx,h⟩:=h
  obtain ⟨cs,h1,h2,h3,h4,h5⟩:=Vgc hC h
  have hi:i < l.length:=(List.getElem?_eq_some_iff.1 hx).1
  have hd:l.drop i=x::l.drop (i+1):=by
   rw [Qaw hi]
   congr 1
   rw [Qt hi] at hx
   exact Qal hx
  refine ⟨C.enc c x++cs,h1,?_,?_,?_,?_⟩
  ·rw [hd,List.take_succ_cons,Qj,Q5,← h2,Vv8,hC.enc]
  ·rw [hd,Qbc]; rw [Qas] at h3 ⊢; omega
  ·rw [Vjg,hC.epure,h4]; rfl
  ·have:(C.enc c x).length=C.sz c:=by rw [← Vao C,hC.enc,hC.len]
   rw [Qs,this,h5,Nat.add_mul]; omega
theorem Vnh (hY:TysOk P Y) (hC:CdOk C) {t:Nat} {x:DT T} {K:DT T→Option R} {r:R} (h:arrayAtK Y C t x K=some r) :
  ∃ d:DT T,arrayAtD P t (den C x)=some (den C d)∧WfD L d∧K d=some r:=by
 unfold arrayAtK at h
 split at h
 case h_2=>cases h
 rename_i n e s ha
 have ha:=Vdo hY ha
 split at h
 case h_2=>cases h
 rename_i h0
 have h0:0 < n:=by simpa using h0
 split at h
 ·rename_i c l
  split at h
  case h_2=>cases h
  rename_i hs
  have hs:=Qf hs
  subst hs
  obtain ⟨cs,h1,h2,h3,h4,_⟩:=Vgc hC h
  simp only [Qak,Qv] at h2 h3
  refine ⟨.rp cs,?_,?_,h1⟩
  ·simp only [arrayAtD,ha.1,den,ha.2,Qm,h2]
   rw [if_pos ⟨trivial,h0,h3⟩,Qam]
  ·simp only [WfD]
 ·rename_i b g c m
  split at h
  case h_2=>cases h
  rename_i hs
  have hs:=Qf hs
  subst hs
  cases hn:decide (n≤m)<;>simp only [hn,cond_true,cond_false] at h
  ·cases h
  refine ex_of h ?_ trivial
  simp only [arrayAtD,ha.1,den,ha.2]
  rw [if_pos ⟨trivial,h0,by simpa using hn⟩]
 ·rename_i b g c o m
  split at h
  case h_2=>cases h
  rename_i hs
  have hs:=Qf hs
  subst hs
  cases hn:decide (n≤m)<;>simp only [hn,cond_true,cond_false] at h
  ·cases h
  refine ex_of h ?_ trivial
  simp only [arrayAtD,ha.1,den,ha.2]
  rw [if_pos ⟨trivial,h0,by simpa using hn⟩]
 ·cases h
theorem Vzt (hY:TysOk P Y) {t:Nat} {x:DT T} {K:DT T→Option R} {r:R} (h:capK Y t x K=some r) :
  ∃ d:DT T,capD P t (den C x)=some (den C d)∧WfD L d∧K d=some r:=by
 unfold capK at h
 split at h
 case h_2=>cases h
 split at h
 case h_2=>cases h
 rename_i e he
 refine ex_of h ?_ trivial
 simp only [den,capD,Va7 hY he,Qc,Int.ofNat_zero]
 try rfl
theorem Vtd (hY:TysOk P Y) {t:Nat} {x i:DT T} {K:DT T→Option R} {r:R} (hw:WfD L x) (h:indexK Y t x i K=some r) :
  ∃ d:DT T,indexD P t (den C x) (den C i)=some (den C d)∧WfD L d∧K d=some r:=by
 unfold indexK at h
 split at h
 ·split at h
  case h_2=>cases h
  rename_i hs
  obtain ⟨k,a,h3,h4,h5⟩:=Vx1 (C:=C) h
  refine ex_of h5 ?_ trivial
  simp only [den,indexD,Vdp hY hs,if_true,h3,h4,Qc]
 ·split at h
  case h_2=>cases h
  rename_i n e s ha
  have ha:=Vdo hY ha
  obtain ⟨k,h3,h4⟩:=Vhw (C:=C) h
  unfold ldK at h4
  split at h4
  case h_2=>cases h4
  rename_i d hd
  simp only [WfD] at hw
  have:=Vkg (C:=C) hY (Ves _ hw) hd
  rw [Va2] at this
  refine ex_of h4 ?_ this.2
  simp only [den,indexD,ha.1,ha.2,h3,this.1]
 ·cases h
theorem Vov {x:DT T} {n:Nat} {K:Nat→Option R} {r:R} (dflt:Nat) (h:leK x n K=some r):∃ k,bound (some (den C x)) dflt n=some k∧k≤n∧K k=some r:=by
 have nat:∀ (kd:IntKind) (m:Nat),(bif decide (m≤n) then K m else none)=some r→∃ k,bound (some (.int kd m)) dflt n=some k∧k≤n∧K k=some r:=fun kd m hb=>by
  cases hm:decide (m≤n)<;>simp only [hm,cond_true,cond_false] at hb
  ·cases hb
  ·have hm:m≤n:=by simpa using hm
   exact ⟨m,by simp [bound,hm],hm,hb⟩
 unfold leK at h
 split at h
 ·rename_i k i
  cases hi:(decide (0≤i)&&decide (i≤n))<;>simp only [hi,cond_true,cond_false] at h
  ·cases h
  ·have hi:0≤i∧i≤n:=by simpa using hi
   exact ⟨i.toNat,by simp [den,bound,hi],by omega,h⟩
 ·exact nat _ _ h
 ·exact nat _ _ h
 ·exact nat _ _ h
 ·exact nat _ _ h
 ·cases h
theorem Vhy {n:Nat} {lo hi:Option (DT T)} {K:Option Nat→Option Nat→Option R} {r:R} (h:cutK n lo hi K=some r) :
  ∃ a b,bound (hi.map (den C)) n n=some (b.getD n)∧bound (lo.map (den C)) 0 (b.getD n)=some (a.getD 0)∧b.getD n≤n∧a.getD 0≤b.getD n∧K a b=some r:=by
 unfold cutK at h
 split at h
 ·exact ⟨none,none,by simp [bound],by simp [bound],by simp,by simp,h⟩
 ·obtain ⟨k,h1,h2,h3⟩:=Vov (C:=C) 0 h
  exact ⟨some k,none,by simp [bound],by simpa using h1,by simp,by simpa using h2,h3⟩
 ·obtain ⟨k,h1,h2,h3⟩:=Vov (C:=C) n h
  exact ⟨none,some k,by simpa using h1,by simp [bound],by simpa using h2,by simp,h3⟩
 ·obtain ⟨k,h1,h2,h3⟩:=Vov (C:=C) n h
  obtain ⟨j,h4,h5,h6⟩:=Vov (C:=C) 0 h3
  exact ⟨some j,some k,by simpa using h1,by simpa using h4,by simpa using h2,by simpa using h5,h6⟩
theorem Vte {α:Type} (l:List α) (a b:Option Nat):cutL l a b=(l.take (b.getD l.length)).drop (a.getD 0):=by
 cases a<;>cases b<;>simp [cutL]
theorem Vow (b g c o n:Nat) (p q:Option Nat) (_h:p.getD 0≤q.getD n):den C (cutB b g c o n p q:DT T) = .bs b g (C.sz c) (o+p.getD 0) (q.getD n - p.getD 0):=by
 cases p<;>cases q<;>simp [cutB,den,Qa1]
theorem Vtf (b g c o n:Nat) (p q:Option Nat):WfD L (cutB b g c o n p q:DT T):=by cases p<;>cases q<;>trivial
theorem Vtg (hY:TysOk P Y) {t:Nat} {x:DT T} {lo hi:Option (DT T)} {K:DT T→Option R} {r:R} (h:sliceK Y C t x lo hi K=some r) :
  ∃ d:DT T,sliceD P t (den C x) (lo.map (den C)) (hi.map (den C))=some (den C d)∧WfD L d∧K d=some r:=by
 unfold sliceK at h
 split at h
 ·split at h
  case h_2=>cases h
  rename_i hs
  obtain ⟨a,b,h1,h2,h3,h4,h5⟩:=Vhy (C:=C) h
  refine ex_of h5 ?_ trivial
  simp only [den,sliceD,Vdp hY hs,if_true,h1,h2,Qc,Vte]
 ·split at h
  case h_2=>cases h
  rename_i e he
  split at h
  case h_2=>cases h
  rename_i j hj
  obtain ⟨a,b,h1,h2,h3,h4,h5⟩:=Vhy (C:=C) h
  refine ex_of h5 ?_ trivial
  simp only [den,sliceD,Va7 hY he,(hY e j hj).sz,Qa2,if_true,h1,h2,Qc]
 ·rename_i c l
  split at h
  case h_2=>cases h
  rename_i he
  obtain ⟨e,g1,g2⟩:=Vdq hY he
  obtain ⟨a,b,h1,h2,h3,h4,h5⟩:=Vhy (C:=C) h
  refine ex_of h5 ?_ trivial
  simp only [den,sliceD,g1,g2,if_true,Qm,h1,h2,Qc,Vte,Qan,Qam]
 ·split at h
  case h_2=>cases h
  rename_i he
  obtain ⟨e,g1,g2⟩:=Vdq hY he
  obtain ⟨a,b,h1,h2,h3,h4,h5⟩:=Vhy (C:=C) h
  refine ex_of h5 ?_ (Vtf _ _ _ _ _ _ _)
  rw [Vow _ _ _ _ _ _ _ h4]
  simp only [den,sliceD,g1,g2,if_true,h1,h2,Qc]
 ·split at h
  case h_2=>cases h
  rename_i he
  obtain ⟨e,g1,g2⟩:=Vdq hY he
  obtain ⟨a,b,h1,h2,h3,h4,h5⟩:=Vhy (C:=C) h
  refine ex_of h5 ?_ (Vtf _ _ _ _ _ _ _)
  rw [Vow _ _ _ _ _ _ _ h4]
  simp only [den,sliceD,g1,g2,if_true,h1,h2,Qc]
 ·cases h
theorem Vzu (hY:TysOk P Y) {t:Nat} {x:DT T} {K:DT T→Option R} {r:R} (h:lenK Y t x K=some r):∃ d:DT T,lenD P t (den C x)=some (den C d)∧WfD L d∧K d=some r:=by
 unfold lenK at h
 split at h
 ·split at h
  ·rename_i hs; exact ex_of h (by simp only [den,lenD,Vdp hY hs,if_true]) trivial
  ·cases h
 ·split at h
  ·rename_i e he; exact ex_of h (by simp only [den,lenD,Va7 hY he,Qc]) trivial
  ·cases h
 ·split at h
  ·rename_i e he; exact ex_of h (by simp only [den,lenD,Va7 hY he,Qc,Qm]) trivial
  ·cases h
 ·split at h
  ·rename_i e he; exact ex_of h (by simp only [den,lenD,Va7 hY he,Qc]) trivial
  ·cases h
 ·split at h
  ·rename_i e he; exact ex_of h (by simp only [den,lenD,Va7 hY he,Qc]) trivial
  ·cases h
 ·split at h
  ·rename_i n q he
   obtain ⟨e,s⟩:=q
   exact ex_of h (by simp only [den,lenD,(Vdo hY he).1,Qc]) trivial
  ·cases h
 ·split at h
  ·rename_i i hi
   split at h
   ·rename_i a ha
    split at h
    ·rename_i n q he
     obtain ⟨e,s⟩:=q
     exact ex_of h (by simp only [den,lenD,(hY t i hi).ptr a ha,(Vdo hY he).1,Qc]) trivial
    ·cases h
   ·cases h
  ·cases h
 ·cases h
theorem Vkl {f:DT T→DT T→(DT T→Option R)→Option R} {g:D→D→Option D} (hf:∀ x y K (r:R),f x y K=some r→∃ d:DT T,g (den C x) (den C y)=some (den C d)∧WfD L d∧K d=some r) :
  ∀ (l:List (DT T)) (x:DT T) (K:DT T→Option R) (r:R),WfD L x→foldK f x l K=some r→∃ d:DT T,foldD g (den C x) (denL C l)=some (den C d)∧WfD L d∧K d=some r
 | [],x,K,r,hx,h=>⟨x,rfl,hx,h⟩
 | y::l,x,K,r,hx,h=>by
  simp only [foldK] at h
  obtain ⟨z,h1,h2,h3⟩:=hf x y _ r h
  obtain ⟨d,h4,h5,h6⟩:=Vkl hf l z K r h2 h3
  exact ⟨d,by simp only [denL,foldD,h1,h4],h5,h6⟩
theorem Vkm {α:Type} (p:Prop) [Decidable p] (a b:α):(bif decide p then a else b)=if p then a else b:=by
 by_cases h:p<;>simp [h]
theorem Vdva (x y:DT T) (K:DT T→Option R) (r:R) (h:mnK x y K=some r):∃ d:DT T,minD (den C x) (den C y)=some (den C d)∧WfD L d∧K d=some r:=by
 unfold mnK at h
 split at h
 ·exact ex_of h (by simp only [den,minD,Vkm]) trivial
 ·rename_i a b
  refine ex_of h ?_ trivial
  simp only [den,minD,Vkm]
  by_cases hb:b.toNat < a.toNat
  ·rw [if_pos (by omega),if_pos hb]
  ·rw [if_neg (by omega),if_neg hb]
 ·cases h
theorem Vdwa (x y:DT T) (K:DT T→Option R) (r:R) (h:mxK x y K=some r):∃ d:DT T,maxD (den C x) (den C y)=some (den C d)∧WfD L d∧K d=some r:=by
 unfold mxK at h
 split at h
 ·refine ex_of h ?_ trivial
  simp only [den,maxD,Vkm,gt_iff_lt]
 ·rename_i a b
  refine ex_of h ?_ trivial
  simp only [den,maxD,Vkm,gt_iff_lt]
  by_cases hb:a.toNat < b.toNat
  ·rw [if_pos (by omega),if_pos hb]
  ·rw [if_neg (by omega),if_neg hb]
 ·cases h
theorem Vv9 {q:Bool} {a b:DT T} {K:DT T→Option R} {r:R} (ha:WfD L a) (hb:WfD L b) (h:pickK q a b K=some r):∃ d:DT T,(if q=true then den C a else den C b)=den C d∧WfD L d∧K d=some r:=by
 unfold pickK at h
 split at h
 ·rename_i x y
  exact ⟨.bool (bif q then x else y),by cases q<;>rfl,trivial,h⟩
 ·rename_i k x k' y
  split at h
  ·rename_i hk
   have hk:=of_decide_eq_true hk
   subst hk
   exact ⟨.int k (bif q then x else y),by cases q<;>rfl,trivial,h⟩
  ·cases h
 ·cases q
  ·exact ⟨b,by simp,hb,h⟩
  ·exact ⟨a,by simp,ha,h⟩
theorem nK_ok (hY:TysOk P Y) (hC:CdOk C) {o:Op} {e:Operand→DT T} {K:DT T→Option R} {r:R} (hw:∀ x,WfD L (e x)) (h:nK Y C o e K=some r) :
  ∃ d:DT T,semN P o (fun x=>den C (e x))=some (den C d)∧WfD L d∧K d=some r:=by
 unfold nK at h
 split at h
 ·exact ⟨_,rfl,hw _,h⟩
 ·exact ⟨_,rfl,hw _,h⟩
 ·rename_i c a b
  split at h
  ·rename_i q hq
   obtain ⟨d,h1,h2,h3⟩:=Vv9 (C:=C) (hw a) (hw b) h
   refine ⟨d,?_,h2,h3⟩
   simp only [semN,hq,den]
   cases q<;>simp_all
  ·cases h
 ·rename_i x
  split at h
  ·rename_i hx; exact ex_of h (by simp only [semN,hx,den]) trivial
  ·rename_i hx; exact ex_of h (by simp only [semN,hx,den]) trivial
  ·rename_i hx; exact ex_of h (by simp only [semN,hx,den]) trivial
  ·rename_i f cap hx
   have:=hw x; rw [hx] at this
   exact ⟨_,by simp only [semN,hx,den],this,h⟩
  ·cases h
 ·exact Vzq hY h
 ·exact Vdua h
 ·obtain ⟨h1,h2⟩:=Vv7 (C:=C) (L:=L) hY h
  simp only [semN,h1,if_true]; exact h2
 ·split at h
  ·rename_i t ps d hd
   have:=Vta (C:=C) (L:=L) hY (fun p hp=>by
    simp only [Qz] at hp
    obtain ⟨q,_,rfl⟩:=hp
    exact hw _) hd
   refine ⟨d,?_,this.2,h⟩
   simp only [semN]
   rw [← this.1]; simp [Qac,Function.comp_def]
  ·cases h
 ·split at h
  ·rename_i d hd
   have:=Vkj (C:=C) (L:=L) hY hd
   exact ⟨d,this.1,this.2,h⟩
  ·cases h
 ·split at h
  ·rename_i d hd
   have:=Vtc (C:=C) (L:=L) hY (hw _) hd
   exact ⟨d,this.1,this.2,h⟩
  ·cases h
 ·exact Vkk hY hC h
 ·exact Vtd hY (hw _) h
 ·rename_i t x lo hi
  obtain ⟨d,h1,h2,h3⟩:=Vtg (C:=C) (L:=L) hY h
  refine ⟨d,?_,h2,h3⟩
  simp only [semN]
  rw [← h1]; simp [Option.map_map,Function.comp_def]
 ·rename_i x i
  split at h
  ·rename_i vs hx
   split at h
   ·rename_i d hd
    have hv:=hw x; rw [hx] at hv; simp only [WfD] at hv
    refine ⟨d,?_,WfL_iff.1 hv d (List.mem_of_getElem? hd),h⟩
    simp only [semN,hx,den,Vv5,hd,Qc]
   ·cases h
  ·cases h
 ·rename_i f first cap
  split at h
  ·rename_i hf
   have hf:first = #[]:=by apply Qab; simpa using hf
   subst hf
   refine ⟨_,?_,?_,h⟩
   ·simp only [semN]; simp [den,Vau,Qac,Function.comp_def]
   ·simp only [WfD,WfL_iff,Qz]
    rintro d ⟨x,_,rfl⟩; exact hw x
  ·cases h
 ·rename_i args argTypes
  split at h
  ·rename_i x t hx ht
   obtain ⟨d,h1,h2,h3⟩:=Vzu (C:=C) (L:=L) hY h
   exact ⟨d,by simp only [semN,hx,ht,h1],h2,h3⟩
  ·cases h
 ·exact Vnh hY hC h
 ·rename_i args argTypes
  split at h
  ·rename_i x t hx ht
   obtain ⟨d,h1,h2,h3⟩:=Vzt (C:=C) (L:=L) hY h
   exact ⟨d,by simp only [semN,hx,ht,h1],h2,h3⟩
  ·cases h
 ·rename_i args argTypes
  split at h
  ·rename_i x l hx
   have hq:args.toList.map (fun x=>den C (e x))=den C x::denL C l:=by
    have:=congrArg (denL C) hx
    simpa [Vau,Qac,Function.comp_def] using this
   have hxw:WfD L x:=by
    have:x∈args.toList.map e:=by rw [hx]; simp
    simp only [Qz] at this
    obtain ⟨y,_,rfl⟩:=this; exact hw y
   obtain ⟨d,h1,h2,h3⟩:=Vkl (C:=C) (L:=L) Vdva l x K r hxw h
   exact ⟨d,by simp only [semN,hq,h1],h2,h3⟩
  ·cases h
 ·rename_i args argTypes
  split at h
  ·rename_i x l hx
   have hq:args.toList.map (fun x=>den C (e x))=den C x::denL C l:=by
    have:=congrArg (denL C) hx
    simpa [Vau,Qac,Function.comp_def] using this
   have hxw:WfD L x:=by
    have:x∈args.toList.map e:=by rw [hx]; simp
    simp only [Qz] at this
    obtain ⟨y,_,rfl⟩:=this; exact hw y
   obtain ⟨d,h1,h2,h3⟩:=Vkl (C:=C) (L:=L) Vdwa l x K r hxw h
   exact ⟨d,by simp only [semN,hq,h1],h2,h3⟩
  ·cases h
 ·cases h
end
section
variable {T:Nat→Type} {R:Type}
def castL {c c':Nat} (h:c=c') (l:List (T c)):List (T c'):=h ▸ l
def boxL (m:MT T) (b g c:Nat):Option (List (T c)):=
 match m.get b with
 | .arr g' c' l=>match Nat.beq g g' with
  | true=>match Q1 c' c with
   | .isTrue h=>some (castL h l)
   | .isFalse _=>none
  | false=>none
 | .frz g' c' l=>match Nat.beq g g' with
  | true=>match Q1 c' c with
   | .isTrue h=>some (castL h l)
   | .isFalse _=>none
  | false=>none
 | _=>none
def boxA (m:MT T) (b g c:Nat):Option (List (T c)):=
 match m.get b with
 | .arr g' c' l=>match Nat.beq g g' with
  | true=>match Q1 c' c with
   | .isTrue h=>some (castL h l)
   | .isFalse _=>none
  | false=>none
 | _=>none
def winK {α:Type} (l:List α) (i n:Nat) (K:List α→Option R):Option R:=bif decide (n+i≤l.length) then K ((l.drop i).take n) else none
def rowsK (m:MT T) (c:Nat) (x:DT T) (K:List (T c)→Option R):Option R:=
 match x with
 | .nils=>K []
 | .rs c' l=>match Q1 c' c with
  | .isTrue h=>K (castL h l)
  | .isFalse _=>none
 | .bw b g c' _=>match Nat.beq c' c with
  | true=>match boxL m b g c with
   | some l=>K l
   | none=>none
  | false=>none
 | .bs b g c' i n=>match Nat.beq c' c with
  | true=>match boxL m b g c with
   | some l=>winK l i n K
   | none=>none
  | false=>none
 | _=>none
def purK (C:Cd T) (m:MT T) (sn:Bool):Nat→DT T→(DT T→Option R)→Option R
 | 0,_,_=>none
 | n+1,d,K=>match d with
  | .bw b g c _=>match boxL m b g c with
   | some l=>K (.rs c l)
   | none=>none
  | .bs b g c i k=>match boxL m b g c with
   | some l=>winK l i k fun l'=>K (.rs c l')
   | none=>none
  | .bp b off=>match sn with
   | true=>match m.get b with
    | .var cs=>mapK (purK C m sn n) (cs.drop off) fun cs'=>K (.rp cs')
    | _=>none
   | false=>none
  | .ap b g c i off=>match sn with
   | true=>match boxL m b g c with
    | some l=>(l[i]?).bind fun x=>K (.rp ((C.enc c x).drop off))
    | none=>none
   | false=>none
  | .agg cs=>mapK (purK C m sn n) cs fun cs'=>K (.agg cs')
  | .fn f cs=>mapK (purK C m sn n) cs fun cs'=>K (.fn f cs')
  | .tup _=>none
  | .mp _=>none
  | d=>K d
def refs:Nat→DT T→List Nat
 | 0,_=>[]
 | n+1,d=>match d with
  | .bw b _ _ _=>[b]
  | .bs b _ _ _ _=>[b]
  | .agg cs=>cs.flatMap (refs n)
  | .fn _ cs=>cs.flatMap (refs n)
  | _=>[]
def MT.put (m:MT T) (b:Nat) (x:BoxT T):MT T:=List.set m b x
def fz1 (m:MT T) (b:Nat):MT T:=
 match m.get b with
 | .arr g c l=>m.put b (.frz g c l)
 | _=>m
def fzAll (m:MT T) (ids:List Nat):MT T:=ids.foldl fz1 m
def frK (C:Cd T) (m:MT T) (cs:List (DT T)) (K:List (DT T)→MT T→Option R):Option R:=
 mapK (purK C m false 4) cs fun cs'=>K cs' (fzAll m (cs.flatMap (refs 4)))
def castB (C:Cd T) (l:List (T C.bt)):List UInt8:=cast (congrArg List C.hb) l
def castT (C:Cd T) (l:List UInt8):List (T C.bt):=cast (congrArg List C.hb.symm) l
def isInt (Y:Nat→Option TI) (e:Nat):Bool:=
 match Y e with
 | some i=>match i.kind with
  | .int _=>true
  | _=>false
 | none=>false
def isU8 (Y:Nat→Option TI) (e:Nat):Bool:=
 match Y e with
 | some i=>match i.kind with
  | .int .u8=>true
  | _=>false
 | none=>false
def arrN (Y:Nat→Option TI) (t s:Nat):Option Nat:=
 match arrT Y t with
 | some (n,_,s')=>match Nat.beq s' s with
  | true=>some n
  | false=>none
 | none=>none
def elemsT (C:Cd T) (c:Nat):Nat→List (DT T)→Option (List (T c))
 | 0,cs=>match cs with
  | []=>some []
  | _=>none
 | n+1,cs=>match C.dec c (cs.take (C.sz c)) with
  | some x=>match elemsT C c n (cs.drop (C.sz c)) with
   | some l=>some (x::l)
   | none=>none
  | none=>none
def DT.isAgg:DT T→Bool
 | .agg _=>true
 | _=>false
def keyQ (j:TI) (q:List Nat):Bool:=
 match j.kind with
 | .strct=>decide (j.eqs=some q)
 | .str=>decide (q=[2])
 | .int _=>decide (q=[3])
 | .bool=>decide (q=[1])
 | _=>false
def isBool (Y:Nat→Option TI) (e:Nat):Bool:=
 match Y e with
 | some i=>match i.kind with
  | .bool=>decide (i.zero=[.b])
  | _=>false
 | none=>false
def mkeyK (Y:Nat→Option TI) (C:Cd T) (t:Nat) (a:Bool) (c:Nat):Option (T c→T c→Bool):=
 match Y t with
 | some i=>match i.kind with
  | .map k e=>match Y k with
   | some j=>match C.keq c with
    | some (q,f)=>match (isBool Y e&&Nat.beq j.code c)&&((j.kind.agg == a)&&keyQ j q) with
     | true=>some f
     | false=>none
    | none=>none
   | none=>none
  | _=>none
 | none=>none
def mkeyOf (C:Cd T) (a:Bool) (c:Nat) (d:DT T):Option (T c):=
 match d.fit&&(d.isAgg == a) with
 | true=>C.dec c d.cells
 | false=>none
def isMap (Y:Nat→Option TI) (t:Nat):Bool:=
 match Y t with
 | some i=>match i.kind with
  | .map _ _=>true
  | _=>false
 | none=>false
def rK (Y : Nat→Option TI) (C : Cd T) (o : Op) (e : Operand→DT T) (m : MT T) (K : DT T→Option R) : Option R :=
 match o with
 | .load t x=>match e x with
  | .bp b off=>match m.get b with
   | .var cs=>ldK Y t (cs.drop off) K
   | _=>none
  | .ap b g c i off=>match boxL m b g c with
   | some l=>match arrN Y t (C.sz c) with
    | some n=>match off with
     | 0=>firstsK C c l n i fun cs=>ldK Y t cs K
     | _=>none
    | none=>(l[i]?).bind fun x=>ldK Y t ((C.enc c x).drop off) K
   | none=>none
  | .rp cs=>ldK Y t cs K
  | _=>none
 | .slice t x none none none=>match e x with
  | .ap b g c 0 0=>match arrN Y t (C.sz c) with
   | some n=>match boxL m b g c with
    | some l=>bif decide (l.length=n) then K (.bw b g c l.length) else none
    | none=>none
   | none=>none
  | _=>none
 | .convert src dst x=>match elemT Y src with
  | some el=>match isU8 Y el&&isStr Y dst with
   | true=>rowsK m C.bt (e x) fun l=>K (.str (castB C l))
   | false=>none
  | none=>none
 | .lookup t x ix false=>match e x with
  | .mp b=>match m.get b with
   | .mset a c l=>match mkeyK Y C t a c with
    | some f=>match mkeyOf C a c (e ix) with
     | some y=>K (.bool (l.any (f y)))
     | none=>none
    | none=>none
   | _=>none
  | _=>none
 | .call { callee:=.builtin .len,args,argTypes }=>match args.toList,argTypes.toList with
  | [x],[t]=>match e x with
   | .mp b=>match m.get b with
    | .mset _ _ l=>match isMap Y t with
     | true=>K (.int .i64 l.length)
     | false=>none
    | _=>none
   | _=>none
  | _,_=>none
 | _=>none
def zeroE (C:Cd T) (i:TI):Option (T i.code):=
 match Nat.beq i.sz (C.sz i.code) with
 | true=>C.dec i.code (i.zero.map Zc.toT)
 | false=>none
def partsK (C:Cd T) (el:Nat):List (Nat×DT T)→MT T→List (T el)→(List (T el)→MT T→Option R)→Option R
 | [],m,rows,K=>K rows m
 | (i, x)::r, m, rows, K => match x.fit with
  | true=>frK C m x.cells fun cs m'=>match C.dec el cs with
   | some y=>match Qae i rows.length with
    | true=>partsK C el r m' (rows.set i y) K
    | false=>none
   | none=>none
  | false=>none
def appK (m:MT T) (bts el:Nat) (s:DT T) (rows:List (T el)) (K:DT T→MT T→Option R):Option R:=
 match s with
 | .nils=>bif small rows.length bts then K (.bw m.length 0 el rows.length) (m++[.arr 0 el rows]) else none
 | .bw b g c' _=>match Nat.beq c' el with
  | true=>match boxA m b g el with
   | some l=>bif small (l.length+rows.length) bts then K (.bw b (g+1) el (l++rows).length) (m.put b (.arr (g+1) el (l++rows))) else none
   | none=>none
  | false=>none
 | .bs b g c' 0 n=>match Nat.beq c' el with
  | true=>match boxA m b g el with
   | some l=>bif decide (n≤l.length)&&small (n+rows.length) bts then K (.bw b (g+1) el (l.take n++rows).length) (m.put b (.arr (g+1) el (l.take n++rows))) else none
   | none=>none
  | false=>none
 | _=>none
def copyK (m:MT T) (b g c:Nat) (rows:List (T c)) (K:DT T→MT T→Option R):Option R:=
 match boxA m b g c with
 | some l=>bif decide (rows.length≤l.length) then K (.int .i64 rows.length) (m.put b (.arr g c (rows++l.drop rows.length))) else none
 | none=>none
def rnK:List Bool→List (DT T)→(List (DT T)→Option R)→Option R
 | _,[],K=>K []
 | [],d::r,K=>K (d::r)
 | q::qs,d::r,K=>match q with
  | true=>match d with
   | .rs c l=>bif l.isEmpty then none else rnK qs r fun r'=>K (.rn c l::r')
   | d=>rnK qs r fun r'=>K (d::r')
  | false=>rnK qs r fun r'=>K (d::r')
def wK (Y : Nat → Option TI) (C : Cd T) (o : Op) (e : Operand → DT T) (m : MT T) (K : DT T → MT T → Option R) : Option R :=
  match o with
  | .alloc t=>match Y t with
    | some i=>match C.la t with
      | some c=>match arrN Y t (C.sz c) with
        | some n=>match elemsT C c n (i.zero.map Zc.toT) with
          | some l=>K (.ap m.length 0 c 0 0) (m ++ [.arr 0 c l])
          | none=>none
        | none=>none
      | none=>K (.bp m.length 0) (m ++ [.var (i.zero.map Zc.toT)])
    | none=>none
  | .box t x=>match (e x).fit with
    | true=>match C.im t with
      | true=>match solidL (e x).cells with
        | true=>K (.rp (e x).cells) m
        | false=>none
      | false=>match C.la t with
        | some c=>match arrN Y t (C.sz c) with
          | some n=>frK C m (e x).cells fun cs m'=>match elemsT C c n cs with
            | some l=>K (.ap m'.length 0 c 0 0) (m' ++ [.arr 0 c l])
            | none=>none
          | none=>none
        | none=>K (.bp m.length 0) (m ++ [.var (e x).cells])
    | false=>none
  | .store t x y=>match Y t with
    | some i => match (e y).fit && Nat.beq (e y).cells.length i.sz with
      | true => match e x with
        | .bp b off=>match m.get b with
          | .var cs=>match Q7 (off + i.sz) cs.length with
            | true=>K .dead (m.put b (.var (setT cs off (e y).cells)))
            | false=>none
          | _=>none
        | .ap b g c k off=>match C.la t with
          | some c'=>match Nat.beq c' c && (Nat.beq k 0 && Nat.beq off 0) with
            | true=>match arrN Y t (C.sz c) with
              | some n=>frK C m (e y).cells fun cs m'=>match elemsT C c n cs with
                | some l'=>match boxA m' b g c with
                  | some l=>bif decide (l.length=n) then K .dead (m'.put b (.arr g c l')) else none
                  | none=>none
                | none=>none
              | none=>none
            | false=>none
          | none=>match boxA m b g c with
          | some l=>(l[k]?).bind fun x=>frK C m (e y).cells fun cs0 m'=>rnK ((C.rn c).drop off) cs0 fun cs=>
              match Q7 (off + i.sz) (C.enc c x).length with
              | true=>match C.dec c (setT (C.enc c x) off cs) with
                | some x'=>match m'.get b with
                  | .arr _ _ _=>K .dead (m'.put b (.arr g c (l.set k x')))
                  | _=>none
                | none=>none
              | false=>none
          | none=>none
        | _=>none
      | false=>none
    | none=>none
  | .buildSlice t n parts=>match elemT Y t with
    | some el=>match Y el with
      | some j=>match zeroE C j with
        | some z=>match Q7 (n * j.sz) 16777216 with
          | true=>partsK C j.code (parts.toList.map fun p=>(p.1,e p.2)) m (Qh n z) fun rows m'=>K (.bw m'.length 0 j.code n) (m' ++ [.arr 0 j.code rows])
          | false=>none
        | none=>none
      | none=>none
    | none=>none
  | .makeMap t none=>match Y t with
    | some i=>match i.kind with
      | .map k _=>match Y k with
        | some j=>K (.mp m.length) (m ++ [.mset j.kind.agg j.code []])
        | none=>none
      | _=>none
    | none=>none
  | .mapUpdate t x ix y=>match e x with
    | .mp b => match m.get b with
      | .mset a c l=>match mkeyK Y C t a c with
        | some f=>match mkeyOf C a c (e ix) with
          | some z=>match e y with
            | .bool true=>K .dead (m.put b (.mset a c (bif l.any (f z) then l else l ++ [z])))
            | _=>none
          | none=>none
        | none=>none
      | _=>none
    | _=>none
  | .range t x=>match e x with
    | .str l=>match isStr Y t with
      | true=>K (.bp m.length 0) (m ++ [.iter l 0])
      | false=>none
    | _=>none
  | .next x true=>match e x with
    | .bp b 0=>match m.get b with
      | .iter l pos=>bif decide (pos < l.length) then
          K (.tup [.bool true,.int .i64 pos,.int .i32 (Utf8.decode ⟨l.toArray⟩ pos).1]) (m.put b (.iter l (pos + (Utf8.decode ⟨l.toArray⟩ pos).2)))
        else K (.tup [.bool false]) m
      | _=>none
    | _=>none
  | .convert src dst x=>match isStr Y src with
    | true=>match elemT Y dst with
      | some el=>match isU8 Y el with
        | true=>match e x with
          | .str l=>K (.bw m.length 0 C.bt l.length) (m ++ [.arr 0 C.bt (castT C l)])
          | _=>none
        | false=>none
      | none=>none
    | false=>none
  | .makeSlice t len cap=>match elemT Y t with
    | some el=>match Y el with
      | some j=>match zeroE C j with
        | some z=>match e len with
          | .int _ n=>match e cap with
            | .int _ k=>bif decide (0 ≤ n) && (decide (n ≤ k) && decide ((j.bts:Int) * k ≤ 281474976710656 ∧ k ≤ 9223372036854775807)) then
                K (.bw m.length 0 j.code n.toNat) (m ++ [.arr 0 j.code (Qh n.toNat z)]) else none
            | _=>none
          | _=>none
        | none=>none
      | none=>none
    | none=>none
  | .call { callee:=.builtin .copy,args,argTypes }=>match args.toList,argTypes.toList with
    | [s, x], [t, t'] => match e s with
      | .bw b g c _=>match elemC Y C t c with
        | true=>match elemT Y t' with
          | some _=>rowsK m c (e x) fun rows=>copyK m b g c rows K
          | none=>none
        | false=>none
      | _=>none
    | _,_=>none
  | .call { callee:=.builtin .append,args,argTypes }=>match args.toList,argTypes.toList with
    | [s, x], [t, t'] => match elemT Y t with
      | some el => match Y el with
        | some j=>match zeroE C j with
          | some z=>match e x with
            | .int _ n=>match e s with
              | .nils=>match isInt Y t' with
                | true=>bif decide (0 < n) && (decide (n ≤ 9223372036854775807) && small n.toNat j.bts) then K (.bw m.length 0 j.code n.toNat) (m ++ [.arr 0 j.code (Qh n.toNat z)]) else none
                | false=>none
              | _=>none
            | .str l=>match isStr Y t' with
              | true=>match Q1 C.bt j.code with
                | .isTrue h=>appK m j.bts j.code (e s) (castL h (castT C l)) K
                | .isFalse _=>none
              | false=>none
            | d=>match elemT Y t' with
              | some _=>rowsK m j.code d fun rows=>appK m j.bts j.code (e s) rows K
              | none=>none
          | none=>none
        | none=>none
      | none=>none
    | _,_=>none
  | _=>none
inductive VT where
 | bool | int (k:IntKind) | u8 | u16 | u32 | u64 | str | rs (c:Nat) | agg (c:Nat) | ref (t:VT) | fn (f:Nat) (caps:VT) | nil | cons (a b:VT) | kn
def VT.ty (T:Nat→Type):VT→Type
 | .bool=>Bool
 | .int _=>Int
 | .u8=>UInt8
 | .u16=>BitVec 16
 | .u32=>BitVec 32
 | .u64=>BitVec 64
 | .str=>List UInt8
 | .rs c=>List (T c)
 | .agg c=>T c
 | .ref t=>t.ty T
 | .fn _ cs=>cs.ty T
 | .nil=>Unit
 | .cons a b=>a.ty T×b.ty T
 | .kn=>Unit
def VT.sz (C:Cd T):VT→Nat
 | .agg c=>C.sz c
 | .nil=>0
 | .cons a b=>a.sz C+b.sz C
 | _=>1
def encC (C:Cd T):(t:VT)→t.ty T→List (DT T)
 | .bool,b=>[.bool b]
 | .int k,n=>[.int k n]
 | .u8,x=>[.u8 x]
 | .u16,x=>[.u16 x]
 | .u32,x=>[.u32 x]
 | .u64,x=>[.u64 x]
 | .str,l=>[.str l]
 | .rs c,l=>[.rs c l]
 | .agg c,x=>C.enc c x
 | .ref t,x=>[.rp (encC C t x)]
 | .fn f cs,x=>[.fn f (encC C cs x)]
 | .nil,_=>[]
 | .cons a b,x=>encC C a x.1++encC C b x.2
 | .kn,_=>[.nils]
def encV (C:Cd T) (t:VT) (x:t.ty T):DT T:=
 match t,x with
 | .agg c,x=>.agg (C.enc c x)
 | t,x=>(encC C t x).headD .dead
def one1:List (DT T)→DT T
 | [d]=>d
 | _=>.dead
def asBool:DT T→Option Bool
 | .bool b=>some b
 | _=>none
def asInt (k:IntKind):DT T→Option Int
 | .int k' n=>match decide (k=k') with
  | true=>some n
  | false=>none
 | _=>none
def asU8:DT T→Option UInt8
 | .u8 x=>some x
 | _=>none
def asU16:DT T→Option (BitVec 16)
 | .u16 x=>some x
 | _=>none
def asU32:DT T→Option (BitVec 32)
 | .u32 x=>some x
 | _=>none
def asU64:DT T→Option (BitVec 64)
 | .u64 x=>some x
 | _=>none
def asStr:DT T→Option (List UInt8)
 | .str x=>some x
 | _=>none
def asRs (c:Nat):DT T→Option (List (T c))
 | .nils=>some []
 | .rs c' l=>match Q1 c' c with
  | .isTrue h=>some (castL h l)
  | .isFalse _=>none
 | .rn c' l=>match Q1 c' c with
  | .isTrue h=>some (castL h l)
  | .isFalse _=>none
 | _=>none
def asRn (c:Nat):DT T→Option (List (T c))
 | .nils=>some []
 | .rn c' l=>match Q1 c' c with
  | .isTrue h=>some (castL h l)
  | .isFalse _=>none
 | _=>none
def asRp:DT T→Option (List (DT T))
 | .rp cs=>some cs
 | _=>none
def asFn (f:Nat):DT T→Option (List (DT T))
 | .fn f' l=>match Nat.beq f f' with
  | true=>some l
  | false=>none
 | _=>none
def asNils:DT T→Option Unit
 | .nils=>some ()
 | _=>none
def decC (C:Cd T):(t:VT)→List (DT T)→Option (t.ty T)
 | .bool,cs=>asBool (one1 cs)
 | .int k,cs=>asInt k (one1 cs)
 | .u8,cs=>asU8 (one1 cs)
 | .u16,cs=>asU16 (one1 cs)
 | .u32,cs=>asU32 (one1 cs)
 | .u64,cs=>asU64 (one1 cs)
 | .str,cs=>asStr (one1 cs)
 | .rs c,cs=>asRs c (one1 cs)
 | .agg c,cs=>C.dec c cs
 | .ref t,cs=>match asRp (one1 cs) with
  | some ds=>decC C t (ds.take (t.sz C))
  | none=>none
 | .fn f c,cs=>match asFn f (one1 cs) with
  | some ds=>decC C c ds
  | none=>none
 | .nil,cs=>match cs with
  | []=>some ()
  | _=>none
 | .cons a b,cs=>match decC C a (cs.take (a.sz C)) with
  | some x=>match decC C b (cs.drop (a.sz C)) with
   | some y=>some (x,y)
   | none=>none
  | none=>none
 | .kn,cs=>asNils (one1 cs)
inductive Fld where
 | v (t:VT)
 | own (c:Nat)
 | pt (t:VT)
 | st (a:VT) (c:Nat) (b:VT)
 | fp (f:Nat) (t:VT)
inductive Slot where
 | f (x:Fld)
 | ptr (fs:List Fld)
 | inp (c:Nat)
 | iter
 | mset (a:Bool) (c:Nat)
 | lar (c:Nat)
def Fld.ty (T:Nat→Type):Fld→Type
 | .v t=>t.ty T
 | .own c=>List (T c)
 | .pt t=>t.ty T
 | .st a c b=>a.ty T×List (T c)×b.ty T
 | .fp _ t=>t.ty T
def tyFs (T:Nat→Type):List Fld→Type
 | []=>Unit
 | f::r=>f.ty T×tyFs T r
def Slot.ty (T:Nat→Type):Slot→Type
 | .f x=>x.ty T
 | .ptr fs=>tyFs T fs
 | .inp c=>List (T c)
 | .iter=>List UInt8×Nat
 | .mset _ c=>List (T c)
 | .lar c=>List (T c)
def tySs (T:Nat→Type):List Slot→Type
 | []=>Unit
 | s::r=>s.ty T×tySs T r
def tyO (T:Nat→Type):List Slot→Type
 | []=>Unit
 | .ptr fs::r=>tyFs T fs×tyO T r
 | .inp c::r=>List (T c)×tyO T r
 | _::r=>tyO T r
def Fld.sz (C:Cd T):Fld→Nat
 | .v t=>t.sz C
 | .own _=>1
 | .pt _=>1
 | .st a _ b=>a.sz C+(1+b.sz C)
 | .fp _ _=>1
def encF (C:Cd T) (base:Nat):(f:Fld)→f.ty T→List (DT T)×List (BoxT T)
 | .v t,x=>(encC C t x,[])
 | .own c,l=>([.bw base 0 c l.length],[.arr 0 c l])
 | .pt t,x=>([.bp base 0],[.var (encC C t x)])
 | .st a c b,x=>(encC C a x.1++(.bw base 0 c x.2.1.length::encC C b x.2.2),[.arr 0 c x.2.1])
 | .fp f t,x=>([.fn f [.bp base 0]],[.var (encC C t x)])
def encFs (C:Cd T) (base:Nat):(fs:List Fld)→tyFs T fs→List (DT T)×List (BoxT T)
 | [],_=>([],[])
 | f::r,x=>match encF C base f x.1 with
  | (a,b)=>match encFs C (base+b.length) r x.2 with
   | (a',b')=>(a++a',b++b')
def encFV (C:Cd T) (base:Nat):(f:Fld)→f.ty T→DT T×List (BoxT T)
 | .v t,x=>(encV C t x,[])
 | .own c,l=>(.bw base 0 c l.length,[.arr 0 c l])
 | .pt t,x=>(.bp base 0,[.var (encC C t x)])
 | .st a c b,x=>(.agg (encC C a x.1++(.bw base 0 c x.2.1.length::encC C b x.2.2)),[.arr 0 c x.2.1])
 | .fp f t,x=>(.fn f [.bp base 0],[.var (encC C t x)])
def encFVs (C:Cd T) (base:Nat):(fs:List Fld)→tyFs T fs→List (DT T)×List (BoxT T)
 | [],_=>([],[])
 | f::r,x=>match encFV C base f x.1 with
  | (a,b)=>match encFVs C (base+b.length) r x.2 with
   | (a',b')=>(a::a',b++b')
def encS (C:Cd T) (base:Nat):(s:Slot)→s.ty T→DT T×List (BoxT T)
 | .f x,y=>encFV C base x y
 | .ptr fs,x=>match encFs C base fs x with
  | (cs,bs)=>(.bp (base+bs.length) 0,bs++[.var cs])
 | .inp c,l=>(.bw base 0 c l.length,[.arr 0 c l])
 | .iter,x=>(.bp base 0,[.iter x.1 x.2])
 | .mset a c,l=>(.mp base,[.mset a c l])
 | .lar c,l=>(.ap base 0 c 0 0,[.arr 0 c l])
def encSs (C:Cd T) (base:Nat):(ss:List Slot)→tySs T ss→List (DT T)×List (BoxT T)
 | [],_=>([],[])
 | s::r,x=>match encS C base s x.1 with
  | (a,b)=>match encSs C (base+b.length) r x.2 with
   | (a',b')=>(a::a',b++b')
def VT.isAgg:VT→Bool
 | .agg _=>true
 | _=>false
def DT.as (d:DT T) (f:Fld):Bool:=
 match f with
 | .v t=>d.fit&&(d.isAgg == t.isAgg)
 | .st _ _ _=>d.fit&&d.isAgg
 | _=>d.fit&&!d.isAgg
def decOK (m:MT T) (c:Nat) (d:DT T) (K:List (T c)→MT T→Option R):Option R:=
 match d with
 | .nils=>K [] m
 | .bw b g c' _=>match Nat.beq c' c with
  | true=>match boxA m b g c with
   | some l=>K l (m.put b .gone)
   | none=>none
  | false=>none
 | .bs b g c' 0 n=>match Nat.beq c' c with
  | true=>match boxA m b g c with
   | some l=>bif decide (n≤l.length) then K (l.take n) (m.put b .gone) else none
   | none=>none
  | false=>none
 | _=>none
def decVK (C:Cd T) (m:MT T) (t:VT) (cs:List (DT T)) (K:t.ty T→MT T→Option R):Option R:=
 frK C m cs fun cs' m'=>match decC C t cs' with
  | some x=>K x m'
  | none=>none
def decStK (C:Cd T) (m:MT T) (a:VT) (c:Nat) (b:VT) (cs:List (DT T)) (K:a.ty T×List (T c)×b.ty T→MT T→Option R):Option R:=
 match cs.drop (a.sz C) with
 | d::r=>decVK C m a (cs.take (a.sz C)) fun x m1=>decOK m1 c d fun l m2=>decVK C m2 b r fun y m3=>K (x,l,y) m3
 | _=>none
def decFK (C:Cd T) (m:MT T) (f:Fld) (cs:List (DT T)) (K:f.ty T→MT T→Option R):Option R:=
 match f,K with
 | .v t,K=>decVK C m t cs K
 | .own c,K=>match cs with
  | [d]=>decOK m c d K
  | _=>none
 | .pt t,K=>match cs with
  | [.bp b 0]=>match m.get b with
   | .var cs=>decVK C (m.put b .gone) t cs K
   | _=>none
  | _=>none
 | .st a c b,K=>decStK C m a c b cs K
 | .fp f t,K=>match cs with
  | [.fn f' [.bp b 0]]=>match Nat.beq f' f with
   | true=>match m.get b with
    | .var cs=>decVK C (m.put b .gone) t cs K
    | _=>none
   | false=>none
  | _=>none
def decFsK (C:Cd T):(fs:List Fld)→MT T→List (DT T)→(tyFs T fs→MT T→Option R)→Option R
 | [],m,cs,K=>match cs with
  | []=>K () m
  | _=>none
 | f::r,m,cs,K=>decFK C m f (cs.take (f.sz C)) fun x m'=>decFsK C r m' (cs.drop (f.sz C)) fun y m''=>K (x,y) m''
def decSK (C:Cd T) (m:MT T) (s:Slot) (d:DT T) (K:s.ty T→MT T→Option R):Option R:=
 match s,K with
 | .f f,K=>match d.as f with
  | true=>decFK C m f d.cells K
  | false=>none
 | .ptr fs,K=>match d with
  | .bp b 0=>match m.get b with
   | .var cs=>decFsK C fs (m.put b .gone) cs K
   | _=>none
  | _=>none
 | .inp c,K=>decOK m c d K
 | .iter,K=>match d with
  | .bp b 0=>match m.get b with
   | .iter l p=>K (l,p) (m.put b .gone)
   | _=>none
  | _=>none
 | .mset a c,K=>match d with
  | .mp b=>match m.get b with
   | .mset a' c' l=>match a == a' with
    | true=>match Q1 c' c with
     | .isTrue h=>K (castL h l) (m.put b .gone)
     | .isFalse _=>none
    | false=>none
   | _=>none
  | _=>none
 | .lar c,K=>match d with
  | .ap b g c' 0 0=>match Nat.beq c' c with
   | true=>match boxA m b g c with
    | some l=>K l (m.put b .gone)
    | none=>none
   | false=>none
  | _=>none
def decSsK (C:Cd T):(ss:List Slot)→MT T→List (DT T)→(tySs T ss→MT T→Option R)→Option R
 | [],m,ds,K=>match ds with
  | []=>K () m
  | _=>none
 | s::r,m,d::ds,K=>decSK C m s d fun x m'=>decSsK C r m' ds fun y m''=>K (x,y) m''
 | _::_,_,[],_=>none
def decFVsK (C:Cd T):(fs:List Fld)→MT T→List (DT T)→(tyFs T fs→MT T→Option R)→Option R
 | [],m,ds,K=>match ds with
  | []=>K () m
  | _=>none
 | f::r,m,d::ds,K=>match d.as f with
  | true=>decFK C m f d.cells fun x m'=>decFVsK C r m' ds fun y m''=>K (x,y) m''
  | false=>none
 | _::_,_,[],_=>none
inductive Lf where
 | bool | int (k:IntKind) | u8 | u16 | u32 | u64 | str | rs (c:Nat) | rn (c:Nat)
def Lf.ty (T:Nat→Type):Lf→Type
 | .bool=>Bool
 | .int _=>Int
 | .u8=>UInt8
 | .u16=>BitVec 16
 | .u32=>BitVec 32
 | .u64=>BitVec 64
 | .str=>List UInt8
 | .rs c=>List (T c)
 | .rn c=>List (T c)
def tyLs (T:Nat→Type):List Lf→Type
 | []=>Unit
 | l::r=>l.ty T×tyLs T r
def encL1:(l:Lf)→l.ty T→DT T
 | .bool,x=>.bool x
 | .int k,x=>.int k x
 | .u8,x=>.u8 x
 | .u16,x=>.u16 x
 | .u32,x=>.u32 x
 | .u64,x=>.u64 x
 | .str,x=>.str x
 | .rs c,x=>.rs c x
 | .rn c,x=>.rn c x
def encL:(ls:List Lf)→tyLs T ls→List (DT T)
 | [],_=>[]
 | l::r,x=>encL1 l x.1::encL r x.2
def decL1:(l:Lf)→DT T→Option (l.ty T)
 | .bool,d=>asBool d
 | .int k,d=>asInt k d
 | .u8,d=>asU8 d
 | .u16,d=>asU16 d
 | .u32,d=>asU32 d
 | .u64,d=>asU64 d
 | .str,d=>asStr d
 | .rs c,d=>asRs c d
 | .rn c,d=>asRn c d
def decL:(ls:List Lf)→List (DT T)→Option (tyLs T ls)
 | [],[]=>some ()
 | l::r,d::ds=>match decL1 l d with
  | some x=>match decL r ds with
   | some y=>some (x,y)
   | none=>none
  | none=>none
 | _,_=>none
structure FSpec (T:Nat→Type) where
 ps:List Slot
 rs:List Fld
 fn:tySs T ps→Option (tyO T ps×tyFs T rs)
def VT.flat:VT→Bool
 | .bool=>true
 | .int _=>true
 | .u8=>true
 | .u16=>true
 | .u32=>true
 | .u64=>true
 | .str=>true
 | _=>false
def Fld.isV:Fld→Bool
 | .v _=>true
 | _=>false
def Slot.isV:Slot→Bool
 | .f x=>x.isV
 | _=>false
def Fld.flat (fl:Nat→Bool):Fld→Bool
 | .v (.agg c)=>fl c
 | .v t=>t.flat
 | .own c=>fl c
 | .pt (.agg c)=>fl c
 | .pt t=>t.flat
 | .st _ _ _=>false
 | .fp _ _=>false
structure Env (T:Nat→Type) where
 Y:Nat→Option TI
 C:Cd T
 G:Nat→Option (List (DT T))
 fl:Nat→Bool
 F:Nat→List (DT T)→Option (FSpec T)
 ro:Nat→Bool
def decVsK (C:Cd T) (m:MT T):(ss:List Slot)→List (DT T)→(tySs T ss→Option R)→Option R
 | [],ds,K=>match ds with
  | []=>K ()
  | _=>none
 | .f (.v t)::r,d::ds,K=>match d.as (.v t) with
  | true=>mapK (purK C m true 8) d.cells fun cs=>match decC C t cs with
   | some x=>decVsK C m r ds fun y=>K (x,y)
   | none=>none
  | false=>none
 | _,_,_=>none
def oneOf:List (DT T)→DT T
 | [d]=>d
 | l=>.tup l
def callR (E:Env T) (f:Nat) (ds:List (DT T)) (m:MT T) (K:DT T→Option R):Option R:=
 match E.F f ds with
 | some S=>match S.ps.all Slot.isV&&S.rs.all (fun r=>r.isV&&r.flat E.fl) with
  | true=>decVsK E.C m S.ps ds fun x=>(S.fn x).bind fun r=>K (oneOf (encFVs E.C 0 S.rs r.2).1)
  | false=>none
 | none=>none
def argsK (C:Cd T) (sn:Bool):(ss:List Slot)→MT T→List (DT T)→(tySs T ss→List Nat→MT T→Option R)→Option R
 | [],m,ds,K=>match ds with
  | []=>K () [] m
  | _=>none
 | .f (.v t)::r,m,d::ds,K=>match d.as (.v t) with
  | true=>match sn with
   | true=>mapK (purK C m true 8) d.cells fun cs=>match decC C t cs with
    | some x=>argsK C sn r m ds fun y ids m'=>K (x,y) ids m'
    | none=>none
   | false=>decFK C m (.v t) d.cells fun x m'=>argsK C sn r m' ds fun y ids m''=>K (x,y) ids m''
  | false=>none
 | .f (.own c)::r,m,d::ds,K=>decOK m c d fun x m'=>argsK C sn r m' ds fun y ids m''=>K (x,y) ids m''
 | .f (.fp f t)::r,m,d::ds,K=>match d.as (.fp f t) with
  | true=>decFK C m (.fp f t) d.cells fun x m'=>argsK C sn r m' ds fun y ids m''=>K (x,y) ids m''
  | false=>none
 | .ptr fs::r,m,d::ds,K=>match d with
  | .bp b 0=>match m.get b with
   | .var cs=>decFsK C fs (m.put b .lent) cs fun x m'=>argsK C sn r m' ds fun y ids m''=>K (x,y) (b::ids) m''
   | _=>none
  | _=>none
 | .inp c::r,m,d::ds,K=>match d with
  | .bw b g c' _=>match Nat.beq c' c with
   | true=>match boxA m b g c with
    | some l=>argsK C sn r (m.put b .lent) ds fun y ids m''=>K (l,y) (b::ids) m''
    | none=>none
   | false=>none
  | _=>none
 | _,_,_,_=>none
def backO (C:Cd T) (m0:MT T):(ss:List Slot)→List Nat→tyO T ss→MT T→Option (MT T)
 | [],_,_,m=>some m
 | .ptr fs::r,b::ids,x,m=>match encFs C m.length fs x.1 with
  | (cs,bs)=>backO C m0 r ids x.2 ((m++bs).put b (.var cs))
 | .inp c::r,b::ids,x,m=>match m0.get b with
  | .arr g _ _=>backO C m0 r ids x.2 (m.put b (.arr g c x.1))
  | _=>none
 | .ptr _::_,[],_,_=>none
 | .inp _::_,[],_,_=>none
 | .f _::r,ids,x,m=>backO C m0 r ids x m
 | .iter::r,ids,x,m=>backO C m0 r ids x m
 | .mset _ _::r,ids,x,m=>backO C m0 r ids x m
 | .lar _::r,ids,x,m=>backO C m0 r ids x m
def callW (E:Env T) (f:Nat) (ds:List (DT T)) (m:MT T) (K:DT T→MT T→Option R):Option R:=
 match E.F f ds with
 | some S=>argsK E.C (S.ps.all Slot.isV&&S.rs.all (Fld.flat E.fl)) S.ps m ds fun x ids m1=>(S.fn x).bind fun r=>
   match backO E.C m S.ps ids r.1 m1 with
   | some m2=>match encFVs E.C m2.length S.rs r.2 with
    | (vs,bs)=>K (oneOf vs) (m2++bs)
   | none=>none
 | none=>none
def clsT (E:Env T) (o:Op):Cls:=
 match o with
 | .load _ _=>.r
 | .convert src dst _=>match elemT E.Y src with
  | some _=>.r
  | none=>match elemT E.Y dst with
   | some _=>.w
   | none=>.n
 | .alloc _=>.w
 | .box _ _=>.w
 | .store _ _ _=>.w
 | .buildSlice _ _ _=>.w
 | .makeSlice _ _ _=>.w
 | .slice t _ _ _ _=>match arrT E.Y t with
  | some _=>match E.C.la t with
   | some _=>.r
   | none=>.w
  | none=>.n
 | .range _ _=>.w
 | .next _ _=>.w
 | .lookup _ _ _ _=>.r
 | .makeMap _ _=>.w
 | .mapUpdate _ _ _ _=>.w
 | .call { callee:=.builtin b,argTypes,.. }=>match b with
  | .len=>match argTypes.toList with
   | [t]=>match isMap E.Y t with
    | true=>.r
    | false=>.n
   | _=>.n
  | .cap=>.n
  | .min=>.n
  | .max=>.n
  | _=>.w
 | .call { callee:=.value (.func f),.. }=>match E.ro f with
  | true=>.r
  | false=>.w
 | .call _=>.w
 | _=>.n
def sliceVarK (Y:Nat→Option TI) (C:Cd T) (t:Nat) (x:DT T) (m:MT T) (K:DT T→MT T→Option R):Option R:=
 match x with
 | .bp b 0 => match m.get b with
  | .var cs=>match arrT Y t with
   | some (n,el,s)=>match Y el with
    | some j=>match Nat.beq (C.sz j.code) s with
     | true=>frK C m cs fun cs' m'=>match elemsT C j.code n cs' with
      | some l=>K (.bw m'.length 0 j.code l.length) (m'.put b .gone++[.arr 0 j.code l])
      | none=>none
     | false=>none
    | none=>none
   | none=>none
  | _=>none
 | _=>none
def opK (E:Env T) (o:Op) (e:Operand→DT T) (m:MT T) (K:DT T→MT T→Option R):Option R:=
 match clsT E o with
 | .n=>nK E.Y E.C o e fun d=>K d m
 | .r=>match o with
  | .call { callee:=.value (.func f),args,.. }=>callR E f (args.toList.map e) m fun d=>K d m
  | o=>rK E.Y E.C o e m fun d=>K d m
 | .w=>match o with
  | .call { callee:=.value f,args,.. }=>match e f with
   | .fn k cap=>callW E k (args.toList.map e++cap) m K
   | _=>none
  | .slice t x none none none=>sliceVarK E.Y E.C t (e x) m K
  | o=>wK E.Y E.C o e m K
mutual
def DT.ids:DT T→List Nat
 | .bp b _=>[b]
 | .mp b=>[b]
 | .ap b _ _ _ _=>[b]
 | .bs b _ _ _ _=>[b]
 | .bw b _ _ _=>[b]
 | .agg cs=>idsL cs
 | .tup cs=>idsL cs
 | .fn _ cs=>idsL cs
 | _=>[]
def idsL:List (DT T)→List Nat
 | []=>[]
 | d::r=>d.ids++idsL r
end
mutual
def DT.ren (ρ:Nat→Nat):DT T→DT T
 | .bp b off=>.bp (ρ b) off
 | .mp b=>.mp (ρ b)
 | .ap b g c i off=>.ap (ρ b) g c i off
 | .bs b g c i n=>.bs (ρ b) g c i n
 | .bw b g c n=>.bw (ρ b) g c n
 | .agg cs=>.agg (renL ρ cs)
 | .tup cs=>.tup (renL ρ cs)
 | .fn f cs=>.fn f (renL ρ cs)
 | d=>d
def renL (ρ:Nat→Nat):List (DT T)→List (DT T)
 | []=>[]
 | d::r=>d.ren ρ::renL ρ r
end
def BoxT.ids:BoxT T→List Nat
 | .var cs=>idsL cs
 | _=>[]
def BoxT.ren (ρ:Nat→Nat):BoxT T→BoxT T
 | .var cs=>.var (renL ρ cs)
 | x=>x
def BoxT.isLent:BoxT T→Bool
 | .lent=>true
 | _=>false
def reach (m:MT T):Nat→List Nat→List Nat
 | 0,l=>l
 | n+1,l=>l++reach m n (l.flatMap fun b=>(m.get b).ids)
def has (Φ:List Nat) (k:Nat):Bool:=Φ.any (Nat.beq k)
def keepM (Φ:List Nat):Nat→MT T→MT T
 | _,[]=>[]
 | k,x::r=>(match has Φ k with | true=>x | false=>.lent)::keepM Φ (k+1) r
def inGap (base wd b:Nat):Bool:=Q7 base b&&Qae b (base+wd)
def renG (N base b:Nat):Nat:=
 match Qae b N with
 | true=>b
 | false=>base+(b - N)
def okG (Φ:List Nat) (N base wd b:Nat):Bool:=
 match Qae b N with
 | true=>has Φ b&&!inGap base wd b
 | false=>Qae b (N+wd)
def chkG (Φ:List Nat) (N base wd:Nat) (d:DT T) (m m':MT T):Bool:=
  (d.ids.all (okG Φ N base wd) && (Q7 m'.length (N + wd) && Q7 (base + wd) N)) &&
  ((Φ.all fun b=>(m'.get b).ids.all (okG Φ N base wd) && (!(m.get b).isLent && !(m'.get b).isLent)) &&
   (Qao wd).all fun j=>(m'.get (N + j)).ids.all (okG Φ N base wd) && ((m.get (base + j)).isLent && !(m'.get (N + j)).isLent))
def mergeM (Φ:List Nat) (N base wd:Nat) (m':MT T):Nat→MT T→MT T
 | _,[]=>[]
 | k,x::r=>(match inGap base wd k with
  | true=>(m'.get (N+(k - base))).ren (renG N base)
  | false=>match has Φ k with
   | true=>(m'.get k).ren (renG N base)
   | false=>x)::mergeM Φ N base wd m' (k+1) r
def wdOf:Op→Nat
 | .store _ _ _=>0
 | .next _ _=>0
 | .mapUpdate _ _ _ _=>0
 | .call { callee:=.value _,.. }=>4
 | _=>1
def widthG (E:Env T) (o:Op):Nat:=
 match clsT E o with
 | .w=>wdOf o
 | _=>0
def forceB (x:BoxT T) (K:BoxT T→Option R):Option R:=
 match x with
 | .gone=>K .gone
 | .lent=>K .lent
 | .var cs=>K (.var cs)
 | .arr g c l=>K (.arr g c l)
 | .frz g c l=>K (.frz g c l)
 | .iter l p=>K (.iter l p)
 | .mset a c l=>K (.mset a c l)
def forceM:MT T→(MT T→Option R)→Option R
 | [],K=>K []
 | x::r,K=>forceB x fun x'=>forceM r fun r'=>K (x'::r')
def semGK (E:Env T) (o:Op) (e:Operand→DT T) (m:MT T) (Φ:List Nat) (base:Nat) (K:DT T→MT T→Option R):Option R:=
 match clsT E o with
 | .n=>opK E o e m K
 | .r=>forceM (keepM Φ 0 m) fun mk=>opK E o e mk fun d m'=>match chkG Φ m.length 0 0 d m m' with
  | true=>K d m
  | false=>none
 | .w=>forceM (keepM Φ 0 m) fun mk=>opK E o e mk fun d m'=>forceM m' fun m'=>match chkG Φ m.length base (wdOf o) d m m' with
  | true=>forceM (mergeM Φ m.length base (wdOf o) m' 0 m) fun m2=>K (d.ren (renG m.length base)) m2
  | false=>none
def semGK0 (E:Env T) (o:Op) (e:Operand→DT T) (m:MT T) (Φ:List Nat) (base:Nat) (K:DT T→MT T→Option R):Option R:=
 match clsT E o with
 | .n=>opK E o e m K
 | .r=>opK E o e (keepM Φ 0 m) fun d m'=>match chkG Φ m.length 0 0 d m m' with
  | true=>K d m
  | false=>none
 | .w=>opK E o e (keepM Φ 0 m) fun d m'=>match chkG Φ m.length base (wdOf o) d m m' with
  | true=>K (d.ren (renG m.length base)) (mergeM Φ m.length base (wdOf o) m' 0 m)
  | false=>none
def fpG (E:Env T) (o:Op) (e:Operand→DT T) (m:MT T):List Nat:=
 match clsT E o with
 | .n=>[]
 | _=>reach m 4 (o.operands.toList.flatMap fun x=>(e x).ids)
structure ST (T:Nat→Type) where
 ts:List (Nat×DT T)
 m:MT T
def ST.put (σ:ST T) (dst:Option Nat) (d:DT T):ST T:=
 match dst with
 | some k=>⟨(k,d)::σ.ts,σ.m⟩
 | none=>σ
def stepT (E:Env T) (o:Oper) (σ:ST T) (K:ST T→Option R):Option R:=
 opK E o.op (evT E.G (tget σ.ts)) σ.m fun d m'=>K (ST.put ⟨σ.ts,m'⟩ o.dst d)
def runT (E:Env T) (ops:Array Oper):List Oper→ST T→(ST T→Option R)→Option R
 | [],σ,K=>K σ
 | o::r,σ,K=>match gslot ops o with
  | none=>stepT E o σ fun σ'=>runT E ops r σ' K
  | some (some k,true)=>match tget σ.ts k with
   | .bool b=>bif b then stepT E o ⟨(k,.bool true)::σ.ts,σ.m⟩ (fun σ'=>runT E ops r σ' K)
     else runT E ops r (ST.put ⟨(k,.bool false)::σ.ts,σ.m⟩ o.dst (.tup [])) K
   | .tup []=>runT E ops r (ST.put σ o.dst (.tup [])) K
   | _=>none
  | some (some k,false)=>match tget σ.ts k with
   | .bool b=>bif b then runT E ops r (ST.put ⟨(k,.bool true)::σ.ts,σ.m⟩ o.dst (.tup [])) K
     else stepT E o ⟨(k,.bool false)::σ.ts,σ.m⟩ (fun σ'=>runT E ops r σ' K)
   | .tup []=>runT E ops r (ST.put σ o.dst (.tup [])) K
   | _=>none
  | some (none,_)=>none
def stepGK (E:Env T) (o:Oper) (base:Nat) (σ:ST T) (K:List Nat→ST T→Option R):Option R:=
 semGK E o.op (evT E.G (tget σ.ts)) σ.m (fpG E o.op (evT E.G (tget σ.ts)) σ.m) base fun d m'=>K (fpG E o.op (evT E.G (tget σ.ts)) σ.m) (ST.put ⟨σ.ts,m'⟩ o.dst d)
def runGK (E:Env T) (ops:Array Oper):List Oper→Nat→List (List Nat×Nat)→ST T→(List (List Nat×Nat)→ST T→Option R)→Option R
 | [],_,acc,σ,K=>K acc σ
 | o::r,base,acc,σ,K=>match gslot ops o with
  | none=>stepGK E o base σ fun Φ σ'=>runGK E ops r (base+widthG E o.op) (acc++[(Φ,base)]) σ' K
  | some (some k,true)=>match tget σ.ts k with
   | .bool b=>bif b then stepGK E o base ⟨(k,.bool true)::σ.ts,σ.m⟩ (fun Φ σ'=>runGK E ops r (base+widthG E o.op) (acc++[(Φ,base)]) σ' K)
     else runGK E ops r (base+widthG E o.op) (acc++[([],base)]) (ST.put ⟨(k,.bool false)::σ.ts,σ.m⟩ o.dst (.tup [])) K
   | .tup []=>runGK E ops r (base+widthG E o.op) (acc++[([],base)]) (ST.put σ o.dst (.tup [])) K
   | _=>none
  | some (some k,false)=>match tget σ.ts k with
   | .bool b=>bif b then runGK E ops r (base+widthG E o.op) (acc++[([],base)]) (ST.put ⟨(k,.bool true)::σ.ts,σ.m⟩ o.dst (.tup [])) K
     else stepGK E o base ⟨(k,.bool false)::σ.ts,σ.m⟩ (fun Φ σ'=>runGK E ops r (base+widthG E o.op) (acc++[(Φ,base)]) σ' K)
   | .tup []=>runGK E ops r (base+widthG E o.op) (acc++[([],base)]) (ST.put σ o.dst (.tup [])) K
   | _=>none
  | some (none,_)=>none
def disj (a b:List Nat):Bool:=a.all fun x=>!has b x
def fullG (E:Env T) (acc:List (List Nat×Nat)) (o:Oper) (i:Nat):List Nat:=
 match acc.getD i ([],0) with
 | (Φ,base)=>Φ++(Qao (widthG E o.op)).map (base+·)
def indepG (E:Env T) (ops:Array Oper) (acc:List (List Nat×Nat)) (i:Nat) (x:Oper) (j:Nat) (y:Oper):Bool:=
 x.apart ops y&&(!(clsT E x.op).clash (clsT E y.op)||disj (fullG E acc x i) (fullG E acc y j))
def pairsAtG (E:Env T) (ops:Array Oper) (acc:List (List Nat×Nat)) (ms:List Nat) (i:Nat):Bool:=
 match ops[i]? with
  | some oi=>(oi.after.all fun e=>!Region.binds .any e||decide (e.on < i)) &&
    (Qao i).all fun j=>match ops[j]? with
     | some oj=>(ms.getD i 0).testBit j||indepG E ops acc j oj i oi
     | none=>false
  | none=>false
def pairsOkG (E:Env T) (ops:Array Oper) (acc:List (List Nat×Nat)):Bool:=
 (Qao ops.size).all (pairsAtG E ops acc (masks ops.toList []))
def clearM:MT T→MT T
 | []=>[]
 | x::r=>(match x with | .lent=>.gone | x=>x)::clearM r
def widths (E:Env T):List Oper→Nat
 | []=>0
 | o::r=>widthG E o.op+widths E r
def regionG (E:Env T) (ops:Array Oper) (σ:ST T) (K:ST T→Option R):Option R:=
 match List.all σ.m fun x=>!x.isLent with
 | true=>forceM (σ.m++Qh (widths E ops.toList) .lent) fun m0=>runGK E ops ops.toList σ.m.length [] ⟨σ.ts,m0⟩ fun acc τ=>match pairsOkG E ops acc with
  | true=>forceM (clearM τ.m) fun m1=>K ⟨τ.ts,m1⟩
  | false=>none
 | false=>none
abbrev Shape:=List (Nat×Slot)
def Shape.slots (s:Shape):List Slot:=s.map (·.2)
def lay (C:Cd T) (s:Shape) (x:tySs T s.slots):ST T:=
 match encSs C 0 s.slots x with
 | (ds,bs)=>⟨(s.map (·.1)).zip ds,bs⟩
def takeK (C:Cd T) (s:Shape) (σ:ST T) (K:tySs T s.slots→Option R):Option R:=
 decSsK C s.slots σ.m (s.map fun p=>tget σ.ts p.1) fun x _=>K x
def exB:Ex→Ex→Bool
 | .normal,.normal=>true
 | .ret,.ret=>true
 | .exit i,.exit j=>Nat.beq i j
 | _,_=>false
def tyX (T:Nat→Type):List (Ex×Shape)→Type
 | []=>Empty
 | [(_,s)]=>tySs T s.slots
 | (_,s)::p::r=>tySs T s.slots⊕tyX T (p::r)
def outX (C:Cd T):(xs:List (Ex×Shape))→(Ex→ST T→Option R)→tyX T xs→Option R
 | [],_=>fun x=>nomatch x
 | [(e,s)],K=>fun x=>K e (lay C s x)
 | (e,s)::p::r,K=>Qbm (fun x=>K e (lay C s x)) (outX C (p::r) K)
def inX (C:Cd T):(xs:List (Ex×Shape))→Ex→ST T→(tyX T xs→Option R)→Option R
 | [],_,_,_=>none
 | [(e,s)],e',σ,K=>match exB e e' with
  | true=>takeK C s σ K
  | false=>none
 | (e,s)::p::r,e',σ,K=>match exB e e' with
  | true=>takeK C s σ fun x=>K (.inl x)
  | false=>inX C (p::r) e' σ fun x=>K (.inr x)
abbrev Cp:=Nat×Nat×Nat×Nat
def bwOf (c:Nat):DT T→DT T
 | .bw b g c' n=>match Nat.beq c' c with
  | true=>.bw b g c' n
  | false=>.dead
 | _=>.dead
def cpD (σ:ST T) (k off c:Nat):DT T:=
 match tget σ.ts k with
 | .bp b 0=>match σ.m.get b with
  | .var cs=>match cs[off]? with
   | some d=>bwOf c d
   | none=>.dead
  | _=>.dead
 | d=>bwOf c d
def cpTs (σ:ST T):List Cp→List (Nat×DT T)→List (Nat×DT T)
 | [],l=>l
 | (t,k,off,c)::r,l=>(t,cpD σ k off c)::cpTs σ r l
def layC (C:Cd T) (s:Shape) (cp:List Cp) (x:tySs T s.slots):ST T:=
 match lay C s x with
 | σ=>⟨cpTs σ cp σ.ts,σ.m⟩
def isArr (m:MT T) (b g c:Nat):Bool:=
 match m.get b with
 | .arr g' c' _=>Nat.beq g g'&&Nat.beq c c'
 | _=>false
def chkC (σ:ST T) (q:Cp):Bool:=
 match cpD σ q.2.1 q.2.2.1 q.2.2.2 with
 | .bw b g c _=>match tget σ.ts q.1 with
  | .bw b' g' c' _=>(Nat.beq b b'&&(Nat.beq g g'&&Nat.beq c c'))&&isArr σ.m b g c
  | _=>false
 | _=>false
def takeC (C:Cd T) (s:Shape) (cp:List Cp) (σ:ST T) (K:tySs T s.slots→Option R):Option R:=
 match cp.all (chkC σ) with
 | true=>takeK C s σ K
 | false=>none
structure LSpec (T:Nat→Type) where
 head:Shape
 outs:List (Ex×Shape)
 go:tySs T head.slots→Option (tyX T outs)
 cp:List Cp
def firstReg:Code→Option Nat
 | .region id _ _=>some id
 | .seq a _=>firstReg a
 | .block _ b=>firstReg b
 | .loop b=>firstReg b
 | .cond _ a b=>match firstReg a with
  | some r=>some r
  | none=>firstReg b
 | _=>none
structure Loc2 (T:Nat→Type) where
 lp:Nat→Option (LSpec T)
 jn:Nat→Option (Shape×Bool)
 gr:Nat→Bool:=fun _=>false
def run (E:Env T) (A:Loc2 T):Code→{R:Type}→ST T→(Ex→ST T→Option R)→Option R
 | .skip,_,σ,K=>K .normal σ
 | .region id ops _,_,σ,K=>match A.gr id with
  | true=>regionG E ops σ (K .normal)
  | false=>runT E ops ops.toList σ (K .normal)
 | .seq a b,_,σ,K=>match (firstReg b).bind A.jn with
  | none=>run E A a σ fun e τ=>match e with
   | .normal=>run E A b τ K
   | e=>K e τ
  | some (s,false)=>(run E A a σ fun e τ=>match e with
    | .normal=>takeK E.C s τ fun x=>some (Sum.inl x)
    | e=>(K e τ).bind fun r=>some (Sum.inr r)).bind (Qbm (fun x=>run E A b (lay E.C s x) K) some)
  | some (s,true)=>(run E A a σ fun e τ=>match e with
    | .normal=>takeK E.C s τ some
    | _=>none).bind fun x=>run E A b (lay E.C s x) K
 | .cond c a b,_,σ,K=>match evT E.G (tget σ.ts) c with
  | .bool q=>bif q then run E A a σ K else run E A b σ K
  | _=>none
 | .block id c,_,σ,K=>match A.lp id with
  | some L=>takeC E.C L.head L.cp σ fun x=>(L.go x).bind (outX E.C L.outs fun e τ=>match e with
   | .exit j=>match Nat.beq j id with
    | true=>K .normal τ
    | false=>K (.exit j) τ
   | e=>K e τ)
  | none=>run E A c σ fun e τ=>match e with
   | .exit j=>match Nat.beq j id with
    | true=>K .normal τ
    | false=>K (.exit j) τ
   | e=>K e τ
 | .exit id,_,σ,K=>K (.exit id) σ
 | .ret,_,σ,K=>K .ret σ
 | .label _,_,σ,K=>K .normal σ
 | _,_,_,_=>none
def loopAt (id:Nat):Code→Code
 | .seq a b=>match loopAt id a with
  | .skip=>loopAt id b
  | c=>c
 | .cond _ a b=>match loopAt id a with
  | .skip=>loopAt id b
  | c=>c
 | .block j c=>match c with
  | .loop b=>match Nat.beq j id with
   | true=>b
   | false=>loopAt id b
  | c=>loopAt id c
 | .loop b=>loopAt id b
 | _=>.skip
def fnAt (ds:List (DT T)) (i:Nat):Option Nat:=
 match ds[i]? with
 | some (.fn f _)=>some f
 | _=>none
def rounds:Nat:=1180591620717411303424
def iter {α β:Type} (f:α→Option (α⊕β)):Nat→α→Option β
 | 0,_=>none
 | n+1,x=>(f x).bind (Qbm (iter f n) some)
def roundK (C:Cd T) (s:Shape) (cp:List Cp) (xs:List (Ex×Shape)) (e:Ex) (σ:ST T):Option (tySs T s.slots⊕tyX T xs):=
 match e with
 | .normal=>takeC C s cp σ fun x=>some (.inl x)
 | e=>inX C xs e σ fun x=>some (.inr x)
def resK (E:Env T) (σ:ST T):List ResultVar→(List (DT T)→Option R)→Option R
 | [],K=>K []
 | .tmp t::r,K=>resK E σ r fun l=>K (tget σ.ts t::l)
 | .cell a t::r,K=>rK E.Y E.C (.load t (.tmp a)) (evT E.G (tget σ.ts)) σ.m fun d=>resK E σ r fun l=>K (d::l)
def outsK (C:Cd T) (t:Nat→DT T):(ss:List Slot)→Nat→MT T→(tyO T ss→MT T→Option R)→Option R
 | [],_,m,K=>K () m
 | .ptr fs::r,j,m,K=>match t j with
  | .bp b 0=>match m.get b with
   | .var cs=>decFsK C fs (m.put b .gone) cs fun x m'=>outsK C t r (j+1) m' fun y m''=>K (x,y) m''
   | _=>none
  | _=>none
 | .inp c::r,j,m,K=>match t j with
  | .bw b g c' _=>match Nat.beq c' c with
   | true=>match boxA m b g c with
    | some l=>outsK C t r (j+1) (m.put b .gone) fun y m''=>K (l,y) m''
    | none=>none
   | false=>none
  | _=>none
 | .f _::r,j,m,K=>outsK C t r (j+1) m K
 | .iter::r,j,m,K=>outsK C t r (j+1) m K
 | .mset _ _::r,j,m,K=>outsK C t r (j+1) m K
 | .lar _::r,j,m,K=>outsK C t r (j+1) m K
def retK (E:Env T) (res:List ResultVar) (ps:List Slot) (rs:List Fld) (e:Ex) (σ:ST T):Option (tyO T ps×tyFs T rs):=
 match e with
 | .exit _=>none
 | _=>resK E σ res fun ds=>outsK E.C (tget σ.ts) ps 0 σ.m fun x m=>decFVsK E.C rs m ds fun y _=>some (x,y)
def enterT (C:Cd T) (ps:List Slot) (x:tySs T ps):ST T:=
 match encSs C 0 ps x with
 | (ds,bs)=>⟨(Qao ds.length).zip ds,bs⟩
end
section
variable {T:Nat→Type} {R:Type}
theorem Vaz {α β:Type} (c:Bool) (a:Option α) (K:α→Option β):(bif c then a else none).bind K=bif c then a.bind K else none:=by cases c<;>rfl
theorem Vec {α β:Type} (c:Bool) (a b:Option α) (K:α→Option β):(bif c then a else b).bind K=bif c then a.bind K else b.bind K:=by cases c<;>rfl
theorem Vg5 {α β S:Type} (f:{R:Type}→α→(β→Option R)→Option R) (hf:∀ {R:Type} (x:α) (K:β→Option R),f x K=(f x some).bind K) :
  ∀ (l:List α) {R:Type} (K:List β→Option R),mapK (fun x=>f (R:=R) x) l K=(mapK (fun x=>f (R:=List β) x) l some).bind K
 | [],R,K=>rfl
 | x::r,R,K=>by
  simp only [mapK]
  rw [hf x,hf x (R:=List β)]
  simp only [Qa]
  congr 1; funext y
  rw [Vg5 (S:=S) f hf r (fun r'=>K (y::r')),Vg5 (S:=S) f hf r (fun r'=>some (y::r'))]
  simp only [Qa,Qd]
theorem Vkn {α:Type} (l:List α) (x:DT T) (K:α→Option R):atK l x K=(atK l x some).bind K:=by
 unfold atK; split<;>simp
theorem Vbq (x:DT T) (n:Nat) (K:Nat→Option R):ltK x n K=(ltK x n some).bind K:=by
 unfold ltK; split<;>simp [Vaz]
theorem Ved (x:DT T) (n:Nat) (K:Nat→Option R):leK x n K=(leK x n some).bind K:=by
 unfold leK; split<;>simp [Vaz]
theorem Vb4 (n:Nat) (lo hi:Option (DT T)) (K:Option Nat→Option Nat→Option R):cutK n lo hi K=(cutK n lo hi fun a b=>some (a,b)).bind fun p=>K p.1 p.2:=by
 unfold cutK
 split
 ·rfl
 ·rw [Ved,Ved (K:=fun a=>some (some a,none))]; simp [Qa]
 ·rw [Ved,Ved (K:=fun a=>some (none,some a))]; simp [Qa]
 ·rw [Ved,Ved (R:=Option Nat×Option Nat)]
  simp only [Qa]
  congr 1; funext b
  rw [Ved,Ved (R:=Option Nat×Option Nat)]; simp [Qa]
theorem Vg6 (y:DT T) (K:Nat→Option R):cntK y K=(cntK y some).bind K:=by
 unfold cntK; split<;>simp [Vaz]
theorem Vwa (op:BinOp) (k:IntKind) (a:Int) (k':IntKind) (b:Int) (K:DT T→Option R):intK op k a k' b K=(intK op k a k' b some).bind K:=by
 unfold intK
 split
 ·rfl
 ·cases op<;>first | rfl | (simp [Vec]; done)
theorem Vko {w:Nat} (op:BinOp) (a b:BitVec w) {S:Type} (f:BitVec w→S) (g:Bool→S) (K:S→Option R):bvK op a b (fun z=>K (f z)) (fun q=>K (g q))=(bvK op a b (fun z=>some (f z)) (fun q=>some (g q))).bind K:=by
 cases op<;>first | rfl | (simp [bvK,Vec]; done)
theorem Vwb (x:DT T) (n:Nat) (K:DT T→Option R):shlK x n K=(shlK x n some).bind K:=by
 unfold shlK; split<;>rfl
theorem Vwc (x:DT T) (n:Nat) (K:DT T→Option R):shrK x n K=(shrK x n some).bind K:=by
 unfold shrK; split<;>rfl
theorem Vwd (op:BinOp) (a b:List UInt8) (K:DT T→Option R):strK op a b K=(strK op a b some).bind K:=by
 unfold strK; cases op<;>first | rfl | (simp [Vaz]; done)
theorem Vwe (Y:Nat→Option TI) (op:BinOp) (t:Nat) (x y:DT T) (K:DT T→Option R):binK Y op t x y K=(binK Y op t x y some).bind K:=by
 unfold binK
 split
 ·rw [Vg6,Vg6 (R:=DT T)]; simp only [Qa]; congr 1; funext n; exact Vwb x n K
 ·rw [Vg6,Vg6 (R:=DT T)]; simp only [Qa]; congr 1; funext n; exact Vwc x n K
 ·split
  ·split
   ·exact Vwa _ _ _ _ _ K
   ·rfl
  ·split
   ·exact Vko op _ _ (fun z=>DT.u8 (Qr z)) DT.bool K
   ·rfl
  ·split
   ·exact Vko op _ _ DT.u16 DT.bool K
   ·rfl
  ·split
   ·exact Vko op _ _ DT.u32 DT.bool K
   ·rfl
  ·split
   ·exact Vko op _ _ DT.u64 DT.bool K
   ·rfl
  ·split
   ·exact Vwd _ _ _ K
   ·rfl
  ·repeat' split
   all_goals rfl
  ·repeat' split
   all_goals rfl
  ·repeat' split
   all_goals rfl
  ·rfl
theorem Vzv (op:UnOp) (x:DT T) (K:DT T→Option R):unK op x K=(unK op x some).bind K:=by
 unfold unK; split<;>rfl
theorem Vth (Y:Nat→Option TI) (src dst:Nat) (x:DT T) (K:DT T→Option R):convK Y src dst x K=(convK Y src dst x some).bind K:=by
 unfold convK
 repeat' split
 all_goals rfl
theorem Vhz (Y:Nat→Option TI) (t:Nat) (cs:List (DT T)) (K:DT T→Option R):ldK Y t cs K=(ldK Y t cs some).bind K:=by
 unfold ldK; split<;>rfl
theorem Vgd (f:Nat→DT T) (K:DT T→Option R):∀ n k:Nat,(splitN n k fun k=>K (f k))=(splitN n k fun k=>some (f k)).bind K
 | 0,_=>rfl
 | n+1,k=>by
  simp only [splitN]
  cases Nat.beq k n
  ·simpa using Vgd f K n k
  ·rfl
theorem Vi4 (Y:Nat→Option TI) (C:Cd T) (t:Nat) (x i:DT T) (K:DT T→Option R):indexAddrK Y C t x i K=(indexAddrK Y C t x i some).bind K:=by
 unfold indexAddrK
 split
 ·split
  ·rw [Vkn,Vkn (R:=DT T)]; simp only [Qa,Qd]
  ·rfl
 ·split
  ·rw [Vbq,Vbq (R:=DT T)]; simp only [Qa,Qd]
  ·rfl
 ·split
  ·rw [Vbq,Vbq (R:=DT T)]; simp only [Qa,Qd]
  ·rfl
 ·split
  ·rw [Vbq,Vbq (R:=DT T)]; simp only [Qa,Qd]; congr 1; funext k; exact Vgd _ K _ _
  ·rfl
 ·split
  ·split
   ·rw [Vbq,Vbq (R:=DT T)]; simp only [Qa,Qd]
   ·rw [Vbq,Vbq (R:=DT T)]; simp only [Qa,Qd]; congr 1; funext k; exact Vgd _ K _ _
  ·rfl
 ·split
  ·split
   ·rw [Vbq,Vbq (R:=DT T)]; simp only [Qa,Qd]
   ·rfl
  ·rfl
 ·rfl
theorem Vbz (C:Cd T) (c:Nat) (l:List (T c)):∀ (n i:Nat) {R:Type} (K:List (DT T)→Option R),firstsK C c l n i K=(firstsK C c l n i some).bind K
 | 0,_,_,K=>rfl
 | n+1,i,R,K=>by
  simp only [firstsK,Qa]
  congr 1; funext x
  rw [Vbz C c l n (i+1) (fun cs=>K (C.enc c x++cs)),Vbz C c l n (i+1) (fun cs=>some (C.enc c x++cs))]
  simp only [Qa,Qd]
theorem Vmb (Y:Nat→Option TI) (C:Cd T) (t:Nat) (x:DT T) (K:DT T→Option R):arrayAtK Y C t x K=(arrayAtK Y C t x some).bind K:=by
 unfold arrayAtK
 split
 ·split
  ·split
   ·split
    ·rw [Vbz,Vbz (R:=DT T)]; simp only [Qa,Qd]
    ·rfl
   ·split
    ·simp [Vaz]
    ·rfl
   ·split
    ·simp [Vaz]
    ·rfl
   ·rfl
  ·rfl
 ·rfl
theorem Vwf (Y:Nat→Option TI) (t:Nat) (x:DT T) (K:DT T→Option R):capK Y t x K=(capK Y t x some).bind K:=by
 unfold capK
 split
 ·split<;>rfl
 ·rfl
theorem Vp4 (Y:Nat→Option TI) (t:Nat) (x i:DT T) (K:DT T→Option R):indexK Y t x i K=(indexK Y t x i some).bind K:=by
 unfold indexK
 split
 ·split
  ·rw [Vkn,Vkn (R:=DT T)]; simp only [Qa,Qd]
  ·rfl
 ·split
  ·rw [Vbq,Vbq (R:=DT T)]; simp only [Qa]; congr 1; funext k; exact Vhz _ _ _ K
  ·rfl
 ·rfl
theorem Vp5 (Y:Nat→Option TI) (C:Cd T) (t:Nat) (x:DT T) (lo hi:Option (DT T)) (K:DT T→Option R):sliceK Y C t x lo hi K=(sliceK Y C t x lo hi some).bind K:=by
 unfold sliceK
 split
 ·split
  ·rw [Vb4,Vb4 (R:=DT T)]; simp only [Qa,Qd]
  ·rfl
 ·split
  ·split
   ·rw [Vb4,Vb4 (R:=DT T)]; simp only [Qa,Qd]
   ·rfl
  ·rfl
 ·split
  ·rw [Vb4,Vb4 (R:=DT T)]; simp only [Qa,Qd]
  ·rfl
 ·split
  ·rw [Vb4,Vb4 (R:=DT T)]; simp only [Qa,Qd]
  ·rfl
 ·split
  ·rw [Vb4,Vb4 (R:=DT T)]; simp only [Qa,Qd]
  ·rfl
 ·rfl
theorem Vwg (Y:Nat→Option TI) (t:Nat) (x:DT T) (K:DT T→Option R):lenK Y t x K=(lenK Y t x some).bind K:=by
 unfold lenK
 repeat' split
 all_goals rfl
theorem Vzw (x y:DT T) (K:DT T→Option R):mnK x y K=(mnK x y some).bind K:=by unfold mnK; split<;>rfl
theorem Vzx (x y:DT T) (K:DT T→Option R):mxK x y K=(mxK x y some).bind K:=by unfold mxK; split<;>rfl
theorem Vh0 (f:{R:Type}→DT T→DT T→(DT T→Option R)→Option R) (hf:∀ {R:Type} (x y:DT T) (K:DT T→Option R),f x y K=(f x y some).bind K) :
  ∀ (l:List (DT T)) (x:DT T) {R:Type} (K:DT T→Option R),foldK (fun a b=>f (R:=R) a b) x l K=(foldK (fun a b=>f (R:=DT T) a b) x l some).bind K
 | [],x,R,K=>rfl
 | y::r,x,R,K=>by
  simp only [foldK]
  rw [hf x y (fun z=>foldK (fun a b=>f (R:=R) a b) z r K),hf x y (fun z=>foldK (fun a b=>f (R:=DT T) a b) z r some)]
  simp only [Qa]
  congr 1; funext z
  exact Vh0 f hf r z K
theorem Vti (q:Bool) (a b:DT T) (K:DT T→Option R):pickK q a b K=(pickK q a b some).bind K:=by
 unfold pickK
 split
 ·rfl
 ·split<;>rfl
 ·simp [Vec]
theorem Vox (Y:Nat→Option TI) (C:Cd T) (o:Op) (e:Operand→DT T) (K:DT T→Option R):nK Y C o e K=(nK Y C o e some).bind K:=by
 unfold nK
 split
 ·rfl
 ·rfl
 ·split
  ·exact Vti _ _ _ K
  ·rfl
 ·split<;>rfl
 ·exact Vwe _ _ _ _ _ K
 ·exact Vzv _ _ K
 ·exact Vth _ _ _ _ K
 ·split<;>rfl
 ·split<;>rfl
 ·split<;>rfl
 ·exact Vi4 _ _ _ _ _ K
 ·exact Vp4 _ _ _ _ K
 ·exact Vp5 _ _ _ _ _ _ K
 ·split
  ·split<;>rfl
  ·rfl
 ·split<;>rfl
 ·split
  ·exact Vwg _ _ _ K
  ·rfl
 ·exact Vmb _ _ _ _ K
 ·split
  ·exact Vwf _ _ _ K
  ·rfl
 ·split
  ·exact Vh0 (fun a b K=>mnK a b K) (fun x y K=>Vzw x y K) _ _ K
  ·rfl
 ·split
  ·exact Vh0 (fun a b K=>mxK a b K) (fun x y K=>Vzx x y K) _ _ K
  ·rfl
 ·rfl
theorem Vkp {α:Type} (l:List α) (i n:Nat) (K:List α→Option R):winK l i n K=(winK l i n some).bind K:=by
 unfold winK; rw [Vaz]; rfl
theorem Vbr (m:MT T) (c:Nat) (x:DT T) (K:List (T c)→Option R):rowsK m c x K=(rowsK m c x some).bind K:=by
 unfold rowsK
 split
 ·rfl
 ·split<;>rfl
 ·split
  ·split<;>rfl
  ·rfl
 ·split
  ·split
   ·exact Vkp _ _ _ K
   ·rfl
  ·rfl
 ·rfl
theorem Vfq (C:Cd T) (m:MT T) (sn:Bool):∀ (n:Nat) {R:Type} (d:DT T) (K:DT T→Option R),purK C m sn n d K=(purK C m sn n d some).bind K
 | 0,R,d,K=>rfl
 | n+1,R,d,K=>by
  have ml:=fun (l:List (DT T)) {R:Type} (K:List (DT T)→Option R)=>Vg5 (S:=Unit) (fun {R} x K=>purK C m sn n (R:=R) x K) (fun {R} x K=>Vfq C m sn n x K) l K
  simp only [purK]
  cases d with
  | bw b g c k=>simp only []; split<;>rfl
  | bs b g c i k=>
   simp only []; split
   ·rw [Vkp,Vkp (R:=DT T)]; simp only [Qa,Qd]
   ·rfl
  | bp b off=>
   simp only []; split
   ·split
    ·rw [ml,ml (R:=DT T)]; simp only [Qa,Qd]
    ·rfl
   ·rfl
  | ap b g c i off=>
   simp only []; split
   ·split
    ·simp only [Qa,Qd]
    ·rfl
   ·rfl
  | agg cs=>simp only []; rw [ml,ml (R:=DT T)]; simp only [Qa,Qd]
  | fn f cs=>simp only []; rw [ml,ml (R:=DT T)]; simp only [Qa,Qd]
  | _=>rfl
theorem Vbs (C:Cd T) (m:MT T) (sn:Bool) (n:Nat) (l:List (DT T)) {R:Type} (K:List (DT T)→Option R):mapK (purK C m sn n) l K=(mapK (purK C m sn n) l some).bind K:=
 Vg5 (S:=Unit) (fun {R} x K=>purK C m sn n (R:=R) x K) (fun {R} x K=>Vfq C m sn n x K) l K
theorem Vcf (C:Cd T) (m:MT T) (cs:List (DT T)) (K:List (DT T)→MT T→Option R):frK C m cs K=(frK C m cs fun a b=>some (a,b)).bind fun p=>K p.1 p.2:=by
 unfold frK
 rw [Vbs,Vbs (R:=List (DT T)×MT T)]
 simp only [Qa,Qd]
theorem Vtj (Y:Nat→Option TI) (C:Cd T) (o:Op) (e:Operand→DT T) (m:MT T) (K:DT T→Option R):rK Y C o e m K=(rK Y C o e m some).bind K:=by
 unfold rK
 split
 ·split
  ·split
   ·exact Vhz _ _ _ K
   ·rfl
  ·split
   ·split
    ·split
     ·rw [Vbz,Vbz (R:=DT T)]; simp only [Qa]; congr 1; funext cs; exact Vhz _ _ _ K
     ·rfl
    ·simp only [Qa]; congr 1; funext x; exact Vhz _ _ _ K
   ·rfl
  ·exact Vhz _ _ _ K
  ·rfl
 ·split
  ·split
   ·split
    ·simp [Vaz]
    ·rfl
   ·rfl
  ·rfl
 ·split
  ·split
   ·rw [Vbr,Vbr (R:=DT T)]; simp only [Qa,Qd]
   ·rfl
  ·rfl
 ·repeat' split
  all_goals rfl
 ·repeat' split
  all_goals rfl
 ·rfl
theorem Vge (C:Cd T) (el:Nat):∀ (ps:List (Nat×DT T)) (m:MT T) (rows:List (T el)) {R:Type} (K:List (T el)→MT T→Option R),partsK C el ps m rows K=(partsK C el ps m rows fun a b=>some (a,b)).bind fun p=>K p.1 p.2
 | [],m,rows,R,K=>rfl
 | (i, x)::r, m, rows, R, K => by
  simp only [partsK]
  split
  ·rw [Vcf,Vcf (R:=List (T el)×MT T)]
   simp only [Qa]
   congr 1; funext p
   split
   ·split
    ·exact Vge C el r _ _ K
    ·rfl
   ·rfl
  ·rfl
theorem Voy (m:MT T) (bts el:Nat) (s:DT T) (rows:List (T el)) (K:DT T→MT T→Option R):appK m bts el s rows K=(appK m bts el s rows fun a b=>some (a,b)).bind fun p=>K p.1 p.2:=by
 unfold appK
 split
 ·simp [Vaz]
 ·split
  ·split
   ·simp [Vaz]
   ·rfl
  ·rfl
 ·split
  ·split
   ·simp [Vaz]
   ·rfl
  ·rfl
 ·rfl
theorem Vtk (m:MT T) (b g c:Nat) (rows:List (T c)) (K:DT T→MT T→Option R):copyK m b g c rows K=(copyK m b g c rows fun a b=>some (a,b)).bind fun p=>K p.1 p.2:=by
 unfold copyK
 split
 ·simp [Vaz]
 ·rfl
theorem Vkq:∀ (qs:List Bool) (cs:List (DT T)) {R:Type} (K:List (DT T)→Option R),rnK qs cs K=(rnK qs cs some).bind K
 | _,[],_,K=>by simp only [rnK,Qd]
 | [],d::cs,_,K=>by simp only [rnK,Qd]
 | q::qs,d::cs,R,K=>by
  have keep:∀ d':DT T,rnK qs cs (fun r'=>K (d'::r'))=(rnK qs cs fun r'=>some (d'::r')).bind K:=fun d'=>by
   rw [Vkq qs cs (fun r'=>K (d'::r')),Vkq qs cs (fun r'=>some (d'::r')),Qa]
   rfl
  simp only [rnK]
  split
  ·split
   ·rename_i c l
    rw [keep,Vec]
    rfl
   ·exact keep d
  ·exact keep d
theorem Vdxa (Y : Nat→Option TI) (C : Cd T) (o : Op) (e : Operand→DT T) (m : MT T) (K : DT T→MT T→Option R) : wK Y C o e m K = (wK Y C o e m fun a b => some (a, b)).bind fun p => K p.1 p.2 := by
 unfold wK
 split
 ·split
  ·split
   ·split
    ·split<;>rfl
    ·rfl
   ·rfl
  ·rfl
 ·split
  ·split
   ·split<;>rfl
   ·split
    ·split
     ·rw [Vcf,Vcf (R:=DT T×MT T)]
      simp only [Qa]
      congr 1; funext p
      split<;>rfl
     ·rfl
    ·rfl
  ·rfl
 ·split
  ·split
   ·split
    ·split
     ·split<;>rfl
     ·rfl
    ·split
     ·split
      ·split
       ·rw [Vcf,Vcf (R:=DT T×MT T)]
        simp only [Qa]
        congr 1; funext p
        split
        ·split
         ·simp [Vaz]
         ·rfl
        ·rfl
       ·rfl
      ·rfl
     ·split
      ·simp only [Qa]; congr 1; funext x
       rw [Vcf,Vcf (R:=DT T×MT T)]
       simp only [Qa]
       congr 1; funext p
       rw [Vkq,Vkq (R:=DT T×MT T)]
       simp only [Qa]
       congr 1; funext q
       split
       ·split
        ·split<;>rfl
        ·rfl
       ·rfl
      ·rfl
    ·rfl
   ·rfl
  ·rfl
 ·split
  ·split
   ·split
    ·split
     ·rw [Vge,Vge (R:=DT T×MT T)]; simp only [Qa,Qd]
     ·rfl
    ·rfl
   ·rfl
  ·rfl
 ·repeat' split
  all_goals rfl
 ·repeat' split
  all_goals rfl
 ·split
  ·split<;>rfl
  ·rfl
 ·split
  ·split
   ·simp only [Vec,Qd]
   ·rfl
  ·rfl
 ·repeat' split
  all_goals rfl
 ·split
  ·split
   ·split
    ·split
     ·split
      ·simp only [Vaz,Qd]
      ·rfl
     ·rfl
    ·rfl
   ·rfl
  ·rfl
 ·split
  ·split
   ·split
    ·split
     ·rw [Vbr,Vbr (R:=DT T×MT T)]; simp only [Qa]; congr 1; funext rows; exact Vtk _ _ _ _ _ K
     ·rfl
    ·rfl
   ·rfl
  ·rfl
 ·split
  ·split
   ·split
    ·split
     ·split
      ·split
       ·split
        ·simp [Vaz]
        ·rfl
       ·rfl
      ·split
       ·split
        ·exact Voy _ _ _ _ _ K
        ·rfl
       ·rfl
      ·split
       ·rw [Vbr,Vbr (R:=DT T×MT T)]; simp only [Qa]; congr 1; funext rows; exact Voy _ _ _ _ _ K
       ·rfl
     ·rfl
    ·rfl
   ·rfl
  ·rfl
 ·rfl
theorem Vee (m:MT T) (c:Nat) (d:DT T) (K:List (T c)→MT T→Option R):decOK m c d K=(decOK m c d fun a b=>some (a,b)).bind fun p=>K p.1 p.2:=by
 unfold decOK
 split
 ·rfl
 ·split
  ·split<;>rfl
  ·rfl
 ·split
  ·split
   ·simp [Vaz]
   ·rfl
  ·rfl
 ·rfl
theorem Vct (C:Cd T) (m:MT T) (t:VT) (cs:List (DT T)) {R:Type} (K:t.ty T→MT T→Option R):decVK C m t cs K=(decVK C m t cs fun a b=>some (a,b)).bind fun p=>K p.1 p.2:=by
 unfold decVK
 rw [Vcf,Vcf (R:=VT.ty T t×MT T)]
 simp only [Qa]
 congr 1; funext p
 split<;>rfl
theorem Vp6 (C:Cd T) (m:MT T) (a:VT) (c:Nat) (b:VT) (cs:List (DT T)) {R:Type} (K:a.ty T×List (T c)×b.ty T→MT T→Option R):decStK C m a c b cs K=(decStK C m a c b cs fun a b=>some (a,b)).bind fun p=>K p.1 p.2:=by
 unfold decStK
 split
 ·rw [Vct,Vct (R:=(a.ty T×List (T c)×b.ty T)×MT T)]
  simp only [Qa]
  congr 1; funext p
  rw [Vee,Vee (R:=(a.ty T×List (T c)×b.ty T)×MT T)]
  simp only [Qa]
  congr 1; funext q
  rw [Vct,Vct (R:=(a.ty T×List (T c)×b.ty T)×MT T)]
  simp only [Qa]
  rfl
 ·rfl
theorem Vdf (C:Cd T) (m:MT T) (f:Fld) (cs:List (DT T)) {R:Type} (K:f.ty T→MT T→Option R):decFK C m f cs K=(decFK C m f cs fun a b=>some (a,b)).bind fun p=>K p.1 p.2:=by
 cases f with
 | v t=>exact Vct C m t cs K
 | own c=>
  simp only [decFK]
  split
  ·exact Vee _ _ _ K
  ·rfl
 | pt t=>
  simp only [decFK]
  split
  ·split
   ·exact Vct C _ t _ K
   ·rfl
  ·rfl
 | st a c b=>exact Vp6 C m a c b cs K
 | fp f t=>
  simp only [decFK]
  split
  ·split
   ·split
    ·exact Vct C _ t _ K
    ·rfl
   ·rfl
  ·rfl
theorem Vet (C:Cd T):∀ (fs:List Fld) (m:MT T) (cs:List (DT T)) {R:Type} (K:tyFs T fs→MT T→Option R),decFsK C fs m cs K=(decFsK C fs m cs fun a b=>some (a,b)).bind fun p=>K p.1 p.2
 | [],m,cs,R,K=>by simp only [decFsK]; split<;>rfl
 | f::r,m,cs,R,K=>by
  simp only [decFsK]
  rw [Vdf,Vdf (R:=tyFs T (f::r)×MT T)]
  simp only [Qa]
  congr 1; funext p
  rw [Vet C r,Vet C r (R:=tyFs T (f::r)×MT T)]
  simp only [Qa,Qd]
end
section
variable {T:Nat→Type} {C:Cd T} {O I:Nat→Prop} {w:World} {loc:Nat→Nat→Loc} {L:Nat→Nat→Nat} {m:MT T}
theorem Vkr {b:Nat} (h:m.length≤b):m.get b = .gone:=by
 simp [MT.get,Qn,Qo h]
theorem Vbd {b b':Nat} {x:BoxT T} (h:b < m.length):(m.put b x).get b'=if b'=b then x else m.get b':=by
 simp only [MT.get,MT.put,Qn,Q4]
 by_cases e:b'=b
 ·subst e; simp [h]
 ·rw [if_neg (fun q=>e q.symm),if_neg e]
theorem Vb0 {b:Nat} {x:BoxT T}:(m.put b x).length=m.length:=by simp [MT.put]
theorem Vgf {x:BoxT T} {b:Nat}:MT.get (m++[x]) b=if b=m.length then x else m.get b:=by
 simp only [MT.get,Qn]
 by_cases e:b=m.length
 ·subst e; simp
 ·rw [if_neg e]
  rcases Qu b m.length with h | h
  ·rw [Qw h]
  ·rw [Qo h,Qo (by simp; omega)]
theorem Vcj {b:Nat} {x:BoxT T} (h:b < m.length):denM C (m.put b x)=(denM C m).set b (denB C x):=by
 unfold denM Mem.set
 simp only [Vb0,Mem.mk.injEq,true_and]
 funext b'
 simp only [upd,Vbd h]
 split<;>rfl
theorem Vdr {x:BoxT T}:denM C (m++[x])=(denM C m).add (denB C x):=by
 unfold denM Mem.add
 simp only [Qs,Qbc,Qbg,Mem.mk.injEq,Qv,true_and]
 funext b'
 simp only [upd,Vgf]
 split<;>rfl
theorem Vds {b:Nat} {x:BoxT T} (h:b < m.length) (hm:WfM L m) (hx:WfB L b x):WfM L (m.put b x):=fun b'=>by
 rw [Vbd h]
 split
 ·rename_i e; subst e; exact hx
 ·exact hm b'
theorem Vni {x:BoxT T} (hm:WfM L m) (hx:WfB L m.length x):WfM L (m++[x]):=fun b'=>by
 rw [Vgf]
 split
 ·rename_i e; subst e; exact hx
 ·exact hm b'
theorem Va6 (h:MRel O I loc (denM C m) w) {b g:Nat} (hl:loc b g≠.free):b < m.length:=lt_nb (m:=denM C m) h hl
theorem Vb9 (h:MRel O I loc (denM C m) w) {b:Nat} (hb:b < m.length):RelB I w loc b (denB C (m.get b)):=h.box b hb
theorem Vbt {b g c:Nat} {l:List (T c)} (h:boxL m b g c=some l):m.get b = .arr g c l∨m.get b = .frz g c l:=by
 unfold boxL at h
 split at h
 ·rename_i g' c' l' hb
  split at h
  ·rename_i hg
   have hg:=Qf hg
   split at h
   ·rename_i hc _
    subst hc; subst hg
    simp only [Qb] at h; subst h
    exact .inl hb
   ·cases h
  ·cases h
 ·rename_i g' c' l' hb
  split at h
  ·rename_i hg
   have hg:=Qf hg
   split at h
   ·rename_i hc _
    subst hc; subst hg
    simp only [Qb] at h; subst h
    exact .inr hb
   ·cases h
  ·cases h
 ·cases h
theorem Vbu {b g c:Nat} {l:List (T c)} (h:boxA m b g c=some l):m.get b = .arr g c l:=by
 unfold boxA at h
 split at h
 ·rename_i g' c' l' hb
  split at h
  ·rename_i hg
   have hg:=Qf hg
   split at h
   ·rename_i hc _
    subst hc; subst hg
    simp only [Qb] at h; subst h
    exact hb
   ·cases h
  ·cases h
 ·cases h
theorem Vnj (hm:MRel O I loc (denM C m) w) (hw:WfM L m) {b g c:Nat} {l:List (T c)} (h:boxL m b g c=some l) (hb:b < m.length) :
  L b g=l.length∧((loc b g = .nil∧l=[])∨∃ k,loc b g = .blk k∧VR I w (C.sz c) (l.map (C.encD c)) k 0):=by
 have hr:(denM C m).rows b g (C.sz c)=some (l.map (C.encD c)):=by
  rcases Vbt h with e | e<;>simp [Mem.rows,denM,e,denB]
 refine ⟨?_,?_⟩
 ·have:=hw b
  rcases Vbt h with e | e<;>(rw [e] at this; exact this)
 ·rcases Vf7 (m:=denM C m) hm hb hr with ⟨h1,h2⟩ | h1
  ·exact .inl ⟨h1,by simpa using h2⟩
  ·exact .inr h1
theorem MRel.freeze {M:Mem} {b g s:Nat} {rows:List (List D)} (hm:MRel O I loc M w) (hb:b < M.nb) (hx:M.bx b = .arr g s rows) :
  MRel O (fun k=>I k∨loc b g = .blk k) loc (M.set b (.frz g s rows)) w:=by
 have ho:(M.bx b).owned=true:=by rw [hx]; rfl
 have he:Ext I (fun k=>I k∨loc b g = .blk k) w w:=imm_all' (fun _ h=>.inl h)
 have hbx:∀ b',(M.set b (.frz g s rows)).bx b'=if b'=b then .frz g s rows else M.bx b':=fun b'=>rfl
 refine ⟨fun b' hb'=>?_,hm.free,fun b' g' k hb' ho' hk=>?_,fun b1 b2 g1 g2 k h1 h2 o1 o2 k1 k2=>?_,fun k hk=>?_,hm.up⟩
 ·rw [hbx]
  by_cases e:b'=b
  ·subst e
   rw [if_pos rfl]
   have hr:=hm.box b' hb
   rw [hx] at hr
   simp only [RelB] at hr ⊢
   refine ⟨hr.1,?_⟩
   rcases hr.2 with h | ⟨k,c,el,fz,h1,h2,h3,h4,h5⟩
   ·exact .inl h
   ·exact .inr ⟨k,h1,.inr h1,Vcc he s rows k 0 rfl h5⟩
  ·rw [if_neg e]
   exact Va5 he (.refl _) (fun _=>rfl) (fun _ _ _ _=>rfl) (hm.box b' hb')
 ·rw [hbx] at ho'
  by_cases e:b'=b
  ·rw [if_pos e] at ho'; cases ho'
  ·rw [if_neg e] at ho'
   have:=hm.own b' g' k hb' ho' hk
   refine ⟨this.1,fun h=>?_,this.2.2⟩
   rcases h with h | h
   ·exact this.2.1 h
   ·exact e (hm.inj b' b g' g k hb' hb ho' ho hk h)
 ·rw [hbx] at o1 o2
  by_cases e1:b1=b
  ·rw [if_pos e1] at o1; cases o1
  ·by_cases e2:b2=b
   ·rw [if_pos e2] at o2; cases o2
   ·rw [if_neg e1] at o1; rw [if_neg e2] at o2
    exact hm.inj b1 b2 g1 g2 k h1 h2 o1 o2 k1 k2
 ·rcases hk with h | h
  ·exact hm.imm k h
  ·exact (hm.own b g k hb ho h).2.2
where imm_all' {J:Nat→Prop} {w:World} (hI:∀ k,I k→J k):Ext I J w w:=⟨hI,fun _ _=>rfl,fun _=>Q6 _⟩
theorem Vag {J:Nat→Prop} (hI:∀ k,I k→J k):Ext I J w w:=⟨hI,fun _ _=>rfl,fun _=>Q6 _⟩
theorem Voz:∀ (ids:List Nat) {m:MT T} {I:Nat→Prop},MRel O I loc (denM C m) w→WfM L m→∃ I',MRel O I' loc (denM C (fzAll m ids)) w∧WfM L (fzAll m ids)∧(∀ k,I k→I' k)∧(∀ k,I' k→I k∨∃ b g c l,b < m.length∧m.get b = .arr g c l∧loc b g = .blk k) ∧
  (fzAll m ids).length=m.length∧(∀ b,(fzAll m ids).get b=m.get b∨∃ g c l,m.get b = .arr g c l∧(fzAll m ids).get b = .frz g c l) ∧
  ∀ b∈ids,∀ g c l,b < m.length→(m.get b = .arr g c l∨m.get b = .frz g c l)→∀ k,loc b g = .blk k→I' k
 | [],m,I,hm,hw=>⟨I,hm,hw,fun _ h=>h,fun _ h=>.inl h,rfl,fun _=>.inl rfl,fun b hb=>by simp at hb⟩
 | b::r,m,I,hm,hw=>by
  show ∃ I',MRel O I' loc (denM C (fzAll (fz1 m b) r)) w∧_
  have key:∃ I1,MRel O I1 loc (denM C (fz1 m b)) w∧WfM L (fz1 m b)∧(∀ k,I k→I1 k)∧(∀ k,I1 k→I k∨∃ b g c l,b < m.length∧m.get b = .arr g c l∧loc b g = .blk k)∧(fz1 m b).length=m.length ∧
    (∀ b',(fz1 m b).get b'=m.get b'∨∃ g c l,m.get b' = .arr g c l∧(fz1 m b).get b' = .frz g c l)∧∀ g c l,b < m.length→(m.get b = .arr g c l∨m.get b = .frz g c l)→∀ k,loc b g = .blk k→I1 k:=by
   cases hb:m.get b with
   | arr g c l=>
    have hlt:b < m.length:=by
     rcases Qu b m.length with h | h
     ·exact h
     ·rw [Vkr h] at hb; cases hb
    have e:fz1 m b=m.put b (.frz g c l):=by simp only [fz1,hb]
    rw [e]
    have hf:=hm.freeze (b:=b) (g:=g) (s:=C.sz c) (rows:=l.map (C.encD c)) hlt (by simp [denM,hb,denB])
    have e2:denM C (m.put b (.frz g c l))=(denM C m).set b (.frz g (C.sz c) (l.map (C.encD c))):=by rw [Vcj hlt]; rfl
    rw [e2]
    have hwb:=hw b
    rw [hb] at hwb
    refine ⟨_,hf,Vds hlt hw hwb,fun _ h=>.inl h,fun k h=>?_,Vb0,fun b'=>?_,fun g' c' l' _ h k hk=>?_⟩
    ·rcases h with h | h
     ·exact .inl h
     ·exact .inr ⟨b,g,c,l,hlt,hb,h⟩
    ·rw [Vbd hlt]
     by_cases q:b'=b
     ·subst q; rw [if_pos rfl]; exact .inr ⟨g,c,l,hb,rfl⟩
     ·rw [if_neg q]; exact .inl rfl
    ·rcases h with h | h
     ·cases h; exact .inr hk
     ·cases h
   | frz g c l=>
    have e:fz1 m b=m:=by simp only [fz1,hb]
    rw [e]
    refine ⟨I,hm,hw,fun _ h=>h,fun _ h=>.inl h,rfl,fun _=>.inl rfl,fun g' c' l' hlt h k hk=>?_⟩
    rcases h with h | h
    ·cases h
    ·cases h
     have:=Vb9 hm hlt
     rw [hb] at this
     simp only [denB,RelB] at this
     rcases this.2 with ⟨h1,_⟩ | ⟨k',h1,h2,_⟩
     ·rw [hk] at h1; cases h1
     ·rw [hk] at h1; cases h1; exact h2
   | _=>
    have e:fz1 m b=m:=by simp only [fz1,hb]
    rw [e]
    exact ⟨I,hm,hw,fun _ h=>h,fun _ h=>.inl h,rfl,fun _=>.inl rfl,fun g' c' l' hlt h k hk=>by rcases h with h | h<;>cases h⟩
  obtain ⟨I1,h1,h2,h3,h4,h5,h6,h7⟩:=key
  obtain ⟨I2,g1,g2,g3,g4,g5,g6,g7⟩:=Voz r h1 h2
  refine ⟨I2,g1,g2,fun k h=>g3 k (h3 k h),fun k h=>?_,g5.trans h5,fun b'=>?_,fun b' hb' g c l hlt h k hk=>?_⟩
  ·rcases g4 k h with h | ⟨b2,g2',c2,l2,q1,q2,q3⟩
   ·exact h4 k h
   ·refine .inr ⟨b2,g2',c2,l2,by rw [← h5]; exact q1,?_,q3⟩
    rcases h6 b2 with p | ⟨g3',c3,l3,p1,p2⟩
    ·rw [← p]; exact q2
    ·rw [p2] at q2; cases q2
  ·rcases h6 b' with q | ⟨g,c,l,q1,q2⟩
   ·rcases g6 b' with p | ⟨g,c,l,p1,p2⟩
    ·exact .inl (p.trans q)
    ·exact .inr ⟨g,c,l,q ▸ p1,p2⟩
   ·rcases g6 b' with p | ⟨g',c',l',p1,p2⟩
    ·exact .inr ⟨g,c,l,q1,p.trans q2⟩
    ·rw [q2] at p1; cases p1
  ·rcases List.mem_cons.1 hb' with e | e
   ·subst e; exact g3 k (h7 g c l hlt h k hk)
   ·refine g7 b' e g c l (by rw [h5]; exact hlt) ?_ k hk
    rcases h6 b' with q | ⟨g',c',l',q1,q2⟩
    ·rw [q]; exact h
    ·rcases h with h | h
     ·rw [q1] at h; cases h; exact .inr q2
     ·rw [q1] at h; cases h
mutual
def DT.clean:DT T→Bool
 | .bp _ _=>false
 | .mp _=>false
 | .ap _ _ _ _ _=>false
 | .bs _ _ _ _ _=>false
 | .bw _ _ _ _=>false
 | .tup _=>false
 | .agg cs=>cleanL cs
 | .fn _ cs=>cleanL cs
 | _=>true
def cleanL:List (DT T)→Bool
 | []=>true
 | d::r=>d.clean&&cleanL r
end
mutual
theorem Vo0:∀ d:DT T,d.clean=true→WfD L d
 | .agg cs,h=>by simp only [DT.clean] at h; simp only [WfD]; exact Vat cs h
 | .fn _ cs,h=>by simp only [DT.clean] at h; simp only [WfD]; exact Vat cs h
 | .dead,_=>trivial
 | .bool _,_=>trivial
 | .int _ _,_=>trivial
 | .u8 _,_=>trivial
 | .u16 _,_=>trivial
 | .u32 _,_=>trivial
 | .u64 _,_=>trivial
 | .str _,_=>trivial
 | .lit _,_=>trivial
 | .nilp,_=>trivial
 | .nils,_=>trivial
 | .rs _ _,_=>trivial
 | .rn _ _,_=>trivial
 | .rp _,_=>trivial
 | .bp _ _,h=>by cases h
 | .mp _,h=>by cases h
 | .ap _ _ _ _ _,h=>by cases h
 | .bs _ _ _ _ _,h=>by cases h
 | .bw _ _ _ _,h=>by cases h
 | .tup _,h=>by cases h
theorem Vat:∀ l:List (DT T),cleanL l=true→WfL L l
 | [],_=>trivial
 | d::r,h=>by
  simp only [cleanL,Qg] at h
  exact ⟨Vo0 d h.1,Vat r h.2⟩
end
theorem Vtl (hm:MRel O I loc (denM C m) w) {b g c:Nat} {l:List (T c)} (h:boxL m b g c=some l) (hb:b < m.length) {k:Nat} (hk:loc b g = .blk k):k < w.heap.size:=by
 rcases Vbt h with e | e
 ·exact (hm.own b g k hb (by simp [denM,e,denB,Box.owned]) hk).2.2
 ·have:=Vb9 hm hb
  rw [e] at this
  simp only [denB,RelB] at this
  rcases this.2 with ⟨h1,_⟩ | ⟨k',h1,h2,_⟩
  ·rw [hk] at h1; cases h1
  ·rw [hk] at h1; cases h1; exact hm.imm k h2
def Held (J:Nat→Prop) (loc:Nat→Nat→Loc) (m:MT T) (ids:List Nat):Prop:=∀ b∈ids,∀ g c l,b < m.length→(m.get b = .arr g c l∨m.get b = .frz g c l)→∀ k,loc b g = .blk k→J k
theorem Vwh (hm:MRel O I loc (denM C m) w) (hw:WfM L m) {b g c n:Nat} {l:List (T c)} {v:Value} {J:Nat→Prop} (hI:∀ k,I k→J k) (h:boxL m b g c=some l)
  (hwf:WfD L (.bw b g c n:DT T)) (hv:V I w (den C (.bw b g c n:DT T)) loc v) (hJ:∀ k,loc b g = .blk k→J k):V J w (den C (.rs c l:DT T)) free v:=by
 simp only [den,V] at hv ⊢
 have hb:b < m.length:=Va6 (C:=C) (g:=g) hm (by intro e; simp [e] at hv)
 obtain ⟨hl,hat⟩:=Vnj hm hw h hb
 simp only [WfD] at hwf
 have hn:n=l.length:=by rw [← hwf,hl]
 rcases hat with ⟨h1,rfl⟩ | ⟨k,h1,h2⟩
 ·simp only [h1] at hv
  obtain ⟨_,_,rfl⟩:=hv
  exact .inl ⟨rfl,_,_,rfl⟩
 ·simp only [h1] at hv
  obtain ⟨o,cap,rfl,hc,ho,_⟩:=hv
  by_cases h0:cap=0
  ·have:l=[]:=by
    have:l.length=0:=by omega
    exact Qat this
   subst this
   left; exact ⟨rfl,_,_,by rw [hn]; rfl⟩
  ·have ho:o=0:=by
    rcases ho with ho | ho
    ·exact absurd ho h0
    ·simpa using ho
   subst ho
   right
   refine ⟨k,0,cap,by simp [hn],by simpa [← hn] using hc,hJ k h1,Vcc (Vag hI) _ _ k 0 rfl h2⟩
theorem Vwi (hm:MRel O I loc (denM C m) w) (hw:WfM L m) {b g c i n:Nat} {l:List (T c)} {v:Value} {J:Nat→Prop} (hI:∀ k,I k→J k) (h:boxL m b g c=some l) (hle:n+i≤l.length)
  (hv:V I w (den C (.bs b g c i n:DT T)) loc v) (hJ:∀ k,loc b g = .blk k→J k):V J w (den C (.rs c ((l.drop i).take n):DT T)) free v:=by
 simp only [den,V] at hv ⊢
 have hb:b < m.length:=Va6 (C:=C) (g:=g) hm (by intro e; simp [e] at hv)
 obtain ⟨hl,hat⟩:=Vnj hm hw h hb
 have hlen:((l.drop i).take n).length=n:=by simp; omega
 rcases hat with ⟨h1,rfl⟩ | ⟨k,h1,h2⟩
 ·simp only [h1] at hv
  obtain ⟨_,_,rfl⟩:=hv
  exact .inl ⟨by simp,_,_,rfl⟩
 ·simp only [h1] at hv
  obtain ⟨o,cap,rfl,hc,ho,_⟩:=hv
  by_cases h0:cap=0
  ·have hn0:n=0:=by omega
   subst hn0
   left; exact ⟨by simp,_,_,rfl⟩
  ·have ho:o=i * C.sz c:=by
    rcases ho with ho | ho
    ·exact absurd ho h0
    ·exact ho
   subst ho
   right
   refine ⟨k,i * C.sz c,cap,by rw [Qm,hlen],by rw [Qm,hlen]; exact hc,hJ k h1,?_⟩
   have:=Vd6 n (Vhn i h2)
   simp only [Qv] at this
   rw [Qam,Qan]
   exact Vcc (Vag hI) _ _ k _ rfl this
theorem Vh1 {α β:Type} (f:α→(β→Option (List β))→Option (List β)) (f1:α→Option β) (hf:∀ x K,f x K=(f1 x).bind K):∀ (l:List α) (r:List β),mapK f l some=some r→l.mapM f1=some r:=by
 have gen:∀ (l:List α) (K:List β→Option (List β)),mapK f l K=(l.mapM f1).bind K:=by
  intro l
  induction l with
  | nil=>intro K; simp [mapK]
  | cons x l ih=>
   intro K
   simp only [mapK,hf,Qbj,Qa0,Qa]
   congr 1; funext y
   rw [ih]
   simp [Qa]
 intro l r h
 rw [gen l some] at h
 simpa using h
theorem Vks {f1:DT T→Option (DT T)} {J:Nat→Prop} {loc':Nat→Nat→Loc}:∀ (l r:List (DT T)) (vs:List Value),l.mapM f1=some r→VL I w (denL C l) loc vs →
  (∀ d d' v,d∈l→f1 d=some d'→V I w (den C d) loc v→V J w (den C d') loc' v∧d'.clean=true)→VL J w (denL C r) loc' vs∧cleanL r=true
 | [],r,vs,h,hv,_=>by
  simp only [List.mapM_nil,Qa8,Qb] at h; subst h
  exact ⟨by simpa only [denL,VL] using hv,rfl⟩
 | d::l,r,vs,h,hv,hf=>by
  simp only [Qbj,Qa0,Qi,Qa8,Qb] at h
  obtain ⟨d',h1,r',h2,rfl⟩:=h
  simp only [denL,VL] at hv ⊢
  obtain ⟨v,vr,rfl,hv1,hv2⟩:=hv
  obtain ⟨g1,g2⟩:=hf d d' v (by simp) h1 hv1
  obtain ⟨g3,g4⟩:=Vks l r' vr h2 hv2 (fun d d' v hd=>hf d d' v (by simp [hd]))
  exact ⟨⟨v,vr,rfl,g1,g3⟩,by simp [cleanL,g2,g4]⟩
theorem Vnk (hC:CdOk C) (hm:MRel O I loc (denM C m) w) (hw:WfM L m) {J:Nat→Prop} (hI:∀ k,I k→J k) (sn:Bool):∀ (n:Nat) (d d':DT T) (v:Value),
  ((∀ k,k < w.heap.size→J k)∨(sn=false∧Held J loc m (refs n d)))→purK C m sn n d some=some d'→WfD L d→V I w (den C d) loc v→V J w (den C d') free v∧d'.clean=true
 | 0,d,d',v,hJ,h,hwf,hv=>by cases h
 | n+1,d,d',v,hJ,h,hwf,hv=>by
  have list:∀ (cs cs':List (DT T)) (vs:List Value),(∀ d∈cs,WfD L d)→(∀ d∈cs,(∀ k,k < w.heap.size→J k)∨(sn=false∧Held J loc m (refs n d)))→mapK (purK C m sn n) cs some=some cs'→VL I w (denL C cs) loc vs→VL J w (denL C cs') free vs∧cleanL cs'=true:=by
   intro cs cs' vs hwf hJ h hv
   have h2:=Vh1 (purK C m sn n) (fun d=>purK C m sn n d some) (fun x K=>Vfq C m sn n x K) cs cs' h
   exact Vks cs cs' vs h2 hv (fun d d' v hd h1 hv1=>Vnk hC hm hw hI sn n d d' v (hJ d hd) h1 (hwf d hd) hv1)
  have fin:∀ {d0:DT T},d0.clean=true→some d0=some d'→V J w (den C d0) free v→V J w (den C d') free v∧d'.clean=true:=by
   intro d0 hc he hv0
   simp only [Qb] at he; subst he
   exact ⟨hv0,hc⟩
  have up:∀ {d0:DT T},(den C d0).pure=true→V I w (den C d0) loc v→V J w (den C d0) free v:=fun hp hv0=>
   Va4 (Vag hI) _ free free v (.refl _) (Vx0 hp hv0)
  simp only [purK] at h
  cases d<;>simp only [] at h
  case bw b g c k=>
   split at h
   case h_2=>cases h
   rename_i l hl
   have hb:b < m.length:=by
    simp only [den,V] at hv
    exact Va6 (C:=C) (g:=g) hm (by intro e; simp [e] at hv)
   refine fin rfl h (Vwh hm hw hI hl hwf hv fun k hk=>?_)
   rcases hJ with hJ | ⟨_,hJ⟩
   ·exact hJ k (Vtl hm hl hb hk)
   ·exact hJ b (by simp [refs]) g c l hb (Vbt hl) k hk
  case bs b g c i k=>
   split at h
   case h_2=>cases h
   rename_i l hl
   have hb:b < m.length:=by
    simp only [den,V] at hv
    exact Va6 (C:=C) (g:=g) hm (by intro e; simp [e] at hv)
   unfold winK at h
   cases hd:decide (k+i≤l.length)<;>simp only [hd,cond_true,cond_false] at h
   ·cases h
   refine fin rfl h (Vwi hm hw hI hl (of_decide_eq_true hd) hv fun k hk=>?_)
   rcases hJ with hJ | ⟨_,hJ⟩
   ·exact hJ k (Vtl hm hl hb hk)
   ·exact hJ b (by simp [refs]) g c l hb (Vbt hl) k hk
  case bp b off=>
   split at h
   case h_2=>cases h
   have hJ':∀ k,k < w.heap.size→J k:=by
    rcases hJ with hJ | ⟨hf,_⟩
    ·exact hJ
    ·cases hf
   split at h
   case h_2=>cases h
   rename_i cs hb
   rw [Vbs,Qi] at h
   obtain ⟨cs',h1,h2⟩:=h
   simp only [den,V] at hv
   have hlt:b < m.length:=Va6 (C:=C) (g:=0) hm (by intro e; simp [e] at hv)
   have hbx:=Vb9 hm hlt
   rw [hb] at hbx; simp only [denB,RelB] at hbx
   obtain ⟨_,k,c,el,fz,hl,hwk,_,hone,hvl⟩:=hbx
   simp only [hl] at hv; subst hv
   have hwb:=hw b
   rw [hb] at hwb
   have hvd:=Vc6 off hvl
   rw [← Va2] at hvd
   obtain ⟨g1,g2⟩:=list (cs.drop off) cs' _ (fun d hd=>WfL_iff.1 hwb d (Qaj hd)) (fun _ _=>.inl hJ') h1 hvd
   have hk:k < w.heap.size:=by
    rcases Qu k w.heap.size with h | h
    ·exact h
    ·rw [Array.getElem?_eq_none h] at hwk; cases hwk
   refine fin rfl h2 ?_
   simp only [den,V]
   refine ⟨k,off,rfl,hJ' k hk,Vdm g1 (fun x hx=>hone x (Qaj hx)) fun j x hj=>?_⟩
   rw [Qap] at hj
   simp [World.cell?,hwk]
   simpa using hj
  case ap b g c i off=>
   split at h
   case h_2=>cases h
   have hJ':∀ k,k < w.heap.size→J k:=by
    rcases hJ with hJ | ⟨hf,_⟩
    ·exact hJ
    ·cases hf
   split at h
   case h_2=>cases h
   rename_i l hl
   rw [Qi] at h
   obtain ⟨x,h1,h2⟩:=h
   simp only [den,V] at hv
   have hlt:b < m.length:=Va6 (C:=C) (g:=g) hm (by intro e; simp [e] at hv)
   obtain ⟨_,hat⟩:=Vnj hm hw hl hlt
   rcases hat with ⟨_,rfl⟩ | ⟨k,hk,hvr⟩
   ·simp at h1
   simp only [hk] at hv; subst hv
   have hrow:=Vfj hvr (i:=i) (row:=C.encD c x) (by simp [h1])
   refine fin rfl h2 ?_
   simp only [den,V,Va2,hC.enc]
   refine ⟨k,_,rfl,hJ' k (Vtl hm hl hlt hk),?_⟩
   have:=Vf5 off hrow.2
   simp only [Qv] at this
   exact Vf4 (Vag hI) _ k _ rfl this
  case agg cs=>
   rw [Vbs,Qi] at h
   obtain ⟨cs',h1,h2⟩:=h
   simp only [den,V] at hv
   obtain ⟨vs,rfl,hone,hvl⟩:=hv
   simp only [WfD] at hwf
   obtain ⟨g1,g2⟩:=list cs cs' vs (WfL_iff.1 hwf) (fun d hd=>by
    rcases hJ with hJ | ⟨hf,hJ⟩
    ·exact .inl hJ
    ·exact .inr ⟨hf,fun b hb=>hJ b (by simp only [refs,Qar]; exact ⟨d,hd,hb⟩)⟩) h1 hvl
   exact fin (d0:=.agg cs') (by simp [DT.clean,g2]) h2 (by simp only [den,V]; exact ⟨vs,rfl,hone,g1⟩)
  case fn f cs=>
   rw [Vbs,Qi] at h
   obtain ⟨cs',h1,h2⟩:=h
   simp only [den,V] at hv
   obtain ⟨vs,rfl,hvl⟩:=hv
   simp only [WfD] at hwf
   obtain ⟨g1,g2⟩:=list cs cs' vs (WfL_iff.1 hwf) (fun d hd=>by
    rcases hJ with hJ | ⟨hf,hJ⟩
    ·exact .inl hJ
    ·exact .inr ⟨hf,fun b hb=>hJ b (by simp only [refs,Qar]; exact ⟨d,hd,hb⟩)⟩) h1 hvl
   exact fin (d0:=.fn f cs') (by simp [DT.clean,g2]) h2 (by simp only [den,V]; exact ⟨vs,rfl,g1⟩)
  case tup cs=>cases h
  case mp b=>cases h
  case rn c l=>exact fin rfl h (up (by cases l<;>rfl) hv)
  all_goals exact fin rfl h (up rfl hv)
end
section
variable {T:Nat→Type} {C:Cd T} {O I:Nat→Prop} {w:World} {loc:Nat→Nat→Loc} {L:Nat→Nat→Nat} {m:MT T} {P:Program} {Y:Nat→Option TI} {R:Type}
mutual
theorem Vp7:∀ d:DT T,d.pure=true→d.clean=true
 | .agg cs,h=>by simp only [DT.pure] at h; simp only [DT.clean]; exact Vcz cs h
 | .dead,_=>rfl
 | .bool _,_=>rfl
 | .int _ _,_=>rfl
 | .u8 _,_=>rfl
 | .u16 _,_=>rfl
 | .u32 _,_=>rfl
 | .u64 _,_=>rfl
 | .str _,_=>rfl
 | .lit _,_=>rfl
 | .nilp,_=>rfl
 | .nils,_=>rfl
 | .rs _ _,_=>rfl
 | .rn _ _,_=>rfl
 | .rp _,_=>rfl
 | .bp _ _,h=>by cases h
 | .mp _,h=>by cases h
 | .ap _ _ _ _ _,h=>by cases h
 | .bs _ _ _ _ _,h=>by cases h
 | .bw _ _ _ _,h=>by cases h
 | .tup _,h=>by cases h
 | .fn _ _,h=>by cases h
theorem Vcz:∀ l:List (DT T),pureTL l=true→cleanL l=true
 | [],_=>rfl
 | d::r,h=>by
  simp only [pureTL,Qg] at h
  simp only [cleanL,Qg]
  exact ⟨Vp7 d h.1,Vcz r h.2⟩
end
theorem Vfr:∀ {a b:List (DT T)},cleanL a=true→cleanL b=true→cleanL (a++b)=true
 | [],_,_,hb=>hb
 | d::r,b,ha,hb=>by
  simp only [cleanL,Qg,Qaa] at ha ⊢
  exact ⟨ha.1,Vfr ha.2 hb⟩
theorem Vaq (hC:CdOk C):∀ (t:VT) (x:t.ty T),cleanL (encC C t x)=true
 | .agg c,x=>Vcz _ (hC.epure c x)
 | .fn f cs,x=>by simp only [encC,cleanL,DT.clean,Vaq hC cs x,Qay]
 | .cons a b,x=>Vfr (Vaq hC a x.1) (Vaq hC b x.2)
 | .bool,_=>rfl
 | .int _,_=>rfl
 | .u8,_=>rfl
 | .u16,_=>rfl
 | .u32,_=>rfl
 | .u64,_=>rfl
 | .str,_=>rfl
 | .rs _,_=>rfl
 | .ref _,_=>rfl
 | .nil,_=>rfl
 | .kn,_=>rfl
theorem Vcu (a b:List (DT T)):denL C (a++b)=denL C a++denL C b:=by simp [Vau]
theorem Vb1 {cs:List (DT T)} {d:DT T} (h:one1 cs=d) (hd:d≠.dead):cs=[d]:=by
 unfold one1 at h
 split at h
 ·rw [h]
 ·exact absurd h.symm hd
theorem Vh2 {d:DT T} {x:Bool} (h:asBool d=some x):d = .bool x:=by
 unfold asBool at h; split at h<;>simp_all
theorem Vjh {k:IntKind} {d:DT T} {x:Int} (h:asInt k d=some x):d = .int k x:=by
 unfold asInt at h
 split at h
 ·split at h
  ·rename_i hk; have hk:=of_decide_eq_true hk; simp_all
  ·cases h
 ·cases h
theorem Vmc {d:DT T} {x:UInt8} (h:asU8 d=some x):d = .u8 x:=by
 unfold asU8 at h; split at h<;>simp_all
theorem Vji {d:DT T} {x:BitVec 16} (h:asU16 d=some x):d = .u16 x:=by
 unfold asU16 at h; split at h<;>simp_all
theorem Vjj {d:DT T} {x:BitVec 32} (h:asU32 d=some x):d = .u32 x:=by
 unfold asU32 at h; split at h<;>simp_all
theorem Vjk {d:DT T} {x:BitVec 64} (h:asU64 d=some x):d = .u64 x:=by
 unfold asU64 at h; split at h<;>simp_all
theorem Vjl {d:DT T} {x:List UInt8} (h:asStr d=some x):d = .str x:=by
 unfold asStr at h; split at h<;>simp_all
theorem Vmd {c:Nat} {d:DT T} {l:List (T c)} (h:asRs c d=some l):(d = .nils∧l=[])∨d = .rs c l∨d = .rn c l:=by
 unfold asRs at h
 split at h
 ·simp only [Qb] at h; exact .inl ⟨rfl,h.symm⟩
 ·split at h
  ·rename_i hc _
   subst hc
   simp only [Qb] at h; subst h; exact .inr (.inl rfl)
  ·cases h
 ·split at h
  ·rename_i hc _
   subst hc
   simp only [Qb] at h; subst h; exact .inr (.inr rfl)
  ·cases h
 ·cases h
theorem Vtm {c:Nat} {d:DT T} {l:List (T c)} (h:asRn c d=some l):(d = .nils∧l=[])∨d = .rn c l:=by
 unfold asRn at h
 split at h
 ·simp only [Qb] at h; exact .inl ⟨rfl,h.symm⟩
 ·split at h
  ·rename_i hc _
   subst hc
   simp only [Qb] at h; subst h; exact .inr rfl
  ·cases h
 ·cases h
theorem Vtn {d:DT T} {x:List (DT T)} (h:asRp d=some x):d = .rp x:=by
 unfold asRp at h; split at h<;>simp_all
theorem Vnl {d:DT T} {x:Unit} (h:asNils d=some x):d = .nils:=by
 unfold asNils at h; split at h<;>simp_all
theorem Vto {f:Nat} {d:DT T} {x:List (DT T)} (h:asFn f d=some x):d = .fn f x:=by
 unfold asFn at h
 split at h
 ·split at h
  ·rename_i hk; have hk:=Qf hk; simp_all
  ·cases h
 ·cases h
theorem Vkt {I:Nat→Prop} {w:World} {v:Value} {s:Nat} (h:V I w .nils free v):V I w (.rs s []) free v:=by
 simp only [V] at h ⊢
 exact .inl ⟨trivial,none,0,h⟩
theorem Vnm {I:Nat→Prop} {w:World} {v:Value} {s:Nat} {rows:List (List D)} (h:V I w (rnD s rows) free v):V I w (.rs s rows) free v:=by
 cases rows with
 | nil=>exact Vkt h
 | cons _ _=>exact h
theorem Vtp (hC:CdOk C):∀ (t:VT) (cs:List (DT T)) (x:t.ty T),decC C t cs=some x→∀ (I:Nat→Prop) (w:World) (vs:List Value),VL I w (denL C cs) free vs→VL I w (denL C (encC C t x)) free vs:=by
 intro t
 induction t with
 | bool=>intro cs x h I w vs hv; rw [Vb1 (Vh2 h) (by simp)] at hv; exact hv
 | int k=>intro cs x h I w vs hv; rw [Vb1 (Vjh h) (by simp)] at hv; exact hv
 | u8=>intro cs x h I w vs hv; rw [Vb1 (Vmc h) (by simp)] at hv; exact hv
 | u16=>intro cs x h I w vs hv; rw [Vb1 (Vji h) (by simp)] at hv; exact hv
 | u32=>intro cs x h I w vs hv; rw [Vb1 (Vjj h) (by simp)] at hv; exact hv
 | u64=>intro cs x h I w vs hv; rw [Vb1 (Vjk h) (by simp)] at hv; exact hv
 | str=>intro cs x h I w vs hv; rw [Vb1 (Vjl h) (by simp)] at hv; exact hv
 | kn=>intro cs x h I w vs hv; rw [Vb1 (Vnl h) (by simp)] at hv; exact hv
 | rs c=>
  intro cs x h I w vs hv
  rcases Vmd h with ⟨h1,h2⟩ | h1
  ·subst h2
   rw [Vb1 h1 (by simp)] at hv
   simp only [denL,den,VL,encC] at hv ⊢
   obtain ⟨v,vr,rfl,h3,h4⟩:=hv
   exact ⟨v,vr,rfl,Vkt h3,h4⟩
  ·rcases h1 with h1 | h1
   ·rw [Vb1 h1 (by simp)] at hv; exact hv
   ·rw [Vb1 h1 (by simp)] at hv
    simp only [denL,den,VL,encC] at hv ⊢
    obtain ⟨v,vr,rfl,h3,h4⟩:=hv
    exact ⟨v,vr,rfl,Vnm h3,h4⟩
 | agg c=>intro cs x h I w vs hv; exact (congrArg (fun q=>VL I w q free vs) (hC.enc c x)).mpr ((hC.dec c cs x h).2 I w vs hv)
 | ref t ih=>
  intro cs x h I w vs hv
  simp only [decC] at h
  split at h
  case h_2=>cases h
  rename_i ds hd
  rw [Vb1 (Vtn hd) (by simp)] at hv
  simp only [denL,den,VL,encC] at hv ⊢
  obtain ⟨v,vr,rfl,h3,h4⟩:=hv
  refine ⟨v,vr,rfl,?_,h4⟩
  simp only [V] at h3 ⊢
  obtain ⟨b,o,rfl,hI,hvc⟩:=h3
  obtain ⟨us,u1,u2,u3⟩:=Vc8 (Vsx (t.sz C) hvc)
  rw [← Vdd] at u1
  exact ⟨b,o,rfl,hI,Vdm (ih _ x h I w us u1) u2 u3⟩
 | fn f c ih=>
  intro cs x h I w vs hv
  simp only [decC] at h
  split at h
  case h_2=>cases h
  rename_i ds hd
  rw [Vb1 (Vto hd) (by simp)] at hv
  simp only [denL,den,VL,encC] at hv ⊢
  obtain ⟨v,vr,rfl,h3,h4⟩:=hv
  refine ⟨v,vr,rfl,?_,h4⟩
  simp only [V] at h3 ⊢
  obtain ⟨us,rfl,hu⟩:=h3
  exact ⟨us,rfl,ih _ x h I w us hu⟩
 | nil=>
  intro cs x h I w vs hv
  simp only [decC] at h
  split at h
  ·exact hv
  ·cases h
 | cons a b iha ihb=>
  intro cs x h I w vs hv
  simp only [decC] at h
  split at h
  case h_2=>cases h
  rename_i y hy
  split at h
  case h_2=>cases h
  rename_i z hz
  cases h
  show VL I w (denL C (encC C a y++encC C b z)) free vs
  rw [Vcu]
  have h1:=iha _ y hy I w (vs.take (a.sz C)) (by rw [Vdd]; exact Vd5 _ hv)
  have h2:=ihb _ z hz I w (vs.drop (a.sz C)) (by rw [Va2]; exact Vc6 _ hv)
  have:=Va0 h1 h2
  rwa [Q0] at this
def encLD1 (C:Cd T):(l:Lf)→l.ty T→D
 | .bool,x=>.bool x
 | .int k,x=>.int k x
 | .u8,x=>.int .u8 x.toNat
 | .u16,x=>.int .u16 x.toNat
 | .u32,x=>.int .u32 x.toNat
 | .u64,x=>.int .u64 x.toNat
 | .str,x=>.str x
 | .rs c,x=>.rs (C.sz c) (x.map (C.encD c))
 | .rn c,x=>rnD (C.sz c) (x.map (C.encD c))
def encLD (C:Cd T):(ls:List Lf)→tyLs T ls→List D
 | [],_=>[]
 | l::r,x=>encLD1 C l x.1::encLD C r x.2
theorem Vwj (C:Cd T) {l:Lf} {d:DT T} {x:l.ty T} (h:decL1 l d=some x):(d.pure&&d.one)=true∧∀ (I:Nat→Prop) (w:World) (v:Value),V I w (den C d) free v→V I w (encLD1 C l x) free v:=by
 cases l with
 | bool=>rw [Vh2 h]; exact ⟨rfl,fun _ _ _ hv=>hv⟩
 | int k=>rw [Vjh h]; exact ⟨rfl,fun _ _ _ hv=>hv⟩
 | u8=>rw [Vmc h]; exact ⟨rfl,fun _ _ _ hv=>hv⟩
 | u16=>rw [Vji h]; exact ⟨rfl,fun _ _ _ hv=>hv⟩
 | u32=>rw [Vjj h]; exact ⟨rfl,fun _ _ _ hv=>hv⟩
 | u64=>rw [Vjk h]; exact ⟨rfl,fun _ _ _ hv=>hv⟩
 | str=>rw [Vjl h]; exact ⟨rfl,fun _ _ _ hv=>hv⟩
 | rs c=>
  rcases Vmd h with ⟨h1,h2⟩ | h1
  ·subst h2; rw [h1]; exact ⟨rfl,fun _ _ _ hv=>Vkt hv⟩
  ·rcases h1 with h1 | h1
   ·rw [h1]; exact ⟨rfl,fun _ _ _ hv=>hv⟩
   ·rw [h1]; exact ⟨rfl,fun _ _ _ hv=>Vnm hv⟩
 | rn c=>
  rcases Vtm h with ⟨h1,h2⟩ | h1
  ·subst h2; rw [h1]; exact ⟨rfl,fun _ _ _ hv=>hv⟩
  ·rw [h1]; exact ⟨rfl,fun _ _ _ hv=>hv⟩
theorem Vtq (C:Cd T):∀ (ls:List Lf) (ds:List (DT T)) (x:tyLs T ls),decL ls ds=some x→solidL ds=true∧∀ (I:Nat→Prop) (w:World) (vs:List Value),VL I w (denL C ds) free vs→VL I w (encLD C ls x) free vs
 | [],[],x,_=>⟨rfl,fun _ _ _ hv=>hv⟩
 | [],_::_,x,h=>by cases h
 | _::_,[],x,h=>by cases h
 | l::r,d::ds,x,h=>by
  simp only [decL] at h
  split at h
  case h_2=>cases h
  rename_i y hy
  split at h
  case h_2=>cases h
  rename_i z hz
  cases h
  obtain ⟨h1,h2⟩:=Vwj C hy
  obtain ⟨h3,h4⟩:=Vtq C r ds z hz
  refine ⟨by simp only [solidL,h1,h3,Qay],fun I w vs hv=>?_⟩
  simp only [denL,VL] at hv
  obtain ⟨v,vr,rfl,hv1,hv2⟩:=hv
  simp only [encLD,VL]
  exact ⟨v,vr,rfl,h2 I w v hv1,h4 I w vr hv2⟩
theorem Vca (C:Cd T) {c:Nat} (ls:List Lf) {of:tyLs T ls→T c} {e:T c→List D} (he:∀ y,e (of y)=encLD C ls y) (ds:List (DT T)) (x:T c) (h:(decL ls ds).map of=some x) :
  solidL ds=true∧∀ (I:Nat→Prop) (w:World) (vs:List Value),VL I w (denL C ds) free vs→VL I w (e x) free vs:=by
 rw [Qe] at h
 obtain ⟨y,hy,rfl⟩:=h
 rw [he]
 exact Vtq C ls ds y hy
theorem Vjm (hC:CdOk C) (hm:MRel O I loc (denM C m) w) (hw:WfM L m) {cs:List (DT T)} {vs:List Value} {K:List (DT T) → MT T → Option R} {r:R} (hwf:WfL L cs) (hv:VL I w (denL C cs) loc vs) (h:frK C m cs K=some r) :
    ∃ cs' m' I',MRel O I' loc (denM C m') w ∧ WfM L m' ∧ (∀ k,I k → I' k) ∧ (∀ k,I' k → I k ∨ ∃ b g c l,b < m.length ∧ m.get b = .arr g c l ∧ loc b g = .blk k) ∧ VL I' w (denL C cs') free vs ∧ cleanL cs'=true ∧ m'.length=m.length ∧
      (∀ b,m'.get b=m.get b ∨ ∃ g c l,m.get b = .arr g c l ∧ m'.get b = .frz g c l) ∧ K cs' m'=some r:=by
  unfold frK at h
  rw [Vbs,Qi] at h
  obtain ⟨cs',h1,h2⟩:=h
  obtain ⟨I',g1,g2,g3,g4,g5,g6,g7⟩:=Voz (cs.flatMap (refs 4)) hm hw
  have h3:=Vh1 (purK C m false 4) (fun d=>purK C m false 4 d some) (fun x K=>Vfq C m false 4 x K) cs cs' h1
  have:=Vks cs cs' vs h3 hv (fun d d' v hd hp hv1=>Vnk hC hm hw g3 false 4 d d' v (.inr ⟨rfl,fun b hb=>g7 b (by simp only [Qar]; exact ⟨d,hd,hb⟩)⟩) hp (WfL_iff.1 hwf d hd) hv1)
  exact ⟨cs',_,I',g1,g2,g3,g4,this.1,this.2,g5,g6,h2⟩
theorem Vme (hm:MRel O I loc (denM C m) w) {I':Nat→Prop} (h:∀ k,I' k→I k∨∃ b g c l,b < m.length∧m.get b=BoxT.arr g c l∧loc b g = .blk k):∀ k,I' k→I k∨O k:=fun k hk=>by
 rcases h k hk with h | ⟨b,g,c,l,h1,h2,h3⟩
 ·exact .inl h
 ·exact .inr (hm.own b g k h1 (by simp [denM,h2,denB,Box.owned]) h3).1
end
section
variable {P:Program} {I:Nat→Prop} {w:World} {loc:Nat→Nat→Loc}
theorem Vc9:∀ {q:List Nat} {xs ys:List D} {r:Bool},eqCells q xs ys=some r →
  (∀ (I:Nat→Prop) (w:World) (loc:Nat→Nat→Loc) (vs:List Value),VL I w xs loc vs↔vs=xs.map dval) ∧
  (∀ (I:Nat→Prop) (w:World) (loc:Nat→Nat→Loc) (vs:List Value),VL I w ys loc vs↔vs=ys.map dval) ∧
  (r=true→xs.map dval=ys.map dval)∧(∀ n,∀ v∈xs.map dval,Instr.sameBits n v v=true)
 | [],xs,ys,r,h=>by
  cases xs<;>cases ys<;>simp [eqCells] at h
  simp [VL]
 | k::q,xs,ys,r,h=>by
  unfold eqCells at h
  split at h
  ·rename_i e
   cases e
  ·rename_i q' k1 a xr k2 b yr e
   cases e
   split at h
   case isFalse=>cases h
   rename_i hk
   subst hk
   rw [Qe] at h
   obtain ⟨r',h1,h2⟩:=h
   obtain ⟨i1,i2,i3,i4⟩:=Vc9 h1
   refine ⟨fun I w loc vs=>?_,fun I w loc vs=>?_,fun hr=>?_,fun n v hv=>?_⟩
   ·simp only [VL,V,Qj,dval]
    constructor
    ·rintro ⟨v,vr,rfl,rfl,h3⟩; rw [(i1 I w loc vr).1 h3]
    ·rintro rfl; exact ⟨_,_,rfl,rfl,(i1 I w loc _).2 rfl⟩
   ·simp only [VL,V,Qj,dval]
    constructor
    ·rintro ⟨v,vr,rfl,rfl,h3⟩; rw [(i2 I w loc vr).1 h3]
    ·rintro rfl; exact ⟨_,_,rfl,rfl,(i2 I w loc _).2 rfl⟩
   ·subst hr
    simp only [Qg,beq_iff_eq] at h2
    simp only [Qj,dval,h2.1,i3 h2.2]
   ·simp only [Qj,dval,Q8] at hv
    rcases hv with rfl | hv
    ·simp [Instr.sameBits]
    ·exact i4 n v hv
  ·rename_i q' a xr b yr e
   cases e
   rw [Qe] at h
   obtain ⟨r',h1,h2⟩:=h
   obtain ⟨i1,i2,i3,i4⟩:=Vc9 h1
   refine ⟨fun I w loc vs=>?_,fun I w loc vs=>?_,fun hr=>?_,fun n v hv=>?_⟩
   ·simp only [VL,V,Qj,dval]
    constructor
    ·rintro ⟨v,vr,rfl,rfl,h3⟩; rw [(i1 I w loc vr).1 h3]
    ·rintro rfl; exact ⟨_,_,rfl,rfl,(i1 I w loc _).2 rfl⟩
   ·simp only [VL,V,Qj,dval]
    constructor
    ·rintro ⟨v,vr,rfl,rfl,h3⟩; rw [(i2 I w loc vr).1 h3]
    ·rintro rfl; exact ⟨_,_,rfl,rfl,(i2 I w loc _).2 rfl⟩
   ·subst hr
    simp only [Qg,beq_iff_eq] at h2
    simp only [Qj,dval,h2.1,i3 h2.2]
   ·simp only [Qj,dval,Q8] at hv
    rcases hv with rfl | hv
    ·simp [Instr.sameBits]
    ·exact i4 n v hv
  ·rename_i q' a xr b yr e
   cases e
   rw [Qe] at h
   obtain ⟨r',h1,h2⟩:=h
   obtain ⟨i1,i2,i3,i4⟩:=Vc9 h1
   refine ⟨fun I w loc vs=>?_,fun I w loc vs=>?_,fun hr=>?_,fun n v hv=>?_⟩
   ·simp only [VL,V,Qj,dval]
    constructor
    ·rintro ⟨v,vr,rfl,rfl,h3⟩; rw [(i1 I w loc vr).1 h3]
    ·rintro rfl; exact ⟨_,_,rfl,rfl,(i1 I w loc _).2 rfl⟩
   ·simp only [VL,V,Qj,dval]
    constructor
    ·rintro ⟨v,vr,rfl,rfl,h3⟩; rw [(i2 I w loc vr).1 h3]
    ·rintro rfl; exact ⟨_,_,rfl,rfl,(i2 I w loc _).2 rfl⟩
   ·subst hr
    simp only [Qg,beq_iff_eq] at h2
    simp only [Qj,dval,h2.1,i3 h2.2]
   ·simp only [Qj,dval,Q8] at hv
    rcases hv with rfl | hv
    ·simp only [Instr.sameBits,beq_toListBytes,beq_self_eq_true]
    ·exact i4 n v hv
  ·cases h
def hit {α:Type} (f:α→Bool):List α→Nat→Option Nat
 | [],_=>none
 | x::r,i=>match f x with
  | true=>some i
  | false=>hit f r (i+1)
theorem Vnn {α:Type} (f:α→Bool):∀ (l:List α) (i:Nat),(hit f l i).isSome=l.any f
 | [],_=>rfl
 | x::r,i=>by
  simp only [hit,List.any_cons]
  cases f x
  ·simpa using Vnn f r (i+1)
  ·rfl
theorem Vx2 {α:Type} (f:α→Bool):∀ (l:List α) (i j:Nat),hit f l i=some j→∃ k x,j=i+k∧l[k]? = some x∧f x=true
 | [],_,_,h=>by cases h
 | x::r,i,j,h=>by
  simp only [hit] at h
  split at h
  ·rename_i hx
   simp only [Qb] at h; subst h
   exact ⟨0,x,rfl,rfl,hx⟩
  ·obtain ⟨k,y,h1,h2,h3⟩:=Vx2 f r (i+1) j h
   exact ⟨k+1,y,by omega,by simpa using h2,h3⟩
structure KeyTy (P:Program) (kt:TypeId) (a:Bool) (q:List Nat):Prop where
 here:(a=false∧((P.underlying kt=some .string∧q=[2])∨(∃ k,P.underlying kt=some (.int k)∧q=[3])∨(P.underlying kt=some .bool∧q=[1]))) ∨
  (a=true∧flatEq P kt=some q∧∃ fs,P.underlying kt=some (.struct fs))
theorem Vku {n:Nat} {xs ys:List D} {r:Bool} (h:eqCells [n] xs ys=some r) :
  (n=3∧∃ k a b,xs=[.int k a]∧ys=[.int k b]∧r=(a == b))∨(n=1∧∃ a b,xs=[.bool a]∧ys=[.bool b]∧r=(a == b))∨(n=2∧∃ a b,xs=[.str a]∧ys=[.str b]∧r=(a == b)):=by
 unfold eqCells at h
 have nil:∀ {xr yr:List D} {r':Bool},eqCells [] xr yr=some r'→xr=[]∧yr=[]∧r'=true:=by
  intro xr yr r' h
  cases xr<;>cases yr<;>simp [eqCells] at h
  exact ⟨rfl,rfl,h⟩
 split at h
 ·rename_i e; cases e
 ·rename_i q' k1 a xr k2 b yr e
  cases e
  split at h
  case isFalse=>cases h
  rename_i hk
  subst hk
  rw [Qe] at h
  obtain ⟨r',h1,h2⟩:=h
  obtain ⟨rfl,rfl,rfl⟩:=nil h1
  exact .inl ⟨rfl,_,a,b,rfl,rfl,by simp [← h2]⟩
 ·rename_i q' a xr b yr e
  cases e
  rw [Qe] at h
  obtain ⟨r',h1,h2⟩:=h
  obtain ⟨rfl,rfl,rfl⟩:=nil h1
  exact .inr (.inl ⟨rfl,a,b,rfl,rfl,by simp [← h2]⟩)
 ·rename_i q' a xr b yr e
  cases e
  rw [Qe] at h
  obtain ⟨r',h1,h2⟩:=h
  obtain ⟨rfl,rfl,rfl⟩:=nil h1
  exact .inr (.inr ⟨rfl,a,b,rfl,rfl,by simp [← h2]⟩)
 ·cases h
theorem Vdya (a b:List UInt8):((⟨a.toArray⟩:ByteArray) == ⟨b.toArray⟩)=(a == b):=by
 rw [beq_toListBytes,Vfk,Vfk]
theorem Vmf {t:TypeId} {q:List Nat} {xs ys:List D} {us vs:List Value} {r:Bool} {fs:Array Field} (hfs:P.underlying t=some (.struct fs)) (hq:flatEq P t=some q) (hus:VL I w xs loc us) (hvs:VL I w ys loc vs)
  (hr:eqCells q xs ys=some r):(Op.equal t (.agg us.toArray) (.agg vs.toArray)).run P w = .ok r w:=by
 unfold flatEq at hq
 rw [hfs] at hq
 simp only [] at hq
 split at hq
 case isFalse=>cases hq
 rename_i hc
 have hff:P.underlying t=some (.struct (P.fieldsOf t)):=by simp [Program.fieldsOf,hfs]
 have hfo:P.fieldsOf t=fs:=by simp [Program.fieldsOf,hfs]
 unfold Op.equal
 show (Op.equalIn 10000 t _ _).run P w=_
 rw [run_equalIn_agg w 9999 t _ _ hff hc.1,hfo]
 exact Vdk fs.toList 0 9998 q xs ys us vs r hq (by simpa using hus) (by simpa using hvs) hr
theorem Vmg:∀ {fs:List Field} {o:Nat} {q:List Nat} {xs ys:List D} {us:List Value} {r:Bool},flatFields P fs o=some q→VL I w xs loc (us.drop o)→eqCells q xs ys=some r →
  ∀ f ∈ fs, f.name ≠ "_" ∧ fkind P f.type ≠ 0 ∧ ∃ u, us[f.offset]? = some u
 | [],_,_,_,_,_,_,_,_,_,f,hf=>by cases hf
 | f::fs,o,q,xs,ys,us,r,hq,hx,he,g,hg=>by
  simp only [flatFields] at hq
  split at hq
  case isFalse=>cases hq
  rename_i hc
  obtain ⟨hname,hoff,hty⟩:=hc
  rw [Qe] at hq
  obtain ⟨q',hrest,rfl⟩:=hq
  have tl:∃ x xr y yr r',xs=x::xr∧ys=y::yr∧eqCells q' xr yr=some r':=by
   generalize fkind P f.type=kk at he
   unfold eqCells at he
   split at he
   ·rename_i e; cases e
   ·rename_i e; cases e
    split at he
    ·rw [Qe] at he
     obtain ⟨r',h1,_⟩:=he
     exact ⟨_,_,_,_,r',rfl,rfl,h1⟩
    ·cases he
   ·rename_i e; cases e
    rw [Qe] at he
    obtain ⟨r',h1,_⟩:=he
    exact ⟨_,_,_,_,r',rfl,rfl,h1⟩
   ·rename_i e; cases e
    rw [Qe] at he
    obtain ⟨r',h1,_⟩:=he
    exact ⟨_,_,_,_,r',rfl,rfl,h1⟩
   ·cases he
  obtain ⟨x,xr,y,yr,r',rfl,rfl,he'⟩:=tl
  simp only [VL] at hx
  obtain ⟨u,ur,hu,hxv,hxr⟩:=hx
  rcases List.mem_cons.1 hg with rfl | hg
  ·refine ⟨hname,hty,u,?_⟩
   have:=congrArg (fun l=>l[0]?) hu
   rw [hoff]; simpa using this
  ·have hu1:us.drop (o+1)=ur:=by have:=congrArg List.tail hu; simpa [List.tail_drop] using this
   exact Vmg hrest (by rw [hu1]; exact hxr) he' g hg
theorem Vi5 (em:Bool) (n:Nat) {t:TypeId} (h:fkind P t≠0) (v:Value):(Instr.checkKey em (n+1) t v).run P w = .ok () w:=by
 rcases Ve8 h with ⟨_,h⟩ | ⟨_,h⟩ | ⟨_,k,h⟩<;>simp [Instr.checkKey,run_underlying h]
theorem Vgg (em:Bool) (n:Nat) {t:TypeId} {d:TypeDesc} (hu:P.underlying t=some d) (hd:d = .string∨(∃ k,d = .int k)∨d = .bool) (v:Value):(Instr.checkKey em (n+1) t v).run P w = .ok () w:=by
 rcases hd with rfl | ⟨k,rfl⟩ | rfl<;>simp [Instr.checkKey,run_underlying hu]
theorem Vh3 {kt:TypeId} {a:Bool} {q:List Nat} (hk:KeyTy P kt a q) {xs ys:List D} {r:Bool} (he:eqCells q xs ys=some r) (em:Bool):(Instr.checkKey em 10000 kt (keyV a xs)).run P w = .ok () w:=by
 rcases hk.here with ⟨rfl,h⟩ | ⟨rfl,hq,fs,hfs⟩
 ·rcases h with ⟨h,rfl⟩ | ⟨k,h,rfl⟩ | ⟨h,rfl⟩
  ·exact Vgg em 9999 h (.inl rfl) _
  ·exact Vgg em 9999 h (.inr (.inl ⟨k,rfl⟩)) _
  ·exact Vgg em 9999 h (.inr (.inr rfl)) _
 ·have hv:=((Vc9 he).1 none' w free (xs.map dval)).2 rfl
  have hq0:=hq
  unfold flatEq at hq
  rw [hfs] at hq
  simp only [] at hq
  split at hq
  case isFalse=>cases hq
  have each:=Vmg (us:=xs.map dval) hq (by simpa using hv) he
  show (Instr.checkKey em (9999+1) kt (.agg (xs.map dval).toArray)).run P w = .ok () w
  rw [Instr.checkKey]
  simp only [Qq,run_underlying hfs,Ql]
  rw [← Array.forIn_toList]
  generalize fs.toList=L at each
  induction L with
  | nil=>simp
  | cons f L ih=>
   obtain ⟨hn,hty,u,hu⟩:=each f (by simp)
   have nagg:(isAgg f.type).run P w = .ok false w:=by
    rcases Ve8 hty with ⟨_,h⟩ | ⟨_,h⟩ | ⟨_,k,h⟩<;>simp [isAgg,run_underlying h]
   have hpu:(part f.type (xs.map dval).toArray f.offset).run P w = .ok u w:=by
    simp only [part,Qq,nagg,Ql]
    rw [Qah,hu]; rfl
   simp only [List.forIn_cons,Qq,hn,ne_eq,not_false_eq_true,if_true,Ql,hpu,Vi5 em 9998 hty u,Qx]
   exact ih (fun y hy=>each y (by simp [hy]))
def Ents (es:List MapEntry) (ks:List Value):Prop:=es.map (fun e=>(e.key,e.val))=ks.map fun x=>(x,.bool true)
theorem Vkv {α:Type} {kt:TypeId} {a:Bool} {q:List Nat} (hk:KeyTy P kt a q) {f:α→α→Bool} {enc:α→List D} (hf:∀ x y,eqCells q (enc x) (enc y)=some (f x y)) (y:α) {l:List α} {es:List MapEntry}
  (he:Ents es (l.map fun x=>keyV a (enc x))):(Instr.findKey kt (keyV a (enc y)) es).run P w = .ok ((hit (f y) l 0).map fun j=>(j,.bool true)) w:=by
 unfold Instr.findKey
 rcases hk.here with ⟨rfl,hd⟩ | ⟨rfl,hq,fs,hfs⟩
 ·obtain ⟨d,hu,hs⟩:∃ d,P.underlying kt=some d∧∀ x y,Instr.sameNow d (keyV false (enc x)) (keyV false (enc y))=some (f x y):=by
   rcases hd with ⟨h,rfl⟩ | ⟨k,h,rfl⟩ | ⟨h,rfl⟩
   ·refine ⟨_,h,fun x y=>?_⟩
    rcases Vku (hf x y) with ⟨h0,_⟩ | ⟨h0,_⟩ | ⟨_,p,q,h1,h2,h3⟩
    ·cases h0
    ·cases h0
    ·rw [h1,h2,h3]
     simp only [keyV,Qau,dval,Instr.sameNow,Qb]
     exact Vdya p q
   ·refine ⟨_,h,fun x y=>?_⟩
    rcases Vku (hf x y) with ⟨_,k',p,q,h1,h2,h3⟩ | ⟨h0,_⟩ | ⟨h0,_⟩
    ·rw [h1,h2,h3]
     simp [keyV,dval,Instr.sameNow]
    ·cases h0
    ·cases h0
   ·refine ⟨_,h,fun x y=>?_⟩
    rcases Vku (hf x y) with ⟨h0,_⟩ | ⟨_,p,q,h1,h2,h3⟩ | ⟨h0,_⟩
    ·cases h0
    ·rw [h1,h2,h3]
     simp [keyV,dval,Instr.sameNow]
    ·cases h0
  have main:∀ (l:List α) (es:List MapEntry) (i:Nat),Ents es (l.map fun x=>keyV false (enc x))→Instr.findNow d (keyV false (enc y)) es i=some ((hit (f y) l i).map fun j=>(j,.bool true)):=by
   intro l
   induction l with
   | nil=>
    intro es i he
    cases es with
    | nil=>rfl
    | cons e r=>simp [Ents] at he
   | cons x l ih=>
    intro es i he
    cases es with
    | nil=>simp [Ents] at he
    | cons e r=>
     simp only [Ents,Qj,List.cons.injEq,Qai] at he
     obtain ⟨⟨h1,h2⟩,h3⟩:=he
     simp only [Instr.findNow,h1,hs,h2,hit]
     cases f y x
     ·exact ih r (i+1) h3
     ·rfl
  simp only [Qq,run_underlying hu,Ql,main l es 0 he,Qx]
 ·have ask:∀ (l:List α) (es:List MapEntry) (i:Nat),Ents es (l.map fun x=>keyV true (enc x))→(Instr.findAsking kt (keyV true (enc y)) es i).run P w = .ok ((hit (f y) l i).map fun j=>(j,.bool true)) w:=by
   intro l
   induction l with
   | nil=>
    intro es i he
    cases es with
    | nil=>simp [Instr.findAsking,hit]
    | cons e r=>simp [Ents] at he
   | cons x l ih=>
    intro es i he
    cases es with
    | nil=>simp [Ents] at he
    | cons e r=>
     simp only [Ents,Qj,List.cons.injEq,Qai] at he
     obtain ⟨⟨h1,h2⟩,h3⟩:=he
     have heq:(Op.equal kt (keyV true (enc y)) (keyV true (enc x))).run P w = .ok (f y x) w:=
      Vmf (I:=none') (loc:=free) hfs hq (((Vc9 (hf y x)).1 none' w free _).2 rfl) (((Vc9 (hf y x)).2.1 none' w free _).2 rfl) (hf y x)
     simp only [Instr.findAsking,h1,Qq,heq,Ql,h2,hit]
     cases f y x
     ·simpa using ih r (i+1) h3
     ·simp
  simp only [Qq,run_underlying hfs,Ql]
  cases es with
  | nil=>
   cases l with
   | nil=>simp [Instr.findNow,hit]
   | cons x l=>simp [Ents] at he
  | cons e r=>
   have:Instr.findNow (.struct fs) (keyV true (enc y)) (e::r) 0=none:=by simp [Instr.findNow,Instr.sameNow]
   rw [this]
   exact ask l (e::r) 0 he
theorem Vtr {e:TypeId} (h:tzero P e=some (.bool false)):(zeroValue e).run P w = .ok (.bool false) w:=by
 obtain ⟨v,h1,h2⟩:=run_zero' h w
 rw [h1]
 have:v = .bool false:=by
  have h3:=ofV_V (I:=none') (w:=w) (loc:=free) v
  rw [← h2] at h3
  simpa only [V] using h3
 rw [this]
theorem Veu {k ck:Nat} {es:Array MapEntry} (hw:w.heap[k]? = some (.map es ck)):(getObj k).run P w = .ok (.map es ck) w:=by simp [getObj,Sem.run,hw]
theorem Vjn {k ck:Nat} {es:Array MapEntry} (hw:w.heap[k]? = some (.map es ck)) (o:Obj):(setObj k o).run P w = .ok () { w with heap:=w.heap.setIfInBounds k o }:=by simp [setObj,Sem.run,hw]
theorem Vp8 {α:Type} {t kt et:TypeId} {a:Bool} {q:List Nat} {k ck:Nat} {es:Array MapEntry} (ht:P.underlying t=some (.map kt et)) (hz:tzero P et=some (.bool false)) (hk:KeyTy P kt a q) {f:α→α→Bool} {enc:α→List D}
  (hf:∀ x y,eqCells q (enc x) (enc y)=some (f x y)) (y:α) {l:List α} (hw:w.heap[k]? = some (.map es ck)) (he:Ents es.toList (l.map fun x=>keyV a (enc x))) :
  (Instr.lookup t (.map (some k)) (keyV a (enc y)) false).run P w = .ok (.bool (l.any (f y))) w:=by
 have hh:=Vnn (f y) l 0
 simp only [Instr.lookup,Qq,run_underlying ht,Ql,Veu hw,Qx,Vh3 hk (hf y y),Vkv hk hf y he]
 cases hq:hit (f y) l 0 with
 | none=>
  rw [hq] at hh
  simp only [Qa9,Qq,Vtr hz,Ql,Qx,← hh]
  rfl
 | some j=>
  rw [hq] at hh
  simp only [Qc,Qq,Ql,Qx,← hh]
  rfl
theorem Vwk {a:Bool} {q:List Nat} {xs ys:List D} {r:Bool} (he:eqCells q xs ys=some r) (hne:a=false→xs≠[]):Instr.sameBits 10000 (keyV a xs) (keyV a xs)=true:=by
 have hb:=(Vc9 he).2.2.2
 cases a with
 | true=>
  simp only [keyV]
  show Instr.sameBits (9999+1) (.agg (xs.map dval).toArray) (.agg (xs.map dval).toArray)=true
  rw [Instr.sameBits]
  simp only [beq_self_eq_true,Qbn]
  rw [List.all_eq_true]
  intro p hp
  have h1:=List.of_mem_zip hp
  have h2:p.1=p.2:=by
   have:=List.mem_iff_getElem?.1 hp
   obtain ⟨i,hi⟩:=this
   rw [List.getElem?_zip_eq_some] at hi
   exact Qal (hi.1.symm.trans hi.2)
  have h3:=hb 9999 p.1 (by simpa using h1.1)
  rw [← h2]; exact h3
 | false=>
  cases xs with
  | nil=>exact absurd rfl (hne rfl)
  | cons x r=>exact hb 10000 (dval x) (by simp)
theorem Vp9 {α:Type} {t kt et:TypeId} {a:Bool} {q:List Nat} {k ck:Nat} {es:Array MapEntry} (ht:P.underlying t=some (.map kt et)) (hk:KeyTy P kt a q) {f:α → α → Bool} {enc:α → List D}
    (hf:∀ x y,eqCells q (enc x) (enc y)=some (f x y)) (y:α) {l:List α} (hw:w.heap[k]? = some (.map es ck)) (he:Ents es.toList (l.map fun x=>keyV a (enc x))) :
    ∃ es' ck',(Instr.mapUpdate t (.map (some k)) (keyV a (enc y)) (.bool true)).run P w = .ok () { w with heap:=w.heap.setIfInBounds k (.map es' ck') } ∧
      Ents es'.toList ((bif l.any (f y) then l else l ++ [y]).map fun x=>keyV a (enc x)):=by
  have hh:=Vnn (f y) l 0
  have hne:a=false → enc y ≠ []:=by
    rintro rfl e
    have h0:=hf y y
    rw [e] at h0
    rcases hk.here with ⟨_,hd⟩ | ⟨h,_⟩
    · rcases hd with ⟨_,rfl⟩ | ⟨_,_,rfl⟩ | ⟨_,rfl⟩ <;> simp [eqCells] at h0
    · cases h
  cases hq:hit (f y) l 0 with
  | none=>
    rw [hq] at hh
    refine ⟨es.push { key:=keyV a (enc y),val:=.bool true,born:=ck },ck + 1,?_,?_⟩
    · simp only [Instr.mapUpdate,Qq,run_underlying ht,Ql,Veu hw,Vh3 hk (hf y y),Vkv hk hf y he,hq,Qa9,Vjn hw]
    · rw [← hh]
      simp only [Option.isSome_none,cond_false,Ents,Array.toList_push,Q2,Qj,Qbq]
      unfold Ents at he
      rw [he]
  | some j=>
    rw [hq] at hh
    obtain ⟨i,x,h1,h2,h3⟩:=Vx2 (f y) l 0 j hq
    have h1:i=j:=by omega
    subst h1
    have hxy:keyV a (enc y)=keyV a (enc x):=by
      have h4:=hf y x
      rw [h3] at h4
      have h5:=(Vc9 h4).2.2.1 rfl
      cases a with
      | true=>simp only [keyV,h5]
      | false=>
        simp only [keyV]
        cases hy:enc y with
        | nil=>exact absurd hy (hne rfl)
        | cons u ur=>
          cases hx:enc x with
          | nil=>rw [hy,hx] at h5; cases h5
          | cons v vr=>rw [hy,hx] at h5; simp only [Qj,List.cons.injEq] at h5; exact h5.1
    have hent:∃ e0,es[i]? = some e0 ∧ e0.key=keyV a (enc y) ∧ e0.val = .bool true:=by
      unfold Ents at he
      have:=congrArg (fun z=>z[i]?) he
      simp only [Qp,h2,Qc,Qaz] at this
      rw [Qe] at this
      obtain ⟨e0,h6,h7⟩:=this
      simp only [Qai] at h7
      exact ⟨e0,h6,by rw [h7.1,hxy],h7.2⟩
    obtain ⟨e0,g1,g2,g3⟩:=hent
    refine ⟨es.modify i fun e=>{ e with key:=keyV a (enc y),val:=.bool true },ck,?_,?_⟩
    · simp only [Instr.mapUpdate,Qq,run_underlying ht,Ql,Veu hw,Vh3 hk (hf y y),Vkv hk hf y he,hq,Qc,g1,g2,Option.getD_some,Instr.keyThatStays,Vwk (hf y y) hne,if_true,Qx,Vjn hw]
    · rw [← hh]
      simp only [Qa2,cond_true]
      unfold Ents at he ⊢
      rw [← he]
      apply Qaq
      intro n
      simp only [Qp,Qaz,Array.getElem?_modify]
      by_cases hn:i=n
      · subst hn
        simp [g1,g2,g3]
      · simp [hn]
theorem Vzy {t kt et:TypeId} {k ck:Nat} {es:Array MapEntry} (ht:P.underlying t=some (.map kt et)) (hw:w.heap[k]? = some (.map es ck)) (ty:TypeId) :
  (Builtin.len_ #[t] ty #[.map (some k)]).run P w = .ok (.int .i64 es.size) w:=by
 simp [Builtin.len_,run_underlying ht,Veu hw,goInt]
theorem Ents.len {es:List MapEntry} {ks:List Value} (h:Ents es ks):es.length=ks.length:=by
 have:=congrArg List.length h
 simpa using this
end
section
variable {T:Nat→Type} {C:Cd T} {I:Nat→Prop} {w:World} {loc:Nat→Nat→Loc} {P:Program} {Y:Nat→Option TI}
theorem Vo1 (hC:CdOk C) (hY:TysOk P Y) {t c:Nat} {a:Bool} {f:T c→T c→Bool} (h:mkeyK Y C t a c=some f) :
  ∃ kt et q,P.underlying t=some (.map kt et)∧tzero P et=some (.bool false)∧KeyTy P kt a q∧∀ x y,eqCells q (C.encD c x) (C.encD c y)=some (f x y):=by
 unfold mkeyK at h
 split at h
 case h_2=>cases h
 rename_i i hi
 split at h
 case h_2=>cases h
 rename_i kt et hki
 split at h
 case h_2=>cases h
 rename_i j hj
 split at h
 case h_2=>cases h
 rename_i q f' hq
 split at h
 case h_2=>cases h
 rename_i hc
 simp only [Qb] at h
 subst h
 simp only [Qg,beq_iff_eq] at hc
 obtain ⟨⟨hb,hcode⟩,ha,hkq⟩:=hc
 refine ⟨kt,et,q,(hY t i hi).map _ _ hki,?_,⟨?_⟩,hC.keq c q f' hq⟩
 ·unfold isBool at hb
  split at hb
  case h_2=>cases hb
  rename_i ie hie
  split at hb
  case h_2=>cases hb
  rename_i hkb
  have hz:=(hY et ie hie).zero
  rw [hkb] at hz
  simp only [TK.agg,Qa7,if_false] at hz
  have hzz:ie.zero=[.b]:=by simpa using hb
  rw [hz,hzz]; rfl
 ·have hK:=hY kt j hj
  unfold keyQ at hkq
  split at hkq
  ·rename_i hs
   have hkq:j.eqs=some q:=by simpa using hkq
   refine .inr ⟨by rw [← ha,hs]; rfl,hK.eqs q hkq,?_⟩
   have hp:=hK.places hs
   unfold tplaces at hp
   split at hp
   ·rename_i fs hfs; exact ⟨fs,hfs⟩
   ·cases hp
  ·rename_i hs
   have hkq:q=[2]:=by simpa using hkq
   exact .inl ⟨by rw [← ha,hs]; rfl,.inl ⟨Vcd (hK.str hs),hkq⟩⟩
  ·rename_i k hs
   have hkq:q=[3]:=by simpa using hkq
   exact .inl ⟨by rw [← ha,hs]; rfl,.inr (.inl ⟨k,Vf6 (hK.int k hs),hkq⟩)⟩
  ·rename_i hs
   have hkq:q=[1]:=by simpa using hkq
   exact .inl ⟨by rw [← ha,hs]; rfl,.inr (.inr ⟨Vj6 (hK.bool hs),hkq⟩)⟩
  ·cases hkq
theorem Vmh (hC:CdOk C) {a:Bool} {c:Nat} {d:DT T} {y:T c} {q:List Nat} {r:Bool} {v:Value} (h:mkeyOf C a c d=some y) (he:eqCells q (C.encD c y) (C.encD c y)=some r) (hv:V I w (den C d) loc v):v=keyV a (C.encD c y):=by
 unfold mkeyOf at h
 split at h
 case h_2=>cases h
 rename_i hc
 simp only [Qg,beq_iff_eq] at hc
 obtain ⟨hfit,ha⟩:=hc
 obtain ⟨hs,hd⟩:=hC.dec c d.cells y h
 have hp:=Vbx C _ (Vcm hs)
 cases d
 case agg cs=>
  have:a=true:=by rw [← ha]; rfl
  subst this
  simp only [den,V] at hv
  obtain ⟨vs,rfl,_,hvs⟩:=hv
  have h1:=hd I w vs (Ve9 hp hvs)
  rw [((Vc9 he).1 I w free vs).1 h1]; rfl
 all_goals
  have e:a=false:=by rw [← ha]; rfl
  subst e
  have hv1:VL I w (denL C [_]) loc [v]:=⟨v,[],rfl,hv,rfl⟩
  have h1:=hd I w [v] (Ve9 hp hv1)
  have h2:=((Vc9 he).1 I w free [v]).1 h1
  cases hx:C.encD c y with
  | nil=>rw [hx] at h2; cases h2
  | cons x xr=>
   rw [hx] at h2
   simp only [Qj,List.cons.injEq] at h2
   simp only [keyV,Qau]
   exact h2.1
end
section
variable {T:Nat→Type} {C:Cd T} {O I:Nat→Prop} {w:World} {loc:Nat→Nat→Loc} {L:Nat→Nat→Nat} {m:MT T} {P:Program} {Y:Nat→Option TI} {R:Type} {G:Nat→Option (List D)}
def LExt (loc:Nat→Nat→Loc) (L L':Nat→Nat→Nat):Prop:=∀ b g,loc b g≠.free→L' b g=L b g
theorem LExt.refl (loc:Nat→Nat→Loc) (L:Nat→Nat→Nat):LExt loc L L:=fun _ _ _=>rfl
mutual
theorem Vkw {L':Nat→Nat→Nat} (hl:LExt loc L L'):∀ (d:DT T) (v:Value),V I w (den C d) loc v→WfD L d→WfD L' d
 | .bw b g c n,v,hv,h=>by
  simp only [WfD] at h ⊢
  rw [← h]
  exact hl b g (by simp only [den,V] at hv; intro e; simp [e] at hv)
 | .agg cs,v,hv,h=>by
  simp only [WfD] at h ⊢
  simp only [den,V] at hv
  obtain ⟨vs,_,_,hvs⟩:=hv
  exact Vfa hl cs vs hvs h
 | .tup cs,v,hv,h=>by
  simp only [WfD] at h ⊢
  simp only [den,V] at hv
  obtain ⟨vs,_,hvs⟩:=hv
  exact Vfa hl cs vs hvs h
 | .fn f cs,v,hv,h=>by
  simp only [WfD] at h ⊢
  simp only [den,V] at hv
  obtain ⟨vs,_,hvs⟩:=hv
  exact Vfa hl cs vs hvs h
 | .dead,_,_,_=>trivial
 | .bool _,_,_,_=>trivial
 | .int _ _,_,_,_=>trivial
 | .u8 _,_,_,_=>trivial
 | .u16 _,_,_,_=>trivial
 | .u32 _,_,_,_=>trivial
 | .u64 _,_,_,_=>trivial
 | .str _,_,_,_=>trivial
 | .lit _,_,_,_=>trivial
 | .nilp,_,_,_=>trivial
 | .nils,_,_,_=>trivial
 | .rs _ _,_,_,_=>trivial
 | .rn _ _,_,_,_=>trivial
 | .rp _,_,_,_=>trivial
 | .bp _ _,_,_,_=>trivial
 | .mp _,_,_,_=>trivial
 | .ap _ _ _ _ _,_,_,_=>trivial
 | .bs _ _ _ _ _,_,_,_=>trivial
theorem Vfa {L':Nat→Nat→Nat} (hl:LExt loc L L'):∀ (ds:List (DT T)) (vs:List Value),VL I w (denL C ds) loc vs→WfL L ds→WfL L' ds
 | [],_,_,_=>trivial
 | d::r,vs,hv,h=>by
  simp only [denL,VL] at hv
  obtain ⟨v,vr,_,h1,h2⟩:=hv
  exact ⟨Vkw hl d v h1 h.1,Vfa hl r vr h2 h.2⟩
end
mutual
theorem Vo2:∀ (d:DT T) (v:Value),V I w (den C d) free v→WfD L d
 | .bw b g c n,v,hv=>by simp [den,V,free] at hv
 | .agg cs,v,hv=>by
  simp only [den,V] at hv
  obtain ⟨vs,_,_,hvs⟩:=hv
  exact Vfs cs vs hvs
 | .tup cs,v,hv=>by
  simp only [den,V] at hv
  obtain ⟨vs,_,hvs⟩:=hv
  exact Vfs cs vs hvs
 | .fn f cs,v,hv=>by
  simp only [den,V] at hv
  obtain ⟨vs,_,hvs⟩:=hv
  exact Vfs cs vs hvs
 | .dead,_,_=>trivial
 | .bool _,_,_=>trivial
 | .int _ _,_,_=>trivial
 | .u8 _,_,_=>trivial
 | .u16 _,_,_=>trivial
 | .u32 _,_,_=>trivial
 | .u64 _,_,_=>trivial
 | .str _,_,_=>trivial
 | .lit _,_,_=>trivial
 | .nilp,_,_=>trivial
 | .nils,_,_=>trivial
 | .rs _ _,_,_=>trivial
 | .rn _ _,_,_=>trivial
 | .rp _,_,_=>trivial
 | .bp _ _,_,_=>trivial
 | .mp _,_,_=>trivial
 | .ap _ _ _ _ _,_,_=>trivial
 | .bs _ _ _ _ _,_,_=>trivial
theorem Vfs:∀ (ds:List (DT T)) (vs:List Value),VL I w (denL C ds) free vs→WfL L ds
 | [],_,_=>trivial
 | d::r,vs,hv=>by
  simp only [denL,VL] at hv
  obtain ⟨v,vr,_,h1,h2⟩:=hv
  exact ⟨Vo2 d v h1,Vfs r vr h2⟩
end
theorem Vno {L':Nat→Nat→Nat} (hm:MRel O I loc (denM C m) w) (hl:LExt loc L L') (h:WfM L m):∀ b,b < m.length→WfB L' b (m.get b):=fun b hb=>by
 have hx:=Vb9 hm hb
 have hw:=h b
 cases hg:m.get b with
 | var cs=>
  rw [hg] at hx hw
  simp only [denB,RelB] at hx
  obtain ⟨_,k,c,el,fz,_,_,_,_,hv⟩:=hx
  exact Vfa hl cs _ hv hw
 | arr g c l=>
  rw [hg] at hx hw
  simp only [WfB] at hw ⊢
  rw [← hw]
  refine hl b g ?_
  simp only [denB,RelB] at hx
  rcases hx.2 with ⟨h1,_⟩ | ⟨k,_,_,_,h1,_⟩<;>rw [h1]<;>simp
 | frz g c l=>
  rw [hg] at hx hw
  simp only [WfB] at hw ⊢
  rw [← hw]
  refine hl b g ?_
  simp only [denB,RelB] at hx
  rcases hx.2 with ⟨h1,_⟩ | ⟨k,h1,_⟩<;>rw [h1]<;>simp
 | _=>trivial
def ResT (C:Cd T) (O I:Nat→Prop) (loc:Nat→Nat→Loc) (L:Nat→Nat→Nat) (w:World) (r:Result Next) (d:DT T) (m':MT T):Prop:=
 ∃ v w' I' loc' L',(r = .ok (.value v) w'∨(r = .ok .skip w'∧v=undef))∧MRel O I' loc' (denM C m') w'∧WfM L' m'∧V I' w' (den C d) loc' v∧WfD L' d∧Ext I I' w w'∧(∀ k,I' k→I k∨O k)∧LocExt loc loc'∧LExt loc L L'∧Fr O w w'
theorem ResT.of_res {r:Result Next} {d:DT T} {m':MT T} (L':Nat→Nat→Nat) (hl:LExt loc L L') (hd:WfD L' d) (hm':WfM L' m') (h:Res O I loc w r (den C d) (denM C m')):ResT C O I loc L w r d m':=by
 obtain ⟨v,w',loc',h1,h2,h3,h4,h5,h6⟩:=h
 exact ⟨v,w',I,loc',L',h1,h2,hm',h3,hd,h4,fun _ h=>.inl h,h5,hl,h6⟩
theorem ResT.pre {I1:Nat→Prop} {r:Result Next} {d:DT T} {m':MT T} (h1:∀ k,I k→I1 k) (h2:∀ k,I1 k→I k∨O k) (h:ResT C O I1 loc L w r d m'):ResT C O I loc L w r d m':=by
 obtain ⟨v,w',I',loc',L',g1,g2,g3,g4,g5,g6,g7,g8,g9,g10⟩:=h
 refine ⟨v,w',I',loc',L',g1,g2,g3,g4,g5,(Vag h1).trans g6,fun k hk=>?_,g8,g9,g10⟩
 rcases g7 k hk with h | h
 ·exact h2 k h
 ·exact .inr h
def updL (L:Nat→Nat→Nat) (b g n:Nat):Nat→Nat→Nat:=fun b' g'=>if b'=b∧g'=g then n else L b' g'
theorem LExt.upd {b g n:Nat} (h:loc b g = .free):LExt loc L (updL L b g n):=fun b' g' hne=>by
 unfold updL
 split
 ·rename_i e; rw [e.1,e.2] at hne; exact absurd h hne
 ·rfl
theorem Vft (hm:MRel O I loc (denM C m) w) (hw:WfM L m) {x:BoxT T} {n:Nat} (hx:WfB (updL L m.length 0 n) m.length x):WfM (updL L m.length 0 n) (m++[x]):=fun b=>by
 rw [Vgf]
 split
 ·rename_i e; subst e; exact hx
 ·rcases Qu b m.length with h | h
  ·exact Vno hm (LExt.upd (hm.free _ _ (Q6 _))) hw b h
  ·rw [Vkr h]; trivial
theorem glob0:SpecsOk P ⟨G,fun _=>none⟩:=fun f k F h=>by cases h
theorem Vh4 {t:Nat} {a b:List D} {d:D} (h:loadD P t a=some d):loadD P t (a++b)=some d:=by
 unfold loadD at h ⊢
 split at h
 ·split at h
  case h_2=>cases h
  rename_i m hm
  split at h
  case isFalse=>cases h
  rename_i hle
  try simp only [hm]
  rw [if_pos (by rw [Qs]; omega),List.take_append_of_le_length hle]
  exact h
 ·cases a with
  | nil=>cases h
  | cons x r=>exact h
 ·cases h
theorem Vts (hC:CdOk C) (hY:TysOk P Y) (hm:MRel O I loc (denM C m) w) (hw:WfM L m) {t:Nat} {x:DT T} {u:Value} {K:DT T→Option R} {r:R} (hwx:WfD L x) (hx:V I w (den C x) loc u) (e:Operand→DT T) (o:Operand) (he:e o=x)
  (h:rK Y C (.load t o) e m K=some r):∃ d:DT T,loadR P (denM C m) t (den C x)=some (den C d)∧WfD L d∧K d=some r:=by
 simp only [rK,he] at h
 have ld:∀ (cs:List (DT T)),WfL L cs→ldK Y t cs K=some r→∃ d:DT T,loadD P t (denL C cs)=some (den C d)∧WfD L d∧K d=some r:=by
  intro cs hwc h
  unfold ldK at h
  split at h
  ·rename_i d hd
   have:=Vkg (C:=C) (P:=P) hY hwc hd
   exact ⟨d,this.1,this.2,h⟩
  ·cases h
 split at h
 ·rename_i b off
  split at h
  case h_2=>cases h
  rename_i cs hb
  have hwb:=hw b
  rw [hb] at hwb
  obtain ⟨d,h1,h2,h3⟩:=ld _ (Ves off hwb) h
  refine ⟨d,?_,h2,h3⟩
  simp only [den,loadR,denM,hb,denB,← Va2,h1]
 ·rename_i b g c i off
  split at h
  case h_2=>cases h
  rename_i l hl
  have hr:(denM C m).rows b g (C.sz c)=some (l.map (C.encD c)):=by
   rcases Vbt hl with e | e<;>simp [Mem.rows,denM,e,denB]
  split at h
  ·rename_i n hn
   split at h
   case h_2=>cases h
   obtain ⟨cs,h1,h2,h3,h4,_⟩:=Vgc hC h
   obtain ⟨d,q1,q2,q3⟩:=ld cs (Vkd L cs h4) h1
   refine ⟨d,?_,q2,q3⟩
   rw [h2] at q1
   simp only [den,loadR,hr,Qak]
   have e:((l.map (C.encD c)).drop i).flatten=(((l.drop i).take n).map (C.encD c)).flatten++(((l.drop i).drop n).map (C.encD c)).flatten:=by
    rw [← Qa6,← Q2,Q0,Qan]
   rw [e]
   exact Vh4 q1
  ·rw [Qi] at h
   obtain ⟨y,hy,h⟩:=h
   obtain ⟨d,h1,h2,h3⟩:=ld _ (Ves off (Vat _ (Vcz _ (hC.epure c y)))) h
   refine ⟨d,?_,h2,h3⟩
   rw [Va2,hC.enc] at h1
   simp only [den,loadR,hr]
   have hi:i < l.length:=(List.getElem?_eq_some_iff.1 hy).1
   have hd:(l.map (C.encD c)).drop i=C.encD c y::(l.map (C.encD c)).drop (i+1):=by
    rw [Qaw (by simpa using hi)]
    congr 1
    rw [Qt hi] at hy
    simp [Qal hy]
   rw [hd,Q5]
   by_cases ho:off≤(C.encD c y).length
   ·rw [List.drop_append_of_le_length ho]
    exact Vh4 h1
   ·rw [List.drop_eq_nil_of_le (by omega)] at h1
    have:=Vh4 (b:=(List.drop off (C.encD c y++(List.drop (i+1) (l.map (C.encD c))).flatten))) h1
    simpa using this
 ·rename_i cs
  have hwc:WfL L cs:=by
   simp only [den,V] at hx
   obtain ⟨b,o,_,_,hvc⟩:=hx
   obtain ⟨us,hu,_⟩:=Vc8 hvc
   exact Vfs cs us hu
  obtain ⟨d,h1,h2,h3⟩:=ld _ hwc h
  exact ⟨d,by simp only [den,loadR,h1],h2,h3⟩
 ·cases h
theorem Vkx (hw:WfM L m) {c:Nat} {x:DT T} {rows:List (T c)} (hwx:WfD L x) (h:rowsK m c x some=some rows):rowsOf (denM C m) (C.sz c) (den C x)=some (rows.map (C.encD c)):=by
 unfold rowsK at h
 have hr:∀ {b g:Nat} {l:List (T c)},boxL m b g c=some l→(denM C m).rows b g (C.sz c)=some (l.map (C.encD c))∧L b g=l.length:=fun {b g l} hl=>by
  have:=hw b
  rcases Vbt hl with e | e<;>rw [e] at this<;>exact ⟨by simp [Mem.rows,denM,e,denB],this⟩
 split at h
 ·simp only [Qb] at h; subst h; simp [den,rowsOf]
 ·split at h
  ·rename_i hc _
   subst hc
   simp only [Qb] at h; subst h
   simp [den,rowsOf,castL]
  ·cases h
 ·split at h
  ·rename_i hc
   have hc:=Qf hc
   subst hc
   split at h
   ·rename_i l hl
    simp only [Qb] at h; subst h
    obtain ⟨h1,h2⟩:=hr hl
    simp only [WfD] at hwx
    simp only [den,rowsOf,if_true,Mem.cut,h1]
    rw [if_pos (by simp; omega)]
    have:l.length=(l.map (C.encD _)).length:=by simp
    rw [Qak,← hwx,h2,this,Qbb]
   ·cases h
  ·cases h
 ·rename_i b g c' i n
  split at h
  ·rename_i hc
   have hc:=Qf hc
   subst hc
   split at h
   ·rename_i l hl
    obtain ⟨h1,h2⟩:=hr hl
    unfold winK at h
    cases hd:decide (n+i≤l.length)<;>simp only [hd,cond_true,cond_false] at h
    ·cases h
    simp only [Qb] at h; subst h
    have hd:=of_decide_eq_true hd
    simp only [den,rowsOf,if_true,Mem.cut,h1]
    rw [if_pos (by simp; omega)]
    simp
   ·cases h
  ·cases h
 ·cases h
theorem Vqa (hC:CdOk C):∀ (l:List (T C.bt)),bytesOf (l.map (C.encD C.bt))=some (castB C l):=by
 have gen:∀ (α:Type) (h:α=UInt8) (e:α→List D),(∀ x,e x=[.int .u8 (cast h x).toNat])→∀ l:List α,bytesOf (l.map e)=some (cast (congrArg List h) l):=by
  intro α h e he l
  subst h
  simp only [cast_eq] at he ⊢
  induction l with
  | nil=>rfl
  | cons x l ih=>
   simp only [Qj,he,bytesOf]
   have hx:=x.toNat_lt
   rw [if_pos ⟨by omega,by omega⟩,ih]
   simp
 exact gen _ C.hb (C.encD C.bt) hC.byte
theorem Vh5 (hC:CdOk C) (l:List UInt8):(castT C l).map (C.encD C.bt)=bytesD l:=by
 have gen:∀ (α:Type) (h:α=UInt8) (e:α→List D),(∀ x,e x=[.int .u8 (cast h x).toNat])→∀ l:List UInt8,(cast (congrArg List h.symm) l:List α).map e=bytesD l:=by
  intro α h e he l
  subst h
  simp only [cast_eq] at he ⊢
  unfold bytesD
  congr 1; funext x; exact he x
 exact gen _ C.hb (C.encD C.bt) hC.byte l
theorem Vwl {b o:Nat} {v:Value} (h:w.cell? ⟨b,o,none⟩=some v):o < rowSize w b:=by
 unfold World.cell? at h
 unfold rowSize
 cases hh:w.heap[b]? with
 | none=>rw [hh] at h; cases h
 | some ob=>
  rw [hh] at h
  cases ob with
  | cells c t fz=>
   simp only [] at h ⊢
   rcases Qu o c.size with h2 | h2
   ·exact h2
   ·have:c[o]? = none:=by simp; omega
    simp [this] at h
  | _=>cases h
theorem Vzz {s:Nat} {rows:List (List D)} {b:Nat} (h:VR I w s rows b 0):rows.length * s≤rowSize w b:=by
 obtain ⟨vs,h1,h2,h3⟩:=Vc8 (Vnd h)
 have hl:vs.length=rows.length * s:=by rw [Vaf h1,Vai rows (Vs4 h)]
 rcases Nat.eq_zero_or_pos vs.length with h0 | h0
 ·omega
 ·have:=Vwl (h3 (vs.length - 1) vs[vs.length - 1] (by simp))
  omega
theorem Vz0 (hY:TysOk P Y) {t s n:Nat} (h:arrN Y t s=some n):∃ e,tarr P t=some (n,e)∧tsz P e=some s:=by
 unfold arrN at h
 split at h
 case h_2=>cases h
 rename_i n' e s' ha
 have ha:=Vdo hY ha
 split at h
 case h_2=>cases h
 rename_i hs
 have hs:=Qf hs
 subst hs
 simp only [Qb] at h
 subst h
 exact ⟨e,ha.1,ha.2⟩
theorem rK_ok (hC:CdOk C) (hY:TysOk P Y) (hm:MRel O I loc (denM C m) w) (hw:WfM L m) (hG:Glob G I w) {e:Operand→DT T} {ρ:Operand→Value} (he:∀ x,V I w (den C (e x)) loc (ρ x)) (hwe:∀ x,WfD L (e x)) {o:Oper} {K:DT T→Option R} {r:R}
  (h:rK Y C o.op e m K=some r):∃ d:DT T,Follows P ⟨G,fun _=>none⟩ O I loc w o ((execOp ρ o).run P w) (den C d) (denM C m)∧WfD L d∧K d=some r:=by
 obtain ⟨dst,op,type,pos,after,guard⟩:=o
 simp only at h
 have h0:=h
 unfold rK at h
 split at h
 ·rename_i t x
  obtain ⟨d,h1,h2,h3⟩:=Vts (P:=P) hC hY hm hw (hwe x) (he x) e x rfl h0
  exact ⟨d,Vs6 (Sp:=⟨G,fun _=>none⟩) glob0 hm hG (e:=fun x=>den C (e x)) he (by simp only [semR]; exact h1),h2,h3⟩
 ·rename_i t x
  split at h
  case h_2=>cases h
  rename_i b g c hx
  split at h
  case h_2=>cases h
  rename_i n hn
  split at h
  case h_2=>cases h
  rename_i l hl
  cases hq:decide (l.length=n)<;>simp only [hq,cond_true,cond_false] at h
  ·cases h
  have hln:l.length=n:=by simpa using hq
  obtain ⟨e',ha,hs⟩:=Vz0 (P:=P) hY hn
  have hv:=he x
  rw [hx] at hv
  simp only [den,V] at hv
  have hb:b < m.length:=Va6 (C:=C) (g:=g) hm (by intro e; simp [e] at hv)
  have hL:L b g=l.length:=by
   have hwb:=hw b
   rcases Vbt hl with e | e<;>rw [e] at hwb<;>exact hwb
  refine ⟨.bw b g c l.length,?_,by simp only [WfD]; exact hL,h⟩
  have hr:(denM C m).rows b g (C.sz c)=some (l.map (C.encD c)):=by
   rcases Vbt hl with e | e<;>simp [Mem.rows,denM,e,denB]
  rcases Vf7 hm hb hr with ⟨hlc,hnil⟩ | ⟨k,hlc,hvr⟩
  ·simp only [hlc] at hv
  simp only [hlc] at hv
  refine Follows.of_res hG (Res.of_same hm ⟨.slice (some ⟨k,0,none⟩) n n,?_,?_⟩)
  ·have hz:(0:Nat) * C.sz c+0=0:=by omega
   rw [hz] at hv
   simp [execOp,Instr.sliceAt,run_underlying (Vc7 ha),hv,Instr.sureAddr,run_sizeOf' hs,Instr.sliceBounds]
   cases n<;>simp [Vav]
  ·simp only [den,V,hlc]
   refine ⟨0,n,by rw [hln],by omega,.inr (by omega),?_⟩
   have hrow:=Vzz hvr
   rw [Qm,hln] at hrow
   rw [Qv]
   exact hrow
 ·rename_i src dst' x
  split at h
  case h_2=>cases h
  rename_i el hel
  split at h
  case h_2=>cases h
  rename_i hc
  simp only [Qg] at hc
  rw [Vbr,Qi] at h
  obtain ⟨l,h1,h2⟩:=h
  have hr:=Vkx (C:=C) hw (hwe x) h1
  rw [hC.bsz] at hr
  have hu:tint P el=some .u8:=by
   have:=hc.1
   unfold isU8 at this
   split at this
   ·rename_i i hi
    split at this
    ·rename_i hk; exact (hY el i hi).int _ hk
    ·cases this
   ·cases this
  refine ⟨.str (castB C l),Vs6 (Sp:=⟨G,fun _=>none⟩) glob0 hm hG (e:=fun x=>den C (e x)) he ?_,trivial,h2⟩
  simp only [semR,Va7 hY hel,hu,Vdp hY hc.2,and_self,if_true,hr,Vqa hC,Qc,den]
 ·rename_i t x ix
  split at h
  case h_2=>cases h
  rename_i b hx
  split at h
  case h_2=>cases h
  rename_i a c l hb
  split at h
  case h_2=>cases h
  rename_i f hf
  split at h
  case h_2=>cases h
  rename_i y hy
  obtain ⟨kt,et,q,ht,hz,hk,hq⟩:=Vo1 (P:=P) hC hY hf
  have hv:=he x
  rw [hx] at hv
  simp only [den,V] at hv
  have hlt:b < m.length:=Va6 (C:=C) (g:=0) hm (by intro e; simp [e] at hv)
  have hr:=Vb9 hm hlt
  rw [hb] at hr
  simp only [denB,RelB] at hr
  obtain ⟨_,k,es,ck,h1,h2,h3⟩:=hr
  simp only [h1] at hv
  have hkey:=Vmh hC hy (hq y y) (he ix)
  refine ⟨.bool (l.any (f y)),Follows.of_res hG (Res.of_same hm ⟨.bool (l.any (f y)),?_,by simp [den,V]⟩),trivial,h⟩
  have:=Vp8 (P:=P) ht hz hk hq y h2 h3
  simp [execOp,hv,hkey,this]
 ·rename_i args argTypes
  split at h
  case h_2=>cases h
  rename_i x t hargs htys
  have ha:args = #[x]:=by apply Qab; simpa using hargs
  have hb':argTypes = #[t]:=by apply Qab; simpa using htys
  subst ha; subst hb'
  split at h
  case h_2=>cases h
  rename_i b hx
  split at h
  case h_2=>cases h
  rename_i a c l hb
  split at h
  case h_2=>cases h
  rename_i him
  obtain ⟨kt,et,ht⟩:∃ kt et,P.underlying t=some (.map kt et):=by
   unfold isMap at him
   split at him
   case h_2=>cases him
   rename_i i hi
   split at him
   case h_2=>cases him
   rename_i kt et hk
   exact ⟨kt,et,(hY t i hi).map _ _ hk⟩
  have hv:=he x
  rw [hx] at hv
  simp only [den,V] at hv
  have hlt:b < m.length:=Va6 (C:=C) (g:=0) hm (by intro e; simp [e] at hv)
  have hr:=Vb9 hm hlt
  rw [hb] at hr
  simp only [denB,RelB] at hr
  obtain ⟨_,k,es,ck,h1,h2,h3⟩:=hr
  simp only [h1] at hv
  have hl:es.size=l.length:=by
   have:=Ents.len h3
   simpa using this
  refine ⟨.int .i64 l.length,Follows.of_res hG (Res.of_same hm ⟨.int .i64 l.length,?_,by simp [den,V]⟩),trivial,h⟩
  have:=Vzy (P:=P) ht h2 type
  rw [hl] at this
  simp [execOp,resolve,invoke,builtin,hv,this]
 ·cases h
end
section
variable {T:Nat→Type} {C:Cd T} {O I:Nat→Prop} {w:World} {loc:Nat→Nat→Loc} {L:Nat→Nat→Nat} {m:MT T} {P:Program} {Y:Nat→Option TI} {R:Type} {G:Nat→Option (List D)}
def Imp (row row':List D):Prop:=row'.length=row.length∧∀ (I:Nat→Prop) (w:World) (vs:List Value),VL I w row free vs→VL I w row' free vs
theorem Imp.refl (row:List D):Imp row row:=⟨rfl,fun _ _ _ h=>h⟩
theorem Imp.vc {row row':List D} (h:Imp row row') {b o:Nat} (hv:VC I w row b o):VC I w row' b o:=by
 obtain ⟨vs,h1,h2,h3⟩:=Vc8 hv
 exact Vdm (h.2 I w vs h1) h2 h3
def ImpR (s:Nat) (rows rows':List (List D)):Prop:=rows'.length=rows.length∧∀ (i:Nat) (row row':List D),rows[i]? = some row→rows'[i]? = some row'→row.length=s→Imp row row'
theorem ImpR.vr {s:Nat} {rows rows':List (List D)} (h:ImpR s rows rows') {b o:Nat} (hv:VR I w s rows b o):VR I w s rows' b o:=by
 rw [Vl2] at hv ⊢
 intro i row' hi
 have hlt:i < rows.length:=by
  rw [← h.1]
  rcases Qu i rows'.length with q | q
  ·exact q
  ·rw [Qo q] at hi; cases hi
 have hr:rows[i]? = some rows[i]:=Qt hlt
 obtain ⟨h1,h2⟩:=hv i _ hr
 have hi':=h.2 i _ row' hr hi h1
 exact ⟨by rw [hi'.1]; exact h1,hi'.vc h2⟩
theorem MRel.weakR {M:Mem} {b g s:Nat} {rows rows':List (List D)} (hm:MRel O I loc M w) (hb:b < M.nb) (hx:M.bx b = .arr g s rows) (hr:ImpR s rows rows'):MRel O I loc (M.set b (.arr g s rows')) w:=by
 have hbx:∀ b',(M.set b (.arr g s rows')).bx b'=if b'=b then .arr g s rows' else M.bx b':=fun b'=>rfl
 have hown:∀ b',((M.set b (.arr g s rows')).bx b').owned=(M.bx b').owned:=fun b'=>by
  rw [hbx]
  split
  ·rename_i e; rw [e,hx]; rfl
  ·rfl
 refine ⟨fun b' hb'=>?_,hm.free,fun b' g' k hb' ho hk=>hm.own b' g' k hb' (by rw [← hown]; exact ho) hk,fun b1 b2 g1 g2 k h1 h2 o1 o2 k1 k2=>hm.inj b1 b2 g1 g2 k h1 h2 (by rw [← hown]; exact o1) (by rw [← hown]; exact o2) k1 k2,hm.imm,hm.up⟩
 rw [hbx]
 by_cases e:b'=b
 ·subst e
  rw [if_pos rfl]
  have:=hm.box b' hb
  rw [hx] at this
  simp only [RelB] at this ⊢
  refine ⟨this.1,?_⟩
  rcases this.2 with ⟨h1,h2⟩ | ⟨k,c,el,fz,h1,h2,h3,h4,h5⟩
  ·subst h2
   exact .inl ⟨h1,Qat hr.1⟩
  ·exact .inr ⟨k,c,el,fz,h1,h2,h3,by rw [hr.1]; exact h4,hr.vr h5⟩
 ·rw [if_neg e]; exact hm.box b' hb'
theorem Vef {d:D} {v:Value} (h:V I w d loc v) (hf:d.fit=true) (hn:∀ cs,d≠.agg cs):v.cells = #[v]:=by
 cases d<;>simp [D.fit,D.one] at hf
 case agg cs=>exact absurd rfl (hn cs)
 case lit x=>
  simp only [V] at h
  subst h
  cases v<;>first | rfl | simp at hf
 all_goals
  cases v<;>first | rfl | (simp [V] at h; try (split at h<;>simp at h))
def DT.re (y:DT T) (cs:List (DT T)):DT T:=
 match y with
 | .agg _=>.agg cs
 | _=>one1 cs
theorem re_ok {I':Nat→Prop} {y:DT T} {cs:List (DT T)} {v:Value} (hf:y.fit=true) (hv:V I w (den C y) loc v) (hc:VL I' w (denL C cs) free v.cells.toList) (hs:solidL cs=true) (hl:cs.length=y.cells.length) :
  V I' w (den C (y.re cs)) free v∧(y.re cs).cells=cs∧(y.re cs).pure=true∧(den C (y.re cs)).fit=true:=by
 have hp:=Vcm hs
 by_cases ha:∃ l,y = .agg l
 ·obtain ⟨l,rfl⟩:=ha
  simp only [den,V] at hv
  obtain ⟨vs,rfl,h1,_⟩:=hv
  refine ⟨?_,rfl,hp,rfl⟩
  simp only [DT.re,den,V]
  exact ⟨vs,rfl,h1,by simpa [Value.cells] using hc⟩
 ·have hn:∀ l,den C y≠.agg l:=by
   intro l e
   cases y
   case rn c l'=>cases l'<;>simp [den,rnD] at e
   all_goals simp [den] at e
   exact ha ⟨_,rfl⟩
  have hone:=Vef hv (Vby C y hf) hn
  rw [hone] at hc
  have hyc:y.cells=[y]:=by
   cases y<;>first | rfl | exact absurd ⟨_,rfl⟩ ha
  rw [hyc] at hl
  match cs,hl with
  | [d],_=>
   simp only [denL,VL] at hc
   obtain ⟨v',vr,he,h1,h2⟩:=hc
   simp only [List.cons.injEq] at he
   obtain ⟨rfl,rfl⟩:=he
   have hre:y.re [d]=d:=by
    cases y<;>first | rfl | exact absurd ⟨_,rfl⟩ ha
   rw [hre]
   obtain ⟨hd1,hd2⟩:=Vhv hs d (by simp)
   refine ⟨h1,?_,hd1,Vby C d ?_⟩
   ·cases d<;>first | rfl | (simp [DT.one] at hd2)
   ·cases d<;>first | rfl | exact hd2
theorem Vky:∀ {cs:List (DT T)} {k:Nat} {vs:List (DT T)},k+vs.length≤cs.length→∀ d∈vs,d∈setT cs k vs
 | cs,k,[],_,d,hd=>by simp at hd
 | [],k,v::vs,h,d,hd=>by simp at h
 | c::cs,0,v::vs,h,d,hd=>by
  simp only [setT,Q8]
  rcases List.mem_cons.1 hd with rfl | hd
  ·exact .inl rfl
  ·exact .inr (Vky (k:=0) (by simpa using h) d hd)
 | c::cs,k+1,v::vs,h,d,hd=>by
  simp only [setT,Q8]
  exact .inr (Vky (by simp at h ⊢; omega) d hd)
theorem Vo3 {l l':List (DT T)} (h:solidL l=true) (hm:∀ d∈l',d∈l):solidL l'=true:=by
 induction l' with
 | nil=>rfl
 | cons d r ih=>
  have:=Vhv h d (hm d (by simp))
  simp only [solidL,this.1,this.2,Qay,Qbn]
  exact ih fun x hx=>hm x (by simp [hx])
theorem Vcv {y:DT T} {v:Value} (hf:y.fit=true) (hv:V I w (den C y) loc v):VL I w (denL C y.cells) loc v.cells.toList:=by
 have:=(Vbm hv (Vby C y hf)).1
 rwa [Vbe] at this
theorem Vtt (C:Cd T):∀ (qs:List Bool) (cs:List (DT T)) {K:List (DT T)→Option R} {r:R},rnK qs cs K=some r→∃ cs',denL C cs'=denL C cs∧cs'.length=cs.length∧(cleanL cs=true→cleanL cs'=true)∧K cs'=some r
 | _,[],K,r,h=>⟨[],rfl,rfl,fun h=>h,by simpa only [rnK] using h⟩
 | [],d::cs,K,r,h=>⟨d::cs,rfl,rfl,fun h=>h,by simpa only [rnK] using h⟩
 | q::qs,d::cs,K,r,h=>by
  have keep:rnK qs cs (fun r'=>K (d::r'))=some r→∃ cs',denL C cs'=denL C (d::cs)∧cs'.length=(d::cs).length∧(cleanL (d::cs)=true→cleanL cs'=true)∧K cs'=some r:=fun h=>by
   obtain ⟨cs',h1,h2,h3,h4⟩:=Vtt C qs cs h
   refine ⟨d::cs',by simp only [denL,h1],by simp [h2],fun hc=>?_,h4⟩
   simp only [cleanL,Qg] at hc ⊢
   exact ⟨hc.1,h3 hc.2⟩
  simp only [rnK] at h
  split at h
  ·split at h
   ·rename_i c l
    cases l with
    | nil=>cases h
    | cons x l=>
     simp only [List.isEmpty_cons,cond_false] at h
     obtain ⟨cs',h1,h2,h3,h4⟩:=Vtt C qs cs h
     refine ⟨.rn c (x::l)::cs',by simp only [denL,h1]; rfl,by simp [h2],fun hc=>?_,h4⟩
     simp only [cleanL,Qg] at hc ⊢
     exact ⟨rfl,h3 hc.2⟩
   ·exact keep h
  ·exact keep h
theorem Veg (hC:CdOk C) {c:Nat}:∀ (n:Nat) (cs:List (DT T)) (l:List (T c)),elemsT C c n cs=some l→l.length=n∧solidL cs=true∧∀ (I:Nat→Prop) (w:World) (vs:List Value),VL I w (denL C cs) free vs→VL I w (l.map (C.encD c)).flatten free vs
 | 0,cs,l,h=>by
  simp only [elemsT] at h
  split at h
  ·simp only [Qb] at h; subst h
   exact ⟨rfl,rfl,fun I w vs hv=>by simpa [denL] using hv⟩
  ·cases h
 | n+1,cs,l,h=>by
  simp only [elemsT] at h
  split at h
  case h_2=>cases h
  rename_i x hx
  split at h
  case h_2=>cases h
  rename_i l' hl
  simp only [Qb] at h; subst h
  obtain ⟨h1,h2,h3⟩:=Veg hC n _ l' hl
  obtain ⟨g1,g2⟩:=hC.dec c _ x hx
  refine ⟨by simp [h1],?_,fun I w vs hv=>?_⟩
  ·refine Vo3 (l:=cs) ?_ (fun d hd=>hd)
   have:∀ {a b:List (DT T)},solidL a=true→solidL b=true→solidL (a++b)=true:=by
    intro a b ha hb
    induction a with
    | nil=>exact hb
    | cons d r ih=>
     simp only [solidL,Qg,Qaa] at ha ⊢
     exact ⟨ha.1,ih ha.2⟩
   have:=this g1 h2
   rwa [Q0] at this
  ·have e1:=Vd5 (C.sz c) hv
   have e2:=Vc6 (C.sz c) hv
   rw [← Vdd] at e1
   rw [← Va2] at e2
   have:=Va0 (g2 I w _ e1) (h3 I w _ e2)
   rw [Q0] at this
   simpa using this
theorem Vkz {M:Mem} (hm:MRel O I loc M w) {t:TypeId} {b g s sz:Nat} {rows rows':List (List D)} {u v:Value} (hx:V I w (.ap b g s 0 0) loc u) (hv:VL I w rows'.flatten free v.cells.toList) (h1:∀ x∈v.cells.toList,x.oneCell'=true) (hs:∀ row∈rows',row.length=s)
  (hsz:tsz P t=some sz) (hvs:v.cells.size=sz) (hbx:M.bx b = .arr g s rows) (hn:rows'.length=rows.length) :
  ∃ w',(Instr.storeAt t u v).run P w = .ok () w'∧MRel O I loc (M.set b (.arr g s rows')) w'∧Ext I I w w'∧Fr O w w':=by
 simp only [V] at hx
 have hlt:b < M.nb:=lt_nb (g:=g) hm (by intro e; simp [e] at hx)
 have hb:=hm.box b hlt
 rw [hbx] at hb; simp only [RelB] at hb
 obtain ⟨h0,hb⟩:=hb
 have hvl:v.cells.toList.length=rows'.length * s:=by rw [Vaf hv,Vai rows' hs]
 rcases hb with ⟨hl,_⟩ | ⟨k,c,el,fz,hl,hw,hu,hrc,hvr⟩
 ·simp [hl] at hx
 simp only [hl] at hx; subst hx
 have hz:(0:Nat) * s+0=0:=by omega
 rw [hz]
 have hfit:0+0+v.cells.toList.length≤c.size:=by rw [hvl,hn]; omega
 have hrun:=Vap (P:=P) k 0 el fz v.cells.toList 0 c w hw hu hfit h1
 simp only [Nat.add_zero,Qv,Qbi,Qaf] at hrun
 let l':=v.cells.toList++c.toList.drop v.cells.toList.length
 have hl':l'.length=c.size:=by simp [l'] at hfit ⊢; omega
 have he:=Vcl (hm.own b g k hlt (by rw [hbx]; rfl) hl).2.1 hw (c':=l'.toArray) (by simp [hl'])
 have hnew:VR I (w.setRow k l'.toArray) s rows' k 0:=Vbb hs (Vah he _ free free _ (.refl _) hv) h1 fun j z hj=>by
  have hjl:j < v.cells.toList.length:=(List.getElem?_eq_some_iff.1 hj).1
  rw [cell_setRow_same w k _ c l'.toArray el fz hw,Qv]
  simp only [l',Qah]
  rw [Qw hjl]
  exact hj
 have hst:=hm.store (x:=.arr g s rows') (c':=l'.toArray) hlt (by rw [hbx]; rfl) hl hw (by simp [hl']) (by
  simp only [RelB]
  refine ⟨h0,.inr ⟨k,l'.toArray,el,fz,hl,setRow_heap w k c _ el fz hw,by simpa [hl'] using hu,?_,hnew⟩⟩
  rw [hn]
  simpa [hl'] using hrc)
 refine ⟨w.setRow k l'.toArray,?_,hst.1,hst.2.1,hst.2.2⟩
 simp only [Instr.storeAt,Instr.sureAddr,storeVar,Qq,Qx,Ql,run_sizeOf' hsz]
 simp [hvs]
 exact hrun
theorem Vwm (hC:CdOk C) (hY:TysOk P Y) (hm:MRel O I loc (denM C m) w) (hw:WfM L m) {t:Nat} {x y:DT T} {u v:Value} (hwx:WfD L x) (hwy:WfD L y) (hx:V I w (den C x) loc u) (hv:V I w (den C y) loc v) {K:DT T→MT T→Option R} {r:R} (e:Operand→DT T) (ox oy:Operand) (hex:e ox=x) (hey:e oy=y)
  (h:wK Y C (.store t ox oy) e m K=some r):∃ (m':MT T) (w':World) (I':Nat→Prop),(Instr.storeAt t u v).run P w = .ok () w'∧MRel O I' loc (denM C m') w'∧WfM L m'∧Ext I I' w w'∧(∀ k,I' k→I k∨O k)∧Fr O w w'∧K .dead m'=some r:=by
 simp only [wK,hex,hey] at h
 split at h
 case h_2=>cases h
 rename_i i hi
 have hsz:=(hY t i hi).sz
 split at h
 case h_2=>cases h
 rename_i hc
 simp only [Qg] at hc
 have hlen:y.cells.length=i.sz:=Qf hc.2
 split at h
 ·rename_i b off
  split at h
  case h_2=>cases h
  rename_i cs hb
  split at h
  case h_2=>cases h
  rename_i hle
  have hle:off+i.sz≤cs.length:=by simpa using hle
  have hlt:b < m.length:=by
   simp only [den,V] at hx
   exact Va6 (C:=C) (g:=0) hm (by intro e; simp [e] at hx)
  have hbx:(denM C m).bx b = .var (denL C cs):=by simp [denM,hb,denB]
  obtain ⟨w',h1,h2,h3,h4⟩:=Vj7 (P:=P) hm hx hv (Vby C y hc.1) hsz (by rw [Vbe,Vao]; exact hlen) hbx (by rw [Vao]; exact hle)
  have hwb:=hw b
  rw [hb] at hwb
  refine ⟨m.put b (.var (setT cs off y.cells)),w',I,h1,?_,Vds hlt hw (Vg3 cs off y.cells hwb (Vbp hwy)),h3,fun _ h=>.inl h,h4,h⟩
  rw [Vcj hlt]
  simpa [denB,Vde,Vbe] using h2
 ·rename_i b g c k off
  split at h
  ·rename_i c' hla
   split at h
   case h_2=>cases h
   rename_i hck
   simp only [Qg] at hck
   have hk0:=Qf hck.2.1
   have ho0:=Qf hck.2.2
   subst hk0; subst ho0
   split at h
   case h_2=>cases h
   rename_i n hn
   have hcs:=Vcv hc.1 hv
   obtain ⟨cs',m1,I1,g1,g2,g3,g4,g5,g6,g7,g8,h⟩:=Vjm hC hm hw (Vbp hwy) hcs h
   have g4:=Vme hm g4
   split at h
   case h_2=>cases h
   rename_i l' hl'
   split at h
   case h_2=>cases h
   rename_i l hl
   cases hq:decide (l.length=n)<;>simp only [hq,cond_true,cond_false] at h
   ·cases h
   have hq:l.length=n:=by simpa using hq
   have hbA:=Vbu hl
   obtain ⟨q1,q2,q3⟩:=Veg hC n cs' l' hl'
   have hlt:b < m1.length:=by
    rw [g7]
    simp only [den,V] at hx
    exact Va6 (C:=C) (g:=g) hm (by intro e; simp [e] at hx)
   have hbx:(denM C m1).bx b = .arr g (C.sz c) (l.map (C.encD c)):=by simp [denM,hbA,denB]
   have hxI:V I1 w (den C (.ap b g c 0 0:DT T)) loc u:=Va4 (Vag g3) _ loc loc u (.refl _) hx
   have hcl:=Vaf hcs
   rw [Vao,hlen] at hcl
   obtain ⟨w',h1,h2,h3,h4⟩:=Vkz (P:=P) (rows':=l'.map (C.encD c)) g1 hxI (q3 I1 w _ g5) (Vbm hv (Vby C y hc.1)).2 (by
    intro row hr
    obtain ⟨x,_,rfl⟩:=List.mem_map.1 hr
    exact hC.len c x) hsz (by simpa using hcl) hbx (by simp [q1,hq])
   refine ⟨_,w',I1,h1,?_,Vds hlt g2 ?_,(Vag g3).trans h3,g4,h4,h⟩
   ·rw [Vcj hlt]; exact h2
   ·have:=g2 b
    rw [hbA] at this
    simp only [WfB] at this ⊢
    omega
  split at h
  case h_2=>cases h
  rename_i l hl
  have hbA:=Vbu hl
  rw [Qi] at h
  obtain ⟨x0,hx0,h⟩:=h
  have hcs:=Vcv hc.1 hv
  obtain ⟨cs0,m1,I1,g1,g2,g3,g4,g5,g6,g7,g8,h⟩:=Vjm hC hm hw (Vbp hwy) hcs h
  have g4:=Vme hm g4
  obtain ⟨cs',q1,q2,q3,h⟩:=Vtt C _ _ h
  rw [← q1] at g5
  have g6:=q3 g6
  split at h
  case h_2=>cases h
  rename_i hle
  have hle:off+i.sz≤(C.enc c x0).length:=by simpa using hle
  split at h
  case h_2=>cases h
  rename_i x' hx'
  split at h
  case h_2=>cases h
  rename_i g' c' l' hb1
  -- the box is still one's own
  have hsame:m1.get b = .arr g c l:=by
   rcases g8 b with q | ⟨g2',c2,l2,q1,q2⟩
   ·rw [q,hbA]
   ·rw [q2] at hb1; cases hb1
  have hlc:cs'.length=y.cells.length:=by
   have h1:=Vaf g5
   have h2:=Vaf hcs
   rw [Vao] at h1 h2
   omega
  obtain ⟨hs,himp⟩:=hC.dec c _ x' hx'
  have hsol:solidL cs'=true:=Vo3 hs (Vky (by rw [hlc,hlen]; exact hle))
  obtain ⟨r1,r2,r3,r4⟩:=re_ok hc.1 hv g5 hsol hlc
  have hlt:b < m1.length:=by
   rw [g7]
   simp only [den,V] at hx
   exact Va6 (C:=C) (g:=g) hm (by intro e; simp [e] at hx)
  have hbx:(denM C m1).bx b = .arr g (C.sz c) (l.map (C.encD c)):=by simp [denM,hsame,denB]
  have hxI:V I1 w (den C (.ap b g c k off:DT T)) loc u:=Va4 (Vag g3) _ loc loc u (.refl _) hx
  have hrow:(l.map (C.encD c))[k]? = some (C.encD c x0):=by simp [hx0]
  have hel:(C.encD c x0).length=(C.enc c x0).length:=by rw [← hC.enc,Vao]
  obtain ⟨w',h1,h2,h3,h4⟩:=Vj9 (P:=P) g1 hxI (Von r1) r4 (DT.pure_den C _ r3) hsz (by rw [Vbe,r2,Vao,hlc,hlen]) hbx hrow (by rw [hel]; exact hle)
  refine ⟨_,w',I1,h1,?_,Vds hlt g2 ?_,(Vag g3).trans h3,g4,h4,h⟩
  ·rw [Vcj hlt]
   have hb2:((denM C m1).set b (.arr g (C.sz c) ((l.map (C.encD c)).set k (setCells (C.encD c x0) off (den C (y.re cs')).cells)))).bx b = .arr g (C.sz c) ((l.map (C.encD c)).set k (setCells (C.encD c x0) off (den C (y.re cs')).cells)):=by simp [Mem.set,upd]
   have:=h2.weakR (b:=b) (rows':=(l.set k x').map (C.encD c)) hlt hb2 ⟨by simp,fun i row row' hi hi' _=>?_⟩
   ·have e:((denM C m1).set b (.arr g (C.sz c) ((l.map (C.encD c)).set k (setCells (C.encD c x0) off (den C (y.re cs')).cells)))).set b (.arr g (C.sz c) ((l.set k x').map (C.encD c)))=(denM C m1).set b (denB C (.arr g c (l.set k x'))):=by
     simp only [Mem.set,denB,Mem.mk.injEq,true_and]
     funext b'; simp only [upd]; split<;>rfl
    rw [← e]; exact this
   ·rw [Q4] at hi
    rw [Qp,Q4] at hi'
    by_cases q:k=i
    ·subst q
     have hk:k < l.length:=by
      rcases Qu k l.length with h | h
      ·exact h
      ·rw [Qo h] at hx0; cases hx0
     simp only [if_true,Qm,hk,Qb,Qc] at hi hi'
     subst hi; subst hi'
     rw [Vbe,r2,← hC.enc,← Vde]
     refine ⟨?_,himp⟩
     rw [hC.len,Vde,Vbn _ _ _ (by simp only [Vao]; rw [hlc,hlen]; exact hle),hC.enc,hC.len]
    ·rw [if_neg q] at hi hi'
     rw [Qp] at hi
     rw [hi] at hi'
     cases hi'
     exact .refl _
  ·have:=g2 b
   rw [hsame] at this
   simp only [WfB] at this ⊢
   simpa using this
 ·cases h
end
section
variable {T:Nat→Type} {C:Cd T} {O I:Nat→Prop} {w:World} {loc:Nat→Nat→Loc} {L:Nat→Nat→Nat} {m:MT T} {P:Program} {Y:Nat→Option TI} {R:Type} {G:Nat→Option (List D)}
def Rw (C:Cd T) (c:Nat) (rowsD:List (List D)) (rows:List (T c)):Prop:=
 rowsD.length=rows.length∧∀ (i:Nat) (row:List D) (x:T c),rowsD[i]? = some row→rows[i]? = some x→row.length=C.sz c∧pureL row=true∧Imp row (C.encD c x)
theorem Rw.imp {c:Nat} {rowsD:List (List D)} {rows:List (T c)} (h:Rw C c rowsD rows):ImpR (C.sz c) rowsD (rows.map (C.encD c)):=by
 refine ⟨by simp [h.1],fun i row row' hi hi' _=>?_⟩
 rw [Qp,Qe] at hi'
 obtain ⟨x,hx,rfl⟩:=hi'
 exact (h.2 i row x hi hx).2.2
theorem Rw.set {c:Nat} {rowsD:List (List D)} {rows:List (T c)} (h:Rw C c rowsD rows) {i:Nat} {row:List D} {x:T c} (h1:row.length=C.sz c) (h2:pureL row=true) (h3:Imp row (C.encD c x)):Rw C c (rowsD.set i row) (rows.set i x):=by
 refine ⟨by simp [h.1],fun j row' x' hj hj'=>?_⟩
 rw [Q4] at hj hj'
 by_cases q:i=j
 ·subst q
  rw [if_pos rfl] at hj hj'
  split at hj
  ·split at hj'
   ·simp only [Qb] at hj hj'
    subst hj; subst hj'
    exact ⟨h1,h2,h3⟩
   ·cases hj'
  ·cases hj
 ·rw [if_neg q] at hj hj'
  exact h.2 j row' x' hj hj'
theorem Rw.rep {c:Nat} {row:List D} {x:T c} (n:Nat) (h1:row.length=C.sz c) (h2:pureL row=true) (h3:Imp row (C.encD c x)):Rw C c (Qh n row) (Qh n x):=by
 refine ⟨by simp,fun j row' x' hj hj'=>?_⟩
 rw [List.getElem?_replicate] at hj hj'
 split at hj
 ·rename_i hq
  rw [if_pos hq] at hj'
  simp only [Qb] at hj hj'
  subst hj; subst hj'
  exact ⟨h1,h2,h3⟩
 ·cases hj
theorem Vmi (hC:CdOk C) {c:Nat}:∀ (ps:List (Nat × DT T)) (vs:List Value) {m:MT T} {I:Nat → Prop} {rowsD:List (List D)} {rows:List (T c)} {K:List (T c) → MT T → Option R} {r:R},MRel O I loc (denM C m) w → WfM L m →
    ps.length=vs.length → (∀ (j:Nat) (p:Nat × DT T) (v:Value),ps[j]? = some p → vs[j]? = some v → WfD L p.2 ∧ V I w (den C p.2) loc v) → Rw C c rowsD rows → partsK C c ps m rows K=some r →
    ∃ (ds:List D) (rowsD':List (List D)) (rows':List (T c)) (m':MT T) (I':Nat → Prop),ds.length=ps.length ∧ rowParts P (C.sz c) rowsD (Qbo (fun p d=>(p.1,d)) ps ds)=some rowsD' ∧ Rw C c rowsD' rows' ∧ MRel O I' loc (denM C m') w ∧ WfM L m' ∧ (∀ k,I k → I' k) ∧ (∀ k,I' k → I k ∨ O k) ∧
      (∀ (j:Nat) (d:D) (v:Value),ds[j]? = some d → vs[j]? = some v → V I' w d free v) ∧ m'.length=m.length ∧ K rows' m'=some r
  | [],[],m,I,rowsD,rows,K,r,hm,hw,hl,hv,hr,h=>⟨[],rowsD,rows,m,I,rfl,rfl,hr,hm,hw,fun _ h=>h,fun _ h=>.inl h,by simp,rfl,h⟩
  | [],_ :: _,m,I,rowsD,rows,K,r,hm,hw,hl,hv,hr,h=>by simp at hl
  | _ :: _,[],m,I,rowsD,rows,K,r,hm,hw,hl,hv,hr,h=>by simp at hl
  | (i, x) :: ps, v :: vs, m, I, rowsD, rows, K, r, hm, hw, hl, hv, hr, h => by
    simp only [partsK] at h
    split at h
    case h_2=>cases h
    rename_i hf
    obtain ⟨hwx,hvx⟩:=hv 0 (i,x) v (by simp) (by simp)
    have hcs:=Vcv hf hvx
    obtain ⟨cs',m1,I1,g1,g2,g3,g4,g5,g6,g7,g8,h⟩:=Vjm hC hm hw (Vbp hwx) hcs h
    have g4:=Vme hm g4
    split at h
    case h_2=>cases h
    rename_i y hy
    split at h
    case h_2=>cases h
    rename_i hlt
    have hlt:i < rows.length:=by simpa [Nat.blt_eq] using hlt
    obtain ⟨hs,himp⟩:=hC.dec c _ y hy
    have hlc:cs'.length=x.cells.length:=by
      have h1:=Vaf g5
      have h2:=Vaf hcs
      rw [Vao] at h1 h2
      omega
    obtain ⟨r1,r2,r3,r4⟩:=re_ok hf hvx g5 hs hlc
    have hsz:(denL C cs').length=C.sz c:=by
      have h1:=Vaf g5
      have h2:=Vaf (himp I1 w _ g5)
      rw [hC.len] at h2
      omega
    have hr':Rw C c (rowsD.set i (denL C cs')) (rows.set i y):=hr.set hsz (Vbx C _ (Vcm hs)) ⟨by rw [hC.len,hsz],himp⟩
    obtain ⟨ds,rowsD',rows',m',I',k1,k2,k3,k4,k5,k6,k7,k8,k9,k10⟩:=Vmi hC ps vs g1 g2 (by simpa using hl) (fun j p v' hj hj'=>by
      obtain ⟨q1,q2⟩:=hv (j + 1) p v' (by simpa using hj) (by simpa using hj')
      exact ⟨q1,Va4 (Vag g3) _ loc loc v' (.refl _) q2⟩) hr' h
    refine ⟨den C (x.re cs') :: ds,rowsD',rows',m',I',by simp [k1],?_,k3,k4,k5,fun k h=>k6 k (g3 k h),fun k h=>?_,fun j d v' hj hj'=>?_,k9.trans g7,k10⟩
    · simp only [List.zipWith_cons_cons,rowParts,Vbe,r2]
      rw [if_pos ⟨r4,hsz,DT.pure_den C _ r3,by rw [hr.1]; exact hlt⟩]
      exact k2
    · rcases k7 k h with h | h
      · exact g4 k h
      · exact .inr h
    · cases j with
      | zero=>
        simp only [List.getElem?_cons_zero,Qb] at hj hj'
        subst hj; subst hj'
        exact Va4 (Vag k6) _ free free v (.refl _) r1
      | succ j=>exact k8 j d v' (by simpa using hj) (by simpa using hj')
theorem Vg7 (hC:CdOk C) (hY:TysOk P Y) {el:Nat} {j:TI} (hj:Y el=some j) {z:T j.code} (hz:zeroE C j=some z) :
  ∃ row,zrow P el j.sz=some row∧row.length=C.sz j.code∧pureL row=true∧Imp row (C.encD j.code z)∧j.sz=C.sz j.code:=by
 unfold zeroE at hz
 split at hz
 case h_2=>cases hz
 rename_i hs
 have hs:=Qf hs
 obtain ⟨h1,h2⟩:=hC.dec _ _ z hz
 have ht:=hY el j hj
 have hden:denL C (j.zero.map Zc.toT:List (DT T))=j.zero.map Zc.toD:=Veb j.zero
 have hp:pureL (j.zero.map Zc.toD)=true:=by rw [← hden]; exact Vbx C _ (Vcm h1)
 have hcells:(if j.kind.agg=true then D.agg (j.zero.map Zc.toD) else (j.zero.map Zc.toD).headD .dead).cells=j.zero.map Zc.toD∧(if j.kind.agg=true then D.agg (j.zero.map Zc.toD) else (j.zero.map Zc.toD).headD .dead).fit=true∧(if j.kind.agg=true then D.agg (j.zero.map Zc.toD) else (j.zero.map Zc.toD).headD .dead).pure=true:=by
  cases hk:j.kind.agg with
  | true=>simp only [if_true,D.cells,D.fit,D.pure,hp,and_self]
  | false=>
   have h1:=ht.zlen
   rw [ht.one hk] at h1
   match hzz:j.zero,h1 with
   | [q],_=>
    simp only [Qa7,if_false,Qj,Qbq,Qau]
    cases q<;>exact ⟨rfl,rfl,rfl⟩
 refine ⟨j.zero.map Zc.toD,?_,by simp [ht.zlen,hs],hp,⟨by simp [hC.len,ht.zlen,hs],fun I w vs hv=>h2 I w vs (by rw [hden]; exact hv)⟩,hs⟩
 unfold zrow
 simp only [ht.zero]
 rw [if_pos ⟨hcells.2.1,by rw [hcells.1]; simp [ht.zlen],hcells.2.2⟩,hcells.1]
theorem Vk0 (hC:CdOk C) (hY:TysOk P Y) (hm:MRel O I loc (denM C m) w) (hw:WfM L m) {e:Operand→DT T} {ρ:Operand→Value} (he:∀ x,V I w (den C (e x)) loc (ρ x)) (hwe:∀ x,WfD L (e x)) {t el n:Nat} {j:TI} {z:T j.code} {parts:Array (Nat×Operand)} {K:List (T j.code)→MT T→Option R} {r:R}
  (ht:elemT Y t=some el) (hj:Y el=some j) (hz:zeroE C j=some z) (hn:n * j.sz≤16777216) (h:partsK C j.code (parts.toList.map fun p=>(p.1,e p.2)) m (Qh n z) K=some r) :
  ∃ rows m',ResT C O I loc L w ((do pure (.value (← Instr.buildSlice t n (parts.map fun (i,x)=>(i,ρ x)))):Sem Next).run P w) (.bw m'.length 0 j.code n) (m'++[.arr 0 j.code rows])∧K rows m'=some r:=by
 obtain ⟨row,z1,z2,z3,z4,z5⟩:=Vg7 hC hY hj hz
 obtain ⟨ds,rowsD,rows,m',I',k1,k2,k3,k4,k5,k6,k7,k8,k9,k10⟩:=Vmi (P:=P) hC (parts.toList.map fun p=>(p.1,e p.2)) (parts.toList.map fun p=>ρ p.2) hm hw (by simp) (fun q p v hq hv=>by
  rw [Qp,Qe] at hq hv
  obtain ⟨a,ha,rfl⟩:=hq
  obtain ⟨a',ha',rfl⟩:=hv
  rw [ha] at ha'; cases ha'
  exact ⟨hwe _,he _⟩) (Rw.rep n z2 z3 z4) h
 refine ⟨rows,m',?_,k10⟩
 -- the parts by number
 let ds':Operand→D:=fun | .tmp q=>ds.getD q .dead | _=>.dead
 let vs:=parts.toList.map fun p=>ρ p.2
 let ρ':Operand→Value:=fun | .tmp q=>vs.getD q undef | _=>undef
 let parts':Array (Nat×Operand):=(parts.toList.mapIdx fun q p=>(p.1,Operand.tmp q)).toArray
 have hds:ds.length=parts.toList.length:=by simpa using k1
 have hp1:parts'.toList.map (fun p=>(p.1,ds' p.2))=Qbo (fun p d=>(p.1,d)) (parts.toList.map fun p=>(p.1,e p.2)) ds:=by
  apply Qaq
  intro q
  simp only [parts',Qp,Qa3,List.getElem?_zipWith]
  cases hq:parts.toList[q]? with
  | none=>simp
  | some p=>
   have hlt:q < ds.length:=by
    rw [hds]
    rcases Qu q parts.toList.length with h | h
    ·exact h
    ·rw [Qo h] at hq; cases hq
   simp [ds',Qt hlt,Qn]
 have hp2:parts'.map (fun (i,x)=>(i,ρ' x))=parts.map (fun (i,x)=>(i,ρ x)):=by
  apply Qab
  apply Qaq
  intro q
  simp only [parts',Array.toList_map,Qp,Qa3]
  cases hq:parts.toList[q]? with
  | none=>simp
  | some p=>
   have hq':vs[q]? = some (ρ p.2):=by simp only [vs,Qp,hq,Qc]
   simp [ρ',Qn,hq']
 have hv':∀ x,V I' w (ds' x) loc (ρ' x):=by
  intro x
  cases x with
  | tmp q=>
   show V I' w (ds.getD q .dead) loc (vs.getD q undef)
   rcases Qu q ds.length with h | h
   ·have h1:ds[q]? = some ds[q]:=Qt h
    have h2:q < vs.length:=by simp only [vs,Qm]; rw [← hds]; exact h
    have h3:vs[q]? = some vs[q]:=Qt h2
    rw [Qn,Qn,h1,h3]
    exact Von (k8 q _ _ h1 h3)
   ·rw [Qn,Qo h]; trivial
  | _=>trivial
 have hrp:rowParts P j.sz (Qh n row) (parts'.toList.map fun p=>(p.1,ds' p.2))=some rowsD:=by rw [hp1,z5]; exact k2
 obtain ⟨v,w',b1,b2⟩:=Vi3 (P:=P) k4 hv' (Va7 hY ht) (hY el j hj).sz hn z1 hrp
 rw [hp2] at b1
 have hres:=Res.bind b1 b2
 obtain ⟨v0,w0,loc',c1,c2,c3,c4,c5,c6⟩:=hres
 have hlen:rows.length=n:=by
  have h1:=(Vdn (P:=P) (s:=j.sz) (e:=ds') parts'.toList (Qh n row) rowsD (fun q hq=>by rw [Q9 hq,z2,z5]) hrp).2.2.1
  rw [← k3.1,h1]; simp
 have hnb:(denM C m').nb=m'.length:=rfl
 have hwk:=c2.weakR (b:=m'.length) (g:=0) (s:=j.sz) (rows:=rowsD) (rows':=rows.map (C.encD j.code)) (by simp [Mem.add,hnb]) (by simp [Mem.add,upd,hnb]) (by rw [z5]; exact k3.imp)
 refine ⟨v0,w0,I',loc',updL L m'.length 0 n,c1,?_,Vft k4 k5 (by simp [WfB,updL,hlen]),?_,by simp [WfD,updL],(Vag k6).trans c4,k7,c5,LExt.upd (k4.free _ _ (Q6 _)),c6⟩
 ·have e:((denM C m').add (.arr 0 j.sz rowsD)).set m'.length (.arr 0 j.sz (rows.map (C.encD j.code)))=denM C (m'++[.arr 0 j.code rows]):=by
   rw [Vdr]
   simp only [Mem.add,Mem.set,denB,hnb,Mem.mk.injEq,true_and,← z5]
   funext b'; simp only [upd]; split<;>rfl
  rw [← e]; exact hwk
 ·simp only [den]; rw [← z5]; exact c3
end
section
variable {T:Nat→Type} {C:Cd T} {O I:Nat→Prop} {w:World} {loc:Nat→Nat→Loc} {L:Nat→Nat→Nat} {m:MT T} {P:Program} {Y:Nat→Option TI} {R:Type} {G:Nat→Option (List D)}
theorem Vk1 {M:Mem} (hm:MRel O I loc M w) {s n cap:Nat} {rows:List (List D)} {vs:List Value} (el:TypeId) (fz:Nat×Nat) (hs:∀ row∈rows,row.length=s) (hv:VL I w rows.flatten free vs) (h1:∀ x∈vs,x.oneCell'=true) (rest:List Value) (hfz:Unfz fz (vs++rest).length) (hcap:cap * s=(vs++rest).length) (hle:n≤cap) :
  Res O I loc w (.ok (.value (.slice (some ⟨w.heap.size,0,none⟩) n cap)) (w.alloc (.cells (vs++rest).toArray el fz))) (.bs M.nb 0 s 0 n) (M.add (.arr 0 s rows)):=by
 have hvl:=Vaf hv
 have he:=Va9 hm.imm (.cells (vs++rest).toArray el fz)
 refine ⟨_,_,locNew loc M.nb (.blk w.heap.size),.inl rfl,hm.alloc _ _ ?_,?_,he,Var hm _,Vb3 _ _⟩
 ·simp only [RelB]
  refine ⟨⟨fun g hg=>by omega,fun g hg=>by simp [locNew]; omega⟩,.inr ⟨w.heap.size,_,el,fz,by simp [locNew],Vay _ _,by simpa using hfz,?_,?_⟩⟩
  ·rw [Vai rows hs] at hvl
   simp; omega
  ·refine Vbb hs (Vah he _ free free vs (.refl _) hv) h1 fun j x hj=>?_
   simp only [World.cell?,Vay,Qv]
   have hj':j < vs.length:=by
    rcases Qu j vs.length with h | h
    ·exact h
    ·rw [Qo h] at hj; cases hj
   simp [Qw hj',hj]
 ·simp only [V,locNew,if_true]
  exact ⟨0,cap,rfl,hle,.inr (by simp),by rw [rowSize,Vay]; simpa using Nat.le_of_eq hcap⟩
theorem Vh6 {c n:Nat} {rowsD:List (List D)} {rows:List (T c)} {r:Result Next} (hm:MRel O I loc (denM C m) w) (hw:WfM L m) (hr:Rw C c rowsD rows) (hn:rows.length=n) (h:Res O I loc w r (.bs (denM C m).nb 0 (C.sz c) 0 n) ((denM C m).add (.arr 0 (C.sz c) rowsD))) :
  ResT C O I loc L w r (.bw m.length 0 c n) (m++[.arr 0 c rows]):=by
 obtain ⟨v0,w0,loc',c1,c2,c3,c4,c5,c6⟩:=h
 have hnb:(denM C m).nb=m.length:=rfl
 have hwk:=c2.weakR (b:=m.length) (g:=0) (s:=C.sz c) (rows:=rowsD) (rows':=rows.map (C.encD c)) (by simp [Mem.add,hnb]) (by simp [Mem.add,upd,hnb]) hr.imp
 refine ⟨v0,w0,I,loc',updL L m.length 0 n,c1,?_,Vft hm hw (by simp [WfB,updL,hn]),?_,by simp [WfD,updL],c4,fun _ h=>.inl h,c5,LExt.upd (hm.free _ _ (Q6 _)),c6⟩
 ·have e:((denM C m).add (.arr 0 (C.sz c) rowsD)).set m.length (.arr 0 (C.sz c) (rows.map (C.encD c)))=denM C (m++[.arr 0 c rows]):=by
   rw [Vdr]
   simp only [Mem.add,Mem.set,denB,hnb,Mem.mk.injEq,true_and]
   funext b'; simp only [upd]; split<;>rfl
  rw [← e]; exact hwk
 ·exact c3
theorem Vz1 {t n:Nat} (h:tsz P t=some n):∃ i,P.info? t=some i∧i.size=n:=by
 unfold tsz at h
 rw [Qe] at h
 exact h
theorem Vz2 (hC:CdOk C) (hY:TysOk P Y) (hm:MRel O I loc (denM C m) w) (hw:WfM L m) {t el:Nat} {j:TI} {z:T j.code} (ht:elemT Y t=some el) (hj:Y el=some j) (hz:zeroE C j=some z) (kl kc:IntKind) (n k:Int)
  (h1:0≤n) (h2:n≤k) (h3:(j.bts:Int) * k≤281474976710656) (h4:k≤9223372036854775807) :
  ResT C O I loc L w ((do pure (.value (← Instr.makeSlice t (.int kl n) (.int kc k))):Sem Next).run P w) (.bw m.length 0 j.code n.toNat) (m++[.arr 0 j.code (Qh n.toNat z)]):=by
 obtain ⟨row,z1,z2,z3,z4,z5⟩:=Vg7 hC hY hj hz
 obtain ⟨zv,q1,q2,q3,q4,q5,q6⟩:=Vfo z1 w
 obtain ⟨i,hi,his⟩:=Vz1 (hY el j hj).sz
 have hib:i.bytes=j.bts:=by
  have:=(hY el j hj).bts
  unfold tbytes at this
  rw [hi] at this
  simpa using this
 have hzero:i.zero=some zv:=by
  have:(zeroValue el).run P w = .ok zv w:=q1
  unfold zeroValue typeInfo at this
  cases hzz:i.zero with
  | none=>simp [hi,hzz] at this
  | some z0=>simp [hi,hzz] at this; rw [this]
 have hrun:=run_make (P:=P) w t el i zv (Val (Va7 hY ht)) hi hzero kl kc n k h1 h2 (by rw [hib]; exact h3) h4
 have hb:(do pure (.value (← Instr.makeSlice t (.int kl n) (.int kc k))):Sem Next).run P w = .ok (.value (.slice (some ⟨w.heap.size,0,none⟩) n.toNat k.toNat)) (w.alloc (.cells (madeCells zv.cells (k.toNat * i.size)) el)):=by
  simp [hrun]
 rw [hb]
 obtain ⟨hc1,hc2⟩:=Vbm (I:=I) (w:=w) (loc:=free) (ofV_V zv) q5
 have hflat:∀ n,VL I w (Qh n row).flatten free (Qh n zv.cells.toList).flatten:=by
  intro n
  induction n with
  | zero=>simp [VL]
  | succ n ih=>simp only [List.replicate_succ,Q5]; rw [q2]; exact Va0 hc1 (by rw [q2] at ih; exact ih)
 have hone:∀ n,∀ x∈(Qh n zv.cells.toList).flatten,x.oneCell'=true:=by
  intro n x hx
  rw [List.mem_flatten] at hx
  obtain ⟨l,hl,hx⟩:=hx
  rw [Q9 hl] at hx
  exact hc2 x hx
 have hmade:madeCells zv.cells (k.toNat * i.size)=((Qh n.toNat zv.cells.toList).flatten++(Qh (k.toNat - n.toNat) zv.cells.toList).flatten).toArray:=by
  rw [← Qa6,List.replicate_append_replicate]
  have e:n.toNat+(k.toNat - n.toNat)=k.toNat:=by omega
  rw [e,his]
  unfold madeCells
  apply Qab
  have:=Vg2 zv.cells.toList k.toNat
  simp only [Array.length_toList,q6,Array.toArray_toList] at this
  simpa [Array.toList_range,q6] using this
 rw [hmade]
 have hlen:∀ n,((Qh n zv.cells.toList).flatten).length=n * C.sz j.code:=by
  intro n
  rw [List.length_flatten]; simp [List.map_replicate,List.sum_replicate_nat,q6,z5]
 refine Vh6 hm hw (Rw.rep n.toNat z2 z3 z4) (by simp) ?_
 refine Vk1 hm (s:=C.sz j.code) (n:=n.toNat) (cap:=k.toNat) (rows:=Qh n.toNat row) el (0,0) (fun r hr=>by rw [Q9 hr]; exact z2) (hflat _) (hone _) _ (fun o _=>by simp) ?_ (by omega)
 rw [Qs,hlen,hlen,← Nat.add_mul]
 congr 1; omega
theorem Vwn (hC:CdOk C) (hY:TysOk P Y) (hm:MRel O I loc (denM C m) w) (hw:WfM L m) {src dst el:Nat} (hs:isStr Y src=true) (hd:elemT Y dst=some el) (hu:isU8 Y el=true) (l:List UInt8) :
  ResT C O I loc L w ((do pure (.value (← convert src dst (.string ⟨l.toArray⟩))):Sem Next).run P w) (.bw m.length 0 C.bt l.length) (m++[.arr 0 C.bt (castT C l)]):=by
 have hint:tint P el=some .u8:=by
  unfold isU8 at hu
  split at hu
  ·rename_i i hi
   split at hu
   ·rename_i hk; exact (hY el i hi).int _ hk
   ·cases hu
  ·cases hu
 have hrun:=run_bytes_of_string (P:=P) w src dst el ⟨l.toArray⟩ (Vcd (Vdp hY hs)) (Val (Va7 hY hd)) (Vf6 hint)
 rw [Vdj] at hrun
 rw [Qq,hrun,Ql,Qx]
 let cap:=grownCap w l.length 0 el
 have hcl:l.length≤cap:=by
  show l.length≤(Question.appendCap l.length 0 el).cut _
  simp [Question.cut]
 have hrow:bytesRow ⟨l.toArray⟩ cap=((l.map fun (b:UInt8)=>Value.int .u8 b.toNat)++Qh (cap - l.length) (Value.int .u8 0)).toArray:=by
  unfold bytesRow
  apply Qab
  simp [Vdj]
 have hm2:MRel O I loc (denM C m) w.drew:=MRel.of_heap (w:=w) rfl hm
 have hv:VL I w.drew (bytesD l).flatten free (l.map fun (b:UInt8)=>Value.int .u8 b.toNat):=by
  clear hrun hrow hcl
  unfold bytesD
  induction l with
  | nil=>simp [VL]
  | cons b r ih=>simp only [Qj,Q5,Qaa,Qaf,VL]; exact ⟨_,_,rfl,by simp [V],ih⟩
 have hrw:Rw C C.bt (bytesD l) (castT C l):=by
  have e:=Vh5 hC l
  refine ⟨by rw [← e]; simp,fun i row x hi hx=>?_⟩
  rw [← e,Qp,hx] at hi
  simp only [Qc,Qb] at hi
  subst hi
  refine ⟨hC.len _ _,?_,.refl _⟩
  rw [← hC.enc]; exact Vbx C _ (hC.epure _ _)
 have hlen:(castT C l).length=l.length:=by
  have:=congrArg List.length (Vh5 hC l)
  simpa [bytesD] using this
 show ResT C O I loc L w (.ok (.value (.slice (some ⟨w.heap.size,0,none⟩) l.length cap)) (w.drew.alloc (.cells (bytesRow ⟨l.toArray⟩ cap) el ((bytesRow ⟨l.toArray⟩ cap).size,(bytesRow ⟨l.toArray⟩ cap).size+1)))) _ _
 rw [hrow]
 refine Vh6 hm hw hrw hlen ?_
 rw [hC.bsz]
 refine Res.from (w1:=w.drew) rfl rfl rfl rfl ?_
 have:=Vk1 hm2 (s:=1) (n:=l.length) (cap:=cap) (rows:=bytesD l) el ((Qbp ((l.map fun (b:UInt8)=>Value.int .u8 b.toNat)++Qh (cap - l.length) (Value.int .u8 0))).size,(Qbp ((l.map fun (b:UInt8)=>Value.int .u8 b.toNat)++Qh (cap - l.length) (Value.int .u8 0))).size+1) (fun r hr=>by
  unfold bytesD at hr
  rw [Qz] at hr
  obtain ⟨b,_,rfl⟩:=hr; rfl) hv (fun x hx=>by
   rw [Qz] at hx
   obtain ⟨b,_,rfl⟩:=hx; rfl) (Qh (cap - l.length) (Value.int .u8 0)) (fun o ho=>by simp at ho ⊢; omega) (by simp; omega) hcl
 rw [show w.drew.heap.size=w.heap.size from rfl] at this
 exact this
theorem Vtu (hm:MRel O I loc (denM C m) w) (hw:WfM L m) {b g c n:Nat} {l:List (T c)} (hb:b < m.length) (hf:loc b (g+1) = .free) (hl:l.length=n):WfM (updL L b (g+1) n) (m.put b (.arr (g+1) c l)):=fun b'=>by
 rw [Vbd hb]
 split
 ·rename_i e; subst e; simp [WfB,updL,hl]
 ·rcases Qu b' m.length with h | h
  ·exact Vno hm (LExt.upd hf) hw b' h
  ·rw [Vkr h]; trivial
theorem Vx3 (hC:CdOk C) (hY:TysOk P Y) (hm:MRel O I loc (denM C m) w) (hw:WfM L m) {t t' ty el:Nat} {dsc:TypeDesc} {j:TI} {z:T j.code} (ht:elemT Y t=some el) (hj:Y el=some j) (hz:zeroE C j=some z) (ht':P.underlying t'=some dsc) (hni:dsc = .string∨∃ e,dsc = .slice e)
  {s:DT T} {u x:Value} (hws:WfD L s) (hs:V I w (den C s) loc u) {rows:List (T j.code)} (hsrc:∃ vs,Src P I w (C.sz j.code) (rows.map (C.encD j.code)) vs x) {K:DT T→MT T→Option R} {r:R} (h:appK m j.bts j.code s rows K=some r) :
  ∃ d m',ResT C O I loc L w ((do pure (.value (← Builtin.append_ #[t,t'] ty #[u,x])):Sem Next).run P w) d m'∧K d m'=some r:=by
 obtain ⟨row,z1,z2,z3,z4,z5⟩:=Vg7 hC hY hj hz
 have z1':=z1
 rw [z5] at z1'
 have hsz:=(hY el j hj).sz
 have hby:=(hY el j hj).bts
 have hel:=Va7 hY ht
 let more:Nat→Option (List (List D)):=fun sz=>if sz=C.sz j.code then some (rows.map (C.encD j.code)) else none
 have hmore:∀ sz rows',more sz=some rows'→∃ vs,Src P I w sz rows' vs x:=by
  intro sz rows' hq
  simp only [more] at hq
  split at hq
  ·rename_i e; subst e
   simp only [Qb] at hq; subst hq; exact hsrc
  ·cases hq
 have key:∀ {d:D} {M':Mem},appendW P (denM C m) t (den C s) more=some (d,M')→Res O I loc w ((do pure (.value (← Builtin.append_ #[t,t'] ty #[u,x])):Sem Next).run P w) d M':=fun hq=>Vnf (ty:=ty) hm ht' hni hs hmore hq
 unfold appK at h
 split at h
 ·cases hsm:small rows.length j.bts<;>simp only [hsm,cond_true,cond_false] at h
  ·cases h
  refine ⟨_,_,?_,h⟩
  have hq:appendW P (denM C m) t (den C (.nils:DT T)) more=some (.bs (denM C m).nb 0 j.sz 0 rows.length,(denM C m).add (.arr 0 j.sz (rows.map (C.encD j.code)))):=by
   simp only [appendW,hel,hsz,hby,z1',more,z5,if_true,den,Qm,hsm]
  refine (key hq).elim fun v hv=>?_
  obtain ⟨w',loc',c1,c2,c3,c4,c5,c6⟩:=hv
  refine ⟨v,w',I,loc',updL L m.length 0 rows.length,c1,?_,Vft hm hw (by simp [WfB,updL]),?_,by simp [WfD,updL],c4,fun _ h=>.inl h,c5,LExt.upd (hm.free _ _ (Q6 _)),c6⟩
  ·rw [Vdr]; simp only [denB]; rw [← z5]; exact c2
  ·simp only [den]; rw [← z5]; exact c3
 ·rename_i b g c' n
  split at h
  case h_2=>cases h
  rename_i hc
  have hc:=Qf hc
  subst hc
  split at h
  case h_2=>cases h
  rename_i l hl
  have hb:=Vbu hl
  have hlt:b < m.length:=by
   simp only [den,V] at hs
   exact Va6 (C:=C) (g:=g) hm (by intro e; simp [e] at hs)
  have hwb:=hw b
  rw [hb] at hwb
  simp only [WfB] at hwb
  simp only [WfD] at hws
  have hn:n=l.length:=by rw [← hws,hwb]
  have hbx:(denM C m).bx b = .arr g j.sz (l.map (C.encD j.code)):=by simp [denM,hb,denB,z5]
  cases hsm:small (l.length+rows.length) j.bts<;>simp only [hsm,cond_true,cond_false] at h
  ·cases h
  refine ⟨_,_,?_,h⟩
  have hq:appendW P (denM C m) t (den C (.bw b g j.code n:DT T)) more=some (.bs b (g+1) j.sz 0 (n+rows.length),(denM C m).set b (.arr (g+1) j.sz ((l.map (C.encD j.code)).take n++rows.map (C.encD j.code)))):=by
   simp only [appendW,hel,hsz,hby,z1',more,z5,if_true,den,Qm,hbx,true_and]
   rw [if_pos ⟨by omega,by rw [hn]; exact hsm⟩]
  have hfree:loc b (g+1) = .free:=by
   have:=hm.box b hlt
   rw [hbx] at this
   simp only [RelB] at this
   exact this.1.2 (g+1) (by omega)
  have hrows:(l.map (C.encD j.code)).take n++rows.map (C.encD j.code)=(l++rows).map (C.encD j.code):=by
   have:n=(l.map (C.encD j.code)).length:=by simp [hn]
   rw [this,Qbb,Q2]
  obtain ⟨v,w',loc',c1,c2,c3,c4,c5,c6⟩:=key hq
  refine ⟨v,w',I,loc',updL L b (g+1) (l++rows).length,c1,?_,Vtu hm hw hlt hfree rfl,?_,by simp [WfD,updL],c4,fun _ h=>.inl h,c5,LExt.upd hfree,c6⟩
  ·rw [Vcj hlt]; simp only [denB]; rw [← z5,← hrows]; exact c2
  ·simp only [den]; rw [← z5,Qs,← hn]; exact c3
 ·rename_i b g c' n
  split at h
  case h_2=>cases h
  rename_i hc
  have hc:=Qf hc
  subst hc
  split at h
  case h_2=>cases h
  rename_i l hl
  have hb:=Vbu hl
  have hlt:b < m.length:=by
   simp only [den,V] at hs
   exact Va6 (C:=C) (g:=g) hm (by intro e; simp [e] at hs)
  have hbx:(denM C m).bx b = .arr g j.sz (l.map (C.encD j.code)):=by simp [denM,hb,denB,z5]
  cases hsm:(decide (n≤l.length)&&small (n+rows.length) j.bts)<;>simp only [hsm,cond_true,cond_false] at h
  ·cases h
  simp only [Qg,decide_eq_true_eq] at hsm
  refine ⟨_,_,?_,h⟩
  have hq:appendW P (denM C m) t (den C (.bs b g j.code 0 n:DT T)) more=some (.bs b (g+1) j.sz 0 (n+rows.length),(denM C m).set b (.arr (g+1) j.sz ((l.map (C.encD j.code)).take n++rows.map (C.encD j.code)))):=by
   simp only [appendW,hel,hsz,hby,z1',more,z5,if_true,den,Qm,hbx,true_and]
   rw [if_pos ⟨hsm.1,hsm.2⟩]
  have hfree:loc b (g+1) = .free:=by
   have:=hm.box b hlt
   rw [hbx] at this
   simp only [RelB] at this
   exact this.1.2 (g+1) (by omega)
  have hrows:(l.map (C.encD j.code)).take n++rows.map (C.encD j.code)=(l.take n++rows).map (C.encD j.code):=by
   rw [Q2,Qam]
  have hlen:(l.take n++rows).length=n+rows.length:=by rw [Qs,List.length_take,Qag hsm.1]
  obtain ⟨v,w',loc',c1,c2,c3,c4,c5,c6⟩:=key hq
  refine ⟨v,w',I,loc',updL L b (g+1) (l.take n++rows).length,c1,?_,Vtu hm hw hlt hfree rfl,?_,by simp [WfD,updL],c4,fun _ h=>.inl h,c5,LExt.upd hfree,c6⟩
  ·rw [Vcj hlt]; simp only [denB]; rw [← z5,← hrows]; exact c2
  ·simp only [den]; rw [← z5,hlen]; exact c3
 ·cases h
end
section
variable {P:Program} {O I:Nat→Prop} {w:World} {loc:Nat→Nat→Loc} {m:Mem}
theorem Mem.set_self {b:Nat} {x:Box} (h:m.bx b=x):m.set b x=m:=by
 unfold Mem.set
 cases m with
 | mk nb bx=>
  congr 1
  funext q
  unfold upd
  split
  ·rename_i e; subst e; exact h.symm
  ·rfl
theorem Vgs {dT sT ty el:TypeId} {s n cap k:Nat} {a:Option Addr} {vs:List Value} {x:Value} {w':World} (ht:telem P dT=some el) (hsz:tsz P el=some s) (hlen:Builtin.lenOf x=pure k) (hk:k≤n)
  (hfirst:(Builtin.firstCells s k x).run P w = .ok vs.toArray w) (hst:(match a with | some a=>storeCells a vs | none=>pure ():Sem Unit).run P w = .ok () w') :
  (Builtin.copy_ #[dT,sT] ty #[.slice a n cap,x]).run P w = .ok (goInt k) w':=by
 have hmin:Nat.min k n=k:=Qag hk
 cases a with
 | none=>
  simp only [Qx,Result.ok.injEq,true_and] at hst
  subst hst
  simp [Builtin.copy_,run_underlying (Val ht),hlen,run_sizeOf' hsz,hmin,hfirst]
 | some a=>
  simp only at hst
  simp [Builtin.copy_,run_underlying (Val ht),hlen,run_sizeOf' hsz,hmin,hfirst,hst]
theorem Vmj (hm:MRel O I loc m w) {dT sT ty el:TypeId} {b g s n:Nat} {rows rows':List (List D)} {vs:List Value} {u x:Value} (ht:telem P dT=some el) (hsz:tsz P el=some s) (hx:V I w (.bs b g s 0 n) loc u) (hbx:m.bx b = .arr g s rows) (hn:rows.length=n) (hsrc:Src P I w s rows' vs x) (hle:rows'.length≤n) :
  ∃ w',(Builtin.copy_ #[dT,sT] ty #[u,x]).run P w = .ok (goInt rows'.length) w'∧MRel O I loc (m.set b (.arr g s (rows'++rows.drop rows'.length))) w'∧Ext I I w w'∧Fr O w w':=by
 have hx0:=hx
 simp only [V] at hx
 have hlt:b < m.nb:=lt_nb (g:=g) hm (by intro e; simp [e] at hx)
 have hb:=hm.box b hlt
 rw [hbx] at hb; simp only [RelB] at hb
 obtain ⟨h0,hb⟩:=hb
 have hvl:vs.length=rows'.length * s:=by rw [Vaf hsrc.vl,Vai rows' hsrc.row]
 by_cases hz:rows'.length=0
 ·have e:rows'=[]:=List.length_eq_zero_iff.1 hz
  subst e
  have hv0:vs=[]:=by
   have:vs.length=0:=by rw [hvl]; simp
   exact List.length_eq_zero_iff.1 this
  subst hv0
  have hu:∃ a cap,u = .slice a n cap:=by
   rcases hb with ⟨hl,rfl⟩ | ⟨k,c,el,fz,hl,_⟩
   ·simp only [hl] at hx
    obtain ⟨hq,rfl,rfl⟩:=hx
    exact ⟨none,0,rfl⟩
   ·simp only [hl] at hx
    obtain ⟨o,cap,rfl,_⟩:=hx
    exact ⟨_,_,rfl⟩
  obtain ⟨a,cap,rfl⟩:=hu
  refine ⟨w,Vgs ht hsz hsrc.len hle (hsrc.first w rfl) (by cases a<;>rfl),?_,.refl _ _,.refl _ _⟩
  rw [Qaf,Qbg,Qak,Mem.set_self hbx]
  exact hm
 ·rcases hb with ⟨_,rfl⟩ | ⟨k,c,el',fz,hl,hw,hu,hrc,hv⟩
  ·simp at hn; omega
  simp only [hl] at hx
  obtain ⟨o,cap,rfl,hnc,ho,_⟩:=hx
  have ho0:o=0:=by
   rcases ho with ho | ho
   ·omega
   ·simpa using ho
  subst ho0
  have hmul:rows'.length * s≤rows.length * s:=Qa5 s (by omega)
  have hfit:0+0+vs.length≤c.size:=by omega
  have hrun:=Vap (P:=P) k 0 el' fz vs 0 c w hw hu hfit hsrc.one
  simp only [Nat.add_zero,Qv,Qbi,Qaf] at hrun
  let l':=vs++c.toList.drop vs.length
  have hl':l'.length=c.size:=by simp [l']; omega
  have he:=Vcl (hm.own b g k hlt (by rw [hbx]; rfl) hl).2.1 hw (c':=l'.toArray) (by simp [hl'])
  have hcell:∀ j,(w.setRow k l'.toArray).cell? ⟨k,j,none⟩=if j < vs.length then vs[j]? else c[j]?:=by
   intro j
   rw [cell_setRow_same w k j c l'.toArray el' fz hw]
   by_cases hj:j < vs.length
   ·rw [if_pos hj]
    simp [l',Qw hj]
   ·rw [if_neg hj]
    simp only [l',Qah]
    rw [Qav (by omega),Qap,show vs.length+(j - vs.length)=j by omega]
    simp
  have hold:∀ j,w.cell? ⟨k,j,none⟩=c[j]?:=fun j=>by simp [World.cell?,hw]
  have hnew:VR I (w.setRow k l'.toArray) s rows' k 0:=Vbb hsrc.row (Vah he _ free free _ (.refl _) hsrc.vl) hsrc.one fun j z hj=>by
   have hjl:j < vs.length:=(List.getElem?_eq_some_iff.1 hj).1
   rw [hcell,Qv,if_pos hjl]
   exact hj
  have hst:=hm.store (x:=.arr g s (rows'++rows.drop rows'.length)) (c':=l'.toArray) hlt (by rw [hbx]; rfl) hl hw (by simp [hl']) (by
   simp only [RelB]
   refine ⟨h0,.inr ⟨k,l'.toArray,el',fz,hl,setRow_heap w k c _ el' fz hw,by simpa [hl'] using hu,?_,?_⟩⟩
   ·have:(rows'++rows.drop rows'.length).length=rows.length:=by rw [Qs,Qas]; omega
    rw [this]
    simpa [hl'] using hrc
   rw [Vl2]
   intro j x hj
   by_cases hjl:j < rows'.length
   ·rw [Qw hjl] at hj
    exact Vfj hnew hj
   ·rw [Qav (by omega),Qap,show rows'.length+(j - rows'.length)=j by omega] at hj
    have hx:=Vfj hv hj
    refine ⟨hx.1,Vj8 he (fun q hq=>?_) hx.2⟩
    have:rows'.length * s≤j * s:=Qa5 s (by omega)
    rw [hcell,hold,if_neg (by omega)])
  exact ⟨w.setRow k l'.toArray,Vgs ht hsz hsrc.len hle (hsrc.first w rfl) hrun,hst.1,hst.2.1,hst.2.2⟩
end
section
variable {T:Nat→Type} {C:Cd T} {P:Program} {O I:Nat→Prop} {w:World} {loc:Nat→Nat→Loc} {L:Nat→Nat→Nat} {m:MT T} {Y:Nat→Option TI} {R:Type}
theorem Vwo (hC:CdOk C) (hY:TysOk P Y) (hm:MRel O I loc (denM C m) w) (hw:WfM L m) {t t' ty el c:Nat} (ht:elemT Y t=some el) (hc:elemC Y C t c=true)
  {b g n:Nat} {u x:Value} (hws:WfD (T:=T) L (.bw b g c n)) (hs:V I w (den C (.bw b g c n:DT T)) loc u) {rows:List (T c)} (hsrc:∃ vs,Src P I w (C.sz c) (rows.map (C.encD c)) vs x) {K:DT T→MT T→Option R} {r:R} (h:copyK m b g c rows K=some r) :
  ∃ d m',ResT C O I loc L w ((do pure (.value (← Builtin.copy_ #[t,t'] ty #[u,x])):Sem Next).run P w) d m'∧K d m'=some r:=by
 obtain ⟨e,h1,h2⟩:=Vdq hY hc
 unfold copyK at h
 split at h
 case h_2=>cases h
 rename_i l hl
 cases hle:decide (rows.length≤l.length)<;>simp only [hle,cond_true,cond_false] at h
 ·cases h
 simp only [decide_eq_true_eq] at hle
 have hb:=Vbu hl
 have hlt:b < m.length:=by
  simp only [den,V] at hs
  exact Va6 (C:=C) (g:=g) hm (by intro e; simp [e] at hs)
 have hwb:=hw b
 rw [hb] at hwb
 simp only [WfB] at hwb
 simp only [WfD] at hws
 have hn:n=l.length:=by rw [← hws,hwb]
 have hbx:(denM C m).bx b = .arr g (C.sz c) (l.map (C.encD c)):=by simp [denM,hb,denB]
 obtain ⟨vs,hsrc⟩:=hsrc
 obtain ⟨w',q1,q2,q3,q4⟩:=Vmj (ty:=ty) (sT:=t') hm h1 h2 hs hbx (by rw [Qm,hn]) hsrc (by rw [Qm]; omega)
 refine ⟨_,_,?_,h⟩
 have hlen:(rows++l.drop rows.length).length=l.length:=by rw [Qs,Qas]; omega
 have hrows:rows.map (C.encD c)++(l.map (C.encD c)).drop (rows.map (C.encD c)).length=(rows++l.drop rows.length).map (C.encD c):=by
  rw [Q2,Qan,Qm]
 rw [hrows] at q2
 rw [Qq,q1,Ql,Qx,Qm]
 refine ⟨goInt rows.length,w',I,loc,L,.inl rfl,?_,?_,?_,trivial,q3,fun _ h=>.inl h,.refl _,LExt.refl _ _,q4⟩
 ·rw [Vcj hlt]; simp only [denB]; exact q2
 ·intro b'
  rw [Vbd hlt]
  split
  ·rename_i e; subst e; simp only [WfB]; rw [hlen,← hwb]
  ·exact hw b'
 ·simp only [den,V,goInt]
end
end Go.Abs
