/- The library of abstract values, part 1: see the remarks ahead of each part. No condition. -/
import Derived.Orders
import Derived.Below
import Derived.Laws.Sem
import Derived.WalkKit
import Derived.WalkLawsBesides
import Derived.ChangeKeysEq
set_option linter.unusedVariables false
set_option linter.unusedSimpArgs false
namespace Go.Abs
open Go
inductive Loc where
 | free
 | stale
 | nil
 | blk (b:Nat)
inductive D where
 | dead
 | bool (b:Bool)
 | int (k:IntKind) (n:Int)
 | str (l:List UInt8)
 | lit (v:Value)
 | nilp
 | rp (cs:List D)
 | bp (b off:Nat)
 | mp (b:Nat)
 | ap (b g s i off:Nat)
 | nils
 | rs (s:Nat) (rows:List (List D))
 | bs (b g s i n:Nat)
 | agg (cs:List D)
 | tup (vs:List D)
 | fn (f:Nat) (cap:List D)
def free:Nat->Nat->Loc:=λ_ _=>.free
def rowSize (w:World) (b:Nat):Nat:=
 match w.heap[b]? with
 | some (.cells c _ _)=>c.size
 | _=>0
mutual
def V (I:Nat->Prop) (w:World):D->(Nat->Nat->Loc)->Value->Prop
 | .dead,_,_=>True
 | .bool b,_,v=>v = .bool b
 | .int k n,_,v=>v = .int k n
 | .str l,_,v=>v = .string ⟨l.toArray⟩
 | .lit x,_,v=>v=x
 | .nilp,_,v=>v = .pointer none
 | .rp cs,_,v=>∃ b o,v = .pointer (some ⟨b,o,none⟩)/\I b/\VC I w cs b o
 | .bp b o,loc,v=>
  match loc b 0 with
  | .stale=>∃ a:Addr,v = .pointer (some a)
  | .blk c=>v = .pointer (some ⟨c,o,none⟩)
  | _=>False
 | .mp b,loc,v=>
  match loc b 0 with
  | .stale=>∃ c:Nat,v = .map (some c)
  | .blk c=>v = .map (some c)
  | _=>False
 | .ap b g s i o,loc,v=>
  match loc b g with
  | .stale=>∃ a:Addr,v = .pointer (some a)
  | .blk c=>v = .pointer (some ⟨c,i * s+o,none⟩)
  | _=>False
 | .nils,_,v=>v = .slice none 0 0
 | .rs s rows,_,v=>(rows=[]/\∃ p cap,v = .slice p 0 cap)\/∃ b o cap,v = .slice (some ⟨b,o,none⟩) rows.length cap/\rows.length<=cap/\I b/\VR I w s rows b o
 | .bs b g s i n,loc,v=>
  match loc b g with
  | .stale=>∃ a cap,v = .slice a n cap/\n<=cap/\(a=none->cap=0)
  | .nil=>i=0/\n=0/\v = .slice none 0 0
  | .blk c=>∃ o cap,v = .slice (some ⟨c,o,none⟩) n cap/\n<=cap/\(cap=0\/o=i * s)/\(i+cap) * s<=rowSize w c
  | .free=>False
 | .agg cs,loc,v=>∃ vs:List Value,v = .agg vs.toArray/\(∀ x∈vs,x.oneCell'=true)/\VL I w cs loc vs
 | .tup cs,loc,v=>∃ vs:List Value,v = .tuple vs.toArray/\VL I w cs loc vs
 | .fn f cap,loc,v=>∃ vs:List Value,v = .func (.func f) #[] vs.toArray/\VL I w cap loc vs
def VL (I:Nat->Prop) (w:World):List D->(Nat->Nat->Loc)->List Value->Prop
 | [],_,vs=>vs=[]
 | d::r,loc,vs=>∃ v vr,vs=v::vr/\V I w d loc v/\VL I w r loc vr
def VC (I:Nat->Prop) (w:World):List D->Nat->Nat->Prop
 | [],_,_=>True
 | d::r,b,o=>(∃ c,w.cell? ⟨b,o,none⟩=some c/\c.oneCell'=true/\V I w d free c)/\VC I w r b (o+1)
def VR (I:Nat->Prop) (w:World) (s:Nat):List (List D)->Nat->Nat->Prop
 | [],_,_=>True
 | row::r,b,o=>row.length=s/\VC I w row b o/\VR I w s r b (o+s)
end
structure Ext (I I':Nat->Prop) (w w':World):Prop where
 imm:∀ b,I b->I' b
 same:∀ b,I b->w'.heap[b]? = w.heap[b]?
 rows:∀ b,rowSize w b<=rowSize w' b
def LocExt (loc loc':Nat->Nat->Loc):Prop:=∀ b g,loc b g = .free\/loc' b g = .stale\/loc' b g=loc b g
theorem LocExt.free (loc:Nat->Nat->Loc):LocExt Abs.free loc:=λ_ _=>.inl rfl
theorem LocExt.refl (loc:Nat->Nat->Loc):LocExt loc loc:=λ_ _=>.inr (.inr rfl)
theorem Vk1 {w w':World} {b o:Nat} (h:w'.heap[b]? = w.heap[b]?):w'.cell? ⟨b,o,none⟩=w.cell? ⟨b,o,none⟩:=by
 simp [World.cell?,h]
mutual
theorem Vaz {I I':Nat->Prop} {w w':World} (h:Ext I I' w w') :
  ∀ (d:D) (loc loc':Nat->Nat->Loc) (v:Value),LocExt loc loc'->V I w d loc v->V I' w' d loc' v
 | .dead,_,_,_,_,_=>trivial
 | .bool b,_,_,_,_,hv=>by simpa only [V] using hv
 | .int k n,_,_,_,_,hv=>by simpa only [V] using hv
 | .str l,_,_,_,_,hv=>by simpa only [V] using hv
 | .lit x,_,_,_,_,hv=>by simpa only [V] using hv
 | .nilp,_,_,_,_,hv=>by simpa only [V] using hv
 | .nils,_,_,_,_,hv=>by simpa only [V] using hv
 | .rp cs,_,_,_,_,hv=>by
  simp only [V] at hv |-;obtain ⟨b,o,rfl,hI,hc⟩:=hv;exact ⟨b,o,rfl,h.imm b hI,Vfk h cs b o (h.same b hI) hc⟩
 | .bp b o,loc,loc',v,hl,hv=>by
  simp only [V] at hv |-;rcases hl b 0 with e | e | e
  ·simp [e] at hv
  ·rw [e];cases hq:loc b 0<;>simp only [hq] at hv
   ·exact hv
   ·exact ⟨_,hv⟩
  ·rw [e]; exact hv
 | .mp b,loc,loc',v,hl,hv=>by
  simp only [V] at hv |-;rcases hl b 0 with e | e | e
  ·simp [e] at hv
  ·rw [e];cases hq:loc b 0<;>simp only [hq] at hv
   ·exact hv
   ·exact ⟨_,hv⟩
  ·rw [e]; exact hv
 | .ap b g s i o,loc,loc',v,hl,hv=>by
  simp only [V] at hv |-;rcases hl b g with e | e | e
  ·simp [e] at hv
  ·rw [e];cases hq:loc b g<;>simp only [hq] at hv
   ·exact hv
   ·exact ⟨_,hv⟩
  ·rw [e]; exact hv
 | .rs s rows,_,_,_,_,hv=>by
  simp only [V] at hv |-;rcases hv with hv | ⟨b,o,cap,rfl,hcap,hI,hc⟩
  ·exact .inl hv
  ·exact .inr ⟨b,o,cap,rfl,hcap,h.imm b hI,Vb4 h s rows b o (h.same b hI) hc⟩
 | .bs b g s i n,loc,loc',v,hl,hv=>by
  simp only [V] at hv |-;rcases hl b g with e | e | e
  ·simp [e] at hv
  ·rw [e];cases hq:loc b g with
   | free=>simp [hq] at hv
   | stale=>simpa [hq] using hv
   | nil=>
    simp only [hq] at hv |-;exact ⟨none,0,by rw [hv.2.2,hv.2.1],by omega,λ_=>rfl⟩
   | blk c=>
    simp only [hq] at hv |-;obtain ⟨o,cap,hv,hn,_,_⟩:=hv;exact ⟨_,cap,hv,hn,λh=>by cases h⟩
  ·rw [e];cases hq:loc b g with
   | free=>simp [hq] at hv
   | stale=>simpa [hq] using hv
   | nil=>simpa [hq] using hv
   | blk c=>
    simp only [hq] at hv |-;obtain ⟨o,cap,hv,hn,ho,hs⟩:=hv;exact ⟨o,cap,hv,hn,ho,Nat.le_trans hs (h.rows c)⟩
 | .agg cs,loc,loc',v,hl,hv=>by
  simp only [V] at hv |-;obtain ⟨vs,rfl,h1,hc⟩:=hv;exact ⟨vs,rfl,h1,Vaf h cs loc loc' vs hl hc⟩
 | .tup cs,loc,loc',v,hl,hv=>by
  simp only [V] at hv |-;obtain ⟨vs,rfl,hc⟩:=hv;exact ⟨vs,rfl,Vaf h cs loc loc' vs hl hc⟩
 | .fn f cs,loc,loc',v,hl,hv=>by
  simp only [V] at hv |-;obtain ⟨vs,rfl,hc⟩:=hv;exact ⟨vs,rfl,Vaf h cs loc loc' vs hl hc⟩
theorem Vaf {I I':Nat->Prop} {w w':World} (h:Ext I I' w w') :
  ∀ (ds:List D) (loc loc':Nat->Nat->Loc) (vs:List Value),LocExt loc loc'->VL I w ds loc vs->VL I' w' ds loc' vs
 | [],_,_,_,_,hv=>by simpa only [VL] using hv
 | d::r,loc,loc',vs,hl,hv=>by
  simp only [VL] at hv |-;obtain ⟨v,vr,rfl,h1,h2⟩:=hv;exact ⟨v,vr,rfl,Vaz h d loc loc' v hl h1,Vaf h r loc loc' vr hl h2⟩
theorem Vfk {I I':Nat->Prop} {w w':World} (h:Ext I I' w w') :
  ∀ (cs:List D) (b o:Nat),w'.heap[b]? = w.heap[b]?->VC I w cs b o->VC I' w' cs b o
 | [],_,_,_,_=>trivial
 | d::r,b,o,hb,hv=>by
  simp only [VC] at hv |-;obtain ⟨⟨c,hc,h1,hd⟩,hr⟩:=hv;exact ⟨⟨c,(Vk1 hb).trans hc,h1,Vaz h d Abs.free Abs.free c (.refl _) hd⟩,Vfk h r b (o+1) hb hr⟩
theorem Vb4 {I I':Nat->Prop} {w w':World} (h:Ext I I' w w') (s:Nat) :
  ∀ (rows:List (List D)) (b o:Nat),w'.heap[b]? = w.heap[b]?->VR I w s rows b o->VR I' w' s rows b o
 | [],_,_,_,_=>trivial
 | row::r,b,o,hb,hv=>by
  simp only [VR] at hv |-;exact ⟨hv.1,Vfk h row b o hb hv.2.1,Vb4 h s r b (o+s) hb hv.2.2⟩
end
inductive Box where
 | gone
 | lent
 | var (cs:List D)
 | arr (g s:Nat) (rows:List (List D))
 | frz (g s:Nat) (rows:List (List D))
 | iter (l:List UInt8) (pos:Nat)
 | mset (ks:List Value)
structure Mem where
 nb:Nat
 bx:Nat->Box
structure S where
 t:Nat->D
 m:Mem
def upd {α:Type} (f:Nat->α) (i:Nat) (x:α):Nat->α:=λj=>if j=i then x else f j
def bxOf:List Box->Nat->Box
 | [],_=>.gone
 | b::_,0=>b
 | _::r,j+1=>bxOf r j
def S.put (σ:S) (dst:Option Nat) (d:D):S:=
 match dst with
 | some k=>{ σ with t:=upd σ.t k d }
 | none=>σ
mutual
def ofV:Value->D
 | .bool b=>.bool b
 | .int k n=>.int k n
 | .string s=>.str s.data.toList
 | .pointer none=>.nilp
 | .slice none 0 0=>.nils
 | .agg ⟨cs⟩=>if cs.all (·.oneCell') then .agg (ofVs cs) else .dead
 | .nilFunc=>.lit .nilFunc
 | .nilIface=>.lit .nilIface
 | .map none=>.lit (.map none)
 | _=>.dead
def ofVs:List Value->List D
 | []=>[]
 | v::r=>ofV v::ofVs r
end
structure Specs where
 glob:Nat->Option (List D)
 fn:Nat->Option (Nat×(List D->Option (D×List Box)))
def ev (Sp:Specs) (t:Nat->D):Operand->D
 | .tmp i=>t i
 | .const v=>ofV v
 | .global g=>match Sp.glob g with | some cs=>.rp cs | none=>.dead
 | .func f=>.fn f []
def tsz (P:Program) (t:TypeId):Option Nat:=(P.info? t).map (·.size)
def tbytes (P:Program) (t:TypeId):Option Nat:=(P.info? t).map (·.bytes)
def tagg (P:Program) (t:TypeId):Option Bool:=(P.underlying t).map λ| .struct _=>true | .array _ _=>true | _=>false
def tzero (P:Program) (t:TypeId):Option D:=((P.info? t).bind (·.zero)).map ofV
def tfld (P:Program) (t:TypeId) (k:Nat):Option (Nat×TypeId):=
 match P.underlying t with
 | some (.struct fs)=>match fs[k]? with
  | some f=>match P.info? f.type with
   | some i=>if i.size=0 then none else some (f.offset,f.type)
   | none=>none
  | none=>none
 | _=>none
def tint (P:Program) (t:TypeId):Option IntKind:=match P.underlying t with | some (.int k)=>some k | _=>none
def tstr (P:Program) (t:TypeId):Bool:=match P.underlying t with | some .string=>true | _=>false
def tbool (P:Program) (t:TypeId):Bool:=match P.underlying t with | some .bool=>true | _=>false
def telem (P:Program) (t:TypeId):Option TypeId:=match P.underlying t with | some (.slice e)=>some e | _=>none
def tarr (P:Program) (t:TypeId):Option (Nat×TypeId):=match P.underlying t with | some (.array n e)=>some (n,e) | _=>none
def fkind (P:Program) (t:TypeId):Nat:=if tbool P t then 1 else if tstr P t then 2 else if (tint P t).isSome then 3 else 0
def flatFields (P:Program):List Field->Nat->Option (List Nat)
 | [],_=>some []
 | f :: r, o => if f.name ≠ "_" ∧ f.offset = o ∧ fkind P f.type ≠ 0 then (flatFields P r (o + 1)).map (fkind P f.type :: ·) else none
def arrFields (e:TypeId):Nat->Nat->List Field
 | 0,_=>[]
 | n + 1, k => ⟨"x", e, k, false, "", "", 0⟩ :: arrFields e n (k + 1)
def flatEq (P:Program) (t:TypeId):Option (List Nat):=
 match P.underlying t with
 | some (.struct fs)=>if P.stoodInHeld t=false/\P.eqGuardType P.depth t=false then flatFields P fs.toList 0 else none
 | some (.array n e)=>if P.eqGuardType P.depth t=false/\P.cellsOf e=1/\(P.info? e).isSome then flatFields P (arrFields e n 0) 0 else none
 | _=>none
def D.cells:D->List D
 | .agg cs=>cs
 | d=>[d]
def D.one:D->Bool
 | .agg _=>false
 | .tup _=>false
 | .dead=>false
 | .lit (.agg _)=>false
 | .lit (.tuple _)=>false
 | _=>true
def D.fit:D->Bool
 | .agg _=>true
 | d=>d.one
def setCells:List D->Nat->List D->List D
 | cs,_,[]=>cs
 | [],_,_::_=>[]
 | _::cs,0,v::vs=>v::setCells cs 0 vs
 | c::cs,k+1,v::vs=>c::setCells cs k (v::vs)
def loadD (P:Program) (t:TypeId) (cs:List D):Option D:=
 match tagg P t with
 | some true=>match tsz P t with
  | some m=>if m<=cs.length then some (.agg (cs.take m)) else none
  | none=>none
 | some false=>match cs with
  | c::_=>some c
  | []=>none
 | none=>none
def eqCells:List Nat->List D->List D->Option Bool
 | [],[],[]=>some true
 | 3::q,.int k a::r,.int k' b::r'=>if k=k' then (eqCells q r r').map ((a == b)&&·) else none
 | 1::q,.bool a::r,.bool b::r'=>(eqCells q r r').map ((a == b)&&·)
 | 2::q,.str a::r,.str b::r'=>(eqCells q r r').map ((a == b)&&·)
 | _,_,_=>none
def intBin (op:BinOp) (k:IntKind) (a:Int) (k':IntKind) (b:Int):Option D:=
 match op with
 | .shl=>if b < 0 then none else some (.int k (k.wrap (a * 2 ^ (min b.toNat k.bits))))
 | .shr=>if b < 0 then none else some (.int k (a.fdiv (2 ^ (min b.toNat k.bits))))
 | _=>if k≠k' then none else match op with
  | .add=>some (.int k (k.wrap (a+b)))
  | .sub=>some (.int k (k.wrap (a - b)))
  | .mul=>some (.int k (k.wrap (a * b)))
  | .quo=>if b=0 then none else some (.int k (k.wrap (a.tdiv b)))
  | .rem=>if b=0 then none else some (.int k (a.tmod b))
  | .and=>some (.int k (k.wrap (BitVec.ofInt k.bits a &&& BitVec.ofInt k.bits b).toNat))
  | .or=>some (.int k (k.wrap (BitVec.ofInt k.bits a ||| BitVec.ofInt k.bits b).toNat))
  | .xor=>some (.int k (k.wrap (BitVec.ofInt k.bits a ^^^ BitVec.ofInt k.bits b).toNat))
  | .andNot=>some (.int k (k.wrap (BitVec.ofInt k.bits a &&& ~~~ BitVec.ofInt k.bits b).toNat))
  | .eql=>some (.bool (a == b))
  | .neq=>some (.bool (a != b))
  | .lss=>some (.bool (a < b))
  | .leq=>some (.bool (a<=b))
  | .gtr=>some (.bool (a > b))
  | .geq=>some (.bool (a≥b))
  | _=>none
def strBin (op:BinOp) (a b:List UInt8):Option D:=
 match op with
 | .add=>if ((a.length+b.length:Nat):Int) > IntKind.i64.max then none else some (.str (a++b))
 | .eql=>some (.bool (a == b))
 | .neq=>some (.bool (!(a == b)))
 | .lss=>some (.bool (Op.bytesLess a b))
 | .leq=>some (.bool (Op.bytesLess a b||a == b))
 | .gtr=>some (.bool (!(Op.bytesLess a b||a == b)))
 | .geq=>some (.bool (!Op.bytesLess a b))
 | _=>none
def binD (P:Program) (op:BinOp) (t:TypeId) (x y:D):Option D:=
  match x with
  | .int k a=>match y with
    | .int k' b=>intBin op k a k' b
    | _=>none
  | .str a=>match y with
    | .str b=>strBin op a b
    | _=>none
  | .bool a=>match y with
    | .bool b=>if tbool P t then match op with
        | .eql=>some (.bool (a == b))
        | .neq=>some (.bool (!(a == b)))
        | _=>none
      else none
    | _=>none
  | .agg xs=>match y with
    | .agg ys=>match flatEq P t with
      | some q=>match op with
        | .eql=>(eqCells q xs ys).map .bool
        | .neq=>(eqCells q xs ys).map λb=>.bool (!b)
        | _=>none
      | none=>none
    | _=>none
  | .nils=>match y with
    | .nils=>match telem P t with
      | some _=>match op with
        | .eql=>some (.bool true)
        | .neq=>some (.bool false)
        | _=>none
      | none=>none
    | _=>none
  | .rs _ (_ :: _)=>match y with
    | .nils=>match telem P t with
      | some _=>match op with
        | .eql=>some (.bool false)
        | .neq=>some (.bool true)
        | _=>none
      | none=>none
    | _=>none
  | _=>none
def unD (op:UnOp) (x:D):Option D:=
 match op,x with
 | .not,.bool b=>some (.bool (!b))
 | .neg,.int k n=>some (.int k (k.wrap (0 - n)))
 | .xor,.int k n=>some (.int k (k.wrap (BitVec.ofInt k.bits (if k.signed then -1 else k.max) ^^^ BitVec.ofInt k.bits n).toNat))
 | _,_=>none
def convD (P:Program) (dst:TypeId) (x:D):Option D:=
 match x with
 | .int _ n=>match tint P dst with
  | some k=>some (.int k (k.wrap n))
  | none=>if tstr P dst then some (.str (Utf8.encode n).data.toList) else none
 | .str l=>if tstr P dst then some (.str l) else none
 | _=>none
def fillD (place:Nat->Option (Nat×Nat)):List D->List (Nat×D)->Option (List D)
 | cells,[]=>some cells
 | cells,(i,x)::r=>match place i with
  | some (o,s)=>if x.fit=true/\x.cells.length=s/\o+s<=cells.length then fillD place (setCells cells o x.cells) r else none
  | none=>none
def tplacesL (P:Program):List Field->Option (List (Nat×Nat))
 | []=>some []
 | f::r=>match tsz P f.type with
  | some s=>(tplacesL P r).map ((f.offset,s)::·)
  | none=>none
def tplaces (P:Program) (t:TypeId):Option (List (Nat×Nat)):=
 match P.underlying t with
 | some (.struct fs)=>tplacesL P fs.toList
 | _=>none
def buildD (P:Program) (t:TypeId) (parts:List (Nat×D)):Option D:=
 match tzero P t with
 | some (.agg z)=>match tplaces P t with
  | some pl=>(fillD (λi=>pl[i]?) z parts).map .agg
  | none=>match tarr P t with
   | some (_,e)=>match tsz P e with
    | some s=>(fillD (λi=>some (i * s,s)) z parts).map .agg
    | none=>none
   | none=>none
 | _=>none
def idx (x:D) (n:Nat):Option Nat:=
 match x with
 | .int _ i=>if 0<=i/\i < n then some i.toNat else none
 | _=>none
def bound (x:Option D) (dflt n:Nat):Option Nat:=
 match x with
 | some (.int _ i)=>if 0<=i/\i<=n then some i.toNat else none
 | some _=>none
 | none=>if dflt<=n then some dflt else none
def fieldAddrD (P:Program) (t:TypeId) (x:D) (k:Nat):Option D:=
 match tfld P t k with
 | some (o,_)=>match x with
  | .bp b off=>some (.bp b (off+o))
  | .ap b g s i off=>some (.ap b g s i (off+o))
  | .rp cs=>some (.rp (cs.drop o))
  | _=>none
 | none=>none
def fieldD (P:Program) (t:TypeId) (x:D) (k:Nat):Option D:=
 match tfld P t k with
 | some (o,ft)=>match x with
  | .agg cs=>loadD P ft (cs.drop o)
  | _=>none
 | none=>none
def indexAddrD (P:Program) (t:TypeId) (x i:D):Option D:=
  match x with
  | .rs s rows=>match telem P t with
    | some e=>if tsz P e=some s then match idx i rows.length with
        | some k=>(rows[k]?).map .rp
        | none=>none
      else none
    | none=>none
  | .bs b g s o n=>match telem P t with
    | some e=>if tsz P e=some s then (idx i n).map λk=>.ap b g s (o + k) 0 else none
    | none=>none
  | .bp b off=>match tarr P t with
    | some (n,e)=>match tsz P e with
      | some s=>(idx i n).map λk=>.bp b (off + k * s)
      | none=>none
    | none=>none
  | .rp cs=>match tarr P t with
    | some (n,e)=>match tsz P e with
      | some s=>(idx i n).map λk=>.rp (cs.drop (k * s))
      | none=>none
    | none=>none
  | .ap b g s j 0=>match tarr P t with
    | some (n,e)=>if tsz P e=some s then (idx i n).map λk=>.ap b g s (j + k) 0 else none
    | none=>none
  | _=>none
def arrayAtD (P:Program) (t:TypeId) (x:D):Option D:=
 match tarr P t with
 | some (n,el)=>match x with
  | .rs s rows=>if tsz P el=some s/\0 < n/\n<=rows.length then some (.rp (rows.take n).flatten) else none
  | .bs b g s o m=>if tsz P el=some s/\0 < n/\n<=m then some (.ap b g s o 0) else none
  | _=>none
 | none=>none
def capD (P:Program) (t:TypeId) (x:D):Option D:=
 match x with
 | .nils=>(telem P t).map λ_=>.int .i64 0
 | _=>none
def indexD (P:Program) (t:TypeId) (x i:D):Option D:=
  match x with
  | .str l=>if tstr P t then match idx i l.length with
      | some k=>(l[k]?).map λb=>.int .u8 b.toNat
      | none=>none
    else none
  | .agg cs=>match tarr P t with
    | some (n,e)=>match tsz P e,idx i n with
      | some s,some k=>loadD P e (cs.drop (k * s))
      | _,_=>none
    | none=>none
  | _=>none
def sliceD (P:Program) (t:TypeId) (x:D) (lo hi:Option D):Option D:=
  match x with
  | .str l=>if tstr P t then match bound hi l.length l.length with
      | some h=>(bound lo 0 h).map λk=>.str ((l.take h).drop k)
      | none=>none
    else none
  | .nils=>match telem P t with
    | some e=>if (tsz P e).isSome then match bound hi 0 0 with
        | some h=>(bound lo 0 h).map λ_=>.nils
        | none=>none
      else none
    | none=>none
  | .rs s rows=>match telem P t with
    | some e=>if tsz P e=some s then match bound hi rows.length rows.length with
        | some h=>(bound lo 0 h).map λk=>.rs s ((rows.take h).drop k)
        | none=>none
      else none
    | none=>none
  | .bs b g s o n=>match telem P t with
    | some e=>if tsz P e=some s then match bound hi n n with
        | some h=>(bound lo 0 h).map λk=>.bs b g s (o + k) (h - k)
        | none=>none
      else none
    | none=>none
  | _=>none
def sliceMD (P:Program) (t:TypeId) (x h m:D):Option D:=
  match x with
  | .bs b g s o n=>match telem P t with
    | some e=>if tsz P e=some s then match bound (some m) n n with
        | some k=>(bound (some h) k k).map λq=>.bs b g s o q
        | none=>none
      else none
    | none=>none
  | _=>none
def lenD (P:Program) (t:TypeId) (x:D):Option D:=
 match x with
 | .str l=>if tstr P t then some (.int .i64 l.length) else none
 | .nils=>(telem P t).map λ_=>.int .i64 0
 | .rs _ rows=>(telem P t).map λ_=>.int .i64 rows.length
 | .bs _ _ _ _ n=>(telem P t).map λ_=>.int .i64 n
 | .agg _=>(tarr P t).map λq=>.int .i64 q.1
 | .bp _ _=>match P.underlying t with
  | some (.pointer a)=>(tarr P a).map λq=>.int .i64 q.1
  | _=>none
 | _=>none
def minD:D->D->Option D
 | .int k a,.int _ b=>some (.int k (if b < a then b else a))
 | _,_=>none
def maxD:D->D->Option D
 | .int k a,.int _ b=>some (.int k (if b > a then b else a))
 | _,_=>none
def foldD (f:D->D->Option D):D->List D->Option D
 | x,[]=>some x
 | x,y::r=>match f x y with
  | some z=>foldD f z r
  | none=>none
def semN (P:Program) (o:Op) (e:Operand->D):Option D:=
 match o with
 | .move x=>some (e x)
 | .assign x=>some (e x)
 | .pick c a b=>match e c with
  | .bool true=>some (e a)
  | .bool false=>some (e b)
  | _=>none
 | .nilCheck x=>match e x with
  | .bp b i=>some (.bp b i)
  | .ap b g s i k=>some (.ap b g s i k)
  | .rp cs=>some (.rp cs)
  | .fn f cap=>some (.fn f cap)
  | _=>none
 | .binOp op t x y _=>binD P op t (e x) (e y)
 | .unOp op _ x=>unD op (e x)
 | .convert src dst x=>if (P.underlying src).isSome then convD P dst (e x) else none
 | .build t parts=>buildD P t (parts.toList.map λp=>(p.1,e p.2))
 | .fieldAddr t x k=>fieldAddrD P t (e x) k
 | .field t x k=>fieldD P t (e x) k
 | .indexAddr t x i=>indexAddrD P t (e x) (e i)
 | .index t x i=>indexD P t (e x) (e i)
 | .slice t x lo hi none=>sliceD P t (e x) (lo.map e) (hi.map e)
 | .slice t x none (some hi) (some mx)=>sliceMD P t (e x) (e hi) (e mx)
 | .extract x i=>match e x with
  | .tup vs=>vs[i]?
  | _=>none
 | .makeFunc (.func f) first cap=>if first.isEmpty then some (.fn f (cap.toList.map e)) else none
 | .call { callee:=.builtin .len,args,argTypes }=>match args.toList,argTypes.toList with
  | [x],[t]=>lenD P t (e x)
  | _,_=>none
 | .sliceToArrayPointer t x=>arrayAtD P t (e x)
 | .call { callee:=.builtin .cap,args,argTypes }=>match args.toList,argTypes.toList with
  | [x],[t]=>capD P t (e x)
  | _,_=>none
 | .call { callee:=.builtin .min,args,.. }=>match args.toList.map e with
  | x::r=>foldD minD x r
  | []=>none
 | .call { callee:=.builtin .max,args,.. }=>match args.toList.map e with
  | x::r=>foldD maxD x r
  | []=>none
 | _=>none
section
variable {P:Program} {I:Nat->Prop} {w:World} {loc:Nat->Nat->Loc}
theorem Vac:∀ {ds:List D} {vs:List Value},VL I w ds loc vs->vs.length=ds.length
 | [],vs,h=>by simp only [VL] at h; simp [h]
 | d::r,vs,h=>by
  simp only [VL] at h;obtain ⟨v,vr,rfl,_,hr⟩:=h;simp [Vac hr]
theorem Vtr:∀ {ds:List D} {vs:List Value} {i:Nat} {d:D},VL I w ds loc vs->ds[i]? = some d->∃ v,vs[i]? = some v/\V I w d loc v
 | [],_,_,_,_,hi=>by simp at hi
 | d::r,vs,i,x,h,hi=>by
  simp only [VL] at h;obtain ⟨v,vr,rfl,hv,hr⟩:=h;cases i with
  | zero=>simp at hi; subst hi; exact ⟨v,by simp,hv⟩
  | succ i=>simp at hi; simpa using Vtr hr hi
theorem Var:∀ {a b:List D} {u v:List Value},VL I w a loc u->VL I w b loc v->VL I w (a++b) loc (u++v)
 | [],_,_,_,ha,hb=>by simp only [VL] at ha; simpa [ha] using hb
 | d::r,b,u,v,ha,hb=>by
  simp only [VL] at ha;obtain ⟨x,vr,rfl,hv,hr⟩:=ha;simp only [List.cons_append,VL];exact ⟨x,vr++v,rfl,hv,Var hr hb⟩
theorem Vct:∀ {ds:List D} {vs:List Value} (n:Nat),VL I w ds loc vs->VL I w (ds.drop n) loc (vs.drop n)
 | ds,vs,0,h=>by simpa using h
 | [],vs,n+1,h=>by simp only [VL] at h; simp [h,VL]
 | d::r,vs,n+1,h=>by
  simp only [VL] at h;obtain ⟨x,vr,rfl,hv,hr⟩:=h;simpa using Vct n hr
theorem Vdq:∀ {ds:List D} {vs:List Value} (n:Nat),VL I w ds loc vs->VL I w (ds.take n) loc (vs.take n)
 | ds,vs,0,h=>by simp [VL]
 | [],vs,n+1,h=>by simp only [VL] at h; simp [h,VL]
 | d::r,vs,n+1,h=>by
  simp only [VL] at h;obtain ⟨x,vr,rfl,hv,hr⟩:=h;simp only [List.take_succ_cons,VL];exact ⟨x,_,rfl,hv,Vdq n hr⟩
theorem Vf2 {ι:Type} {f:ι->D} {g:ι->Value} (h:∀ x,V I w (f x) loc (g x)):∀ l:List ι,VL I w (l.map f) loc (l.map g)
 | []=>by simp [VL]
 | x::r=>by simp only [List.map_cons,VL]; exact ⟨_,_,rfl,h x,Vf2 h r⟩
theorem Vfm:∀ {cs:List D} {b o:Nat} (n:Nat),VC I w cs b o->VC I w (cs.drop n) b (o+n)
 | cs,b,o,0,h=>by simpa using h
 | [],b,o,n+1,h=>by simp [VC]
 | d::r,b,o,n+1,h=>by
  simp only [VC] at h;have:=Vfm n h.2;simpa [Nat.add_assoc,Nat.add_comm 1 n] using this
theorem Vts:∀ {cs:List D} {b o:Nat} (n:Nat),VC I w cs b o->VC I w (cs.take n) b o
 | cs,b,o,0,h=>by simp [VC]
 | [],b,o,n+1,h=>by simp [VC]
 | d::r,b,o,n+1,h=>by
  simp only [VC] at h;simp only [List.take_succ_cons,VC];exact ⟨h.1,Vts n h.2⟩
theorem Vg3 {s:Nat}:∀ {rows:List (List D)} {b o:Nat} (n:Nat),VR I w s rows b o->VR I w s (rows.drop n) b (o+n * s)
 | rows,b,o,0,h=>by simpa using h
 | [],b,o,n+1,h=>by simp [VR]
 | d::r,b,o,n+1,h=>by
  simp only [VR] at h;have:=Vg3 n h.2.2;have e:o+s+n * s=o+(n+1) * s:=by rw [Nat.add_mul]; omega
  rw [e] at this;simpa using this
theorem Vdr {s:Nat}:∀ {rows:List (List D)} {b o:Nat} (n:Nat),VR I w s rows b o->VR I w s (rows.take n) b o
 | rows,b,o,0,h=>by simp [VR]
 | [],b,o,n+1,h=>by simp [VR]
 | d::r,b,o,n+1,h=>by
  simp only [VR] at h;simp only [List.take_succ_cons,VR];exact ⟨h.1,h.2.1,Vdr n h.2.2⟩
theorem Vde {s:Nat}:∀ {rows:List (List D)} {b o i:Nat} {row:List D},VR I w s rows b o->rows[i]? = some row->row.length=s/\VC I w row b (o+i * s)
 | [],_,_,_,_,_,hi=>by simp at hi
 | d::r,b,o,i,row,h,hi=>by
  simp only [VR] at h;cases i with
  | zero=>simp at hi; subst hi; exact ⟨h.1,by simpa using h.2.1⟩
  | succ i=>
   simp at hi;have:=Vde h.2.2 hi;have e:o+s+i * s=o+(i+1) * s:=by rw [Nat.add_mul]; omega
   rw [e] at this;exact this
mutual
theorem ofV_V:∀ v:Value,V I w (ofV v) loc v
 | .bool b=>by simp [ofV,V]
 | .int k n=>by simp [ofV,V]
 | .string s=>by simp [ofV,V]
 | .pointer none=>by simp [ofV,V]
 | .pointer (some a)=>by simp [ofV,V]
 | .slice none 0 0=>by simp [ofV,V]
 | .slice none 0 (n+1)=>by simp [ofV,V]
 | .slice none (n+1) _=>by simp [ofV,V]
 | .slice (some _) _ _=>by simp [ofV,V]
 | .agg ⟨cs⟩=>by
  simp only [ofV];split
  ·rename_i h;simp only [V];exact ⟨cs,rfl,λx hx=>by simpa using List.all_eq_true.1 h x hx,Vl9 cs⟩
  ·simp [V]
 | .nilFunc=>by simp [ofV,V]
 | .nilIface=>by simp [ofV,V]
 | .map none=>by simp [ofV,V]
 | .map (some _)=>by simp [ofV,V]
 | .float _ _=>by simp [ofV,V]
 | .complex _ _ _=>by simp [ofV,V]
 | .chan _=>by simp [ofV,V]
 | .func _ _ _=>by simp [ofV,V]
 | .iface _ _=>by simp [ofV,V]
 | .tuple _=>by simp [ofV,V]
theorem Vl9:∀ vs:List Value,VL I w (ofVs vs) loc vs
 | []=>by simp [ofVs,VL]
 | v::r=>by simp only [ofVs,VL]; exact ⟨v,r,rfl,ofV_V v,Vl9 r⟩
end
theorem Vbj {d:D} {v:Value} (h:V I w d loc v) (hd:d.fit=true):VL I w d.cells loc v.cells.toList/\∀ x∈v.cells.toList,x.oneCell'=true:=by
 cases d<;>simp [D.fit,D.one] at hd
 case agg cs=>
  simp only [V] at h;obtain ⟨vs,rfl,h1,hv⟩:=h;exact ⟨by simpa [D.cells,Value.cells] using hv,by simpa [Value.cells] using h1⟩
 case lit x=>
  simp only [V] at h;subst h;have hv:v.cells = #[v]/\v.oneCell'=true:=by
   cases v<;>first | exact ⟨rfl,rfl⟩ | simp at hd
  simp only [D.cells,VL,hv.1];exact ⟨⟨v,[],rfl,by simp [V],rfl⟩,by simp [hv.2]⟩
 all_goals
  have hv:v.cells = #[v]/\v.oneCell'=true:=by
   cases v<;>first | exact ⟨rfl,rfl⟩ | (simp [V] at h; try (split at h<;>simp at h))
  simp only [D.cells,VL,hv.1];exact ⟨⟨v,[],rfl,h,rfl⟩,by simp [hv.2]⟩
end
section
variable {P:Program} {I:Nat->Prop} {w:World} {loc:Nat->Nat->Loc}
theorem Voq {op:BinOp} {t:TypeId} {k k':IntKind} {a b:Int} {d:D} (h:intBin op k a k' b=some d) :
    ∃ v,(binOp op t (.int k a) (.int k' b)).run P w = .ok v w /\ V I w d loc v:=by
  unfold intBin at h;cases op <;> simp only [] at h
  case shl=>
    split at h
    · cases h
    · simp only [Option.some.injEq] at h; subst h
      exact ⟨_,by simp [binOp,Op.shift, *],rfl⟩
  case shr=>
    split at h
    · cases h
    · simp only [Option.some.injEq] at h; subst h
      exact ⟨_,by simp [binOp,Op.shift, *],rfl⟩
  all_goals
    split at h
    · cases h
    · rename_i hk
      have hk:k=k':=by simpa using hk
      subst hk;first
        | (simp only [Option.some.injEq] at h; subst h; refine ⟨_,?_,rfl⟩; simp [binOp,Op.intArith,Op.intBits,Op.intCmp]; done)
        | (split at h
           · cases h
           · simp only [Option.some.injEq] at h; subst h; exact ⟨_,by simp [binOp,Op.intDiv, *],rfl⟩)
        | cases h
theorem Vk2 (l:List UInt8):(ByteArray.mk l.toArray).toList=l:=by
 rw [ByteArray.toList_eq]
theorem Vc4 (l:List UInt8):(ByteArray.mk l.toArray).size=l.length:=by
 simp [ByteArray.size]
theorem Vtt (a b:List UInt8):(ByteArray.mk a.toArray)++(ByteArray.mk b.toArray)=⟨(a++b).toArray⟩:=by
 apply ByteArray.ext;simp [ByteArray.data_append]
theorem Vor {op:BinOp} {t:TypeId} {a b:List UInt8} {d:D} (h:strBin op a b=some d) :
  ∃ v,(binOp op t (.string ⟨a.toArray⟩) (.string ⟨b.toArray⟩)).run P w = .ok v w/\V I w d loc v:=by
 unfold strBin at h;cases op<;>simp only [] at h
 case add=>
  split at h
  ·cases h
  ·rename_i hn;simp only [Option.some.injEq] at h; subst h;refine ⟨.string ⟨(a++b).toArray⟩,?_,by simp only [V]⟩;simp only [binOp,Op.stringOp,Vc4,if_neg hn,Vtt];rfl
 case eql=>simp only [Option.some.injEq] at h; subst h; refine ⟨_,?_,rfl⟩; simp [binOp,Op.stringOp]
 case neq=>simp only [Option.some.injEq] at h; subst h; refine ⟨_,?_,rfl⟩; simp [binOp,Op.stringOp]
 case lss=>simp only [Option.some.injEq] at h; subst h; refine ⟨_,?_,rfl⟩; simp [binOp,Op.stringOp]
 case leq=>simp only [Option.some.injEq] at h; subst h; refine ⟨_,?_,rfl⟩; simp [binOp,Op.stringOp]
 case gtr=>simp only [Option.some.injEq] at h; subst h; refine ⟨_,?_,rfl⟩; simp [binOp,Op.stringOp]
 case geq=>simp only [Option.some.injEq] at h; subst h; refine ⟨_,?_,rfl⟩; simp [binOp,Op.stringOp]
 all_goals cases h
theorem Vng {t:TypeId} (h:tbool P t=true):P.underlying t=some .bool:=by
 unfold tbool at h; split at h<;>simp_all
theorem Vcf {t:TypeId} (h:tstr P t=true):P.underlying t=some .string:=by
 unfold tstr at h; split at h<;>simp_all
theorem Vep {t:TypeId} {k:IntKind} (h:tint P t=some k):P.underlying t=some (.int k):=by
 unfold tint at h; split at h<;>simp_all
theorem Vag {t e:TypeId} (h:telem P t=some e):P.underlying t=some (.slice e):=by
 unfold telem at h; split at h<;>simp_all
theorem Vcg {t e:TypeId} {n:Nat} (h:tarr P t=some (n,e)):P.underlying t=some (.array n e):=by
 unfold tarr at h; split at h<;>simp_all
theorem run_sizeOf' {t:TypeId} {m:Nat} (h:tsz P t=some m) (w:World):(sizeOf t).run P w = .ok m w:=by
 unfold tsz at h;rw [Option.map_eq_some_iff] at h;obtain ⟨i,hi,rfl⟩:=h;simp [sizeOf,typeInfo,hi]
theorem run_isAgg' {t:TypeId} {b:Bool} (h:tagg P t=some b) (w:World):(isAgg t).run P w = .ok b w:=by
 unfold tagg at h;rw [Option.map_eq_some_iff] at h;obtain ⟨i,hi,rfl⟩:=h;simp only [isAgg,Sem.run_bind,run_underlying hi,Result.andThen_ok];cases i<;>rfl
theorem run_zero' {t:TypeId} {d:D} (h:tzero P t=some d) (w:World):∃ v,(zeroValue t).run P w = .ok v w/\d=ofV v:=by
 unfold tzero at h;rw [Option.map_eq_some_iff] at h;obtain ⟨v,hv,rfl⟩:=h;rw [Option.bind_eq_some_iff] at hv;obtain ⟨i,hi,hz⟩:=hv;exact ⟨v,by simp [zeroValue,typeInfo,hi,hz],rfl⟩
theorem Vma {t:TypeId} (h:fkind P t≠0):(fkind P t=1/\P.underlying t=some .bool)\/(fkind P t=2/\P.underlying t=some .string)\/(fkind P t=3/\∃ k,P.underlying t=some (.int k)):=by
 unfold fkind at *;split at h
 ·rename_i hb; exact .inl ⟨by simp [hb],Vng hb⟩
 ·split at h
  ·rename_i hb hs; exact .inr (.inl ⟨by simp [hb,hs],Vcf hs⟩)
  ·split at h
   ·rename_i hb hs hi;obtain ⟨k,hk⟩:=Option.isSome_iff_exists.1 hi;exact .inr (.inr ⟨by simp [hb,hs,hi],k,Vep hk⟩)
   ·exact absurd rfl h
theorem Veq:∀ (fs:List Field) (o:Nat) (d:Nat) (q:List Nat) (xs ys:List D) (us vs:List Value) (r:Bool),flatFields P fs o=some q ->
  VL I w xs loc (us.drop o)->VL I w ys loc (vs.drop o)->eqCells q xs ys=some r ->
  (Op.eqFields (d+1) us.toArray vs.toArray fs).run P w = .ok r w
 | [],o,d,q,xs,ys,us,vs,r,hq,hx,hy,he=>by
  simp [flatFields] at hq;subst hq;cases xs<;>cases ys<;>simp [eqCells] at he;subst he; simp [Op.eqFields]
 | f::fs,o,d,q,xs,ys,us,vs,r,hf,hx,hy,he=>by
  simp only [flatFields] at hf;split at hf
  case isFalse=>cases hf
  rename_i hc;obtain ⟨hname,hoff,hty⟩:=hc;rw [Option.map_eq_some_iff] at hf;obtain ⟨q',hrest,rfl⟩:=hf;subst hoff;cases xs with
  | nil=>simp [eqCells] at he
  | cons x xr=>
   cases ys with
   | nil=>cases x<;>simp [eqCells] at he
   | cons y yr=>
    simp only [VL] at hx hy;obtain ⟨u,ur,hu,hxv,hxr⟩:=hx;obtain ⟨v,vr,hv,hyv,hyr⟩:=hy;have hu0:us[f.offset]? = some u:=by have:=congrArg (λl=>l[0]?) hu; simpa using this
    have hv0:vs[f.offset]? = some v:=by have:=congrArg (λl=>l[0]?) hv; simpa using this
    have hu1:us.drop (f.offset+1)=ur:=by have:=congrArg List.tail hu; simpa [List.tail_drop] using this
    have hv1:vs.drop (f.offset+1)=vr:=by have:=congrArg List.tail hv; simpa [List.tail_drop] using this
    have ih:∀ r',eqCells q' xr yr=some r'->(Op.eqFields (d+1) us.toArray vs.toArray fs).run P w = .ok r' w:=λr' hr'=>
     Veq fs (f.offset+1) d q' xr yr us vs r' hrest (by rw [hu1]; exact hxr) (by rw [hv1]; exact hyr) hr'
    have hund:=Vma hty;have nagg:(isAgg f.type).run P w = .ok false w:=by
     rcases hund with ⟨_,h⟩ | ⟨_,h⟩ | ⟨_,k,h⟩<;>simp [isAgg,run_underlying h]
    have hpu:(part f.type us.toArray f.offset).run P w = .ok u w:=by simp [part,nagg,hu0]
    have hpv:(part f.type vs.toArray f.offset).run P w = .ok v w:=by simp [part,nagg,hv0]
    have key:∀ (q0 r':Bool),eqCells q' xr yr=some r'->r=(q0&&r')->(Op.equalIn (d+1) f.type u v).run P w = .ok q0 w ->
      (Op.eqFields (d+1) us.toArray vs.toArray (f::fs)).run P w = .ok r w:=by
     intro q0 r' hr' hr hq;simp only [Op.eqFields,ne_eq,hname,not_false_eq_true,if_true,Sem.run_bind,hpu,hpv,Result.andThen_ok,hq,Sem.run_ite];cases q0
     ·simp [hr]
     ·simp only [Bool.not_true,Bool.false_eq_true,if_false]; rw [ih r' hr',hr]; rfl
    rcases hund with ⟨hk,h⟩ | ⟨hk,h⟩ | ⟨hk,k0,h⟩<;>rw [hk] at he<;>cases x<;>cases y<;>simp only [eqCells] at he<;>try cases he
    case bool.bool a b=>
     simp only [V] at hxv hyv; subst hxv; subst hyv;rw [Option.map_eq_some_iff] at he;obtain ⟨r',hr',hr⟩:=he;exact key (a == b) r' hr' hr.symm (run_equalIn_bool' w d _ a b h)
    case str.str a b=>
     simp only [V] at hxv hyv; subst hxv; subst hyv;rw [Option.map_eq_some_iff] at he;obtain ⟨r',hr',hr⟩:=he;refine key (a == b) r' hr' hr.symm ?_;rw [run_equalIn_string w d _ _ _ h,Vk2,Vk2]
    case int.int k a k' b=>
     simp only [V] at hxv hyv; subst hxv; subst hyv;split at he
     ·rename_i hkk;subst hkk;rw [Option.map_eq_some_iff] at he;obtain ⟨r',hr',hr⟩:=he;exact key (a == b) r' hr' hr.symm (run_equalIn_int w d _ k k0 a b h)
     ·cases he
theorem Vel (d:Nat) (e:TypeId) (xs ys:Array Value):∀ (n k:Nat) (w:World),(Op.eqItems d e 1 xs ys (List.range' k n)).run P w=(Op.eqFields d xs ys (arrFields e n k)).run P w
 | 0,k,w=>by simp [Op.eqItems,Op.eqFields,arrFields]
 | n+1,k,w=>by
  have hn : ("x" : String) ≠ "_" := by decide
  simp only [List.range'_succ,Op.eqItems,arrFields,Op.eqFields,Nat.mul_one,ne_eq,hn,not_false_eq_true,if_true,Sem.run_bind];congr 1;funext a w1;congr 1;funext b w2;congr 1;funext r w3;cases r
  ·simp
  ·simp only [Bool.not_true,Bool.false_eq_true,if_false];exact Vel d e xs ys n (k+1) w3
theorem Vds (w:World) (d:Nat) (t e:TypeId) (p:Option Addr) (n cap:Nat) (h:P.underlying t=some (.slice e)):(Op.equalIn (d+1) t (.slice p n cap) (.slice none 0 0)).run P w = .ok p.isNone w:=by
 cases p<;>simp [Op.equalIn,run_underlying h]
theorem Vg4 (w:World) (t e:TypeId) (ox oy:Operand) (p:Option Addr) (n cap:Nat) (h:P.underlying t=some (.slice e)):(do eqGuard .eql t ox oy (.slice p n cap) (.slice none 0 0); binOp .eql t (.slice p n cap) (.slice none 0 0):Sem Value).run P w = .ok (.bool p.isNone) w:=by
 simp [eqGuard,binOp,Op.equal,Op.maxDepth,Vds w 9999 t e p n cap h]
theorem Vg5 (w:World) (t e:TypeId) (ox oy:Operand) (p:Option Addr) (n cap:Nat) (h:P.underlying t=some (.slice e)):(do eqGuard .neq t ox oy (.slice p n cap) (.slice none 0 0); binOp .neq t (.slice p n cap) (.slice none 0 0):Sem Value).run P w = .ok (.bool (!p.isNone)) w:=by
 simp [eqGuard,binOp,Op.equal,Op.maxDepth,Vds w 9999 t e p n cap h]
theorem Vwl {op:BinOp} {t:TypeId} {x y:D} {d:D} {u v:Value} (ox oy:Operand) (hx:V I w x loc u) (hy:V I w y loc v) (h:binD P op t x y=some d) :
  ∃ z,(do eqGuard op t ox oy u v; binOp op t u v:Sem Value).run P w = .ok z w/\V I w d loc z:=by
 unfold binD at h;cases x<;>simp only [] at h<;>try cases h
 case bool a=>
  cases y<;>simp only [] at h<;>try cases h
  rename_i b;simp only [V] at hx hy; subst hx; subst hy;split at h
  ·rename_i hb;have hu:=Vng hb;cases op<;>simp only [Option.some.injEq] at h<;>try cases h
   ·refine ⟨.bool (a == b),?_,rfl⟩;simp [eqGuard,binOp,Op.equal,Op.maxDepth,run_equalIn_bool' w 9999 t a b hu]
   ·refine ⟨.bool (!(a == b)),?_,rfl⟩;simp [eqGuard,binOp,Op.equal,Op.maxDepth,run_equalIn_bool' w 9999 t a b hu]
  ·cases h
 case int k a=>
  cases y<;>simp only [] at h<;>try cases h
  rename_i k' b;simp only [V] at hx hy; subst hx; subst hy;obtain ⟨z,hz,hv⟩:=Voq (t:=t) (P:=P) (I:=I) (w:=w) (loc:=loc) h;refine ⟨z,?_,hv⟩;have:(eqGuard op t ox oy (.int k a) (.int k' b)).run P w = .ok () w:=by cases op<;>simp [eqGuard]
  simp [this,hz]
 case str a=>
  cases y<;>simp only [] at h<;>try cases h
  rename_i b;simp only [V] at hx hy; subst hx; subst hy;obtain ⟨z,hz,hv⟩:=Vor (t:=t) (P:=P) (I:=I) (w:=w) (loc:=loc) h;refine ⟨z,?_,hv⟩;have:(eqGuard op t ox oy (.string ⟨a.toArray⟩) (.string ⟨b.toArray⟩)).run P w = .ok () w:=by cases op<;>simp [eqGuard]
  simp [this,hz]
 case agg xs=>
  cases y<;>simp only [] at h<;>try cases h
  rename_i ys;simp only [V] at hx hy;obtain ⟨us,rfl,_,hus⟩:=hx;obtain ⟨vs,rfl,_,hvs⟩:=hy;split at h
  case h_2=>cases h
  rename_i q hq;have hq0:=hq;have hguard:P.eqGuardType P.depth t=false:=by
   unfold flatEq at hq;split at hq
   ·split at hq
    ·rename_i hc; exact hc.2
    ·cases hq
   ·split at hq
    ·rename_i hc; exact hc.1
    ·cases hq
   ·cases hq
  have run:∀ r,eqCells q xs ys=some r->(Op.equalIn 10000 t (.agg us.toArray) (.agg vs.toArray)).run P w = .ok r w:=λr hr=>by
   unfold flatEq at hq;split at hq
   ·rename_i fs hfs;split at hq
    case isFalse=>cases hq
    rename_i hc;have hff:P.underlying t=some (.struct (P.fieldsOf t)):=by simp [Program.fieldsOf,hfs]
    have hfo:P.fieldsOf t=fs:=by simp [Program.fieldsOf,hfs]
    rw [run_equalIn_agg w 9999 t _ _ hff hc.1,hfo];exact Veq fs.toList 0 9998 q xs ys us vs r hq (by simpa using hus) (by simpa using hvs) hr
   ·rename_i n e hfs;split at hq
    case isFalse=>cases hq
    rename_i hc;obtain ⟨i,hi⟩:=Option.isSome_iff_exists.1 hc.2.2;rw [run_equalIn_array w 9999 us.toArray vs.toArray hfs hi,hc.2.1,List.range_eq_range',Vel];exact Veq (arrFields e n 0) 0 9998 q xs ys us vs r hq (by simpa using hus) (by simpa using hvs) hr
   ·cases hq
  have hg:=run_eqGuard_agg (P:=P) w op t ox oy us.toArray vs.toArray hguard;cases op<;>simp only [] at h<;>try cases h
  ·rw [Option.map_eq_some_iff] at h;obtain ⟨r,hr,rfl⟩:=h;refine ⟨.bool r,?_,rfl⟩;rw [Sem.run_bind,hg,Result.andThen_ok,run_eql_struct,run r hr]; rfl
  ·rw [Option.map_eq_some_iff] at h;obtain ⟨r,hr,rfl⟩:=h;refine ⟨.bool (!r),?_,rfl⟩;rw [Sem.run_bind,hg,Result.andThen_ok,run_neq_struct,run r hr]; rfl
 case nils=>
  cases y<;>simp only [] at h<;>try cases h
  simp only [V] at hx hy; subst hx; subst hy;split at h
  case h_2=>cases h
  rename_i e he;have hu:=Vag he;cases op<;>simp only [Option.some.injEq] at h<;>try cases h
  ·exact ⟨_,Vg4 w t e ox oy none 0 0 hu,rfl⟩
  ·exact ⟨_,Vg5 w t e ox oy none 0 0 hu,rfl⟩
 case rs s rows=>
  cases rows with
  | nil=>cases h
  | cons row rows=>
   cases y<;>simp only [] at h<;>try cases h
   simp only [V] at hx hy; subst hy;rcases hx with ⟨hx,_⟩ | ⟨b,o,cap,rfl,_,_,_⟩
   ·cases hx
   split at h
   case h_2=>cases h
   rename_i e he;have hu:=Vag he;cases op<;>simp only [Option.some.injEq] at h<;>try cases h
   ·exact ⟨_,Vg4 w t e ox oy _ _ _ hu,rfl⟩
   ·exact ⟨_,Vg5 w t e ox oy _ _ _ hu,rfl⟩
end
section
variable {P:Program} {I:Nat->Prop} {w:World} {loc:Nat->Nat->Loc}
theorem Vaca {op:UnOp} {x d:D} {u:Value} (hx:V I w x loc u) (h:unD op x=some d):∃ z,(Op.unary op u).run P w = .ok z w/\V I w d loc z:=by
 unfold unD at h;split at h<;>simp only [Option.some.injEq,reduceCtorEq] at h<;>subst h<;>simp only [V] at hx<;>subst hx
 ·exact ⟨_,rfl,rfl⟩
 ·exact ⟨_,rfl,rfl⟩
 ·exact ⟨_,rfl,rfl⟩
theorem Vtu {src dst:TypeId} {x d:D} {u:Value} (hs:∃ t,P.underlying src=some t) (hx:V I w x loc u) (h:convD P dst x=some d):∃ z,(convert src dst u).run P w = .ok z w/\V I w d loc z:=by
 obtain ⟨ts,hs⟩:=hs;unfold convD at h;cases x<;>simp only [] at h<;>try cases h
 case int k n=>
  simp only [V] at hx; subst hx;cases hk:tint P dst with
  | some k'=>
   simp only [hk,Option.some.injEq] at h; subst h;refine ⟨_,?_,rfl⟩;simp only [convert,Sem.run_bind,run_underlying hs,Result.andThen_ok,run_underlying (Vep hk)];cases ts<;>rfl
  | none=>
   simp only [hk] at h;split at h
   ·rename_i hd;simp only [Option.some.injEq] at h; subst h;refine ⟨.string (Utf8.encode n),?_,by simp [V]⟩;simp only [convert,Sem.run_bind,run_underlying hs,Result.andThen_ok,run_underlying (Vcf hd)];cases ts<;>rfl
   ·cases h
 case str l=>
  split at h
  ·rename_i hd;simp only [Option.some.injEq] at h; subst h;simp only [V] at hx; subst hx;refine ⟨_,?_,rfl⟩;simp only [convert,Sem.run_bind,run_underlying hs,Result.andThen_ok,run_underlying (Vcf hd)];cases ts<;>rfl
  ·cases h
theorem Vk3 {t:TypeId} {k o:Nat} {ft:TypeId} (h:tfld P t k=some (o,ft)) :
  ∃ fs f i,P.underlying t=some (.struct fs)/\fs[k]? = some f/\P.info? f.type=some i/\i.size≠0/\f.offset=o/\f.type=ft:=by
 unfold tfld at h;split at h
 ·rename_i fs hfs;split at h
  ·rename_i f hf;split at h
   ·rename_i i hi;split at h
    ·cases h
    ·rename_i hz;simp only [Option.some.injEq,Prod.mk.injEq] at h;exact ⟨fs,f,i,hfs,hf,hi,hz,h.1,h.2⟩
   ·cases h
  ·cases h
 ·cases h
theorem Vap (b o n:Nat):(⟨b,o,none⟩:Addr).add n=⟨b,o+n,none⟩:=by
 unfold Addr.add; split
 ·rename_i h; subst h; rfl
 ·rfl
theorem Vch {t:TypeId} {k o:Nat} {ft:TypeId} (h:tfld P t k=some (o,ft)) (a:Addr) :
  (Instr.fieldAt t (.pointer (some a)) k).run P w = .ok (.pointer (some (a.add o))) w:=by
 obtain ⟨fs,f,i,h1,h2,h3,h4,rfl,rfl⟩:=Vk3 h;simp [Instr.fieldAt,run_underlying h1,h2,Instr.sureAddr,fieldPlace,sizeOf,typeInfo,h3,h4]
theorem Vh8 {t:TypeId} {k:Nat} {x d:D} {u:Value} (hx:V I w x loc u) (h:fieldAddrD P t x k=some d) :
  ∃ z,(Instr.fieldAt t u k).run P w = .ok z w/\V I w d loc z:=by
 unfold fieldAddrD at h;split at h
 case h_2=>cases h
 rename_i o ft hf;cases x<;>simp only [Option.some.injEq] at h<;>try cases h
 case h_1.rp.refl cs=>
  simp only [V] at hx;obtain ⟨b,o',rfl,hI,hc⟩:=hx;refine ⟨_,Vch hf _,?_⟩;simp only [V,Vap];exact ⟨b,o'+o,rfl,hI,Vfm o hc⟩
 case h_1.bp.refl b off=>
  simp only [V] at hx;cases hl:loc b 0<;>simp only [hl] at hx
  ·obtain ⟨a,rfl⟩:=hx;exact ⟨_,Vch hf _,by simp [V,hl]⟩
  ·subst hx;exact ⟨_,Vch hf _,by simp [V,hl,Vap]⟩
 case h_1.ap.refl b g s i off=>
  simp only [V] at hx;cases hl:loc b g<;>simp only [hl] at hx
  ·obtain ⟨a,rfl⟩:=hx;exact ⟨_,Vch hf _,by simp [V,hl]⟩
  ·subst hx;exact ⟨_,Vch hf _,by simp [V,hl,Vap,Nat.add_assoc]⟩
theorem Vos (vs:List Value) (o m:Nat):vs.toArray.extract o (o+m)=((vs.drop o).take m).toArray:=by
 apply Array.ext';simp [List.extract_eq_take_drop]
theorem Vnh {t:TypeId} {cs:List D} {vs:List Value} {o:Nat} {d:D} (h1:∀ x∈vs,x.oneCell'=true) (hv:VL I w cs loc vs) (h:loadD P t (cs.drop o)=some d) :
  ∃ z,(part t vs.toArray o).run P w = .ok z w/\V I w d loc z:=by
 unfold loadD at h;have hd:=Vct o hv;split at h
 ·rename_i ha;split at h
  ·rename_i m hm;split at h
   ·simp only [Option.some.injEq] at h; subst h;refine ⟨.agg ((vs.drop o).take m).toArray,?_,?_⟩
    ·simp only [part,Sem.run_bind,run_isAgg' ha,Result.andThen_ok,if_true,run_sizeOf' hm,Vos,Sem.run_pure]
    ·simp only [V];exact ⟨_,rfl,λx hx=>h1 x (List.mem_of_mem_drop (List.mem_of_mem_take hx)),Vdq m hd⟩
   ·cases h
  ·cases h
 ·rename_i ha;split at h
  ·rename_i c r hc;simp only [Option.some.injEq] at h; subst h;rw [hc] at hd;simp only [VL] at hd;obtain ⟨v,vr,he,hv',_⟩:=hd;have h0:vs[o]? = some v:=by have:=congrArg (λl=>l[0]?) he; simpa using this
   refine ⟨v,?_,hv'⟩;simp [part,run_isAgg' ha,h0]
  ·cases h
 ·cases h
theorem Vot {t:TypeId} {k:Nat} {x d:D} {u:Value} (hx:V I w x loc u) (h:fieldD P t x k=some d) :
  ∃ z,(Instr.field t u k).run P w = .ok z w/\V I w d loc z:=by
 unfold fieldD at h;split at h
 case h_2=>cases h
 rename_i o ft hf;cases x<;>simp only [] at h<;>try cases h
 case agg cs=>
  simp only [V] at hx;obtain ⟨vs,rfl,h0,hv⟩:=hx;obtain ⟨fs,f,i,h1,h2,h3,h4,rfl,rfl⟩:=Vk3 hf;obtain ⟨z,hz,hvz⟩:=Vnh h0 hv h;refine ⟨z,?_,hvz⟩;simp [Instr.field,run_underlying h1,h2,asAgg,hz]
theorem Vc5 {x:D} {n k:Nat} (h:idx x n=some k):∃ kd,x = .int kd k/\k < n:=by
 unfold idx at h;split at h
 ·rename_i kd i;split at h
  ·rename_i hi;simp only [Option.some.injEq] at h;refine ⟨kd,?_,by omega⟩;congr; omega
  ·cases h
 ·cases h
theorem Vbu {t e:TypeId} {s n cap k:Nat} {kd:IntKind} {a:Addr} (ht:telem P t=some e) (hs:tsz P e=some s) (hk:k < n) :
  (Instr.indexAt t (.slice (some a) n cap) (.int kd k)).run P w = .ok (.pointer (some (a.add (k * s)))) w:=by
 simp [Instr.indexAt,asIntOf,run_underlying (Vag ht),hk,run_sizeOf' hs]
theorem Va8 {t e:TypeId} {s n k:Nat} {kd:IntKind} {a:Addr} (ht:tarr P t=some (n,e)) (hs:tsz P e=some s) (hk:k < n) :
  (Instr.indexAt t (.pointer (some a)) (.int kd k)).run P w = .ok (.pointer (some (a.add (k * s)))) w:=by
 simp [Instr.indexAt,asIntOf,run_underlying (Vcg ht),hk,run_sizeOf' hs,Instr.sureAddr]
theorem Vh9 {t:TypeId} {x i d:D} {u v:Value} (hx:V I w x loc u) (hi:V I w i loc v) (h:indexAddrD P t x i=some d) :
  ∃ z,(Instr.indexAt t u v).run P w = .ok z w/\V I w d loc z:=by
 unfold indexAddrD at h;cases x<;>(try simp only [] at h)<;>try cases h
 case rs s rows=>
  split at h
  case h_2=>cases h
  rename_i e he;split at h
  case isFalse=>cases h
  rename_i hs;split at h
  case h_2=>cases h
  rename_i k hk;obtain ⟨kd,rfl,hlt⟩:=Vc5 hk;rw [Option.map_eq_some_iff] at h;obtain ⟨row,hrow,rfl⟩:=h;simp only [V] at hx hi;rcases hx with ⟨rfl,_⟩ | ⟨b,o,cap,rfl,hcap,hI,hr⟩
  ·simp at hlt
  subst hi;refine ⟨_,Vbu he hs hlt,?_⟩;simp only [V,Vap];exact ⟨b,_,rfl,hI,(Vde hr hrow).2⟩
 case bs b g s o n=>
  split at h
  case h_2=>cases h
  rename_i e he;split at h
  case isFalse=>cases h
  rename_i hs;rw [Option.map_eq_some_iff] at h;obtain ⟨k,hk,rfl⟩:=h;obtain ⟨kd,rfl,hlt⟩:=Vc5 hk;simp only [V] at hi; subst hi;simp only [V] at hx;cases hl:loc b g<;>simp only [hl] at hx
  ·obtain ⟨a,cap,rfl,hn,ha⟩:=hx;cases a with
   | none=>have:=ha rfl; omega
   | some a=>exact ⟨_,Vbu he hs hlt,by simp [V,hl]⟩
  ·omega
  ·obtain ⟨o',cap,rfl,hn,ho,_⟩:=hx;refine ⟨_,Vbu he hs hlt,?_⟩;have ho':o'=o * s:=by omega
   subst ho';simp [V,hl,Vap,Nat.add_mul]
 case bp b off=>
  split at h
  case h_2=>cases h
  rename_i n e he;split at h
  case h_2=>cases h
  rename_i s hs;rw [Option.map_eq_some_iff] at h;obtain ⟨k,hk,rfl⟩:=h;obtain ⟨kd,rfl,hlt⟩:=Vc5 hk;simp only [V] at hi; subst hi;simp only [V] at hx;cases hl:loc b 0<;>simp only [hl] at hx
  ·obtain ⟨a,rfl⟩:=hx;exact ⟨_,Va8 he hs hlt,by simp [V,hl]⟩
  ·subst hx;exact ⟨_,Va8 he hs hlt,by simp [V,hl,Vap]⟩
 case rp cs=>
  split at h
  case h_2=>cases h
  rename_i n e he;split at h
  case h_2=>cases h
  rename_i s hs;rw [Option.map_eq_some_iff] at h;obtain ⟨k,hk,rfl⟩:=h;obtain ⟨kd,rfl,hlt⟩:=Vc5 hk;simp only [V] at hi hx; subst hi;obtain ⟨b,o,rfl,hI,hc⟩:=hx;refine ⟨_,Va8 he hs hlt,?_⟩;simp only [V,Vap];exact ⟨b,_,rfl,hI,Vfm _ hc⟩
 case ap b g s j off=>
  cases off with
  | succ _=>cases h
  | zero=>
  simp only [] at h;split at h
  case h_2=>cases h
  rename_i n e he;split at h
  case isFalse=>cases h
  rename_i hs;rw [Option.map_eq_some_iff] at h;obtain ⟨k,hk,rfl⟩:=h;obtain ⟨kd,rfl,hlt⟩:=Vc5 hk;simp only [V] at hi; subst hi;simp only [V] at hx;cases hl:loc b g<;>simp only [hl] at hx
  ·obtain ⟨a,rfl⟩:=hx;exact ⟨_,Va8 he hs hlt,by simp [V,hl]⟩
  ·subst hx;exact ⟨_,Va8 he hs hlt,by simp [V,hl,Vap,Nat.add_mul]⟩
theorem Vk4 {t:TypeId} {x d:D} {u:Value} (hx:V I w x loc u) (h:arrayAtD P t x=some d) :
  ∃ z,(Instr.arrayAt t u).run P w = .ok z w/\V I w d loc z:=by
 unfold arrayAtD at h;split at h
 case h_2=>cases h
 rename_i n el he;split at h
 case h_3=>cases h
 ·rename_i s rows;split at h
  case isFalse=>cases h
  rename_i hc;obtain ⟨hs,h0,hn⟩:=hc;simp only [Option.some.injEq] at h; subst h;simp only [V] at hx;rcases hx with ⟨rfl,_⟩ | ⟨b,o,cap,rfl,hcap,hI,hr⟩
  ·simp at hn; omega
  refine ⟨.pointer (some ⟨b,o,none⟩),?_,?_⟩
  ·have:¬ rows.length < n:=by omega
   simp [Instr.arrayAt,run_underlying (Vcg he),this]
  ·simp only [V];refine ⟨b,o,rfl,hI,?_⟩;have key:∀ (n:Nat) (rows:List (List D)) (o:Nat),VR I w s rows b o->VC I w (rows.take n).flatten b o:=by
    intro n;induction n with
    | zero=>intro rows o _; simp [VC]
    | succ n ih=>
     intro rows o h;cases rows with
     | nil=>simp [VC]
     | cons row r=>
      simp only [VR] at h;simp only [List.take_succ_cons,List.flatten_cons];have app:∀ (a b':List D) (o:Nat),VC I w a b o->VC I w b' b (o+a.length)->VC I w (a++b') b o:=by
       intro a;induction a with
       | nil=>intro b' o _ h; simpa using h
       | cons x a ih2=>
        intro b' o h1 h2;simp only [VC,List.cons_append] at h1 |-;refine ⟨h1.1,ih2 b' (o+1) h1.2 ?_⟩;simp only [List.length_cons] at h2;rwa [show o+1+a.length=o+(a.length+1) by omega]
      refine app row _ o h.2.1 ?_;rw [h.1];exact ih r (o+s) h.2.2
   exact key n rows o hr
 ·rename_i b g s o m;split at h
  case isFalse=>cases h
  rename_i hc;obtain ⟨hs,h0,hn⟩:=hc;simp only [Option.some.injEq] at h; subst h;simp only [V] at hx;cases hl:loc b g<;>simp only [hl] at hx
  ·obtain ⟨a,cap,rfl,hcap,ha⟩:=hx;cases a with
   | none=>have:=ha rfl; omega
   | some a=>
    refine ⟨.pointer (some a),?_,by simp [V,hl]⟩;have:¬ m < n:=by omega
    simp [Instr.arrayAt,run_underlying (Vcg he),this]
  ·omega
  ·rename_i bk;obtain ⟨o',cap,rfl,hcap,ho,_⟩:=hx;refine ⟨.pointer (some ⟨bk,o',none⟩),?_,?_⟩
   ·have:¬ m < n:=by omega
    simp [Instr.arrayAt,run_underlying (Vcg he),this]
   ·have:o'=o * s:=by omega
    simp [V,hl,this]
theorem Vwm {t ty:TypeId} {x d:D} {u:Value} (hx:V I w x loc u) (h:capD P t x=some d):∃ z,(Builtin.cap_ #[t] ty #[u]).run P w = .ok z w/\V I w d loc z:=by
 unfold capD at h;split at h
 case h_2=>cases h
 rw [Option.map_eq_some_iff] at h;obtain ⟨e,he,rfl⟩:=h;simp only [V] at hx; subst hx;exact ⟨.int .i64 0,by simp [Builtin.cap_,run_underlying (Vag he),goInt],by simp [V]⟩
theorem Vou {t:TypeId} {x i d:D} {u v:Value} (hx:V I w x loc u) (hi:V I w i loc v) (h:indexD P t x i=some d) :
  ∃ z,(Instr.index t u v).run P w = .ok z w/\V I w d loc z:=by
 unfold indexD at h;cases x<;>simp only [] at h<;>try cases h
 case str l=>
  split at h
  case isFalse=>cases h
  rename_i hs;split at h
  case h_2=>cases h
  rename_i k hk;obtain ⟨kd,rfl,hlt⟩:=Vc5 hk;rw [Option.map_eq_some_iff] at h;obtain ⟨c,hc,rfl⟩:=h;simp only [V] at hx hi; subst hx; subst hi;refine ⟨_,?_,rfl⟩;have hb:(ByteArray.mk l.toArray)[k]? = some c:=by
   have h1:k < l.length:=hlt;have h2:k < (ByteArray.mk l.toArray).size:=by rw [Vc4]; exact h1
   rw [getElem?_pos _ k h2];have:(ByteArray.mk l.toArray)[k]=l[k]:=rfl;rw [this];rw [List.getElem?_eq_getElem h1] at hc;exact hc
  simp [Instr.index,asIntOf,run_underlying (Vcf hs),hb]
 case agg cs=>
  split at h
  case h_2=>cases h
  rename_i n e he;split at h
  case h_2=>cases h
  rename_i s k hs hk;obtain ⟨kd,rfl,hlt⟩:=Vc5 hk;simp only [V] at hx hi; subst hi;obtain ⟨vs,rfl,h0,hv⟩:=hx;obtain ⟨z,hz,hvz⟩:=Vnh h0 hv h;refine ⟨z,?_,hvz⟩;simp [Instr.index,asIntOf,run_underlying (Vcg he),hlt,run_sizeOf' hs,hz]
end
section
variable {P:Program} {I:Nat->Prop} {w:World} {loc:Nat->Nat->Loc}
def VO (I:Nat->Prop) (w:World) (loc:Nat->Nat->Loc):Option D->Option Value->Prop
 | none,none=>True
 | some d,some v=>V I w d loc v
 | _,_=>False
theorem Ve0 {x:Option D} {u:Option Value} {dflt n k m:Nat} {code:BoundsCode} (hx:VO I w loc x u) (h:bound x dflt n=some k) (hn:n<=m) :
  k<=n/\(match u with | some v=>Instr.sliceBound v m code | none=>pure dflt:Sem Nat).run P w = .ok k w:=by
 unfold bound at h;cases x with
 | none=>
  cases u with
  | some v=>simp [VO] at hx
  | none=>
   simp only [] at h;split at h
   ·simp only [Option.some.injEq] at h; subst h; exact ⟨by assumption,rfl⟩
   ·cases h
 | some d=>
  cases u with
  | none=>simp [VO] at hx
  | some v=>
   cases d<;>simp only [] at h<;>try cases h
   rename_i kd i;simp only [VO,V] at hx; subst hx;split at h
   ·rename_i hi;simp only [Option.some.injEq] at h; subst h;refine ⟨by omega,?_⟩;have hm:i<=(m:Int):=by omega
    simp [Instr.sliceBound,asIntOf,hi.1,hm]
   ·cases h
theorem Vas {lo hi:Option D} {ul uh:Option Value} {isS:Bool} {len cap h k:Nat} (hl:VO I w loc lo ul) (hh:VO I w loc hi uh)
  (h1:bound hi len len=some h) (h2:bound lo 0 h=some k) (hc:len<=cap) :
  k<=h/\h<=len/\(Instr.sliceBounds isS len cap ul uh none).run P w = .ok (k,h,cap) w:=by
 have a1:=Ve0 (P:=P) (m:=cap) (code:=if isS then .sliceAcap else .sliceAlen) hh h1 hc;have a2:=Ve0 (P:=P) (m:=h) (code:=.sliceB) hl h2 (Nat.le_refl _);refine ⟨a2.1,a1.1,?_⟩;cases uh with
 | none=>
  have e1:len=h:=by simpa using a1.2
  subst e1;cases ul with
  | none=>
   have e2:k=0:=by simpa using a2.2.symm
   subst e2;simp [Instr.sliceBounds]
  | some v=>
   simp only [Instr.sliceBounds,Sem.run_bind,Sem.run_pure,Result.andThen_ok,Option.isSome_none,Bool.false_eq_true,if_false];rw [a2.2]; rfl
 | some v'=>
  cases ul with
  | none=>
   have e2:k=0:=by simpa using a2.2.symm
   subst e2;simp only [Instr.sliceBounds,Sem.run_bind,Sem.run_pure,Result.andThen_ok];rw [a1.2]; rfl
  | some v=>
   simp only [Instr.sliceBounds,Sem.run_bind,Sem.run_pure,Result.andThen_ok,Option.isSome_none,Bool.false_eq_true,if_false];rw [a1.2]; simp only [Result.andThen_ok]; rw [a2.2]; rfl
theorem Vii (l:List UInt8) (k h:Nat):(ByteArray.mk l.toArray).extract k h=⟨((l.take h).drop k).toArray⟩:=by
 apply ByteArray.ext;simp [ByteArray.data_extract,List.extract_eq_take_drop,List.drop_take]
theorem Vbg {t e:TypeId} (he:telem P t=some e) (x:Value) (lo hi mx:Option Value):(Instr.sliceAt t x lo hi mx).run P w=(Instr.slice t x lo hi mx).run P w:=by
 simp [Instr.sliceAt,run_underlying (Vag he)]
theorem Vov {t:TypeId} {x d:D} {lo hi:Option D} {u:Value} {ul uh:Option Value} (hx:V I w x loc u) (hl:VO I w loc lo ul) (hh:VO I w loc hi uh)
  (h:sliceD P t x lo hi=some d):∃ z,(Instr.sliceAt t u ul uh none).run P w = .ok z w/\V I w d loc z:=by
 unfold sliceD at h;cases x<;>simp only [] at h<;>try cases h
 case str l=>
  split at h
  case isFalse=>cases h
  rename_i hs;split at h
  case h_2=>cases h
  rename_i e he;rw [Option.map_eq_some_iff] at h;obtain ⟨k,hk,rfl⟩:=h;simp only [V] at hx; subst hx;obtain ⟨_,_,hb⟩:=Vas (P:=P) (isS:=false) hl hh he hk (Nat.le_refl _);refine ⟨.string ⟨((l.take e).drop k).toArray⟩,?_,by simp [V]⟩;simp [Instr.sliceAt,Instr.slice,run_underlying (Vcf hs),Vc4,hb,Vii]
 case nils=>
  split at h
  case h_2=>cases h
  rename_i e he;split at h
  case isFalse=>cases h
  rename_i hs;obtain ⟨s,hs⟩:=Option.isSome_iff_exists.1 hs;split at h
  case h_2=>cases h
  rename_i q hq;rw [Option.map_eq_some_iff] at h;obtain ⟨k,hk,rfl⟩:=h;simp only [V] at hx; subst hx;obtain ⟨h1,h2,hb⟩:=Vas (P:=P) (isS:=true) hl hh hq hk (Nat.le_refl _);refine ⟨.slice none 0 0,?_,by simp [V]⟩;rw [Vbg he];have hk0:k=0:=by omega
  have hq0:q=0:=by omega
  subst hk0; subst hq0;simp [Instr.slice,run_underlying (Vag he),hb,run_sizeOf' hs]
 case rs s rows=>
  split at h
  case h_2=>cases h
  rename_i e he;split at h
  case isFalse=>cases h
  rename_i hs;split at h
  case h_2=>cases h
  rename_i q hq;rw [Option.map_eq_some_iff] at h;obtain ⟨k,hk,rfl⟩:=h;simp only [V] at hx;rw [Vbg he];rcases hx with ⟨rfl,p0,cap0,rfl⟩ | ⟨b,o,cap,rfl,hcap,hI,hr⟩
  ·obtain ⟨h1,h2,hb⟩:=Vas (P:=P) (isS:=true) hl hh hq hk (Nat.zero_le cap0);have hk0:k=0:=by simp at h2; omega
   have hq0:q=0:=by simp at h2; omega
   subst hk0; subst hq0;simp only [List.length_nil] at hb;refine ⟨.slice (if cap0=0 then p0 else p0.map (·.add (0 * s))) (0 - 0) (cap0 - 0),?_,?_⟩
   ·simp [Instr.slice,run_underlying (Vag he),hb,run_sizeOf' hs]
   ·simp [V]
  obtain ⟨h1,h2,hb⟩:=Vas (P:=P) (isS:=true) hl hh hq hk hcap;by_cases hm:cap=k
  ·refine ⟨.slice (some ⟨b,o,none⟩) (q - k) (cap - k),?_,?_⟩
   ·subst hm; simp [Instr.slice,run_underlying (Vag he),hb,run_sizeOf' hs]
   ·have:(rows.take q).drop k=[]:=by simp; omega
    simp only [V,this];exact .inr ⟨b,o,cap - k,by simp; omega,by simp,hI,by simp [VR]⟩
  ·refine ⟨.slice (some ⟨b,o+k * s,none⟩) (q - k) (cap - k),?_,?_⟩
   ·simp [Instr.slice,run_underlying (Vag he),hb,run_sizeOf' hs,hm,Vap]
   ·simp only [V];refine .inr ⟨b,o+k * s,cap - k,?_,?_,hI,Vg3 k (Vdr q hr)⟩
    ·congr 1; simp; omega
    ·simp; omega
 case bs b g s o n=>
  split at h
  case h_2=>cases h
  rename_i e he;split at h
  case isFalse=>cases h
  rename_i hs;split at h
  case h_2=>cases h
  rename_i q hq;rw [Option.map_eq_some_iff] at h;obtain ⟨k,hk,rfl⟩:=h;rw [Vbg he];simp only [V] at hx;cases hlc:loc b g<;>simp only [hlc] at hx
  ·obtain ⟨a,cap,rfl,hn,ha⟩:=hx;obtain ⟨h1,h2,hb⟩:=Vas (P:=P) (isS:=true) hl hh hq hk hn;refine ⟨.slice (if cap=k then a else a.map (·.add (k * s))) (q - k) (cap - k),?_,?_⟩
   ·simp [Instr.slice,run_underlying (Vag he),hb,run_sizeOf' hs]
   ·simp only [V,hlc];refine ⟨_,cap - k,rfl,by omega,λhz=>?_⟩;split at hz
    ·omega
    ·have:=ha (by simpa using hz); omega
  ·obtain ⟨rfl,rfl,rfl⟩:=hx;obtain ⟨h1,h2,hb⟩:=Vas (P:=P) (isS:=true) hl hh hq hk (Nat.le_refl _);have hk0:k=0:=by omega
   have hq0:q=0:=by omega
   subst hk0; subst hq0;refine ⟨.slice none 0 0,?_,?_⟩
   ·simp [Instr.slice,run_underlying (Vag he),hb,run_sizeOf' hs]
   ·simp [V,hlc]
  ·rename_i c;obtain ⟨o',cap,rfl,hn,ho,hsz⟩:=hx;obtain ⟨h1,h2,hb⟩:=Vas (P:=P) (isS:=true) hl hh hq hk hn;refine ⟨.slice (some ⟨c,if cap=k then o' else o'+k * s,none⟩) (q - k) (cap - k),?_,?_⟩
   ·by_cases hm:cap=k
    ·subst hm; simp [Instr.slice,run_underlying (Vag he),hb,run_sizeOf' hs]
    ·simp [Instr.slice,run_underlying (Vag he),hb,run_sizeOf' hs,hm,Vap]
   ·simp only [V,hlc];refine ⟨_,cap - k,rfl,by omega,?_,?_⟩
    ·by_cases hm:cap=k
     ·left; omega
     ·right;rw [if_neg hm];have:o'=o * s:=by omega
      rw [this,Nat.add_mul]
    ·have:o+k+(cap - k)=o+cap:=by omega
     rw [this]; exact hsz
theorem Vow {t:TypeId} {x d dh dm:D} {u uh um:Value} (hx:V I w x loc u) (hh:V I w dh loc uh) (hm:V I w dm loc um)
  (h:sliceMD P t x dh dm=some d):∃ z,(Instr.sliceAt t u none (some uh) (some um)).run P w = .ok z w/\V I w d loc z:=by
 unfold sliceMD at h;split at h
 case h_2=>cases h
 rename_i b g s o n;split at h
 case h_2=>cases h
 rename_i e he;split at h
 case isFalse=>cases h
 rename_i hs;split at h
 case h_2=>cases h
 rename_i k hk;rw [Option.map_eq_some_iff] at h;obtain ⟨q,hq,rfl⟩:=h;rw [Vbg he];have bnd:∀ (len cap:Nat),n<=cap->k<=n/\q<=k/\(Instr.sliceBounds true len cap none (some uh) (some um)).run P w = .ok (0,q,k) w:=λlen cap hc=>by
  have a1:=Ve0 (P:=P) (m:=cap) (code:=.slice3Acap) (show VO I w loc (some dm) (some um) from hm) hk hc;have a2:=Ve0 (P:=P) (m:=k) (code:=.slice3B) (show VO I w loc (some dh) (some uh) from hh) hq (Nat.le_refl _);refine ⟨a1.1,a2.1,?_⟩;have e1:=a1.2;have e2:=a2.2;simp only [] at e1 e2;simp only [Instr.sliceBounds,Sem.run_bind,Sem.run_pure,if_true,e1,Result.andThen_ok,e2]
 simp only [V] at hx;cases hlc:loc b g<;>simp only [hlc] at hx
 ·obtain ⟨a,cap,rfl,hn,ha⟩:=hx;obtain ⟨h1,h2,hb⟩:=bnd n cap hn;refine ⟨.slice (if k=0 then a else a.map (·.add (0 * s))) (q - 0) (k - 0),?_,?_⟩
  ·simp [Instr.slice,run_underlying (Vag he),hb,run_sizeOf' hs]
  ·simp only [V,hlc];refine ⟨_,k - 0,rfl,by omega,λhz=>?_⟩;split at hz
   ·omega
   ·have:=ha (by simpa using hz); omega
 ·obtain ⟨rfl,rfl,rfl⟩:=hx;obtain ⟨h1,h2,hb⟩:=bnd 0 0 (Nat.le_refl _);have hk0:k=0:=by omega
  have hq0:q=0:=by omega
  subst hk0; subst hq0;refine ⟨.slice none 0 0,?_,?_⟩
  ·simp [Instr.slice,run_underlying (Vag he),hb,run_sizeOf' hs]
  ·simp [V,hlc]
 ·rename_i c;obtain ⟨o',cap,rfl,hn,ho,hsz⟩:=hx;obtain ⟨h1,h2,hb⟩:=bnd n cap hn;refine ⟨.slice (some ⟨c,o',none⟩) q k,?_,?_⟩
  ·by_cases hm0:k=0
   ·subst hm0; simp [Instr.slice,run_underlying (Vag he),hb,run_sizeOf' hs]
   ·simp [Instr.slice,run_underlying (Vag he),hb,run_sizeOf' hs,hm0,Vap]
  ·simp only [V,hlc];refine ⟨o',k,rfl,h2,?_,Nat.le_trans (Nat.mul_le_mul_right _ (by omega)) hsz⟩;rcases ho with ho | ho
   ·left; omega
   ·exact .inr ho
theorem Vwn {t ty:TypeId} {x d:D} {u:Value} (hx:V I w x loc u) (h:lenD P t x=some d):∃ z,(Builtin.len_ #[t] ty #[u]).run P w = .ok z w/\V I w d loc z:=by
 unfold lenD at h;cases x<;>simp only [] at h<;>try cases h
 case str l=>
  split at h
  ·rename_i hs;simp only [Option.some.injEq] at h; subst h;simp only [V] at hx; subst hx;exact ⟨.int .i64 l.length,by simp [Builtin.len_,run_underlying (Vcf hs),Vc4,goInt],by simp [V]⟩
  ·cases h
 case nils=>
  rw [Option.map_eq_some_iff] at h;obtain ⟨e,he,rfl⟩:=h;simp only [V] at hx; subst hx;exact ⟨.int .i64 0,by simp [Builtin.len_,run_underlying (Vag he),goInt],by simp [V]⟩
 case rs s rows=>
  rw [Option.map_eq_some_iff] at h;obtain ⟨e,he,rfl⟩:=h;simp only [V] at hx;rcases hx with ⟨rfl,p0,cap0,rfl⟩ | ⟨b,o,cap,rfl,_⟩
  ·exact ⟨.int .i64 0,by simp [Builtin.len_,run_underlying (Vag he),goInt],by simp [V]⟩
  exact ⟨.int .i64 rows.length,by simp [Builtin.len_,run_underlying (Vag he),goInt],by simp [V]⟩
 case bs b g s o n=>
  rw [Option.map_eq_some_iff] at h;obtain ⟨e,he,rfl⟩:=h;have:∃ a cap,u = .slice a n cap:=by
   simp only [V] at hx;cases hlc:loc b g<;>simp only [hlc] at hx
   ·obtain ⟨a,cap,h,_⟩:=hx; exact ⟨a,cap,h⟩
   ·exact ⟨none,0,by rw [hx.2.2,hx.2.1]⟩
   ·obtain ⟨o',cap,h,_⟩:=hx; exact ⟨_,cap,h⟩
  obtain ⟨a,cap,rfl⟩:=this;exact ⟨.int .i64 n,by simp [Builtin.len_,run_underlying (Vag he),goInt],by simp [V]⟩
 case agg cs=>
  rw [Option.map_eq_some_iff] at h;obtain ⟨⟨n,e⟩,he,rfl⟩:=h;exact ⟨.int .i64 n,by simp [Builtin.len_,run_underlying (Vcg he),goInt],by simp [V]⟩
 case bp b off=>
  split at h
  ·rename_i a ha;rw [Option.map_eq_some_iff] at h;obtain ⟨⟨n,e⟩,he,rfl⟩:=h;exact ⟨.int .i64 n,by simp [Builtin.len_,run_underlying ha,run_underlying (Vcg he),goInt],by simp [V]⟩
  ·cases h
theorem Vg6 {f:D->D->Option D} {g:Value->Value->Sem Value} (hfg:∀ x y z u v,f x y=some z->V I w x loc u->V I w y loc v->∃ r,(g u v).run P w = .ok r w/\V I w z loc r) :
  ∀ (ds:List D) (vs:List Value) (x d:D) (u:Value),VL I w ds loc vs->V I w x loc u->foldD f x ds=some d->∃ r,(vs.foldlM g u).run P w = .ok r w/\V I w d loc r
 | [],vs,x,d,u,hv,hx,h=>by
  simp only [VL] at hv; subst hv;simp only [foldD,Option.some.injEq] at h; subst h;exact ⟨u,rfl,hx⟩
 | y::r,vs,x,d,u,hv,hx,h=>by
  simp only [VL] at hv;obtain ⟨v,vr,rfl,hy,hr⟩:=hv;simp only [foldD] at h;split at h
  ·rename_i z hz;obtain ⟨q,hq,hvq⟩:=hfg x y z u v hz hx hy;obtain ⟨q2,h2,h3⟩:=Vg6 hfg r vr z d q hr hvq h;exact ⟨q2,by simp [hq,h2],h3⟩
  ·cases h
theorem Vwo (x y z:D) (u v:Value) (h:minD x y=some z) (hx:V I w x loc u) (hy:V I w y loc v):∃ r,(Builtin.min2 u v).run P w = .ok r w/\V I w z loc r:=by
 unfold minD at h;split at h
 ·simp only [Option.some.injEq] at h; subst h;simp only [V] at hx hy; subst hx; subst hy;exact ⟨_,rfl,rfl⟩
 ·cases h
theorem Vwp (x y z:D) (u v:Value) (h:maxD x y=some z) (hx:V I w x loc u) (hy:V I w y loc v):∃ r,(Builtin.max2 u v).run P w = .ok r w/\V I w z loc r:=by
 unfold maxD at h;split at h
 ·simp only [Option.some.injEq] at h; subst h;simp only [V] at hx hy; subst hx; subst hy;exact ⟨_,rfl,rfl⟩
 ·cases h
theorem Vk5:∀ (cs:List D) (us:List Value) (k:Nat) (vs:List D) (ws:List Value),VL I w cs loc us->VL I w vs loc ws->k+vs.length<=cs.length ->
  VL I w (setCells cs k vs) loc (us.take k++ws++us.drop (k+ws.length))
 | cs,us,k,[],ws,h,hv,_=>by
  simp only [VL] at hv; subst hv;cases cs<;>cases k<;>simpa [setCells] using h
 | [],us,k,v::vs,ws,h,hv,hk=>by simp at hk
 | c::cs,us,0,v::vs,ws,h,hv,hk=>by
  simp only [VL] at h hv;obtain ⟨x,xr,rfl,hx,hxr⟩:=h;obtain ⟨y,yr,rfl,hy,hyr⟩:=hv;have:=Vk5 cs xr 0 vs yr hxr hyr (by simpa using hk);simp only [setCells,VL];exact ⟨y,yr++xr.drop yr.length,by simp,hy,by simpa using this⟩
 | c::cs,us,k+1,v::vs,ws,h,hv,hk=>by
  simp only [VL] at h;obtain ⟨x,xr,rfl,hx,hxr⟩:=h;have:=Vk5 cs xr k (v::vs) ws hxr hv (by simp at hk |-; omega);simp only [setCells,VL];refine ⟨x,_,?_,hx,this⟩;have e:k+1+ws.length=(k+ws.length)+1:=by omega
  rw [e]; simp
theorem Vbo:∀ (cs:List D) (k:Nat) (vs:List D),k+vs.length<=cs.length->(setCells cs k vs).length=cs.length
 | cs,k,[],_=>by cases cs<;>cases k<;>simp [setCells]
 | [],k,v::vs,h=>by simp at h
 | c::cs,0,v::vs,h=>by simp only [setCells,List.length_cons]; rw [Vbo cs 0 vs (by simpa using h)]
 | c::cs,k+1,v::vs,h=>by simp only [setCells,List.length_cons]; rw [Vbo cs k (v::vs) (by simp at h |-; omega)]
theorem Vtv (ws:List Value):∀ (cells:List Value) (o:Nat),o+ws.length<=cells.length ->
  (ws.zipIdx.foldl (λ(cs:Array Value) (p:Value×Nat)=>cs.setIfInBounds (o+p.2) p.1) cells.toArray)=(cells.take o++ws++cells.drop (o+ws.length)).toArray:=by
 intro cells o h;have gen:∀ (ws:List Value) (j:Nat) (cells:List Value),o+j+ws.length<=cells.length ->
   ((ws.zipIdx j).foldl (λ(cs:Array Value) (p:Value×Nat)=>cs.setIfInBounds (o+p.2) p.1) cells.toArray)=(cells.take (o+j)++ws++cells.drop (o+j+ws.length)).toArray:=by
  intro ws;induction ws with
  | nil=>intro j cells h; simp
  | cons v r ih=>
   intro j cells h;simp only [List.zipIdx_cons,List.foldl_cons,List.setIfInBounds_toArray];have hl:(cells.set (o+j) v).length=cells.length:=by simp
   rw [ih (j+1) (cells.set (o+j) v) (by rw [hl]; simp at h |-; omega)];congr 1;have hlt:o+j < cells.length:=by simp at h; omega
   have e1:o+(j+1)=(o+j)+1:=by omega
   rw [e1];have t1:(cells.set (o+j) v).take (o+j+1)=cells.take (o+j)++[v]:=by
    rw [List.take_succ_eq_append_getElem (by simpa using hlt)];simp [List.take_set_of_le (Nat.le_refl _)]
   rw [t1];have t2:(cells.set (o+j) v).drop (o+j+1+r.length)=cells.drop (o+j+1+r.length):=by
    rw [List.drop_set_of_lt (by omega)]
   rw [t2];simp [Nat.add_assoc,Nat.add_comm,Nat.add_left_comm]
 have:=gen ws 0 cells (by simpa using h);simpa using this
theorem Ve1 {place:Nat->Option (Nat×Nat)} {e:Operand->D} {ρ:Operand->Value} (he:∀ x,V I w (e x) loc (ρ x)) :
  ∀ (ps:List (Nat×Operand)) (cells:List D) (us:List Value) (r:List D),
  VL I w cells loc us->(∀ x∈us,x.oneCell'=true)->fillD place cells (ps.map λp=>(p.1,e p.2))=some r ->
  ∃ vs:List Value,Instr.fill place us.toArray (ps.map λp=>(p.1,ρ p.2))=some vs.toArray/\(∀ x∈vs,x.oneCell'=true)/\VL I w r loc vs
 | [],cells,us,r,hv,hu,h=>by
  simp only [List.map_nil,fillD,Option.some.injEq] at h; subst h;exact ⟨us,rfl,hu,hv⟩
 | (i,x)::rest,cells,us,r,hv,hu,h=>by
  simp only [List.map_cons,fillD] at h;split at h
  case h_2=>cases h
  rename_i o s hpl;split at h
  case isFalse=>cases h
  rename_i hc;obtain ⟨hcl,hone⟩:=Vbj (he x) hc.1;have hlen:=Vac hcl;have hul:=Vac hv;have hsz:(ρ x).cells.size=(e x).cells.length:=by simpa using hlen
  obtain ⟨vs,hvs,hr⟩:=Ve1 he rest _ _ r (Vk5 cells us o (e x).cells (ρ x).cells.toList hv hcl (by omega)) (λy hy=>by
   simp only [List.mem_append] at hy;rcases hy with (hy | hy) | hy
   ·exact hu y (List.mem_of_mem_take hy)
   ·exact hone y hy
   ·exact hu y (List.mem_of_mem_drop hy)) h
  refine ⟨vs,?_,hr⟩;simp only [List.map_cons,Instr.fill,hpl];have c1:¬ ((ρ x).cells.size≠s||o+(ρ x).cells.size > us.toArray.size)=true:=by
   simp only [ne_eq,Bool.or_eq_true,decide_eq_true_eq,not_or,Decidable.not_not,Nat.not_lt,List.size_toArray];omega
  rw [if_neg c1];have:=Vtv (ρ x).cells.toList us o (by simp; omega);rw [<- hvs];congr 1;rw [<- this,<- Array.foldl_toList];simp [Array.toList_zipIdx]
end
section
variable {P:Program} {I:Nat->Prop} {w:World} {loc:Nat->Nat->Loc}
theorem Vij:∀ (fs:List Field) (pl:List (Nat×Nat)),tplacesL P fs=some pl ->
  (fs.mapM λf=>do pure (f.offset,<- sizeOf f.type):Sem (List (Nat×Nat))).run P w = .ok pl w
 | [],pl,h=>by simp only [tplacesL,Option.some.injEq] at h; subst h; rfl
 | f::r,pl,h=>by
  simp only [tplacesL] at h;split at h
  case h_2=>cases h
  rename_i s hs;rw [Option.map_eq_some_iff] at h;obtain ⟨q,hq,rfl⟩:=h;have:=Vij r q hq;simp only [List.mapM_cons,Sem.run_bind,run_sizeOf' hs,Result.andThen_ok,Sem.run_pure,this]
theorem Vada {v:Value} {z:List D} (h:ofV v = .agg z):∃ us:List Value,v = .agg us.toArray/\(∀ x∈us,x.oneCell'=true)/\z=ofVs us:=by
 cases v with
 | agg cs=>
  obtain ⟨cs⟩:=cs;simp only [ofV] at h;split at h
  ·rename_i ha;simp only [D.agg.injEq] at h;exact ⟨cs,rfl,λx hx=>by simpa using List.all_eq_true.1 ha x hx,h.symm⟩
  ·cases h
 | pointer a=>cases a<;>simp [ofV] at h
 | slice a n c=>
  cases a with
  | some a=>simp [ofV] at h
  | none=>cases n<;>cases c<;>simp [ofV] at h
 | map m=>cases m<;>simp [ofV] at h
 | _=>simp [ofV] at h
theorem Vox {e:Operand->D} {ρ:Operand->Value} (he:∀ x,V I w (e x) loc (ρ x)) {t:TypeId} {parts:Array (Nat×Operand)} {d:D}
  (h:buildD P t (parts.toList.map λp=>(p.1,e p.2))=some d) :
  ∃ z,(Instr.build t (parts.map λ(i,x)=>(i,ρ x))).run P w = .ok z w/\V I w d loc z:=by
 have hp:(parts.map λ(i,x)=>(i,ρ x)).toList=parts.toList.map λp=>(p.1,ρ p.2):=by simp
 unfold buildD at h;split at h
 case h_2=>cases h
 rename_i z hz;obtain ⟨v,hv,hd⟩:=run_zero' hz w;obtain ⟨us,rfl,hone,rfl⟩:=Vada hd.symm;have hvl:VL I w (ofVs us) loc us:=Vl9 us;split at h
 ·rename_i pl hpl;unfold tplaces at hpl;split at hpl
  case h_2=>cases hpl
  rename_i fs hfs;rw [Option.map_eq_some_iff] at h;obtain ⟨r,hr,rfl⟩:=h;obtain ⟨vs,hvs,ho,hl⟩:=Ve1 he _ _ us r hvl hone hr;refine ⟨.agg vs.toArray,?_,by simp only [V]; exact ⟨vs,rfl,ho,hl⟩⟩;have hpls:=Vij (P:=P) (w:=w) fs.toList pl hpl;simp only [Instr.build,Sem.run_bind,hv,Result.andThen_ok,Value.cells,run_underlying hfs,Array.mapM_eq_mapM_toList,Sem.run_map,hpls,hp];have:(λ(i:Nat)=>pl.toArray[i]?)=(λ(i:Nat)=>pl[i]?):=by funext i; simp
  simp only [this,hvs];rfl
 ·split at h
  case h_2=>cases h
  rename_i n el hel;split at h
  case h_2=>cases h
  rename_i s hs;rw [Option.map_eq_some_iff] at h;obtain ⟨r,hr,rfl⟩:=h;obtain ⟨vs,hvs,ho,hl⟩:=Ve1 he _ _ us r hvl hone hr;refine ⟨.agg vs.toArray,?_,by simp only [V]; exact ⟨vs,rfl,ho,hl⟩⟩;simp only [Instr.build,Sem.run_bind,hv,Result.andThen_ok,Value.cells,run_underlying (Vcg hel),run_sizeOf' hs,hp,hvs];rfl
theorem Vtw {e:Operand->D} {ρ:Operand->Value} (he:∀ x,V I w (e x) loc (ρ x)) {o:Oper} {d:D} (h:semN P o.op e=some d) :
  ∃ v,(execOp ρ o).run P w = .ok (.value v) w/\V I w d loc v:=by
 obtain ⟨dst,op,type,pos,after,guard⟩:=o;simp only at h;have fin:∀ (s:Sem Value) ,(∃ z,s.run P w = .ok z w/\V I w d loc z)->∃ v,(do pure (.value (<- s)):Sem Next).run P w = .ok (.value v) w/\V I w d loc v:=by
  rintro s ⟨z,h1,h2⟩;exact ⟨z,by simp [h1],h2⟩
 unfold semN at h;split at h
 ·simp only [Option.some.injEq] at h; subst h; exact ⟨_,rfl,he _⟩
 ·simp only [Option.some.injEq] at h; subst h; exact ⟨_,rfl,he _⟩
 ·rename_i c a b;have hc:=he c;split at h
  ·rename_i hb;simp only [Option.some.injEq] at h; subst h;rw [hb] at hc; simp only [V] at hc;exact ⟨ρ a,by simp [execOp,hc,asBool],he _⟩
  ·rename_i hb;simp only [Option.some.injEq] at h; subst h;rw [hb] at hc; simp only [V] at hc;exact ⟨ρ b,by simp [execOp,hc,asBool],he _⟩
  ·cases h
 ·rename_i x;have hx:=he x;split at h<;>simp only [Option.some.injEq,reduceCtorEq] at h<;>subst h
  ·rename_i b i hb;rw [hb] at hx;have:∃ a:Addr,ρ x = .pointer (some a):=by
    simp only [V] at hx;cases hl:loc b 0<;>simp only [hl] at hx
    ·exact hx
    ·exact ⟨_,hx⟩
   obtain ⟨a,ha⟩:=this;refine ⟨ρ x,?_,hx⟩;simp [execOp,ha]
  ·rename_i b g s i k hb;rw [hb] at hx;have:∃ a:Addr,ρ x = .pointer (some a):=by
    simp only [V] at hx;cases hl:loc b g<;>simp only [hl] at hx
    ·exact hx
    ·exact ⟨_,hx⟩
   obtain ⟨a,ha⟩:=this;refine ⟨ρ x,?_,hx⟩;simp [execOp,ha]
  ·rename_i cs hb;rw [hb] at hx;refine ⟨ρ x,?_,hx⟩;simp only [V] at hx;obtain ⟨b,o,ha,_⟩:=hx;simp [execOp,ha]
  ·rename_i f cap hb;rw [hb] at hx;refine ⟨ρ x,?_,hx⟩;simp only [V] at hx;obtain ⟨vs,ha,_⟩:=hx;simp [execOp,ha]
 ·exact fin _ (Vwl _ _ (he _) (he _) h)
 ·exact fin _ (Vaca (he _) h)
 ·split at h
  ·rename_i hs;exact fin _ (Vtu (Option.isSome_iff_exists.1 hs) (he _) h)
  ·cases h
 ·exact fin _ (Vox he h)
 ·exact fin _ (Vh8 (he _) h)
 ·exact fin _ (Vot (he _) h)
 ·exact fin _ (Vh9 (he _) (he _) h)
 ·exact fin _ (Vou (he _) (he _) h)
 ·rename_i t x lo hi;refine fin _ (Vov (he _) ?_ ?_ h)
  ·cases lo with
   | none=>trivial
   | some y=>exact he y
  ·cases hi with
   | none=>trivial
   | some y=>exact he y
 ·exact fin _ (Vow (he _) (he _) (he _) h)
 ·rename_i x i;have hx:=he x;split at h
  ·rename_i vs hb;rw [hb] at hx; simp only [V] at hx;obtain ⟨us,hu,hl⟩:=hx;obtain ⟨v,hv,hvv⟩:=Vtr hl h;exact ⟨v,by simp [execOp,hu,Instr.extract,hv],hvv⟩
  ·cases h
 ·rename_i f first cap
  split at h
  ·rename_i hf;simp only [Option.some.injEq] at h; subst h;have hf:first = #[]:=by simpa using hf
   subst hf;refine ⟨.func (.func f) #[] (cap.map ρ),by simp [execOp,Instr.makeFunc],?_⟩;simp only [V];exact ⟨cap.toList.map ρ,by congr 1; apply Array.ext'; simp,Vf2 he _⟩
  ·cases h
 ·rename_i args argTypes;split at h
  ·rename_i x t hx ht;obtain ⟨z,hz,hv⟩:=Vwn (P:=P) (ty:=type) (he x) h;have ha:args = #[x]:=by apply Array.ext'; simpa using hx
   have hb:argTypes = #[t]:=by apply Array.ext'; simpa using ht
   subst ha; subst hb;exact ⟨z,by simp [execOp,resolve,invoke,builtin,hz],hv⟩
  ·cases h
 ·exact fin _ (Vk4 (he _) h)
 ·rename_i args argTypes;split at h
  ·rename_i x t hx ht;obtain ⟨z,hz,hv⟩:=Vwm (P:=P) (ty:=type) (he x) h;have ha:args = #[x]:=by apply Array.ext'; simpa using hx
   have hb:argTypes = #[t]:=by apply Array.ext'; simpa using ht
   subst ha; subst hb;exact ⟨z,by simp [execOp,resolve,invoke,builtin,hz],hv⟩
  ·cases h
 ·rename_i args argTypes;split at h
  ·rename_i x r hx;cases ha:args.toList with
   | nil=>simp [ha] at hx
   | cons y q=>
    simp only [ha,List.map_cons,List.cons.injEq] at hx;obtain ⟨hx1,hx2⟩:=hx;subst hx1; subst hx2;obtain ⟨z,hz,hv⟩:=Vg6 (P:=P) (Vwo (P:=P)) _ _ _ _ _ (Vf2 he q) (he y) h;have:args=(y::q).toArray:=by apply Array.ext'; simpa using ha
    subst this;exact ⟨z,by simp [execOp,resolve,invoke,builtin,Builtin.min_,hz],hv⟩
  ·cases h
 ·rename_i args argTypes;split at h
  ·rename_i x r hx;cases ha:args.toList with
   | nil=>simp [ha] at hx
   | cons y q=>
    simp only [ha,List.map_cons,List.cons.injEq] at hx;obtain ⟨hx1,hx2⟩:=hx;subst hx1; subst hx2;obtain ⟨z,hz,hv⟩:=Vg6 (P:=P) (Vwp (P:=P)) _ _ _ _ _ (Vf2 he q) (he y) h;have:args=(y::q).toArray:=by apply Array.ext'; simpa using ha
    subst this;exact ⟨z,by simp [execOp,resolve,invoke,builtin,Builtin.max_,hz],hv⟩
  ·cases h
 ·cases h
end
end Go.Abs
