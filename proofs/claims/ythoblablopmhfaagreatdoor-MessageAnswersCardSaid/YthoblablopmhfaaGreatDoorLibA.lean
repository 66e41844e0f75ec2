/- The library of abstract values, part 1: see the remarks ahead of each part. No condition. -/
import Derived.Orders
import Derived.Below
import Derived.Laws.Sem
import Derived.WalkKit
import Derived.WalkLawsBesides
import Derived.ChangeKeysEq
import Derived.Laws.CopyRow
import Derived.Laws.BytesString
import Derived.Laws.BytesArg
set_option linter.unusedVariables false
set_option linter.unusedSimpArgs false
namespace Go.Abs
open Go
open _root_.Option.some renaming injEq → Qa
open _root_.Option renaming map_eq_some_iff → Qb, isSome_none → Qaq
open Go.Result renaming andThen_ok → Qc
open Go.Sem renaming run_bind → Qd, run_pure → Qf, run_ite → Qas
open _root_.Nat renaming add_mul → Qe, le_refl → Qg, lt_or_ge → Qj, mul_le_mul_right → Qt, zero_add → Qz, add_sub_cancel → Q0, le_trans → Q4, add_zero → Q5, add_assoc → Qac, lt_of_lt_of_le → Qad, lt_irrefl → Qal
open _root_.List renaming flatten_cons → Qh, replicate → Qi, getElem?_eq_none → Qk, mem_of_mem_drop → Ql, mem_append → Qm, cons_append → Qo, length_append → Qp, mem_of_mem_take → Qs, length_cons → Qv, map_cons → Qx, range → Q1, getElem?_append → Q2, take_succ_cons → Q3, getElem?_drop → Q6, getElem?_append_left → Q7, eq_of_mem_replicate → Q8, getElem?_cons_zero → Q9, getElem?_cons_succ → Qaa, append_nil → Qab, nil_append → Qaf, range_add → Qah, mem_range → Qai, mem_or_eq_of_mem_set → Qaj, extract_eq_take_drop → Qak, sum_replicate_nat → Qam, length_singleton → Qan, getElem?_toArray → Qao, length_flatten → Qat, flatten_append → Qau, map_replicate → Qaw, getElem?_take → Qax, filter_append → Qay, filter_congr → Qaz, getD → Qa0, filter_cons → Qa1, ext_getElem → Qa2, mem_filter → Qa4, length_nil → Qa5, take_zero → Qa7, tail_drop → Qa8, take_nil → Qba, map_nil → Qbc
open _root_.Array renaming getElem?_eq_none → Qn, ext' → Qu, getElem?_setIfInBounds → Qw, getD_eq_getD_getElem? → Qy, toArray_toList → Qap, length_toList → Qar, toList_range → Qav
open _root_.Bool renaming false_eq_true → Qq, and_eq_true → Qa3, or_eq_true → Qa6, not_false → Qa9, not_true → Qbb
open _root_.BitVec renaming ofInt → Qr
open _root_.UInt8 renaming ofNat → Qae
open _root_.Prod.mk renaming injEq → Qag
inductive Loc where
 | free
 | stale
 | nil
 | blk (b:Nat)
inductive D where
 | dead
 | bool (b:Bool)
 | int (k:IntKind) (n:Int)
 | str (l:List UInt8)
 | lit (v:Value)
 | nilp
 | rp (cs:List D)
 | bp (b off:Nat)
 | mp (b:Nat)
 | ap (b g s i off:Nat)
 | nils
 | rs (s:Nat) (rows:List (List D))
 | bs (b g s i n:Nat)
 | agg (cs:List D)
 | tup (vs:List D)
 | fn (f:Nat) (cap:List D)
def free:Nat→Nat→Loc:=fun _ _=>.free
def rowSize (w:World) (b:Nat):Nat:=
 match w.heap[b]? with
 | some (.cells c _ _)=>c.size
 | _=>0
mutual
def V (I:Nat→Prop) (w:World):D→(Nat→Nat→Loc)→Value→Prop
 | .dead,_,_=>True
 | .bool b,_,v=>v = .bool b
 | .int k n,_,v=>v = .int k n
 | .str l,_,v=>v = .string ⟨l.toArray⟩
 | .lit x,_,v=>v=x
 | .nilp,_,v=>v = .pointer none
 | .rp cs,_,v=>∃ b o,v = .pointer (some ⟨b,o,none⟩)∧I b∧VC I w cs b o
 | .bp b o,loc,v=>
  match loc b 0 with
  | .stale=>∃ a:Addr,v = .pointer (some a)
  | .blk c=>v = .pointer (some ⟨c,o,none⟩)
  | _=>False
 | .mp b,loc,v=>
  match loc b 0 with
  | .stale=>∃ c:Nat,v = .map (some c)
  | .blk c=>v = .map (some c)
  | _=>False
 | .ap b g s i o,loc,v=>
  match loc b g with
  | .stale=>∃ a:Addr,v = .pointer (some a)
  | .blk c=>v = .pointer (some ⟨c,i * s+o,none⟩)
  | _=>False
 | .nils,_,v=>v = .slice none 0 0
 | .rs s rows,_,v=>(rows=[]∧∃ p cap,v = .slice p 0 cap)∨∃ b o cap,v = .slice (some ⟨b,o,none⟩) rows.length cap∧rows.length≤cap∧I b∧VR I w s rows b o
 | .bs b g s i n,loc,v=>
  match loc b g with
  | .stale=>∃ a cap,v = .slice a n cap∧n≤cap∧(a=none→cap=0)
  | .nil=>i=0∧n=0∧v = .slice none 0 0
  | .blk c=>∃ o cap,v = .slice (some ⟨c,o,none⟩) n cap∧n≤cap∧(cap=0∨o=i * s)∧(i+cap) * s≤rowSize w c
  | .free=>False
 | .agg cs,loc,v=>∃ vs:List Value,v = .agg vs.toArray∧(∀ x∈vs,x.oneCell'=true)∧VL I w cs loc vs
 | .tup cs,loc,v=>∃ vs:List Value,v = .tuple vs.toArray∧VL I w cs loc vs
 | .fn f cap,loc,v=>∃ vs:List Value,v = .func (.func f) #[] vs.toArray∧VL I w cap loc vs
def VL (I:Nat→Prop) (w:World):List D→(Nat→Nat→Loc)→List Value→Prop
 | [],_,vs=>vs=[]
 | d::r,loc,vs=>∃ v vr,vs=v::vr∧V I w d loc v∧VL I w r loc vr
def VC (I:Nat→Prop) (w:World):List D→Nat→Nat→Prop
 | [],_,_=>True
 | d::r,b,o=>(∃ c,w.cell? ⟨b,o,none⟩=some c∧c.oneCell'=true∧V I w d free c)∧VC I w r b (o+1)
def VR (I:Nat→Prop) (w:World) (s:Nat):List (List D)→Nat→Nat→Prop
 | [],_,_=>True
 | row::r,b,o=>row.length=s∧VC I w row b o∧VR I w s r b (o+s)
end
structure Ext (I I':Nat→Prop) (w w':World):Prop where
 imm:∀ b,I b→I' b
 same:∀ b,I b→w'.heap[b]? = w.heap[b]?
 rows:∀ b,rowSize w b≤rowSize w' b
def LocExt (loc loc':Nat→Nat→Loc):Prop:=∀ b g,loc b g = .free∨loc' b g = .stale∨loc' b g=loc b g
theorem LocExt.free (loc:Nat→Nat→Loc):LocExt Abs.free loc:=fun _ _=>.inl rfl
theorem LocExt.refl (loc:Nat→Nat→Loc):LocExt loc loc:=fun _ _=>.inr (.inr rfl)
theorem Vlv {w w':World} {b o:Nat} (h:w'.heap[b]? = w.heap[b]?):w'.cell? ⟨b,o,none⟩=w.cell? ⟨b,o,none⟩:=by
 simp [World.cell?,h]
mutual
theorem Va4 {I I':Nat→Prop} {w w':World} (h:Ext I I' w w') :
  ∀ (d:D) (loc loc':Nat→Nat→Loc) (v:Value),LocExt loc loc'→V I w d loc v→V I' w' d loc' v
 | .dead,_,_,_,_,_=>trivial
 | .bool b,_,_,_,_,hv=>by simpa only [V] using hv
 | .int k n,_,_,_,_,hv=>by simpa only [V] using hv
 | .str l,_,_,_,_,hv=>by simpa only [V] using hv
 | .lit x,_,_,_,_,hv=>by simpa only [V] using hv
 | .nilp,_,_,_,_,hv=>by simpa only [V] using hv
 | .nils,_,_,_,_,hv=>by simpa only [V] using hv
 | .rp cs,_,_,_,_,hv=>by
  simp only [V] at hv ⊢
  obtain ⟨b,o,rfl,hI,hc⟩:=hv
  exact ⟨b,o,rfl,h.imm b hI,Vf4 h cs b o (h.same b hI) hc⟩
 | .bp b o,loc,loc',v,hl,hv=>by
  simp only [V] at hv ⊢
  rcases hl b 0 with e | e | e
  ·simp [e] at hv
  ·rw [e]
   cases hq:loc b 0<;>simp only [hq] at hv
   ·exact hv
   ·exact ⟨_,hv⟩
  ·rw [e]; exact hv
 | .mp b,loc,loc',v,hl,hv=>by
  simp only [V] at hv ⊢
  rcases hl b 0 with e | e | e
  ·simp [e] at hv
  ·rw [e]
   cases hq:loc b 0<;>simp only [hq] at hv
   ·exact hv
   ·exact ⟨_,hv⟩
  ·rw [e]; exact hv
 | .ap b g s i o,loc,loc',v,hl,hv=>by
  simp only [V] at hv ⊢
  rcases hl b g with e | e | e
  ·simp [e] at hv
  ·rw [e]
   cases hq:loc b g<;>simp only [hq] at hv
   ·exact hv
   ·exact ⟨_,hv⟩
  ·rw [e]; exact hv
 | .rs s rows,_,_,_,_,hv=>by
  simp only [V] at hv ⊢
  rcases hv with hv | ⟨b,o,cap,rfl,hcap,hI,hc⟩
  ·exact .inl hv
  ·exact .inr ⟨b,o,cap,rfl,hcap,h.imm b hI,Vcc h s rows b o (h.same b hI) hc⟩
 | .bs b g s i n,loc,loc',v,hl,hv=>by
  simp only [V] at hv ⊢
  rcases hl b g with e | e | e
  ·simp [e] at hv
  ·rw [e]
   cases hq:loc b g with
   | free=>simp [hq] at hv
   | stale=>simpa [hq] using hv
   | nil=>
    simp only [hq] at hv ⊢
    exact ⟨none,0,by rw [hv.2.2,hv.2.1],by omega,fun _=>rfl⟩
   | blk c=>
    simp only [hq] at hv ⊢
    obtain ⟨o,cap,hv,hn,_,_⟩:=hv
    exact ⟨_,cap,hv,hn,fun h=>by cases h⟩
  ·rw [e]
   cases hq:loc b g with
   | free=>simp [hq] at hv
   | stale=>simpa [hq] using hv
   | nil=>simpa [hq] using hv
   | blk c=>
    simp only [hq] at hv ⊢
    obtain ⟨o,cap,hv,hn,ho,hs⟩:=hv
    exact ⟨o,cap,hv,hn,ho,Q4 hs (h.rows c)⟩
 | .agg cs,loc,loc',v,hl,hv=>by
  simp only [V] at hv ⊢
  obtain ⟨vs,rfl,h1,hc⟩:=hv
  exact ⟨vs,rfl,h1,Vah h cs loc loc' vs hl hc⟩
 | .tup cs,loc,loc',v,hl,hv=>by
  simp only [V] at hv ⊢
  obtain ⟨vs,rfl,hc⟩:=hv
  exact ⟨vs,rfl,Vah h cs loc loc' vs hl hc⟩
 | .fn f cs,loc,loc',v,hl,hv=>by
  simp only [V] at hv ⊢
  obtain ⟨vs,rfl,hc⟩:=hv
  exact ⟨vs,rfl,Vah h cs loc loc' vs hl hc⟩
theorem Vah {I I':Nat→Prop} {w w':World} (h:Ext I I' w w') :
  ∀ (ds:List D) (loc loc':Nat→Nat→Loc) (vs:List Value),LocExt loc loc'→VL I w ds loc vs→VL I' w' ds loc' vs
 | [],_,_,_,_,hv=>by simpa only [VL] using hv
 | d::r,loc,loc',vs,hl,hv=>by
  simp only [VL] at hv ⊢
  obtain ⟨v,vr,rfl,h1,h2⟩:=hv
  exact ⟨v,vr,rfl,Va4 h d loc loc' v hl h1,Vah h r loc loc' vr hl h2⟩
theorem Vf4 {I I':Nat→Prop} {w w':World} (h:Ext I I' w w') :
  ∀ (cs:List D) (b o:Nat),w'.heap[b]? = w.heap[b]?→VC I w cs b o→VC I' w' cs b o
 | [],_,_,_,_=>trivial
 | d::r,b,o,hb,hv=>by
  simp only [VC] at hv ⊢
  obtain ⟨⟨c,hc,h1,hd⟩,hr⟩:=hv
  exact ⟨⟨c,(Vlv hb).trans hc,h1,Va4 h d Abs.free Abs.free c (.refl _) hd⟩,Vf4 h r b (o+1) hb hr⟩
theorem Vcc {I I':Nat→Prop} {w w':World} (h:Ext I I' w w') (s:Nat) :
  ∀ (rows:List (List D)) (b o:Nat),w'.heap[b]? = w.heap[b]?→VR I w s rows b o→VR I' w' s rows b o
 | [],_,_,_,_=>trivial
 | row::r,b,o,hb,hv=>by
  simp only [VR] at hv ⊢
  exact ⟨hv.1,Vf4 h row b o hb hv.2.1,Vcc h s r b (o+s) hb hv.2.2⟩
end
inductive Box where
 | gone
 | lent
 | var (cs:List D)
 | arr (g s:Nat) (rows:List (List D))
 | frz (g s:Nat) (rows:List (List D))
 | iter (l:List UInt8) (pos:Nat)
 | mset (ks:List Value)
structure Mem where
 nb:Nat
 bx:Nat→Box
structure S where
 t:Nat→D
 m:Mem
def upd {α:Type} (f:Nat→α) (i:Nat) (x:α):Nat→α:=fun j=>if j=i then x else f j
def bxOf:List Box→Nat→Box
 | [],_=>.gone
 | b::_,0=>b
 | _::r,j+1=>bxOf r j
def S.put (σ:S) (dst:Option Nat) (d:D):S:=
 match dst with
 | some k=>{ σ with t:=upd σ.t k d }
 | none=>σ
mutual
def ofV:Value→D
 | .bool b=>.bool b
 | .int k n=>.int k n
 | .string s=>.str s.data.toList
 | .pointer none=>.nilp
 | .slice none 0 0=>.nils
 | .agg ⟨cs⟩=>if cs.all (·.oneCell') then .agg (ofVs cs) else .dead
 | .nilFunc=>.lit .nilFunc
 | .nilIface=>.lit .nilIface
 | .map none=>.lit (.map none)
 | _=>.dead
def ofVs:List Value→List D
 | []=>[]
 | v::r=>ofV v::ofVs r
end
structure Specs where
 glob:Nat→Option (List D)
 fn:Nat→Option (Nat×(List D→Option (D×List Box)))
def ev (Sp:Specs) (t:Nat→D):Operand→D
 | .tmp i=>t i
 | .const v=>ofV v
 | .global g=>match Sp.glob g with | some cs=>.rp cs | none=>.dead
 | .func f=>.fn f []
def tsz (P:Program) (t:TypeId):Option Nat:=(P.info? t).map (·.size)
def tbytes (P:Program) (t:TypeId):Option Nat:=(P.info? t).map (·.bytes)
def tagg (P:Program) (t:TypeId):Option Bool:=(P.underlying t).map fun | .struct _=>true | .array _ _=>true | _=>false
def tzero (P:Program) (t:TypeId):Option D:=((P.info? t).bind (·.zero)).map ofV
def tfld (P:Program) (t:TypeId) (k:Nat):Option (Nat×TypeId):=
 match P.underlying t with
 | some (.struct fs)=>match fs[k]? with
  | some f=>match P.info? f.type with
   | some i=>if i.size=0 then none else some (f.offset,f.type)
   | none=>none
  | none=>none
 | _=>none
def tint (P:Program) (t:TypeId):Option IntKind:=match P.underlying t with | some (.int k)=>some k | _=>none
def tstr (P:Program) (t:TypeId):Bool:=match P.underlying t with | some .string=>true | _=>false
def tbool (P:Program) (t:TypeId):Bool:=match P.underlying t with | some .bool=>true | _=>false
def telem (P:Program) (t:TypeId):Option TypeId:=match P.underlying t with | some (.slice e)=>some e | _=>none
def tarr (P:Program) (t:TypeId):Option (Nat×TypeId):=match P.underlying t with | some (.array n e)=>some (n,e) | _=>none
def fkind (P:Program) (t:TypeId):Nat:=if tbool P t then 1 else if tstr P t then 2 else if (tint P t).isSome then 3 else 0
def flatFields (P:Program):List Field→Nat→Option (List Nat)
 | [],_=>some []
 | f :: r, o => if f.name ≠ "_" ∧ f.offset = o ∧ fkind P f.type ≠ 0 then (flatFields P r (o + 1)).map (fkind P f.type :: ·) else none
def arrFields (e:TypeId):Nat→Nat→List Field
 | 0,_=>[]
 | n + 1, k => ⟨"x", e, k, false, "", "", 0⟩ :: arrFields e n (k + 1)
def flatEq (P:Program) (t:TypeId):Option (List Nat):=
 match P.underlying t with
 | some (.struct fs)=>if P.stoodInHeld t=false∧P.eqGuardType P.depth t=false then flatFields P fs.toList 0 else none
 | some (.array n e)=>if P.eqGuardType P.depth t=false∧P.cellsOf e=1∧(P.info? e).isSome then flatFields P (arrFields e n 0) 0 else none
 | _=>none
def D.cells:D→List D
 | .agg cs=>cs
 | d=>[d]
def D.one:D→Bool
 | .agg _=>false
 | .tup _=>false
 | .dead=>false
 | .lit (.agg _)=>false
 | .lit (.tuple _)=>false
 | _=>true
def D.fit:D→Bool
 | .agg _=>true
 | d=>d.one
def setCells:List D→Nat→List D→List D
 | cs,_,[]=>cs
 | [],_,_::_=>[]
 | _::cs,0,v::vs=>v::setCells cs 0 vs
 | c::cs,k+1,v::vs=>c::setCells cs k (v::vs)
def loadD (P:Program) (t:TypeId) (cs:List D):Option D:=
 match tagg P t with
 | some true=>match tsz P t with
  | some m=>if m≤cs.length then some (.agg (cs.take m)) else none
  | none=>none
 | some false=>match cs with
  | c::_=>some c
  | []=>none
 | none=>none
def eqCells:List Nat→List D→List D→Option Bool
 | [],[],[]=>some true
 | 3::q,.int k a::r,.int k' b::r'=>if k=k' then (eqCells q r r').map ((a == b)&&·) else none
 | 1::q,.bool a::r,.bool b::r'=>(eqCells q r r').map ((a == b)&&·)
 | 2::q,.str a::r,.str b::r'=>(eqCells q r r').map ((a == b)&&·)
 | _,_,_=>none
def intBin (op:BinOp) (k:IntKind) (a:Int) (k':IntKind) (b:Int):Option D:=
 match op with
 | .shl=>if b < 0 then none else some (.int k (k.wrap (a * 2 ^ (min b.toNat k.bits))))
 | .shr=>if b < 0 then none else some (.int k (a.fdiv (2 ^ (min b.toNat k.bits))))
 | _=>if k≠k' then none else match op with
  | .add=>some (.int k (k.wrap (a+b)))
  | .sub=>some (.int k (k.wrap (a - b)))
  | .mul=>some (.int k (k.wrap (a * b)))
  | .quo=>if b=0 then none else some (.int k (k.wrap (a.tdiv b)))
  | .rem=>if b=0 then none else some (.int k (a.tmod b))
  | .and=>some (.int k (k.wrap (Qr k.bits a &&& Qr k.bits b).toNat))
  | .or=>some (.int k (k.wrap (Qr k.bits a ||| Qr k.bits b).toNat))
  | .xor=>some (.int k (k.wrap (Qr k.bits a ^^^ Qr k.bits b).toNat))
  | .andNot=>some (.int k (k.wrap (Qr k.bits a &&& ~~~ Qr k.bits b).toNat))
  | .eql=>some (.bool (a == b))
  | .neq=>some (.bool (a != b))
  | .lss=>some (.bool (a < b))
  | .leq=>some (.bool (a≤b))
  | .gtr=>some (.bool (a > b))
  | .geq=>some (.bool (a≥b))
  | _=>none
def strBin (op:BinOp) (a b:List UInt8):Option D:=
 match op with
 | .add=>if ((a.length+b.length:Nat):Int) > IntKind.i64.max then none else some (.str (a++b))
 | .eql=>some (.bool (a == b))
 | .neq=>some (.bool (!(a == b)))
 | .lss=>some (.bool (Op.bytesLess a b))
 | .leq=>some (.bool (Op.bytesLess a b||a == b))
 | .gtr=>some (.bool (!(Op.bytesLess a b||a == b)))
 | .geq=>some (.bool (!Op.bytesLess a b))
 | _=>none
def binD (P:Program) (op:BinOp) (t:TypeId) (x y:D):Option D:=
  match x with
  | .int k a=>match y with
    | .int k' b=>intBin op k a k' b
    | _=>none
  | .str a=>match y with
    | .str b=>strBin op a b
    | _=>none
  | .bool a=>match y with
    | .bool b=>if tbool P t then match op with
        | .eql=>some (.bool (a == b))
        | .neq=>some (.bool (!(a == b)))
        | _=>none
      else none
    | _=>none
  | .agg xs=>match y with
    | .agg ys=>match flatEq P t with
      | some q=>match op with
        | .eql=>(eqCells q xs ys).map .bool
        | .neq=>(eqCells q xs ys).map fun b=>.bool (!b)
        | _=>none
      | none=>none
    | _=>none
  | .nils=>match y with
    | .nils=>match telem P t with
      | some _=>match op with
        | .eql=>some (.bool true)
        | .neq=>some (.bool false)
        | _=>none
      | none=>none
    | _=>none
  | .rs _ (_ :: _)=>match y with
    | .nils=>match telem P t with
      | some _=>match op with
        | .eql=>some (.bool false)
        | .neq=>some (.bool true)
        | _=>none
      | none=>none
    | _=>none
  | _=>none
def unD (op:UnOp) (x:D):Option D:=
 match op,x with
 | .not,.bool b=>some (.bool (!b))
 | .neg,.int k n=>some (.int k (k.wrap (0 - n)))
 | .xor,.int k n=>some (.int k (k.wrap (Qr k.bits (if k.signed then -1 else k.max) ^^^ Qr k.bits n).toNat))
 | _,_=>none
def convD (P:Program) (dst:TypeId) (x:D):Option D:=
 match x with
 | .int _ n=>match tint P dst with
  | some k=>some (.int k (k.wrap n))
  | none=>if tstr P dst then some (.str (Utf8.encode n).data.toList) else none
 | .str l=>if tstr P dst then some (.str l) else none
 | _=>none
def fillD (place:Nat→Option (Nat×Nat)):List D→List (Nat×D)→Option (List D)
 | cells,[]=>some cells
 | cells,(i,x)::r=>match place i with
  | some (o,s)=>if x.fit=true∧x.cells.length=s∧o+s≤cells.length then fillD place (setCells cells o x.cells) r else none
  | none=>none
def tplacesL (P:Program):List Field→Option (List (Nat×Nat))
 | []=>some []
 | f::r=>match tsz P f.type with
  | some s=>(tplacesL P r).map ((f.offset,s)::·)
  | none=>none
def tplaces (P:Program) (t:TypeId):Option (List (Nat×Nat)):=
 match P.underlying t with
 | some (.struct fs)=>tplacesL P fs.toList
 | _=>none
def buildD (P:Program) (t:TypeId) (parts:List (Nat×D)):Option D:=
 match tzero P t with
 | some (.agg z)=>match tplaces P t with
  | some pl=>(fillD (fun i=>pl[i]?) z parts).map .agg
  | none=>match tarr P t with
   | some (_,e)=>match tsz P e with
    | some s=>(fillD (fun i=>some (i * s,s)) z parts).map .agg
    | none=>none
   | none=>none
 | _=>none
def idx (x:D) (n:Nat):Option Nat:=
 match x with
 | .int _ i=>if 0≤i∧i < n then some i.toNat else none
 | _=>none
def bound (x:Option D) (dflt n:Nat):Option Nat:=
 match x with
 | some (.int _ i)=>if 0≤i∧i≤n then some i.toNat else none
 | some _=>none
 | none=>if dflt≤n then some dflt else none
def fieldAddrD (P:Program) (t:TypeId) (x:D) (k:Nat):Option D:=
 match tfld P t k with
 | some (o,_)=>match x with
  | .bp b off=>some (.bp b (off+o))
  | .ap b g s i off=>some (.ap b g s i (off+o))
  | .rp cs=>some (.rp (cs.drop o))
  | _=>none
 | none=>none
def fieldD (P:Program) (t:TypeId) (x:D) (k:Nat):Option D:=
 match tfld P t k with
 | some (o,ft)=>match x with
  | .agg cs=>loadD P ft (cs.drop o)
  | _=>none
 | none=>none
def indexAddrD (P:Program) (t:TypeId) (x i:D):Option D:=
  match x with
  | .rs s rows=>match telem P t with
    | some e=>if tsz P e=some s then match idx i rows.length with
        | some k=>(rows[k]?).map .rp
        | none=>none
      else none
    | none=>none
  | .bs b g s o n=>match telem P t with
    | some e=>if tsz P e=some s then (idx i n).map fun k=>.ap b g s (o + k) 0 else none
    | none=>none
  | .bp b off=>match tarr P t with
    | some (n,e)=>match tsz P e with
      | some s=>(idx i n).map fun k=>.bp b (off + k * s)
      | none=>none
    | none=>none
  | .rp cs=>match tarr P t with
    | some (n,e)=>match tsz P e with
      | some s=>(idx i n).map fun k=>.rp (cs.drop (k * s))
      | none=>none
    | none=>none
  | .ap b g s j 0=>match tarr P t with
    | some (n,e)=>if tsz P e=some s then (idx i n).map fun k=>.ap b g s (j + k) 0 else none
    | none=>none
  | _=>none
def arrayAtD (P:Program) (t:TypeId) (x:D):Option D:=
 match tarr P t with
 | some (n,el)=>match x with
  | .rs s rows=>if tsz P el=some s∧0 < n∧n≤rows.length then some (.rp (rows.take n).flatten) else none
  | .bs b g s o m=>if tsz P el=some s∧0 < n∧n≤m then some (.ap b g s o 0) else none
  | _=>none
 | none=>none
def capD (P:Program) (t:TypeId) (x:D):Option D:=
 match x with
 | .nils=>(telem P t).map fun _=>.int .i64 0
 | _=>none
def indexD (P:Program) (t:TypeId) (x i:D):Option D:=
  match x with
  | .str l=>if tstr P t then match idx i l.length with
      | some k=>(l[k]?).map fun b=>.int .u8 b.toNat
      | none=>none
    else none
  | .agg cs=>match tarr P t with
    | some (n,e)=>match tsz P e,idx i n with
      | some s,some k=>loadD P e (cs.drop (k * s))
      | _,_=>none
    | none=>none
  | _=>none
def sliceD (P:Program) (t:TypeId) (x:D) (lo hi:Option D):Option D:=
  match x with
  | .str l=>if tstr P t then match bound hi l.length l.length with
      | some h=>(bound lo 0 h).map fun k=>.str ((l.take h).drop k)
      | none=>none
    else none
  | .nils=>match telem P t with
    | some e=>if (tsz P e).isSome then match bound hi 0 0 with
        | some h=>(bound lo 0 h).map fun _=>.nils
        | none=>none
      else none
    | none=>none
  | .rs s rows=>match telem P t with
    | some e=>if tsz P e=some s then match bound hi rows.length rows.length with
        | some h=>(bound lo 0 h).map fun k=>.rs s ((rows.take h).drop k)
        | none=>none
      else none
    | none=>none
  | .bs b g s o n=>match telem P t with
    | some e=>if tsz P e=some s then match bound hi n n with
        | some h=>(bound lo 0 h).map fun k=>.bs b g s (o + k) (h - k)
        | none=>none
      else none
    | none=>none
  | _=>none
def lenD (P:Program) (t:TypeId) (x:D):Option D:=
 match x with
 | .str l=>if tstr P t then some (.int .i64 l.length) else none
 | .nils=>(telem P t).map fun _=>.int .i64 0
 | .rs _ rows=>(telem P t).map fun _=>.int .i64 rows.length
 | .bs _ _ _ _ n=>(telem P t).map fun _=>.int .i64 n
 | .agg _=>(tarr P t).map fun q=>.int .i64 q.1
 | .bp _ _=>match P.underlying t with
  | some (.pointer a)=>(tarr P a).map fun q=>.int .i64 q.1
  | _=>none
 | _=>none
def minD:D→D→Option D
 | .int k a,.int _ b=>some (.int k (if b < a then b else a))
 | _,_=>none
def maxD:D→D→Option D
 | .int k a,.int _ b=>some (.int k (if b > a then b else a))
 | _,_=>none
def foldD (f:D→D→Option D):D→List D→Option D
 | x,[]=>some x
 | x,y::r=>match f x y with
  | some z=>foldD f z r
  | none=>none
def semN (P:Program) (o:Op) (e:Operand→D):Option D:=
 match o with
 | .move x=>some (e x)
 | .assign x=>some (e x)
 | .pick c a b=>match e c with
  | .bool true=>some (e a)
  | .bool false=>some (e b)
  | _=>none
 | .nilCheck x=>match e x with
  | .bp b i=>some (.bp b i)
  | .ap b g s i k=>some (.ap b g s i k)
  | .rp cs=>some (.rp cs)
  | .fn f cap=>some (.fn f cap)
  | _=>none
 | .binOp op t x y _=>binD P op t (e x) (e y)
 | .unOp op _ x=>unD op (e x)
 | .convert src dst x=>if (P.underlying src).isSome then convD P dst (e x) else none
 | .build t parts=>buildD P t (parts.toList.map fun p=>(p.1,e p.2))
 | .fieldAddr t x k=>fieldAddrD P t (e x) k
 | .field t x k=>fieldD P t (e x) k
 | .indexAddr t x i=>indexAddrD P t (e x) (e i)
 | .index t x i=>indexD P t (e x) (e i)
 | .slice t x lo hi none=>sliceD P t (e x) (lo.map e) (hi.map e)
 | .extract x i=>match e x with
  | .tup vs=>vs[i]?
  | _=>none
 | .makeFunc (.func f) first cap=>if first.isEmpty then some (.fn f (cap.toList.map e)) else none
 | .call { callee:=.builtin .len,args,argTypes }=>match args.toList,argTypes.toList with
  | [x],[t]=>lenD P t (e x)
  | _,_=>none
 | .sliceToArrayPointer t x=>arrayAtD P t (e x)
 | .call { callee:=.builtin .cap,args,argTypes }=>match args.toList,argTypes.toList with
  | [x],[t]=>capD P t (e x)
  | _,_=>none
 | .call { callee:=.builtin .min,args,.. }=>match args.toList.map e with
  | x::r=>foldD minD x r
  | []=>none
 | .call { callee:=.builtin .max,args,.. }=>match args.toList.map e with
  | x::r=>foldD maxD x r
  | []=>none
 | _=>none
section
variable {P:Program} {I:Nat→Prop} {w:World} {loc:Nat→Nat→Loc}
theorem Vaf:∀ {ds:List D} {vs:List Value},VL I w ds loc vs→vs.length=ds.length
 | [],vs,h=>by simp only [VL] at h; simp [h]
 | d::r,vs,h=>by
  simp only [VL] at h
  obtain ⟨v,vr,rfl,_,hr⟩:=h
  simp [Vaf hr]
theorem Vsw:∀ {ds:List D} {vs:List Value} {i:Nat} {d:D},VL I w ds loc vs→ds[i]? = some d→∃ v,vs[i]? = some v∧V I w d loc v
 | [],_,_,_,_,hi=>by simp at hi
 | d::r,vs,i,x,h,hi=>by
  simp only [VL] at h
  obtain ⟨v,vr,rfl,hv,hr⟩:=h
  cases i with
  | zero=>simp at hi; subst hi; exact ⟨v,by simp,hv⟩
  | succ i=>simp at hi; simpa using Vsw hr hi
theorem Va0:∀ {a b:List D} {u v:List Value},VL I w a loc u→VL I w b loc v→VL I w (a++b) loc (u++v)
 | [],_,_,_,ha,hb=>by simp only [VL] at ha; simpa [ha] using hb
 | d::r,b,u,v,ha,hb=>by
  simp only [VL] at ha
  obtain ⟨x,vr,rfl,hv,hr⟩:=ha
  simp only [Qo,VL]
  exact ⟨x,vr++v,rfl,hv,Va0 hr hb⟩
theorem Vc6:∀ {ds:List D} {vs:List Value} (n:Nat),VL I w ds loc vs→VL I w (ds.drop n) loc (vs.drop n)
 | ds,vs,0,h=>by simpa using h
 | [],vs,n+1,h=>by simp only [VL] at h; simp [h,VL]
 | d::r,vs,n+1,h=>by
  simp only [VL] at h
  obtain ⟨x,vr,rfl,hv,hr⟩:=h
  simpa using Vc6 n hr
theorem Vd5:∀ {ds:List D} {vs:List Value} (n:Nat),VL I w ds loc vs→VL I w (ds.take n) loc (vs.take n)
 | ds,vs,0,h=>by simp [VL]
 | [],vs,n+1,h=>by simp only [VL] at h; simp [h,VL]
 | d::r,vs,n+1,h=>by
  simp only [VL] at h
  obtain ⟨x,vr,rfl,hv,hr⟩:=h
  simp only [Q3,VL]
  exact ⟨x,_,rfl,hv,Vd5 n hr⟩
theorem Vgr {ι:Type} {f:ι→D} {g:ι→Value} (h:∀ x,V I w (f x) loc (g x)):∀ l:List ι,VL I w (l.map f) loc (l.map g)
 | []=>by simp [VL]
 | x::r=>by simp only [Qx,VL]; exact ⟨_,_,rfl,h x,Vgr h r⟩
theorem Vf5:∀ {cs:List D} {b o:Nat} (n:Nat),VC I w cs b o→VC I w (cs.drop n) b (o+n)
 | cs,b,o,0,h=>by simpa using h
 | [],b,o,n+1,h=>by simp [VC]
 | d::r,b,o,n+1,h=>by
  simp only [VC] at h
  have:=Vf5 n h.2
  simpa [Qac,Nat.add_comm 1 n] using this
theorem Vsx:∀ {cs:List D} {b o:Nat} (n:Nat),VC I w cs b o→VC I w (cs.take n) b o
 | cs,b,o,0,h=>by simp [VC]
 | [],b,o,n+1,h=>by simp [VC]
 | d::r,b,o,n+1,h=>by
  simp only [VC] at h
  simp only [Q3,VC]
  exact ⟨h.1,Vsx n h.2⟩
theorem Vhn {s:Nat}:∀ {rows:List (List D)} {b o:Nat} (n:Nat),VR I w s rows b o→VR I w s (rows.drop n) b (o+n * s)
 | rows,b,o,0,h=>by simpa using h
 | [],b,o,n+1,h=>by simp [VR]
 | d::r,b,o,n+1,h=>by
  simp only [VR] at h
  have:=Vhn n h.2.2
  have e:o+s+n * s=o+(n+1) * s:=by rw [Qe]; omega
  rw [e] at this
  simpa using this
theorem Vd6 {s:Nat}:∀ {rows:List (List D)} {b o:Nat} (n:Nat),VR I w s rows b o→VR I w s (rows.take n) b o
 | rows,b,o,0,h=>by simp [VR]
 | [],b,o,n+1,h=>by simp [VR]
 | d::r,b,o,n+1,h=>by
  simp only [VR] at h
  simp only [Q3,VR]
  exact ⟨h.1,h.2.1,Vd6 n h.2.2⟩
theorem Vfj {s:Nat}:∀ {rows:List (List D)} {b o i:Nat} {row:List D},VR I w s rows b o→rows[i]? = some row→row.length=s∧VC I w row b (o+i * s)
 | [],_,_,_,_,_,hi=>by simp at hi
 | d::r,b,o,i,row,h,hi=>by
  simp only [VR] at h
  cases i with
  | zero=>simp at hi; subst hi; exact ⟨h.1,by simpa using h.2.1⟩
  | succ i=>
   simp at hi
   have:=Vfj h.2.2 hi
   have e:o+s+i * s=o+(i+1) * s:=by rw [Qe]; omega
   rw [e] at this
   exact this
mutual
theorem ofV_V:∀ v:Value,V I w (ofV v) loc v
 | .bool b=>by simp [ofV,V]
 | .int k n=>by simp [ofV,V]
 | .string s=>by simp [ofV,V]
 | .pointer none=>by simp [ofV,V]
 | .pointer (some a)=>by simp [ofV,V]
 | .slice none 0 0=>by simp [ofV,V]
 | .slice none 0 (n+1)=>by simp [ofV,V]
 | .slice none (n+1) _=>by simp [ofV,V]
 | .slice (some _) _ _=>by simp [ofV,V]
 | .agg ⟨cs⟩=>by
  simp only [ofV]
  split
  ·rename_i h
   simp only [V]
   exact ⟨cs,rfl,fun x hx=>by simpa using List.all_eq_true.1 h x hx,Vnc cs⟩
  ·simp [V]
 | .nilFunc=>by simp [ofV,V]
 | .nilIface=>by simp [ofV,V]
 | .map none=>by simp [ofV,V]
 | .map (some _)=>by simp [ofV,V]
 | .float _ _=>by simp [ofV,V]
 | .complex _ _ _=>by simp [ofV,V]
 | .chan _=>by simp [ofV,V]
 | .func _ _ _=>by simp [ofV,V]
 | .iface _ _=>by simp [ofV,V]
 | .tuple _=>by simp [ofV,V]
theorem Vnc:∀ vs:List Value,VL I w (ofVs vs) loc vs
 | []=>by simp [ofVs,VL]
 | v::r=>by simp only [ofVs,VL]; exact ⟨v,r,rfl,ofV_V v,Vnc r⟩
end
theorem Vbm {d:D} {v:Value} (h:V I w d loc v) (hd:d.fit=true):VL I w d.cells loc v.cells.toList∧∀ x∈v.cells.toList,x.oneCell'=true:=by
 cases d<;>simp [D.fit,D.one] at hd
 case agg cs=>
  simp only [V] at h
  obtain ⟨vs,rfl,h1,hv⟩:=h
  exact ⟨by simpa [D.cells,Value.cells] using hv,by simpa [Value.cells] using h1⟩
 case lit x=>
  simp only [V] at h
  subst h
  have hv:v.cells = #[v]∧v.oneCell'=true:=by
   cases v<;>first | exact ⟨rfl,rfl⟩ | simp at hd
  simp only [D.cells,VL,hv.1]
  exact ⟨⟨v,[],rfl,by simp [V],rfl⟩,by simp [hv.2]⟩
 all_goals
  have hv:v.cells = #[v]∧v.oneCell'=true:=by
   cases v<;>first | exact ⟨rfl,rfl⟩ | (simp [V] at h; try (split at h<;>simp at h))
  simp only [D.cells,VL,hv.1]
  exact ⟨⟨v,[],rfl,h,rfl⟩,by simp [hv.2]⟩
end
section
variable {P:Program} {I:Nat→Prop} {w:World} {loc:Nat→Nat→Loc}
theorem Vpw {op:BinOp} {t:TypeId} {k k':IntKind} {a b:Int} {d:D} (h:intBin op k a k' b=some d) :
    ∃ v,(binOp op t (.int k a) (.int k' b)).run P w = .ok v w ∧ V I w d loc v:=by
  unfold intBin at h
  cases op <;> simp only [] at h
  case shl=>
    split at h
    · cases h
    · simp only [Qa] at h; subst h
      exact ⟨_,by simp [binOp,Op.shift, *],rfl⟩
  case shr=>
    split at h
    · cases h
    · simp only [Qa] at h; subst h
      exact ⟨_,by simp [binOp,Op.shift, *],rfl⟩
  all_goals
    split at h
    · cases h
    · rename_i hk
      have hk:k=k':=by simpa using hk
      subst hk
      first
        | (simp only [Qa] at h; subst h; refine ⟨_,?_,rfl⟩; simp [binOp,Op.intArith,Op.intBits,Op.intCmp]; done)
        | (split at h
           · cases h
           · simp only [Qa] at h; subst h; exact ⟨_,by simp [binOp,Op.intDiv, *],rfl⟩)
        | cases h
theorem Vfk (l:List UInt8):(ByteArray.mk l.toArray).toList=l:=by
 rw [ByteArray.toList_eq]
theorem Vdj (l:List UInt8):(ByteArray.mk l.toArray).size=l.length:=by
 simp [ByteArray.size]
theorem Vsy (a b:List UInt8):(ByteArray.mk a.toArray)++(ByteArray.mk b.toArray)=⟨(a++b).toArray⟩:=by
 apply ByteArray.ext
 simp [ByteArray.data_append]
theorem Vpx {op:BinOp} {t:TypeId} {a b:List UInt8} {d:D} (h:strBin op a b=some d) :
  ∃ v,(binOp op t (.string ⟨a.toArray⟩) (.string ⟨b.toArray⟩)).run P w = .ok v w∧V I w d loc v:=by
 unfold strBin at h
 cases op<;>simp only [] at h
 case add=>
  split at h
  ·cases h
  ·rename_i hn
   simp only [Qa] at h; subst h
   refine ⟨.string ⟨(a++b).toArray⟩,?_,by simp only [V]⟩
   simp only [binOp,Op.stringOp,Vdj,if_neg hn,Vsy]
   rfl
 case eql=>simp only [Qa] at h; subst h; refine ⟨_,?_,rfl⟩; simp [binOp,Op.stringOp]
 case neq=>simp only [Qa] at h; subst h; refine ⟨_,?_,rfl⟩; simp [binOp,Op.stringOp]
 case lss=>simp only [Qa] at h; subst h; refine ⟨_,?_,rfl⟩; simp [binOp,Op.stringOp]
 case leq=>simp only [Qa] at h; subst h; refine ⟨_,?_,rfl⟩; simp [binOp,Op.stringOp]
 case gtr=>simp only [Qa] at h; subst h; refine ⟨_,?_,rfl⟩; simp [binOp,Op.stringOp]
 case geq=>simp only [Qa] at h; subst h; refine ⟨_,?_,rfl⟩; simp [binOp,Op.stringOp]
 all_goals cases h
theorem Vj6 {t:TypeId} (h:tbool P t=true):P.underlying t=some .bool:=by
 unfold tbool at h; split at h<;>simp_all
theorem Vcd {t:TypeId} (h:tstr P t=true):P.underlying t=some .string:=by
 unfold tstr at h; split at h<;>simp_all
theorem Vf6 {t:TypeId} {k:IntKind} (h:tint P t=some k):P.underlying t=some (.int k):=by
 unfold tint at h; split at h<;>simp_all
theorem Val {t e:TypeId} (h:telem P t=some e):P.underlying t=some (.slice e):=by
 unfold telem at h; split at h<;>simp_all
theorem Vc7 {t e:TypeId} {n:Nat} (h:tarr P t=some (n,e)):P.underlying t=some (.array n e):=by
 unfold tarr at h; split at h<;>simp_all
theorem run_sizeOf' {t:TypeId} {m:Nat} (h:tsz P t=some m) (w:World):(sizeOf t).run P w = .ok m w:=by
 unfold tsz at h
 rw [Qb] at h
 obtain ⟨i,hi,rfl⟩:=h
 simp [sizeOf,typeInfo,hi]
theorem run_isAgg' {t:TypeId} {b:Bool} (h:tagg P t=some b) (w:World):(isAgg t).run P w = .ok b w:=by
 unfold tagg at h
 rw [Qb] at h
 obtain ⟨i,hi,rfl⟩:=h
 simp only [isAgg,Qd,run_underlying hi,Qc]
 cases i<;>rfl
theorem run_zero' {t:TypeId} {d:D} (h:tzero P t=some d) (w:World):∃ v,(zeroValue t).run P w = .ok v w∧d=ofV v:=by
 unfold tzero at h
 rw [Qb] at h
 obtain ⟨v,hv,rfl⟩:=h
 rw [Option.bind_eq_some_iff] at hv
 obtain ⟨i,hi,hz⟩:=hv
 exact ⟨v,by simp [zeroValue,typeInfo,hi,hz],rfl⟩
theorem Ve8 {t:TypeId} (h:fkind P t≠0):(fkind P t=1∧P.underlying t=some .bool)∨(fkind P t=2∧P.underlying t=some .string)∨(fkind P t=3∧∃ k,P.underlying t=some (.int k)):=by
 unfold fkind at *
 split at h
 ·rename_i hb; exact .inl ⟨by simp [hb],Vj6 hb⟩
 ·split at h
  ·rename_i hb hs; exact .inr (.inl ⟨by simp [hb,hs],Vcd hs⟩)
  ·split at h
   ·rename_i hb hs hi
    obtain ⟨k,hk⟩:=Option.isSome_iff_exists.1 hi
    exact .inr (.inr ⟨by simp [hb,hs,hi],k,Vf6 hk⟩)
   ·exact absurd rfl h
theorem Vdk:∀ (fs:List Field) (o:Nat) (d:Nat) (q:List Nat) (xs ys:List D) (us vs:List Value) (r:Bool),flatFields P fs o=some q →
  VL I w xs loc (us.drop o)→VL I w ys loc (vs.drop o)→eqCells q xs ys=some r →
  (Op.eqFields (d+1) us.toArray vs.toArray fs).run P w = .ok r w
 | [],o,d,q,xs,ys,us,vs,r,hq,hx,hy,he=>by
  simp [flatFields] at hq
  subst hq
  cases xs<;>cases ys<;>simp [eqCells] at he
  subst he; simp [Op.eqFields]
 | f::fs,o,d,q,xs,ys,us,vs,r,hf,hx,hy,he=>by
  simp only [flatFields] at hf
  split at hf
  case isFalse=>cases hf
  rename_i hc
  obtain ⟨hname,hoff,hty⟩:=hc
  rw [Qb] at hf
  obtain ⟨q',hrest,rfl⟩:=hf
  subst hoff
  cases xs with
  | nil=>simp [eqCells] at he
  | cons x xr=>
   cases ys with
   | nil=>cases x<;>simp [eqCells] at he
   | cons y yr=>
    simp only [VL] at hx hy
    obtain ⟨u,ur,hu,hxv,hxr⟩:=hx
    obtain ⟨v,vr,hv,hyv,hyr⟩:=hy
    have hu0:us[f.offset]? = some u:=by have:=congrArg (fun l=>l[0]?) hu; simpa using this
    have hv0:vs[f.offset]? = some v:=by have:=congrArg (fun l=>l[0]?) hv; simpa using this
    have hu1:us.drop (f.offset+1)=ur:=by have:=congrArg List.tail hu; simpa [Qa8] using this
    have hv1:vs.drop (f.offset+1)=vr:=by have:=congrArg List.tail hv; simpa [Qa8] using this
    have ih:∀ r',eqCells q' xr yr=some r'→(Op.eqFields (d+1) us.toArray vs.toArray fs).run P w = .ok r' w:=fun r' hr'=>
     Vdk fs (f.offset+1) d q' xr yr us vs r' hrest (by rw [hu1]; exact hxr) (by rw [hv1]; exact hyr) hr'
    have hund:=Ve8 hty
    have nagg:(isAgg f.type).run P w = .ok false w:=by
     rcases hund with ⟨_,h⟩ | ⟨_,h⟩ | ⟨_,k,h⟩<;>simp [isAgg,run_underlying h]
    have hpu:(part f.type us.toArray f.offset).run P w = .ok u w:=by simp [part,nagg,hu0]
    have hpv:(part f.type vs.toArray f.offset).run P w = .ok v w:=by simp [part,nagg,hv0]
    have key:∀ (q0 r':Bool),eqCells q' xr yr=some r'→r=(q0&&r')→(Op.equalIn (d+1) f.type u v).run P w = .ok q0 w →
      (Op.eqFields (d+1) us.toArray vs.toArray (f::fs)).run P w = .ok r w:=by
     intro q0 r' hr' hr hq
     simp only [Op.eqFields,ne_eq,hname,not_false_eq_true,if_true,Qd,hpu,hpv,Qc,hq,Qas]
     cases q0
     ·simp [hr]
     ·simp only [Qbb,Qq,if_false]; rw [ih r' hr',hr]; rfl
    rcases hund with ⟨hk,h⟩ | ⟨hk,h⟩ | ⟨hk,k0,h⟩<;>rw [hk] at he<;>cases x<;>cases y<;>simp only [eqCells] at he<;>try cases he
    case bool.bool a b=>
     simp only [V] at hxv hyv; subst hxv; subst hyv
     rw [Qb] at he
     obtain ⟨r',hr',hr⟩:=he
     exact key (a == b) r' hr' hr.symm (run_equalIn_bool' w d _ a b h)
    case str.str a b=>
     simp only [V] at hxv hyv; subst hxv; subst hyv
     rw [Qb] at he
     obtain ⟨r',hr',hr⟩:=he
     refine key (a == b) r' hr' hr.symm ?_
     rw [run_equalIn_string w d _ _ _ h,Vfk,Vfk]
    case int.int k a k' b=>
     simp only [V] at hxv hyv; subst hxv; subst hyv
     split at he
     ·rename_i hkk
      subst hkk
      rw [Qb] at he
      obtain ⟨r',hr',hr⟩:=he
      exact key (a == b) r' hr' hr.symm (run_equalIn_int w d _ k k0 a b h)
     ·cases he
theorem Ve5 (d:Nat) (e:TypeId) (xs ys:Array Value):∀ (n k:Nat) (w:World),(Op.eqItems d e 1 xs ys (List.range' k n)).run P w=(Op.eqFields d xs ys (arrFields e n k)).run P w
 | 0,k,w=>by simp [Op.eqItems,Op.eqFields,arrFields]
 | n+1,k,w=>by
  have hn : ("x" : String) ≠ "_" := by decide
  simp only [List.range'_succ,Op.eqItems,arrFields,Op.eqFields,Nat.mul_one,ne_eq,hn,not_false_eq_true,if_true,Qd]
  congr 1
  funext a w1
  congr 1
  funext b w2
  congr 1
  funext r w3
  cases r
  ·simp
  ·simp only [Qbb,Qq,if_false]
   exact Ve5 d e xs ys n (k+1) w3
theorem Vd7 (w:World) (d:Nat) (t e:TypeId) (p:Option Addr) (n cap:Nat) (h:P.underlying t=some (.slice e)):(Op.equalIn (d+1) t (.slice p n cap) (.slice none 0 0)).run P w = .ok p.isNone w:=by
 cases p<;>simp [Op.equalIn,run_underlying h]
theorem Vho (w:World) (t e:TypeId) (ox oy:Operand) (p:Option Addr) (n cap:Nat) (h:P.underlying t=some (.slice e)):(do eqGuard .eql t ox oy (.slice p n cap) (.slice none 0 0); binOp .eql t (.slice p n cap) (.slice none 0 0):Sem Value).run P w = .ok (.bool p.isNone) w:=by
 simp [eqGuard,binOp,Op.equal,Op.maxDepth,Vd7 w 9999 t e p n cap h]
theorem Vhp (w:World) (t e:TypeId) (ox oy:Operand) (p:Option Addr) (n cap:Nat) (h:P.underlying t=some (.slice e)):(do eqGuard .neq t ox oy (.slice p n cap) (.slice none 0 0); binOp .neq t (.slice p n cap) (.slice none 0 0):Sem Value).run P w = .ok (.bool (!p.isNone)) w:=by
 simp [eqGuard,binOp,Op.equal,Op.maxDepth,Vd7 w 9999 t e p n cap h]
theorem Vvy {op:BinOp} {t:TypeId} {x y:D} {d:D} {u v:Value} (ox oy:Operand) (hx:V I w x loc u) (hy:V I w y loc v) (h:binD P op t x y=some d) :
  ∃ z,(do eqGuard op t ox oy u v; binOp op t u v:Sem Value).run P w = .ok z w∧V I w d loc z:=by
 unfold binD at h
 cases x<;>simp only [] at h<;>try cases h
 case bool a=>
  cases y<;>simp only [] at h<;>try cases h
  rename_i b
  simp only [V] at hx hy; subst hx; subst hy
  split at h
  ·rename_i hb
   have hu:=Vj6 hb
   cases op<;>simp only [Qa] at h<;>try cases h
   ·refine ⟨.bool (a == b),?_,rfl⟩
    simp [eqGuard,binOp,Op.equal,Op.maxDepth,run_equalIn_bool' w 9999 t a b hu]
   ·refine ⟨.bool (!(a == b)),?_,rfl⟩
    simp [eqGuard,binOp,Op.equal,Op.maxDepth,run_equalIn_bool' w 9999 t a b hu]
  ·cases h
 case int k a=>
  cases y<;>simp only [] at h<;>try cases h
  rename_i k' b
  simp only [V] at hx hy; subst hx; subst hy
  obtain ⟨z,hz,hv⟩:=Vpw (t:=t) (P:=P) (I:=I) (w:=w) (loc:=loc) h
  refine ⟨z,?_,hv⟩
  have:(eqGuard op t ox oy (.int k a) (.int k' b)).run P w = .ok () w:=by cases op<;>simp [eqGuard]
  simp [this,hz]
 case str a=>
  cases y<;>simp only [] at h<;>try cases h
  rename_i b
  simp only [V] at hx hy; subst hx; subst hy
  obtain ⟨z,hz,hv⟩:=Vpx (t:=t) (P:=P) (I:=I) (w:=w) (loc:=loc) h
  refine ⟨z,?_,hv⟩
  have:(eqGuard op t ox oy (.string ⟨a.toArray⟩) (.string ⟨b.toArray⟩)).run P w = .ok () w:=by cases op<;>simp [eqGuard]
  simp [this,hz]
 case agg xs=>
  cases y<;>simp only [] at h<;>try cases h
  rename_i ys
  simp only [V] at hx hy
  obtain ⟨us,rfl,_,hus⟩:=hx
  obtain ⟨vs,rfl,_,hvs⟩:=hy
  split at h
  case h_2=>cases h
  rename_i q hq
  have hq0:=hq
  have hguard:P.eqGuardType P.depth t=false:=by
   unfold flatEq at hq
   split at hq
   ·split at hq
    ·rename_i hc; exact hc.2
    ·cases hq
   ·split at hq
    ·rename_i hc; exact hc.1
    ·cases hq
   ·cases hq
  have run:∀ r,eqCells q xs ys=some r→(Op.equalIn 10000 t (.agg us.toArray) (.agg vs.toArray)).run P w = .ok r w:=fun r hr=>by
   unfold flatEq at hq
   split at hq
   ·rename_i fs hfs
    split at hq
    case isFalse=>cases hq
    rename_i hc
    have hff:P.underlying t=some (.struct (P.fieldsOf t)):=by simp [Program.fieldsOf,hfs]
    have hfo:P.fieldsOf t=fs:=by simp [Program.fieldsOf,hfs]
    rw [run_equalIn_agg w 9999 t _ _ hff hc.1,hfo]
    exact Vdk fs.toList 0 9998 q xs ys us vs r hq (by simpa using hus) (by simpa using hvs) hr
   ·rename_i n e hfs
    split at hq
    case isFalse=>cases hq
    rename_i hc
    obtain ⟨i,hi⟩:=Option.isSome_iff_exists.1 hc.2.2
    rw [run_equalIn_array w 9999 us.toArray vs.toArray hfs hi,hc.2.1,List.range_eq_range',Ve5]
    exact Vdk (arrFields e n 0) 0 9998 q xs ys us vs r hq (by simpa using hus) (by simpa using hvs) hr
   ·cases hq
  have hg:=run_eqGuard_agg (P:=P) w op t ox oy us.toArray vs.toArray hguard
  cases op<;>simp only [] at h<;>try cases h
  ·rw [Qb] at h
   obtain ⟨r,hr,rfl⟩:=h
   refine ⟨.bool r,?_,rfl⟩
   rw [Qd,hg,Qc,run_eql_struct,run r hr]; rfl
  ·rw [Qb] at h
   obtain ⟨r,hr,rfl⟩:=h
   refine ⟨.bool (!r),?_,rfl⟩
   rw [Qd,hg,Qc,run_neq_struct,run r hr]; rfl
 case nils=>
  cases y<;>simp only [] at h<;>try cases h
  simp only [V] at hx hy; subst hx; subst hy
  split at h
  case h_2=>cases h
  rename_i e he
  have hu:=Val he
  cases op<;>simp only [Qa] at h<;>try cases h
  ·exact ⟨_,Vho w t e ox oy none 0 0 hu,rfl⟩
  ·exact ⟨_,Vhp w t e ox oy none 0 0 hu,rfl⟩
 case rs s rows=>
  cases rows with
  | nil=>cases h
  | cons row rows=>
   cases y<;>simp only [] at h<;>try cases h
   simp only [V] at hx hy; subst hy
   rcases hx with ⟨hx,_⟩ | ⟨b,o,cap,rfl,_,_,_⟩
   ·cases hx
   split at h
   case h_2=>cases h
   rename_i e he
   have hu:=Val he
   cases op<;>simp only [Qa] at h<;>try cases h
   ·exact ⟨_,Vho w t e ox oy _ _ _ hu,rfl⟩
   ·exact ⟨_,Vhp w t e ox oy _ _ _ hu,rfl⟩
end
section
variable {P:Program} {I:Nat→Prop} {w:World} {loc:Nat→Nat→Loc}
theorem Vzf {op:UnOp} {x d:D} {u:Value} (hx:V I w x loc u) (h:unD op x=some d):∃ z,(Op.unary op u).run P w = .ok z w∧V I w d loc z:=by
 unfold unD at h
 split at h<;>simp only [Qa,reduceCtorEq] at h<;>subst h<;>simp only [V] at hx<;>subst hx
 ·exact ⟨_,rfl,rfl⟩
 ·exact ⟨_,rfl,rfl⟩
 ·exact ⟨_,rfl,rfl⟩
theorem Vsz {src dst:TypeId} {x d:D} {u:Value} (hs:∃ t,P.underlying src=some t) (hx:V I w x loc u) (h:convD P dst x=some d):∃ z,(convert src dst u).run P w = .ok z w∧V I w d loc z:=by
 obtain ⟨ts,hs⟩:=hs
 unfold convD at h
 cases x<;>simp only [] at h<;>try cases h
 case int k n=>
  simp only [V] at hx; subst hx
  cases hk:tint P dst with
  | some k'=>
   simp only [hk,Qa] at h; subst h
   refine ⟨_,?_,rfl⟩
   simp only [convert,Qd,run_underlying hs,Qc,run_underlying (Vf6 hk)]
   cases ts<;>rfl
  | none=>
   simp only [hk] at h
   split at h
   ·rename_i hd
    simp only [Qa] at h; subst h
    refine ⟨.string (Utf8.encode n),?_,by simp [V]⟩
    simp only [convert,Qd,run_underlying hs,Qc,run_underlying (Vcd hd)]
    cases ts<;>rfl
   ·cases h
 case str l=>
  split at h
  ·rename_i hd
   simp only [Qa] at h; subst h
   simp only [V] at hx; subst hx
   refine ⟨_,?_,rfl⟩
   simp only [convert,Qd,run_underlying hs,Qc,run_underlying (Vcd hd)]
   cases ts<;>rfl
  ·cases h
theorem Vlw {t:TypeId} {k o:Nat} {ft:TypeId} (h:tfld P t k=some (o,ft)) :
  ∃ fs f i,P.underlying t=some (.struct fs)∧fs[k]? = some f∧P.info? f.type=some i∧i.size≠0∧f.offset=o∧f.type=ft:=by
 unfold tfld at h
 split at h
 ·rename_i fs hfs
  split at h
  ·rename_i f hf
   split at h
   ·rename_i i hi
    split at h
    ·cases h
    ·rename_i hz
     simp only [Qa,Qag] at h
     exact ⟨fs,f,i,hfs,hf,hi,hz,h.1,h.2⟩
   ·cases h
  ·cases h
 ·cases h
theorem Vav (b o n:Nat):(⟨b,o,none⟩:Addr).add n=⟨b,o+n,none⟩:=by
 unfold Addr.add; split
 ·rename_i h; subst h; rfl
 ·rfl
theorem Vcq {t:TypeId} {k o:Nat} {ft:TypeId} (h:tfld P t k=some (o,ft)) (a:Addr) :
  (Instr.fieldAt t (.pointer (some a)) k).run P w = .ok (.pointer (some (a.add o))) w:=by
 obtain ⟨fs,f,i,h1,h2,h3,h4,rfl,rfl⟩:=Vlw h
 simp [Instr.fieldAt,run_underlying h1,h2,Instr.sureAddr,fieldPlace,sizeOf,typeInfo,h3,h4]
theorem Vi1 {t:TypeId} {k:Nat} {x d:D} {u:Value} (hx:V I w x loc u) (h:fieldAddrD P t x k=some d) :
  ∃ z,(Instr.fieldAt t u k).run P w = .ok z w∧V I w d loc z:=by
 unfold fieldAddrD at h
 split at h
 case h_2=>cases h
 rename_i o ft hf
 cases x<;>simp only [Qa] at h<;>try cases h
 case h_1.rp.refl cs=>
  simp only [V] at hx
  obtain ⟨b,o',rfl,hI,hc⟩:=hx
  refine ⟨_,Vcq hf _,?_⟩
  simp only [V,Vav]
  exact ⟨b,o'+o,rfl,hI,Vf5 o hc⟩
 case h_1.bp.refl b off=>
  simp only [V] at hx
  cases hl:loc b 0<;>simp only [hl] at hx
  ·obtain ⟨a,rfl⟩:=hx
   exact ⟨_,Vcq hf _,by simp [V,hl]⟩
  ·subst hx
   exact ⟨_,Vcq hf _,by simp [V,hl,Vav]⟩
 case h_1.ap.refl b g s i off=>
  simp only [V] at hx
  cases hl:loc b g<;>simp only [hl] at hx
  ·obtain ⟨a,rfl⟩:=hx
   exact ⟨_,Vcq hf _,by simp [V,hl]⟩
  ·subst hx
   exact ⟨_,Vcq hf _,by simp [V,hl,Vav,Qac]⟩
theorem Vpy (vs:List Value) (o m:Nat):vs.toArray.extract o (o+m)=((vs.drop o).take m).toArray:=by
 apply Qu
 simp [Qak]
theorem Vom {t:TypeId} {cs:List D} {vs:List Value} {o:Nat} {d:D} (h1:∀ x∈vs,x.oneCell'=true) (hv:VL I w cs loc vs) (h:loadD P t (cs.drop o)=some d) :
  ∃ z,(part t vs.toArray o).run P w = .ok z w∧V I w d loc z:=by
 unfold loadD at h
 have hd:=Vc6 o hv
 split at h
 ·rename_i ha
  split at h
  ·rename_i m hm
   split at h
   ·simp only [Qa] at h; subst h
    refine ⟨.agg ((vs.drop o).take m).toArray,?_,?_⟩
    ·simp only [part,Qd,run_isAgg' ha,Qc,if_true,run_sizeOf' hm,Vpy,Qf]
    ·simp only [V]
     exact ⟨_,rfl,fun x hx=>h1 x (Ql (Qs hx)),Vd5 m hd⟩
   ·cases h
  ·cases h
 ·rename_i ha
  split at h
  ·rename_i c r hc
   simp only [Qa] at h; subst h
   rw [hc] at hd
   simp only [VL] at hd
   obtain ⟨v,vr,he,hv',_⟩:=hd
   have h0:vs[o]? = some v:=by have:=congrArg (fun l=>l[0]?) he; simpa using this
   refine ⟨v,?_,hv'⟩
   simp [part,run_isAgg' ha,h0]
  ·cases h
 ·cases h
theorem Vpz {t:TypeId} {k:Nat} {x d:D} {u:Value} (hx:V I w x loc u) (h:fieldD P t x k=some d) :
  ∃ z,(Instr.field t u k).run P w = .ok z w∧V I w d loc z:=by
 unfold fieldD at h
 split at h
 case h_2=>cases h
 rename_i o ft hf
 cases x<;>simp only [] at h<;>try cases h
 case agg cs=>
  simp only [V] at hx
  obtain ⟨vs,rfl,h0,hv⟩:=hx
  obtain ⟨fs,f,i,h1,h2,h3,h4,rfl,rfl⟩:=Vlw hf
  obtain ⟨z,hz,hvz⟩:=Vom h0 hv h
  refine ⟨z,?_,hvz⟩
  simp [Instr.field,run_underlying h1,h2,asAgg,hz]
theorem Vdl {x:D} {n k:Nat} (h:idx x n=some k):∃ kd,x = .int kd k∧k < n:=by
 unfold idx at h
 split at h
 ·rename_i kd i
  split at h
  ·rename_i hi
   simp only [Qa] at h
   refine ⟨kd,?_,by omega⟩
   congr; omega
  ·cases h
 ·cases h
theorem Vbw {t e:TypeId} {s n cap k:Nat} {kd:IntKind} {a:Addr} (ht:telem P t=some e) (hs:tsz P e=some s) (hk:k < n) :
  (Instr.indexAt t (.slice (some a) n cap) (.int kd k)).run P w = .ok (.pointer (some (a.add (k * s)))) w:=by
 simp [Instr.indexAt,asIntOf,run_underlying (Val ht),hk,run_sizeOf' hs]
theorem Va8 {t e:TypeId} {s n k:Nat} {kd:IntKind} {a:Addr} (ht:tarr P t=some (n,e)) (hs:tsz P e=some s) (hk:k < n) :
  (Instr.indexAt t (.pointer (some a)) (.int kd k)).run P w = .ok (.pointer (some (a.add (k * s)))) w:=by
 simp [Instr.indexAt,asIntOf,run_underlying (Vc7 ht),hk,run_sizeOf' hs,Instr.sureAddr]
theorem Vi2 {t:TypeId} {x i d:D} {u v:Value} (hx:V I w x loc u) (hi:V I w i loc v) (h:indexAddrD P t x i=some d) :
  ∃ z,(Instr.indexAt t u v).run P w = .ok z w∧V I w d loc z:=by
 unfold indexAddrD at h
 cases x<;>(try simp only [] at h)<;>try cases h
 case rs s rows=>
  split at h
  case h_2=>cases h
  rename_i e he
  split at h
  case isFalse=>cases h
  rename_i hs
  split at h
  case h_2=>cases h
  rename_i k hk
  obtain ⟨kd,rfl,hlt⟩:=Vdl hk
  rw [Qb] at h
  obtain ⟨row,hrow,rfl⟩:=h
  simp only [V] at hx hi
  rcases hx with ⟨rfl,_⟩ | ⟨b,o,cap,rfl,hcap,hI,hr⟩
  ·simp at hlt
  subst hi
  refine ⟨_,Vbw he hs hlt,?_⟩
  simp only [V,Vav]
  exact ⟨b,_,rfl,hI,(Vfj hr hrow).2⟩
 case bs b g s o n=>
  split at h
  case h_2=>cases h
  rename_i e he
  split at h
  case isFalse=>cases h
  rename_i hs
  rw [Qb] at h
  obtain ⟨k,hk,rfl⟩:=h
  obtain ⟨kd,rfl,hlt⟩:=Vdl hk
  simp only [V] at hi; subst hi
  simp only [V] at hx
  cases hl:loc b g<;>simp only [hl] at hx
  ·obtain ⟨a,cap,rfl,hn,ha⟩:=hx
   cases a with
   | none=>have:=ha rfl; omega
   | some a=>exact ⟨_,Vbw he hs hlt,by simp [V,hl]⟩
  ·omega
  ·obtain ⟨o',cap,rfl,hn,ho,_⟩:=hx
   refine ⟨_,Vbw he hs hlt,?_⟩
   have ho':o'=o * s:=by omega
   subst ho'
   simp [V,hl,Vav,Qe]
 case bp b off=>
  split at h
  case h_2=>cases h
  rename_i n e he
  split at h
  case h_2=>cases h
  rename_i s hs
  rw [Qb] at h
  obtain ⟨k,hk,rfl⟩:=h
  obtain ⟨kd,rfl,hlt⟩:=Vdl hk
  simp only [V] at hi; subst hi
  simp only [V] at hx
  cases hl:loc b 0<;>simp only [hl] at hx
  ·obtain ⟨a,rfl⟩:=hx
   exact ⟨_,Va8 he hs hlt,by simp [V,hl]⟩
  ·subst hx
   exact ⟨_,Va8 he hs hlt,by simp [V,hl,Vav]⟩
 case rp cs=>
  split at h
  case h_2=>cases h
  rename_i n e he
  split at h
  case h_2=>cases h
  rename_i s hs
  rw [Qb] at h
  obtain ⟨k,hk,rfl⟩:=h
  obtain ⟨kd,rfl,hlt⟩:=Vdl hk
  simp only [V] at hi hx; subst hi
  obtain ⟨b,o,rfl,hI,hc⟩:=hx
  refine ⟨_,Va8 he hs hlt,?_⟩
  simp only [V,Vav]
  exact ⟨b,_,rfl,hI,Vf5 _ hc⟩
 case ap b g s j off=>
  cases off with
  | succ _=>cases h
  | zero=>
  simp only [] at h
  split at h
  case h_2=>cases h
  rename_i n e he
  split at h
  case isFalse=>cases h
  rename_i hs
  rw [Qb] at h
  obtain ⟨k,hk,rfl⟩:=h
  obtain ⟨kd,rfl,hlt⟩:=Vdl hk
  simp only [V] at hi; subst hi
  simp only [V] at hx
  cases hl:loc b g<;>simp only [hl] at hx
  ·obtain ⟨a,rfl⟩:=hx
   exact ⟨_,Va8 he hs hlt,by simp [V,hl]⟩
  ·subst hx
   exact ⟨_,Va8 he hs hlt,by simp [V,hl,Vav,Qe]⟩
theorem Vlx {t:TypeId} {x d:D} {u:Value} (hx:V I w x loc u) (h:arrayAtD P t x=some d) :
  ∃ z,(Instr.arrayAt t u).run P w = .ok z w∧V I w d loc z:=by
 unfold arrayAtD at h
 split at h
 case h_2=>cases h
 rename_i n el he
 split at h
 case h_3=>cases h
 ·rename_i s rows
  split at h
  case isFalse=>cases h
  rename_i hc
  obtain ⟨hs,h0,hn⟩:=hc
  simp only [Qa] at h; subst h
  simp only [V] at hx
  rcases hx with ⟨rfl,_⟩ | ⟨b,o,cap,rfl,hcap,hI,hr⟩
  ·simp at hn; omega
  refine ⟨.pointer (some ⟨b,o,none⟩),?_,?_⟩
  ·have:¬ rows.length < n:=by omega
   simp [Instr.arrayAt,run_underlying (Vc7 he),this]
  ·simp only [V]
   refine ⟨b,o,rfl,hI,?_⟩
   have key:∀ (n:Nat) (rows:List (List D)) (o:Nat),VR I w s rows b o→VC I w (rows.take n).flatten b o:=by
    intro n
    induction n with
    | zero=>intro rows o _; simp [VC]
    | succ n ih=>
     intro rows o h
     cases rows with
     | nil=>simp [VC]
     | cons row r=>
      simp only [VR] at h
      simp only [Q3,Qh]
      have app:∀ (a b':List D) (o:Nat),VC I w a b o→VC I w b' b (o+a.length)→VC I w (a++b') b o:=by
       intro a
       induction a with
       | nil=>intro b' o _ h; simpa using h
       | cons x a ih2=>
        intro b' o h1 h2
        simp only [VC,Qo] at h1 ⊢
        refine ⟨h1.1,ih2 b' (o+1) h1.2 ?_⟩
        simp only [Qv] at h2
        rwa [show o+1+a.length=o+(a.length+1) by omega]
      refine app row _ o h.2.1 ?_
      rw [h.1]
      exact ih r (o+s) h.2.2
   exact key n rows o hr
 ·rename_i b g s o m
  split at h
  case isFalse=>cases h
  rename_i hc
  obtain ⟨hs,h0,hn⟩:=hc
  simp only [Qa] at h; subst h
  simp only [V] at hx
  cases hl:loc b g<;>simp only [hl] at hx
  ·obtain ⟨a,cap,rfl,hcap,ha⟩:=hx
   cases a with
   | none=>have:=ha rfl; omega
   | some a=>
    refine ⟨.pointer (some a),?_,by simp [V,hl]⟩
    have:¬ m < n:=by omega
    simp [Instr.arrayAt,run_underlying (Vc7 he),this]
  ·omega
  ·rename_i bk
   obtain ⟨o',cap,rfl,hcap,ho,_⟩:=hx
   refine ⟨.pointer (some ⟨bk,o',none⟩),?_,?_⟩
   ·have:¬ m < n:=by omega
    simp [Instr.arrayAt,run_underlying (Vc7 he),this]
   ·have:o'=o * s:=by omega
    simp [V,hl,this]
theorem Vvz {t ty:TypeId} {x d:D} {u:Value} (hx:V I w x loc u) (h:capD P t x=some d):∃ z,(Builtin.cap_ #[t] ty #[u]).run P w = .ok z w∧V I w d loc z:=by
 unfold capD at h
 split at h
 case h_2=>cases h
 rw [Qb] at h
 obtain ⟨e,he,rfl⟩:=h
 simp only [V] at hx; subst hx
 exact ⟨.int .i64 0,by simp [Builtin.cap_,run_underlying (Val he),goInt],by simp [V]⟩
theorem Vp0 {t:TypeId} {x i d:D} {u v:Value} (hx:V I w x loc u) (hi:V I w i loc v) (h:indexD P t x i=some d) :
  ∃ z,(Instr.index t u v).run P w = .ok z w∧V I w d loc z:=by
 unfold indexD at h
 cases x<;>simp only [] at h<;>try cases h
 case str l=>
  split at h
  case isFalse=>cases h
  rename_i hs
  split at h
  case h_2=>cases h
  rename_i k hk
  obtain ⟨kd,rfl,hlt⟩:=Vdl hk
  rw [Qb] at h
  obtain ⟨c,hc,rfl⟩:=h
  simp only [V] at hx hi; subst hx; subst hi
  refine ⟨_,?_,rfl⟩
  have hb:(ByteArray.mk l.toArray)[k]? = some c:=by
   have h1:k < l.length:=hlt
   have h2:k < (ByteArray.mk l.toArray).size:=by rw [Vdj]; exact h1
   rw [getElem?_pos _ k h2]
   have:(ByteArray.mk l.toArray)[k]=l[k]:=rfl
   rw [this]
   rw [List.getElem?_eq_getElem h1] at hc
   exact hc
  simp [Instr.index,asIntOf,run_underlying (Vcd hs),hb]
 case agg cs=>
  split at h
  case h_2=>cases h
  rename_i n e he
  split at h
  case h_2=>cases h
  rename_i s k hs hk
  obtain ⟨kd,rfl,hlt⟩:=Vdl hk
  simp only [V] at hx hi; subst hi
  obtain ⟨vs,rfl,h0,hv⟩:=hx
  obtain ⟨z,hz,hvz⟩:=Vom h0 hv h
  refine ⟨z,?_,hvz⟩
  simp [Instr.index,asIntOf,run_underlying (Vc7 he),hlt,run_sizeOf' hs,hz]
end
section
variable {P:Program} {I:Nat→Prop} {w:World} {loc:Nat→Nat→Loc}
def VO (I:Nat→Prop) (w:World) (loc:Nat→Nat→Loc):Option D→Option Value→Prop
 | none,none=>True
 | some d,some v=>V I w d loc v
 | _,_=>False
theorem Vly {x:Option D} {u:Option Value} {dflt n k m:Nat} {code:BoundsCode} (hx:VO I w loc x u) (h:bound x dflt n=some k) (hn:n≤m) :
  k≤n∧(match u with | some v=>Instr.sliceBound v m code | none=>pure dflt:Sem Nat).run P w = .ok k w:=by
 unfold bound at h
 cases x with
 | none=>
  cases u with
  | some v=>simp [VO] at hx
  | none=>
   simp only [] at h
   split at h
   ·simp only [Qa] at h; subst h; exact ⟨by assumption,rfl⟩
   ·cases h
 | some d=>
  cases u with
  | none=>simp [VO] at hx
  | some v=>
   cases d<;>simp only [] at h<;>try cases h
   rename_i kd i
   simp only [VO,V] at hx; subst hx
   split at h
   ·rename_i hi
    simp only [Qa] at h; subst h
    refine ⟨by omega,?_⟩
    have hm:i≤(m:Int):=by omega
    simp [Instr.sliceBound,asIntOf,hi.1,hm]
   ·cases h
theorem Vas {lo hi:Option D} {ul uh:Option Value} {isS:Bool} {len cap h k:Nat} (hl:VO I w loc lo ul) (hh:VO I w loc hi uh)
  (h1:bound hi len len=some h) (h2:bound lo 0 h=some k) (hc:len≤cap) :
  k≤h∧h≤len∧(Instr.sliceBounds isS len cap ul uh none).run P w = .ok (k,h,cap) w:=by
 have a1:=Vly (P:=P) (m:=cap) (code:=if isS then .sliceAcap else .sliceAlen) hh h1 hc
 have a2:=Vly (P:=P) (m:=h) (code:=.sliceB) hl h2 (Qg _)
 refine ⟨a2.1,a1.1,?_⟩
 cases uh with
 | none=>
  have e1:len=h:=by simpa using a1.2
  subst e1
  cases ul with
  | none=>
   have e2:k=0:=by simpa using a2.2.symm
   subst e2
   simp [Instr.sliceBounds]
  | some v=>
   simp only [Instr.sliceBounds,Qd,Qf,Qc,Qaq,Qq,if_false]
   rw [a2.2]; rfl
 | some v'=>
  cases ul with
  | none=>
   have e2:k=0:=by simpa using a2.2.symm
   subst e2
   simp only [Instr.sliceBounds,Qd,Qf,Qc]
   rw [a1.2]; rfl
  | some v=>
   simp only [Instr.sliceBounds,Qd,Qf,Qc,Qaq,Qq,if_false]
   rw [a1.2]; simp only [Qc]; rw [a2.2]; rfl
theorem Vjc (l:List UInt8) (k h:Nat):(ByteArray.mk l.toArray).extract k h=⟨((l.take h).drop k).toArray⟩:=by
 apply ByteArray.ext
 simp [ByteArray.data_extract,Qak,List.drop_take]
theorem Vce {t e:TypeId} (he:telem P t=some e) (x:Value) (lo hi mx:Option Value):(Instr.sliceAt t x lo hi mx).run P w=(Instr.slice t x lo hi mx).run P w:=by
 simp [Instr.sliceAt,run_underlying (Val he)]
theorem Vp1 {t:TypeId} {x d:D} {lo hi:Option D} {u:Value} {ul uh:Option Value} (hx:V I w x loc u) (hl:VO I w loc lo ul) (hh:VO I w loc hi uh)
  (h:sliceD P t x lo hi=some d):∃ z,(Instr.sliceAt t u ul uh none).run P w = .ok z w∧V I w d loc z:=by
 unfold sliceD at h
 cases x<;>simp only [] at h<;>try cases h
 case str l=>
  split at h
  case isFalse=>cases h
  rename_i hs
  split at h
  case h_2=>cases h
  rename_i e he
  rw [Qb] at h
  obtain ⟨k,hk,rfl⟩:=h
  simp only [V] at hx; subst hx
  obtain ⟨_,_,hb⟩:=Vas (P:=P) (isS:=false) hl hh he hk (Qg _)
  refine ⟨.string ⟨((l.take e).drop k).toArray⟩,?_,by simp [V]⟩
  simp [Instr.sliceAt,Instr.slice,run_underlying (Vcd hs),Vdj,hb,Vjc]
 case nils=>
  split at h
  case h_2=>cases h
  rename_i e he
  split at h
  case isFalse=>cases h
  rename_i hs
  obtain ⟨s,hs⟩:=Option.isSome_iff_exists.1 hs
  split at h
  case h_2=>cases h
  rename_i q hq
  rw [Qb] at h
  obtain ⟨k,hk,rfl⟩:=h
  simp only [V] at hx; subst hx
  obtain ⟨h1,h2,hb⟩:=Vas (P:=P) (isS:=true) hl hh hq hk (Qg _)
  refine ⟨.slice none 0 0,?_,by simp [V]⟩
  rw [Vce he]
  have hk0:k=0:=by omega
  have hq0:q=0:=by omega
  subst hk0; subst hq0
  simp [Instr.slice,run_underlying (Val he),hb,run_sizeOf' hs]
 case rs s rows=>
  split at h
  case h_2=>cases h
  rename_i e he
  split at h
  case isFalse=>cases h
  rename_i hs
  split at h
  case h_2=>cases h
  rename_i q hq
  rw [Qb] at h
  obtain ⟨k,hk,rfl⟩:=h
  simp only [V] at hx
  rw [Vce he]
  rcases hx with ⟨rfl,p0,cap0,rfl⟩ | ⟨b,o,cap,rfl,hcap,hI,hr⟩
  ·obtain ⟨h1,h2,hb⟩:=Vas (P:=P) (isS:=true) hl hh hq hk (Nat.zero_le cap0)
   have hk0:k=0:=by simp at h2; omega
   have hq0:q=0:=by simp at h2; omega
   subst hk0; subst hq0
   simp only [Qa5] at hb
   refine ⟨.slice (if cap0=0 then p0 else p0.map (·.add (0 * s))) (0 - 0) (cap0 - 0),?_,?_⟩
   ·simp [Instr.slice,run_underlying (Val he),hb,run_sizeOf' hs]
   ·simp [V]
  obtain ⟨h1,h2,hb⟩:=Vas (P:=P) (isS:=true) hl hh hq hk hcap
  by_cases hm:cap=k
  ·refine ⟨.slice (some ⟨b,o,none⟩) (q - k) (cap - k),?_,?_⟩
   ·subst hm; simp [Instr.slice,run_underlying (Val he),hb,run_sizeOf' hs]
   ·have:(rows.take q).drop k=[]:=by simp; omega
    simp only [V,this]
    exact .inr ⟨b,o,cap - k,by simp; omega,by simp,hI,by simp [VR]⟩
  ·refine ⟨.slice (some ⟨b,o+k * s,none⟩) (q - k) (cap - k),?_,?_⟩
   ·simp [Instr.slice,run_underlying (Val he),hb,run_sizeOf' hs,hm,Vav]
   ·simp only [V]
    refine .inr ⟨b,o+k * s,cap - k,?_,?_,hI,Vhn k (Vd6 q hr)⟩
    ·congr 1; simp; omega
    ·simp; omega
 case bs b g s o n=>
  split at h
  case h_2=>cases h
  rename_i e he
  split at h
  case isFalse=>cases h
  rename_i hs
  split at h
  case h_2=>cases h
  rename_i q hq
  rw [Qb] at h
  obtain ⟨k,hk,rfl⟩:=h
  rw [Vce he]
  simp only [V] at hx
  cases hlc:loc b g<;>simp only [hlc] at hx
  ·obtain ⟨a,cap,rfl,hn,ha⟩:=hx
   obtain ⟨h1,h2,hb⟩:=Vas (P:=P) (isS:=true) hl hh hq hk hn
   refine ⟨.slice (if cap=k then a else a.map (·.add (k * s))) (q - k) (cap - k),?_,?_⟩
   ·simp [Instr.slice,run_underlying (Val he),hb,run_sizeOf' hs]
   ·simp only [V,hlc]
    refine ⟨_,cap - k,rfl,by omega,fun hz=>?_⟩
    split at hz
    ·omega
    ·have:=ha (by simpa using hz); omega
  ·obtain ⟨rfl,rfl,rfl⟩:=hx
   obtain ⟨h1,h2,hb⟩:=Vas (P:=P) (isS:=true) hl hh hq hk (Qg _)
   have hk0:k=0:=by omega
   have hq0:q=0:=by omega
   subst hk0; subst hq0
   refine ⟨.slice none 0 0,?_,?_⟩
   ·simp [Instr.slice,run_underlying (Val he),hb,run_sizeOf' hs]
   ·simp [V,hlc]
  ·rename_i c
   obtain ⟨o',cap,rfl,hn,ho,hsz⟩:=hx
   obtain ⟨h1,h2,hb⟩:=Vas (P:=P) (isS:=true) hl hh hq hk hn
   refine ⟨.slice (some ⟨c,if cap=k then o' else o'+k * s,none⟩) (q - k) (cap - k),?_,?_⟩
   ·by_cases hm:cap=k
    ·subst hm; simp [Instr.slice,run_underlying (Val he),hb,run_sizeOf' hs]
    ·simp [Instr.slice,run_underlying (Val he),hb,run_sizeOf' hs,hm,Vav]
   ·simp only [V,hlc]
    refine ⟨_,cap - k,rfl,by omega,?_,?_⟩
    ·by_cases hm:cap=k
     ·left; omega
     ·right
      rw [if_neg hm]
      have:o'=o * s:=by omega
      rw [this,Qe]
    ·have:o+k+(cap - k)=o+cap:=by omega
     rw [this]; exact hsz
theorem Vv0 {t ty:TypeId} {x d:D} {u:Value} (hx:V I w x loc u) (h:lenD P t x=some d):∃ z,(Builtin.len_ #[t] ty #[u]).run P w = .ok z w∧V I w d loc z:=by
 unfold lenD at h
 cases x<;>simp only [] at h<;>try cases h
 case str l=>
  split at h
  ·rename_i hs
   simp only [Qa] at h; subst h
   simp only [V] at hx; subst hx
   exact ⟨.int .i64 l.length,by simp [Builtin.len_,run_underlying (Vcd hs),Vdj,goInt],by simp [V]⟩
  ·cases h
 case nils=>
  rw [Qb] at h
  obtain ⟨e,he,rfl⟩:=h
  simp only [V] at hx; subst hx
  exact ⟨.int .i64 0,by simp [Builtin.len_,run_underlying (Val he),goInt],by simp [V]⟩
 case rs s rows=>
  rw [Qb] at h
  obtain ⟨e,he,rfl⟩:=h
  simp only [V] at hx
  rcases hx with ⟨rfl,p0,cap0,rfl⟩ | ⟨b,o,cap,rfl,_⟩
  ·exact ⟨.int .i64 0,by simp [Builtin.len_,run_underlying (Val he),goInt],by simp [V]⟩
  exact ⟨.int .i64 rows.length,by simp [Builtin.len_,run_underlying (Val he),goInt],by simp [V]⟩
 case bs b g s o n=>
  rw [Qb] at h
  obtain ⟨e,he,rfl⟩:=h
  have:∃ a cap,u = .slice a n cap:=by
   simp only [V] at hx
   cases hlc:loc b g<;>simp only [hlc] at hx
   ·obtain ⟨a,cap,h,_⟩:=hx; exact ⟨a,cap,h⟩
   ·exact ⟨none,0,by rw [hx.2.2,hx.2.1]⟩
   ·obtain ⟨o',cap,h,_⟩:=hx; exact ⟨_,cap,h⟩
  obtain ⟨a,cap,rfl⟩:=this
  exact ⟨.int .i64 n,by simp [Builtin.len_,run_underlying (Val he),goInt],by simp [V]⟩
 case agg cs=>
  rw [Qb] at h
  obtain ⟨⟨n,e⟩,he,rfl⟩:=h
  exact ⟨.int .i64 n,by simp [Builtin.len_,run_underlying (Vc7 he),goInt],by simp [V]⟩
 case bp b off=>
  split at h
  ·rename_i a ha
   rw [Qb] at h
   obtain ⟨⟨n,e⟩,he,rfl⟩:=h
   exact ⟨.int .i64 n,by simp [Builtin.len_,run_underlying ha,run_underlying (Vc7 he),goInt],by simp [V]⟩
  ·cases h
theorem Vhq {f:D→D→Option D} {g:Value→Value→Sem Value} (hfg:∀ x y z u v,f x y=some z→V I w x loc u→V I w y loc v→∃ r,(g u v).run P w = .ok r w∧V I w z loc r) :
  ∀ (ds:List D) (vs:List Value) (x d:D) (u:Value),VL I w ds loc vs→V I w x loc u→foldD f x ds=some d→∃ r,(vs.foldlM g u).run P w = .ok r w∧V I w d loc r
 | [],vs,x,d,u,hv,hx,h=>by
  simp only [VL] at hv; subst hv
  simp only [foldD,Qa] at h; subst h
  exact ⟨u,rfl,hx⟩
 | y::r,vs,x,d,u,hv,hx,h=>by
  simp only [VL] at hv
  obtain ⟨v,vr,rfl,hy,hr⟩:=hv
  simp only [foldD] at h
  split at h
  ·rename_i z hz
   obtain ⟨q,hq,hvq⟩:=hfg x y z u v hz hx hy
   obtain ⟨q2,h2,h3⟩:=Vhq hfg r vr z d q hr hvq h
   exact ⟨q2,by simp [hq,h2],h3⟩
  ·cases h
theorem Vv1 (x y z:D) (u v:Value) (h:minD x y=some z) (hx:V I w x loc u) (hy:V I w y loc v):∃ r,(Builtin.min2 u v).run P w = .ok r w∧V I w z loc r:=by
 unfold minD at h
 split at h
 ·simp only [Qa] at h; subst h
  simp only [V] at hx hy; subst hx; subst hy
  exact ⟨_,rfl,rfl⟩
 ·cases h
theorem Vv2 (x y z:D) (u v:Value) (h:maxD x y=some z) (hx:V I w x loc u) (hy:V I w y loc v):∃ r,(Builtin.max2 u v).run P w = .ok r w∧V I w z loc r:=by
 unfold maxD at h
 split at h
 ·simp only [Qa] at h; subst h
  simp only [V] at hx hy; subst hx; subst hy
  exact ⟨_,rfl,rfl⟩
 ·cases h
theorem Vlz:∀ (cs:List D) (us:List Value) (k:Nat) (vs:List D) (ws:List Value),VL I w cs loc us→VL I w vs loc ws→k+vs.length≤cs.length →
  VL I w (setCells cs k vs) loc (us.take k++ws++us.drop (k+ws.length))
 | cs,us,k,[],ws,h,hv,_=>by
  simp only [VL] at hv; subst hv
  cases cs<;>cases k<;>simpa [setCells] using h
 | [],us,k,v::vs,ws,h,hv,hk=>by simp at hk
 | c::cs,us,0,v::vs,ws,h,hv,hk=>by
  simp only [VL] at h hv
  obtain ⟨x,xr,rfl,hx,hxr⟩:=h
  obtain ⟨y,yr,rfl,hy,hyr⟩:=hv
  have:=Vlz cs xr 0 vs yr hxr hyr (by simpa using hk)
  simp only [setCells,VL]
  exact ⟨y,yr++xr.drop yr.length,by simp,hy,by simpa using this⟩
 | c::cs,us,k+1,v::vs,ws,h,hv,hk=>by
  simp only [VL] at h
  obtain ⟨x,xr,rfl,hx,hxr⟩:=h
  have:=Vlz cs xr k (v::vs) ws hxr hv (by simp at hk ⊢; omega)
  simp only [setCells,VL]
  refine ⟨x,_,?_,hx,this⟩
  have e:k+1+ws.length=(k+ws.length)+1:=by omega
  rw [e]; simp
theorem Vbn:∀ (cs:List D) (k:Nat) (vs:List D),k+vs.length≤cs.length→(setCells cs k vs).length=cs.length
 | cs,k,[],_=>by cases cs<;>cases k<;>simp [setCells]
 | [],k,v::vs,h=>by simp at h
 | c::cs,0,v::vs,h=>by simp only [setCells,Qv]; rw [Vbn cs 0 vs (by simpa using h)]
 | c::cs,k+1,v::vs,h=>by simp only [setCells,Qv]; rw [Vbn cs k (v::vs) (by simp at h ⊢; omega)]
theorem Vs0 (ws:List Value):∀ (cells:List Value) (o:Nat),o+ws.length≤cells.length →
  (ws.zipIdx.foldl (fun (cs:Array Value) (p:Value×Nat)=>cs.setIfInBounds (o+p.2) p.1) cells.toArray)=(cells.take o++ws++cells.drop (o+ws.length)).toArray:=by
 intro cells o h
 have gen:∀ (ws:List Value) (j:Nat) (cells:List Value),o+j+ws.length≤cells.length →
   ((ws.zipIdx j).foldl (fun (cs:Array Value) (p:Value×Nat)=>cs.setIfInBounds (o+p.2) p.1) cells.toArray)=(cells.take (o+j)++ws++cells.drop (o+j+ws.length)).toArray:=by
  intro ws
  induction ws with
  | nil=>intro j cells h; simp
  | cons v r ih=>
   intro j cells h
   simp only [List.zipIdx_cons,List.foldl_cons,List.setIfInBounds_toArray]
   have hl:(cells.set (o+j) v).length=cells.length:=by simp
   rw [ih (j+1) (cells.set (o+j) v) (by rw [hl]; simp at h ⊢; omega)]
   congr 1
   have hlt:o+j < cells.length:=by simp at h; omega
   have e1:o+(j+1)=(o+j)+1:=by omega
   rw [e1]
   have t1:(cells.set (o+j) v).take (o+j+1)=cells.take (o+j)++[v]:=by
    rw [List.take_succ_eq_append_getElem (by simpa using hlt)]
    simp [List.take_set_of_le (Qg _)]
   rw [t1]
   have t2:(cells.set (o+j) v).drop (o+j+1+r.length)=cells.drop (o+j+1+r.length):=by
    rw [List.drop_set_of_lt (by omega)]
   rw [t2]
   simp [Qac,Nat.add_comm,Nat.add_left_comm]
 have:=gen ws 0 cells (by simpa using h)
 simpa using this
theorem Vfm {place:Nat→Option (Nat×Nat)} {e:Operand→D} {ρ:Operand→Value} (he:∀ x,V I w (e x) loc (ρ x)) :
  ∀ (ps:List (Nat×Operand)) (cells:List D) (us:List Value) (r:List D),
  VL I w cells loc us→(∀ x∈us,x.oneCell'=true)→fillD place cells (ps.map fun p=>(p.1,e p.2))=some r →
  ∃ vs:List Value,Instr.fill place us.toArray (ps.map fun p=>(p.1,ρ p.2))=some vs.toArray∧(∀ x∈vs,x.oneCell'=true)∧VL I w r loc vs
 | [],cells,us,r,hv,hu,h=>by
  simp only [Qbc,fillD,Qa] at h; subst h
  exact ⟨us,rfl,hu,hv⟩
 | (i,x)::rest,cells,us,r,hv,hu,h=>by
  simp only [Qx,fillD] at h
  split at h
  case h_2=>cases h
  rename_i o s hpl
  split at h
  case isFalse=>cases h
  rename_i hc
  obtain ⟨hcl,hone⟩:=Vbm (he x) hc.1
  have hlen:=Vaf hcl
  have hul:=Vaf hv
  have hsz:(ρ x).cells.size=(e x).cells.length:=by simpa using hlen
  obtain ⟨vs,hvs,hr⟩:=Vfm he rest _ _ r (Vlz cells us o (e x).cells (ρ x).cells.toList hv hcl (by omega)) (fun y hy=>by
   simp only [Qm] at hy
   rcases hy with (hy | hy) | hy
   ·exact hu y (Qs hy)
   ·exact hone y hy
   ·exact hu y (Ql hy)) h
  refine ⟨vs,?_,hr⟩
  simp only [Qx,Instr.fill,hpl]
  have c1:¬ ((ρ x).cells.size≠s||o+(ρ x).cells.size > us.toArray.size)=true:=by
   simp only [ne_eq,Qa6,decide_eq_true_eq,not_or,Decidable.not_not,Nat.not_lt,List.size_toArray]
   omega
  rw [if_neg c1]
  have:=Vs0 (ρ x).cells.toList us o (by simp; omega)
  rw [← hvs]
  congr 1
  rw [← this,← Array.foldl_toList]
  simp [Array.toList_zipIdx]
end
section
variable {P:Program} {I:Nat→Prop} {w:World} {loc:Nat→Nat→Loc}
theorem Vjd:∀ (fs:List Field) (pl:List (Nat×Nat)),tplacesL P fs=some pl →
  (fs.mapM fun f=>do pure (f.offset,← sizeOf f.type):Sem (List (Nat×Nat))).run P w = .ok pl w
 | [],pl,h=>by simp only [tplacesL,Qa] at h; subst h; rfl
 | f::r,pl,h=>by
  simp only [tplacesL] at h
  split at h
  case h_2=>cases h
  rename_i s hs
  rw [Qb] at h
  obtain ⟨q,hq,rfl⟩:=h
  have:=Vjd r q hq
  simp only [List.mapM_cons,Qd,run_sizeOf' hs,Qc,Qf,this]
theorem Vzg {v:Value} {z:List D} (h:ofV v = .agg z):∃ us:List Value,v = .agg us.toArray∧(∀ x∈us,x.oneCell'=true)∧z=ofVs us:=by
 cases v with
 | agg cs=>
  obtain ⟨cs⟩:=cs
  simp only [ofV] at h
  split at h
  ·rename_i ha
   simp only [D.agg.injEq] at h
   exact ⟨cs,rfl,fun x hx=>by simpa using List.all_eq_true.1 ha x hx,h.symm⟩
  ·cases h
 | pointer a=>cases a<;>simp [ofV] at h
 | slice a n c=>
  cases a with
  | some a=>simp [ofV] at h
  | none=>cases n<;>cases c<;>simp [ofV] at h
 | map m=>cases m<;>simp [ofV] at h
 | _=>simp [ofV] at h
theorem Vp2 {e:Operand→D} {ρ:Operand→Value} (he:∀ x,V I w (e x) loc (ρ x)) {t:TypeId} {parts:Array (Nat×Operand)} {d:D}
  (h:buildD P t (parts.toList.map fun p=>(p.1,e p.2))=some d) :
  ∃ z,(Instr.build t (parts.map fun (i,x)=>(i,ρ x))).run P w = .ok z w∧V I w d loc z:=by
 have hp:(parts.map fun (i,x)=>(i,ρ x)).toList=parts.toList.map fun p=>(p.1,ρ p.2):=by simp
 unfold buildD at h
 split at h
 case h_2=>cases h
 rename_i z hz
 obtain ⟨v,hv,hd⟩:=run_zero' hz w
 obtain ⟨us,rfl,hone,rfl⟩:=Vzg hd.symm
 have hvl:VL I w (ofVs us) loc us:=Vnc us
 split at h
 ·rename_i pl hpl
  unfold tplaces at hpl
  split at hpl
  case h_2=>cases hpl
  rename_i fs hfs
  rw [Qb] at h
  obtain ⟨r,hr,rfl⟩:=h
  obtain ⟨vs,hvs,ho,hl⟩:=Vfm he _ _ us r hvl hone hr
  refine ⟨.agg vs.toArray,?_,by simp only [V]; exact ⟨vs,rfl,ho,hl⟩⟩
  have hpls:=Vjd (P:=P) (w:=w) fs.toList pl hpl
  simp only [Instr.build,Qd,hv,Qc,Value.cells,run_underlying hfs,Array.mapM_eq_mapM_toList,Sem.run_map,hpls,hp]
  have:(fun (i:Nat)=>pl.toArray[i]?)=(fun (i:Nat)=>pl[i]?):=by funext i; simp
  simp only [this,hvs]
  rfl
 ·split at h
  case h_2=>cases h
  rename_i n el hel
  split at h
  case h_2=>cases h
  rename_i s hs
  rw [Qb] at h
  obtain ⟨r,hr,rfl⟩:=h
  obtain ⟨vs,hvs,ho,hl⟩:=Vfm he _ _ us r hvl hone hr
  refine ⟨.agg vs.toArray,?_,by simp only [V]; exact ⟨vs,rfl,ho,hl⟩⟩
  simp only [Instr.build,Qd,hv,Qc,Value.cells,run_underlying (Vc7 hel),run_sizeOf' hs,hp,hvs]
  rfl
theorem Vs1 {e:Operand→D} {ρ:Operand→Value} (he:∀ x,V I w (e x) loc (ρ x)) {o:Oper} {d:D} (h:semN P o.op e=some d) :
  ∃ v,(execOp ρ o).run P w = .ok (.value v) w∧V I w d loc v:=by
 obtain ⟨dst,op,type,pos,after,guard⟩:=o
 simp only at h
 have fin:∀ (s:Sem Value) ,(∃ z,s.run P w = .ok z w∧V I w d loc z)→∃ v,(do pure (.value (← s)):Sem Next).run P w = .ok (.value v) w∧V I w d loc v:=by
  rintro s ⟨z,h1,h2⟩
  exact ⟨z,by simp [h1],h2⟩
 unfold semN at h
 split at h
 ·simp only [Qa] at h; subst h; exact ⟨_,rfl,he _⟩
 ·simp only [Qa] at h; subst h; exact ⟨_,rfl,he _⟩
 ·rename_i c a b
  have hc:=he c
  split at h
  ·rename_i hb
   simp only [Qa] at h; subst h
   rw [hb] at hc; simp only [V] at hc
   exact ⟨ρ a,by simp [execOp,hc,asBool],he _⟩
  ·rename_i hb
   simp only [Qa] at h; subst h
   rw [hb] at hc; simp only [V] at hc
   exact ⟨ρ b,by simp [execOp,hc,asBool],he _⟩
  ·cases h
 ·rename_i x
  have hx:=he x
  split at h<;>simp only [Qa,reduceCtorEq] at h<;>subst h
  ·rename_i b i hb
   rw [hb] at hx
   have:∃ a:Addr,ρ x = .pointer (some a):=by
    simp only [V] at hx
    cases hl:loc b 0<;>simp only [hl] at hx
    ·exact hx
    ·exact ⟨_,hx⟩
   obtain ⟨a,ha⟩:=this
   refine ⟨ρ x,?_,hx⟩
   simp [execOp,ha]
  ·rename_i b g s i k hb
   rw [hb] at hx
   have:∃ a:Addr,ρ x = .pointer (some a):=by
    simp only [V] at hx
    cases hl:loc b g<;>simp only [hl] at hx
    ·exact hx
    ·exact ⟨_,hx⟩
   obtain ⟨a,ha⟩:=this
   refine ⟨ρ x,?_,hx⟩
   simp [execOp,ha]
  ·rename_i cs hb
   rw [hb] at hx
   refine ⟨ρ x,?_,hx⟩
   simp only [V] at hx
   obtain ⟨b,o,ha,_⟩:=hx
   simp [execOp,ha]
  ·rename_i f cap hb
   rw [hb] at hx
   refine ⟨ρ x,?_,hx⟩
   simp only [V] at hx
   obtain ⟨vs,ha,_⟩:=hx
   simp [execOp,ha]
 ·exact fin _ (Vvy _ _ (he _) (he _) h)
 ·exact fin _ (Vzf (he _) h)
 ·split at h
  ·rename_i hs
   exact fin _ (Vsz (Option.isSome_iff_exists.1 hs) (he _) h)
  ·cases h
 ·exact fin _ (Vp2 he h)
 ·exact fin _ (Vi1 (he _) h)
 ·exact fin _ (Vpz (he _) h)
 ·exact fin _ (Vi2 (he _) (he _) h)
 ·exact fin _ (Vp0 (he _) (he _) h)
 ·rename_i t x lo hi
  refine fin _ (Vp1 (he _) ?_ ?_ h)
  ·cases lo with
   | none=>trivial
   | some y=>exact he y
  ·cases hi with
   | none=>trivial
   | some y=>exact he y
 ·rename_i x i
  have hx:=he x
  split at h
  ·rename_i vs hb
   rw [hb] at hx; simp only [V] at hx
   obtain ⟨us,hu,hl⟩:=hx
   obtain ⟨v,hv,hvv⟩:=Vsw hl h
   exact ⟨v,by simp [execOp,hu,Instr.extract,hv],hvv⟩
  ·cases h
 ·rename_i f first cap
  split at h
  ·rename_i hf
   simp only [Qa] at h; subst h
   have hf:first = #[]:=by simpa using hf
   subst hf
   refine ⟨.func (.func f) #[] (cap.map ρ),by simp [execOp,Instr.makeFunc],?_⟩
   simp only [V]
   exact ⟨cap.toList.map ρ,by congr 1; apply Qu; simp,Vgr he _⟩
  ·cases h
 ·rename_i args argTypes
  split at h
  ·rename_i x t hx ht
   obtain ⟨z,hz,hv⟩:=Vv0 (P:=P) (ty:=type) (he x) h
   have ha:args = #[x]:=by apply Qu; simpa using hx
   have hb:argTypes = #[t]:=by apply Qu; simpa using ht
   subst ha; subst hb
   exact ⟨z,by simp [execOp,resolve,invoke,builtin,hz],hv⟩
  ·cases h
 ·exact fin _ (Vlx (he _) h)
 ·rename_i args argTypes
  split at h
  ·rename_i x t hx ht
   obtain ⟨z,hz,hv⟩:=Vvz (P:=P) (ty:=type) (he x) h
   have ha:args = #[x]:=by apply Qu; simpa using hx
   have hb:argTypes = #[t]:=by apply Qu; simpa using ht
   subst ha; subst hb
   exact ⟨z,by simp [execOp,resolve,invoke,builtin,hz],hv⟩
  ·cases h
 ·rename_i args argTypes
  split at h
  ·rename_i x r hx
   cases ha:args.toList with
   | nil=>simp [ha] at hx
   | cons y q=>
    simp only [ha,Qx,List.cons.injEq] at hx
    obtain ⟨hx1,hx2⟩:=hx
    subst hx1; subst hx2
    obtain ⟨z,hz,hv⟩:=Vhq (P:=P) (Vv1 (P:=P)) _ _ _ _ _ (Vgr he q) (he y) h
    have:args=(y::q).toArray:=by apply Qu; simpa using ha
    subst this
    exact ⟨z,by simp [execOp,resolve,invoke,builtin,Builtin.min_,hz],hv⟩
  ·cases h
 ·rename_i args argTypes
  split at h
  ·rename_i x r hx
   cases ha:args.toList with
   | nil=>simp [ha] at hx
   | cons y q=>
    simp only [ha,Qx,List.cons.injEq] at hx
    obtain ⟨hx1,hx2⟩:=hx
    subst hx1; subst hx2
    obtain ⟨z,hz,hv⟩:=Vhq (P:=P) (Vv2 (P:=P)) _ _ _ _ _ (Vgr he q) (he y) h
    have:args=(y::q).toArray:=by apply Qu; simpa using ha
    subst this
    exact ⟨z,by simp [execOp,resolve,invoke,builtin,Builtin.max_,hz],hv⟩
  ·cases h
 ·cases h
end
structure Fr (O:Nat→Prop) (w w':World):Prop where
 os:w'.os=w.os
 tape:w'.tape=w.tape
 output:w'.output=w.output
 size:w.heap.size≤w'.heap.size
 block:∀ b,b < w.heap.size→¬ O b→w'.heap[b]? = w.heap[b]?
def Unfz (fz:Nat×Nat) (n:Nat):Prop:=∀ o,o < n→¬ (fz.1≤o∧o < fz.2)
def RelB (I:Nat→Prop) (w:World) (loc:Nat→Nat→Loc) (b:Nat):Box→Prop
 | .gone=>∀ g,loc b g = .stale∨loc b g = .free
 | .lent=>True
 | .var cs=>(∀ g,g≠0→loc b g = .free)∧∃ k c el fz,loc b 0 = .blk k∧w.heap[k]? = some (.cells c el fz)∧Unfz fz c.size∧(∀ x∈c.toList,x.oneCell'=true)∧VL I w cs loc c.toList
 | .arr g s rows=>((∀ g',g' < g→loc b g' = .stale)∧∀ g',g < g'→loc b g' = .free)∧((loc b g = .nil∧rows=[]) ∨
   ∃ k c el fz,loc b g = .blk k∧w.heap[k]? = some (.cells c el fz)∧Unfz fz c.size∧rows.length * s≤c.size∧VR I w s rows k 0)
 | .frz g s rows=>((∀ g',g' < g→loc b g' = .stale)∧∀ g',g < g'→loc b g' = .free)∧((loc b g = .nil∧rows=[])∨∃ k,loc b g = .blk k∧I k∧VR I w s rows k 0)
 | .iter l pos=>(∀ g,g≠0→loc b g = .free)∧∃ k,loc b 0 = .blk k∧w.heap[k]? = some (.stringIter ⟨l.toArray⟩ pos)
 | .mset ks=>(∀ g,g≠0→loc b g = .free)∧∃ k es clock,loc b 0 = .blk k∧w.heap[k]? = some (.map es clock)∧es.toList.map (fun e=>(e.key,e.val))=ks.map fun x=>(x,.bool true)
def Box.owned:Box→Bool
 | .var _=>true
 | .arr _ _ _=>true
 | .iter _ _=>true
 | .mset _=>true
 | _=>false
structure MRel (O I:Nat→Prop) (loc:Nat→Nat→Loc) (m:Mem) (w:World):Prop where
 box:∀ b,b < m.nb→RelB I w loc b (m.bx b)
 free:∀ b g,m.nb≤b→loc b g = .free
 own:∀ b g k,b < m.nb→(m.bx b).owned=true→loc b g = .blk k→O k∧¬ I k∧k < w.heap.size
 inj:∀ b b' g g' k,b < m.nb→b' < m.nb→(m.bx b).owned=true→(m.bx b').owned=true→loc b g = .blk k→loc b' g' = .blk k→b=b'
 imm:∀ k,I k→k < w.heap.size
 up:∀ k,w.heap.size≤k→O k
def Mem.rows (m:Mem) (b g s:Nat):Option (List (List D)):=
 match m.bx b with
 | .arr g' s' rows=>if g=g'∧s=s' then some rows else none
 | .frz g' s' rows=>if g=g'∧s=s' then some rows else none
 | _=>none
def Mem.cut (m:Mem) (b g s i n:Nat):Option (List (List D)):=
 match m.rows b g s with
 | some rows=>if i+n≤rows.length then some ((rows.drop i).take n) else none
 | none=>none
mutual
def snap (m:Mem):Nat→D→Option D
 | 0,_=>none
 | n+1,d=>match d with
  | .bs b g s i k=>(m.cut b g s i k).map (.rs s)
  | .bp b off=>match m.bx b with
   | .var cs=>(snapL m n (cs.drop off)).map .rp
   | _=>none
  | .ap b g s i off=>match m.rows b g s with
   | some rows=>(rows[i]?).map fun row=>.rp (row.drop off)
   | none=>none
  | .mp _=>none
  | .agg cs=>(snapL m n cs).map .agg
  | .tup cs=>(snapL m n cs).map .tup
  | .fn f cs=>(snapL m n cs).map (.fn f)
  | d=>some d
def snapL (m:Mem):Nat→List D→Option (List D)
 | _,[]=>some []
 | 0,_::_=>none
 | n+1,d::r=>match snap m n d,snapL m (n+1) r with
  | some x,some y=>some (x::y)
  | _,_=>none
end
mutual
def D.flat:D→Bool
 | .bool _=>true
 | .int _ _=>true
 | .str _=>true
 | .lit _=>true
 | .nilp=>true
 | .nils=>true
 | .agg cs=>flatL cs
 | .tup cs=>flatL cs
 | _=>false
def flatL:List D→Bool
 | []=>true
 | d::r=>d.flat&&flatL r
end
mutual
def D.pure:D→Bool
 | .dead=>true
 | .bool _=>true
 | .int _ _=>true
 | .str _=>true
 | .lit _=>true
 | .nilp=>true
 | .nils=>true
 | .rs _ _=>true
 | .rp _=>true
 | .agg cs=>pureL cs
 | _=>false
def pureL:List D→Bool
 | []=>true
 | d::r=>d.pure&&pureL r
end
def bytesD (l:List UInt8):List (List D):=l.map fun b=>[.int .u8 b.toNat]
def bytesOf:List (List D)→Option (List UInt8)
 | []=>some []
 | [.int .u8 n]::r=>if 0≤n∧n < 256 then (bytesOf r).map (Qae n.toNat::·) else none
 | _::_=>none
def rowsOf (m:Mem) (s:Nat):D→Option (List (List D))
 | .nils=>some []
 | .rs s' rows=>if s=s' then some rows else none
 | .bs b g s' i n=>if s=s' then m.cut b g s i n else none
 | _=>none
def loadR (P:Program) (m:Mem) (t:TypeId) (x:D):Option D:=
 match x with
 | .bp b off=>match m.bx b with
  | .var cs=>loadD P t (cs.drop off)
  | _=>none
 | .ap b g s i off=>match m.rows b g s with
  | some rows=>loadD P t ((rows.drop i).flatten.drop off)
  | none=>none
 | .rp cs=>loadD P t cs
 | _=>none
def semR (P:Program) (Sp:Specs) (o:Op) (e:Operand → D) (m:Mem):Option D:=
  match o with
  | .load t x=>loadR P m t (e x)
  | .convert src dst x=>match telem P src with
    | some el=>if tint P el=some .u8 ∧ tstr P dst=true then match rowsOf m 1 (e x) with
        | some rows=>(bytesOf rows).map .str
        | none=>none
      else none
    | none=>none
  | .call { callee:=.value f,args,.. }=>match e f with
    | .fn k cap=>match Sp.fn k with
      | some (0,F)=>match snapL m 8 (args.toList.map e ++ cap) with
        | some ds=>match F ds with
          | some (d,[])=>some d
          | _=>none
        | none=>none
      | _=>none
    | _=>none
  | _=>none
mutual
def D.shift (k:Nat):D→D
 | .bp b off=>.bp (b+k) off
 | .mp b=>.mp (b+k)
 | .ap b g s i off=>.ap (b+k) g s i off
 | .bs b g s i n=>.bs (b+k) g s i n
 | .agg cs=>.agg (shiftL k cs)
 | .tup cs=>.tup (shiftL k cs)
 | .fn f cs=>.fn f (shiftL k cs)
 | d=>d
def shiftL (k:Nat):List D→List D
 | []=>[]
 | d::r=>d.shift k::shiftL k r
end
def Box.shift (k:Nat):Box→Box
 | .var cs=>.var (shiftL k cs)
 | b=>b
def Mem.join (m:Mem) (bx:List Box):Mem:={ nb:=m.nb+bx.length,bx:=fun b=>if b < m.nb then m.bx b else (bxOf bx (b - m.nb)).shift m.nb }
def Mem.add (m:Mem) (x:Box):Mem:={ nb:=m.nb+1,bx:=upd m.bx m.nb x }
def Mem.set (m:Mem) (b:Nat) (x:Box):Mem:={ m with bx:=upd m.bx b x }
def zrow (P:Program) (e:TypeId) (s:Nat):Option (List D):=
 match tzero P e with
 | some z=>if z.fit=true∧z.cells.length=s∧z.pure then some z.cells else none
 | none=>none
def rowParts (P:Program) (s:Nat) (rows:List (List D)):List (Nat×D)→Option (List (List D))
 | []=>some rows
 | (i,x)::r=>if x.fit=true∧x.cells.length=s∧x.pure=true∧i < rows.length then rowParts P s (rows.set i x.cells) r else none
def small (need bytes:Nat):Bool:=decide (need≤70368744177664∧(2 * need+192) * bytes≤281474976710656)
def appendW (P:Program) (m:Mem) (t:TypeId) (s:D) (more:Nat → Option (List (List D))):Option (D × Mem):=
  match telem P t with
  | none=>none
  | some el => match tsz P el, tbytes P el with
    | some sz,some by'=>match zrow P el sz,more sz with
      | some _,some rows'=>match s with
        | .nils=>if small rows'.length by' then some (.bs m.nb 0 sz 0 rows'.length,m.add (.arr 0 sz rows')) else none
        | .bs b g s' 0 n=>match m.bx b with
          | .arr g' s'' rows=>if g=g' ∧ s'=sz ∧ s''=sz ∧ n ≤ rows.length ∧ small (n + rows'.length) by'=true then
              some (.bs b (g + 1) sz 0 (n + rows'.length),m.set b (.arr (g + 1) sz (rows.take n ++ rows')))
            else none
          | _=>none
        | _=>none
      | _,_=>none
    | _,_=>none
def semW (P : Program) (Sp : Specs) (o : Op) (e : Operand → D) (m : Mem) : Option (D × Mem) :=
  match o with
  | .alloc t=>match tzero P t with
    | some z=>if z.fit then some (.bp m.nb 0,m.add (.var z.cells)) else none
    | none=>none
  | .box _ x=>if (e x).fit then some (.bp m.nb 0,m.add (.var (e x).cells)) else none
  | .store t x y=>match tsz P t with
    | some sz => if (e y).fit = true ∧ (e y).cells.length = sz then match e x with
        | .bp b off=>match m.bx b with
          | .var cs=>if off + sz ≤ cs.length then some (.dead,m.set b (.var (setCells cs off (e y).cells))) else none
          | _=>none
        | .ap b g s i off=>match m.bx b with
          | .arr g' s' rows=>if g=g' ∧ s=s' ∧ (e y).pure=true then match rows[i]? with
              | some row=>if off + sz ≤ row.length then some (.dead,m.set b (.arr g' s' (rows.set i (setCells row off (e y).cells)))) else none
              | none=>none
            else none
          | _=>none
        | _=>none
      else none
    | none=>none
  | .buildSlice t n parts=>match telem P t with
    | some el=>match tsz P el with
      | some sz=>if n * sz ≤ 16777216 then match zrow P el sz with
          | some z=>match rowParts P sz (Qi n z) (parts.toList.map fun p=>(p.1,e p.2)) with
            | some rows=>some (.bs m.nb 0 sz 0 n,m.add (.arr 0 sz rows))
            | none=>none
          | none=>none
        else none
      | none=>none
    | none=>none
  | .range t x=>match e x with
    | .str l=>if tstr P t then some (.bp m.nb 0,m.add (.iter l 0)) else none
    | _=>none
  | .next x true=>match e x with
    | .bp b 0=>match m.bx b with
      | .iter l pos=>if pos < l.length then
          some (.tup [.bool true,.int .i64 pos,.int .i32 (Utf8.decode ⟨l.toArray⟩ pos).1],m.set b (.iter l (pos + (Utf8.decode ⟨l.toArray⟩ pos).2)))
        else some (.tup [.bool false],m)
      | _=>none
    | _=>none
  | .call { callee:=.builtin .append,args,argTypes }=>match args.toList,argTypes.toList with
    | [s,x],[t,t']=>match e x with
      | .str l=>if tstr P t'=true then appendW P m t (e s) (fun sz=>if sz=1 then some (bytesD l) else none) else none
      | d=>if (telem P t').isSome then appendW P m t (e s) (fun sz=>rowsOf m sz d) else none
    | _,_=>none
  | .call { callee:=.value f,args,.. }=>match e f with
    | .fn k cap=>match Sp.fn k with
      | some (1,F)=>match snapL m 8 (args.toList.map e ++ cap) with
        | some ds=>match F ds with
          | some (d,bx)=>some (d.shift m.nb,m.join bx)
          | none=>none
        | none=>none
      | some (2,F)=>if pureL (args.toList.map e ++ cap)=true then match F (args.toList.map e ++ cap) with
          | some (d,bx)=>some (d.shift m.nb,m.join bx)
          | none=>none
        else none
      | _=>none
    | _=>none
  | _=>none
inductive Cls where
 | n | r | w
def cls (P:Program) (Sp:Specs) (o:Op):Cls:=
 match o with
 | .load _ _=>.r
 | .convert src dst _=>if (telem P src).isSome then .r else if (telem P dst).isSome then .w else .n
 | .alloc _=>.w
 | .box _ _=>.w
 | .store _ _ _=>.w
 | .buildSlice _ _ _=>.w
 | .range _ _=>.w
 | .next _ _=>.w
 | .call { callee:=.builtin b,.. }=>match b with
  | .len=>.n
  | .min=>.n
  | .max=>.n
  | _=>.w
 | .call { callee:=.value (.func f),.. }=>match Sp.fn f with
  | some (0,_)=>.r
  | _=>.w
 | .call _=>.w
 | _=>.n
def sem (P:Program) (Sp:Specs) (o:Op) (e:Operand→D) (m:Mem):Option (D×Mem):=
 match cls P Sp o with
 | .n=>(semN P o e).map (·,m)
 | .r=>(semR P Sp o e m).map (·,m)
 | .w=>semW P Sp o e m
section
variable {P:Program} {O I:Nat→Prop} {w:World} {loc:Nat→Nat→Loc} {m:Mem}
theorem Ext.refl (I:Nat→Prop) (w:World):Ext I I w w:=⟨fun _ h=>h,fun _ _=>rfl,fun _=>Qg _⟩
theorem Ext.trans {I1 I2 I3:Nat→Prop} {w1 w2 w3:World} (a:Ext I1 I2 w1 w2) (b:Ext I2 I3 w2 w3):Ext I1 I3 w1 w3:=
 ⟨fun k h=>b.imm k (a.imm k h),fun k h=>(b.same k (a.imm k h)).trans (a.same k h),fun k=>Q4 (a.rows k) (b.rows k)⟩
theorem LocExt.trans {l1 l2 l3:Nat→Nat→Loc} (a:LocExt l1 l2) (b:LocExt l2 l3):LocExt l1 l3:=fun x g=>by
 rcases a x g with h | h | h
 ·exact .inl h
 ·rcases b x g with k | k | k
  ·rw [h] at k; cases k
  ·exact .inr (.inl k)
  ·exact .inr (.inl (k.trans h))
 ·rcases b x g with k | k | k
  ·exact .inl (h ▸ k)
  ·exact .inr (.inl k)
  ·exact .inr (.inr (k.trans h))
theorem Fr.refl (O:Nat→Prop) (w:World):Fr O w w:=⟨rfl,rfl,rfl,Qg _,fun _ _ _=>rfl⟩
theorem Fr.trans {w1 w2 w3:World} (a:Fr O w1 w2) (b:Fr O w2 w3):Fr O w1 w3:=
 ⟨b.os.trans a.os,b.tape.trans a.tape,b.output.trans a.output,Q4 a.size b.size,
  fun k h ho=>(b.block k (Qad h a.size) ho).trans (a.block k h ho)⟩
theorem Von {d:D} {v:Value} (h:V I w d free v):V I w d loc v:=Va4 (Ext.refl I w) d free loc v (.free _) h
theorem Vc8:∀ {cs:List D} {b o:Nat},VC I w cs b o→∃ vs:List Value,VL I w cs free vs∧(∀ x∈vs,x.oneCell'=true)∧∀ j x,vs[j]? = some x→w.cell? ⟨b,o+j,none⟩=some x
 | [],b,o,h=>⟨[],by simp [VL],by simp,by simp⟩
 | d::r,b,o,h=>by
  simp only [VC] at h
  obtain ⟨⟨c,hc,h1,hv⟩,hr⟩:=h
  obtain ⟨vs,h2,h3,h4⟩:=Vc8 hr
  refine ⟨c::vs,by simp only [VL]; exact ⟨c,vs,rfl,hv,h2⟩,?_,?_⟩
  ·intro x hx
   simp only [List.mem_cons] at hx
   rcases hx with rfl | hx
   ·exact h1
   ·exact h3 x hx
  ·intro j x hj
   cases j with
   | zero=>simp at hj; subst hj; simpa using hc
   | succ j=>
    simp at hj
    have:=h4 j x hj
    rw [← this]; congr 2; omega
theorem Vdm:∀ {cs:List D} {vs:List Value} {b o:Nat},VL I w cs free vs→(∀ x∈vs,x.oneCell'=true)→(∀ j x,vs[j]? = some x→w.cell? ⟨b,o+j,none⟩=some x)→VC I w cs b o
 | [],vs,b,o,h,h1,h2=>by simp [VC]
 | d::r,vs,b,o,h,h1,h2=>by
  simp only [VL] at h
  obtain ⟨v,vr,rfl,hv,hr⟩:=h
  simp only [VC]
  refine ⟨⟨v,by simpa using h2 0 v (by simp),h1 v (by simp),hv⟩,Vdm hr (fun x hx=>h1 x (by simp [hx])) fun j x hj=>?_⟩
  have:=h2 (j+1) x (by simpa using hj)
  rw [← this]; congr 2; omega
theorem Vcr {cs:List D} {vs:List Value} (h:VL I w cs free vs):VL I w cs loc vs:=Vah (Ext.refl I w) cs free loc vs (.free _) h
theorem Vd8 {t:TypeId} {cs:List D} {vs:List Value} {b o:Nat} {d:D} (hv:VL I w cs loc vs) (h1:∀ x∈vs,x.oneCell'=true)
  (hc:∀ j x,vs[j]? = some x→w.cell? ⟨b,o+j,none⟩=some x) (h:loadD P t cs=some d) :
  ∃ z,(Instr.loadAt t (.pointer (some ⟨b,o,none⟩))).run P w = .ok z w∧V I w d loc z:=by
 have hlen:=Vaf hv
 unfold loadD at h
 split at h
 ·rename_i ha
  split at h
  ·rename_i k hk
   split at h
   ·rename_i hle
    simp only [Qa] at h; subst h
    have e:(vs.take k).length=k:=by simp; omega
    have hl:=run_loadCells_list (P:=P) w ⟨b,o,none⟩ (vs.take k) (fun j x hj=>by
     rw [Vav]
     refine hc j x ?_
     rw [Qax] at hj
     split at hj
     ·exact hj
     ·cases hj)
    rw [e] at hl
    refine ⟨.agg (vs.take k).toArray,?_,?_⟩
    ·simp [Instr.loadAt,Instr.sureAddr,loadVar,run_isAgg' ha,run_sizeOf' hk,hl]
    ·simp only [V]
     exact ⟨_,rfl,fun x hx=>h1 x (Qs hx),Vd5 k hv⟩
   ·cases h
  ·cases h
 ·rename_i ha
  split at h
  ·rename_i c r
   simp only [Qa] at h; subst h
   simp only [VL] at hv
   obtain ⟨v,vr,rfl,hv',_⟩:=hv
   have h0:=hc 0 v (by simp)
   simp only [Q5] at h0
   exact ⟨v,by simp [Instr.loadAt,Instr.sureAddr,loadVar,run_isAgg' ha,h0],hv'⟩
  ·cases h
 ·cases h
theorem Vhr {b g s:Nat} {rows:List (List D)} (h:m.rows b g s=some rows):m.bx b = .arr g s rows∨m.bx b = .frz g s rows:=by
 unfold Mem.rows at h
 split at h
 ·split at h
  ·rename_i hc; obtain ⟨rfl,rfl⟩:=hc; simp only [Qa] at h; subst h; left; assumption
  ·cases h
 ·split at h
  ·rename_i hc; obtain ⟨rfl,rfl⟩:=hc; simp only [Qa] at h; subst h; right; assumption
  ·cases h
 ·cases h
theorem lt_nb (h:MRel O I loc m w) {b g:Nat} (hl:loc b g≠.free):b < m.nb:=by
 rcases Qj b m.nb with hb | hb
 ·exact hb
 ·exact absurd (h.free b g hb) hl
theorem Vf7 (h:MRel O I loc m w) {b g s:Nat} {rows:List (List D)} (hb:b < m.nb) (hr:m.rows b g s=some rows) :
  (loc b g = .nil∧rows=[])∨∃ k,loc b g = .blk k∧VR I w s rows k 0:=by
 have hx:=h.box b hb
 rcases Vhr hr with e | e<;>rw [e] at hx<;>simp only [RelB] at hx
 ·rcases hx.2 with h1 | ⟨k,c,el,fz,h1,h2,h3,h4,h5⟩
  ·exact .inl h1
  ·exact .inr ⟨k,h1,h5⟩
 ·rcases hx.2 with h1 | ⟨k,h1,h2,h3⟩
  ·exact .inl h1
  ·exact .inr ⟨k,h1,h3⟩
theorem Vxz:∀ {a b':List D} {b o:Nat},VC I w a b o→VC I w b' b (o+a.length)→VC I w (a++b') b o
 | [],_,_,_,_,h=>by simpa using h
 | x::a,b',b,o,h1,h2=>by
  simp only [VC,Qo] at h1 ⊢
  refine ⟨h1.1,Vxz h1.2 ?_⟩
  simp only [Qv] at h2
  rwa [show o+1+a.length=o+(a.length+1) by omega]
theorem Vnd {s:Nat}:∀ {rows:List (List D)} {b o:Nat},VR I w s rows b o→VC I w rows.flatten b o
 | [],_,_,_=>by simp [VC]
 | row::r,b,o,h=>by
  simp only [VR] at h
  simp only [Qh]
  refine Vxz h.2.1 ?_
  rw [h.1]
  exact Vnd h.2.2
theorem Voo {s:Nat}:∀ {rows:List (List D)} {b o:Nat} (i:Nat),VR I w s rows b o→VR I w s (rows.drop i) b (o+i * s)
 | _,_,_,0,h=>by simpa using h
 | [],_,_,_+1,_=>by simp [VR]
 | row::r,b,o,i+1,h=>by
  simp only [VR] at h
  have:=Voo i h.2.2
  simp only [List.drop_succ_cons]
  rwa [show o+s+i * s=o+(i+1) * s by rw [Qe]; omega] at this
theorem Vl0 {t:TypeId} {x d:D} {u:Value} (hm:MRel O I loc m w) (hx:V I w x loc u) (h:loadR P m t x=some d) :
  ∃ z,(Instr.loadAt t u).run P w = .ok z w∧V I w d loc z:=by
 unfold loadR at h
 split at h
 ·rename_i b off
  split at h
  case h_2=>cases h
  rename_i cs hb
  simp only [V] at hx
  have hlt:b < m.nb:=lt_nb (g:=0) hm (by intro e; simp [e] at hx)
  have hbx:=hm.box b hlt
  rw [hb] at hbx; simp only [RelB] at hbx
  obtain ⟨_,k,c,el,fz,hl,hw,_,hone,hv⟩:=hbx
  simp only [hl] at hx; subst hx
  refine Vd8 (Vc6 off hv) (fun x hx=>hone x (Ql hx)) (fun j x hj=>?_) h
  simp only [Q6] at hj
  simp [World.cell?,hw]
  simpa using hj
 ·rename_i b g s i off
  split at h
  case h_2=>cases h
  rename_i rows hr
  simp only [V] at hx
  have hlt:b < m.nb:=lt_nb (g:=g) hm (by intro e; simp [e] at hx)
  rcases Vf7 hm hlt hr with ⟨hl,rfl⟩ | ⟨k,hl,hv⟩
  ·simp only [hl] at hx
  simp only [hl] at hx; subst hx
  have hc:VC I w ((rows.drop i).flatten.drop off) k (i * s+off):=by
   have:=Vf5 off (Vnd (Voo i hv))
   rwa [Qz] at this
  obtain ⟨vs,h1,h2,h3⟩:=Vc8 hc
  exact Vd8 (Vcr h1) h2 h3 h
 ·rename_i cs
  simp only [V] at hx
  obtain ⟨b,o,rfl,hI,hc⟩:=hx
  obtain ⟨vs,h1,h2,h3⟩:=Vc8 hc
  exact Vd8 (Vcr h1) h2 h3 h
 ·cases h
theorem Va5 {I':Nat→Prop} {w':World} {loc':Nat→Nat→Loc} {b:Nat} {x:Box} (h:Ext I I' w w') (hl:LocExt loc loc') (hb:∀ g,loc' b g=loc b g)
  (hs:x.owned=true→∀ g k,loc b g = .blk k→w'.heap[k]? = w.heap[k]?) (hx:RelB I w loc b x):RelB I' w' loc' b x:=by
 cases x with
 | gone=>simp only [RelB] at hx ⊢; intro g; rw [hb]; exact hx g
 | lent=>trivial
 | var cs=>
  simp only [RelB] at hx ⊢
  obtain ⟨h0,k,c,el,fz,h1,h2,h3,h4,h5⟩:=hx
  exact ⟨fun g hg=>by rw [hb]; exact h0 g hg,k,c,el,fz,by rw [hb]; exact h1,(hs rfl 0 k h1).trans h2,h3,h4,Vah h cs loc loc' _ hl h5⟩
 | arr g s rows=>
  simp only [RelB] at hx ⊢
  obtain ⟨h0,hx⟩:=hx
  refine ⟨⟨fun g' hg=>by rw [hb]; exact h0.1 g' hg,fun g' hg=>by rw [hb]; exact h0.2 g' hg⟩,?_⟩
  rcases hx with ⟨h1,h2⟩ | ⟨k,c,el,fz,h1,h2,h3,h4,h5⟩
  ·exact .inl ⟨by rw [hb]; exact h1,h2⟩
  ·exact .inr ⟨k,c,el,fz,by rw [hb]; exact h1,(hs rfl g k h1).trans h2,h3,h4,Vcc h s rows k 0 (hs rfl g k h1) h5⟩
 | frz g s rows=>
  simp only [RelB] at hx ⊢
  obtain ⟨h0,hx⟩:=hx
  refine ⟨⟨fun g' hg=>by rw [hb]; exact h0.1 g' hg,fun g' hg=>by rw [hb]; exact h0.2 g' hg⟩,?_⟩
  rcases hx with ⟨h1,h2⟩ | ⟨k,h1,h2,h3⟩
  ·exact .inl ⟨by rw [hb]; exact h1,h2⟩
  ·exact .inr ⟨k,by rw [hb]; exact h1,h.imm k h2,Vcc h s rows k 0 (h.same k h2) h3⟩
 | iter l pos=>
  simp only [RelB] at hx ⊢
  obtain ⟨h0,k,h1,h2⟩:=hx
  exact ⟨fun g hg=>by rw [hb]; exact h0 g hg,k,by rw [hb]; exact h1,(hs rfl 0 k h1).trans h2⟩
 | mset ks=>
  simp only [RelB] at hx ⊢
  obtain ⟨h0,k,es,ck,h1,h2,h3⟩:=hx
  exact ⟨fun g hg=>by rw [hb]; exact h0 g hg,k,es,ck,by rw [hb]; exact h1,(hs rfl 0 k h1).trans h2,h3⟩
def locNew (loc:Nat→Nat→Loc) (b:Nat) (l:Loc):Nat→Nat→Loc:=fun b' g=>if b'=b then (if g=0 then l else .free) else loc b' g
theorem Var (hm:MRel O I loc m w) (l:Loc):LocExt loc (locNew loc m.nb l):=fun b g=>by
 unfold locNew
 by_cases hb:b=m.nb
 ·subst hb; exact .inl (hm.free _ _ (Qg _))
 ·simp [hb]
theorem Va9 (hi:∀ k,I k→k < w.heap.size) (o:Obj):Ext I I w (w.alloc o):=by
 refine ⟨fun _ h=>h,fun k hk=>RowKit.Below.heap_alloc w o k (hi k hk),fun k=>?_⟩
 rcases Qj k w.heap.size with hk | hk
 ·simp only [rowSize,RowKit.Below.heap_alloc w o k hk]; exact Qg _
 ·have:w.heap[k]? = none:=Qn hk
  simp [rowSize,this]
theorem Vb3 (w:World) (o:Obj):Fr O w (w.alloc o):=⟨rfl,rfl,rfl,by simp,fun k hk _=>RowKit.Below.heap_alloc w o k hk⟩
theorem MRel.alloc (hm:MRel O I loc m w) (o:Obj) (x:Box) (hx:RelB I (w.alloc o) (locNew loc m.nb (.blk w.heap.size)) m.nb x) :
  MRel O I (locNew loc m.nb (.blk w.heap.size)) (m.add x) (w.alloc o):=by
 have he:=Va9 hm.imm o
 have hl:=Var hm (.blk w.heap.size)
 have ne:∀ b,b < m.nb→b≠m.nb:=fun b hb=>Nat.ne_of_lt hb
 have hnb:(m.add x).nb=m.nb+1:=rfl
 have hbx:∀ b,(m.add x).bx b=if b=m.nb then x else m.bx b:=fun b=>rfl
 refine ⟨fun b hb=>?_,fun b g hb=>?_,fun b g k hb ho hk=>?_,fun b b' g g' k hb hb' ho ho' hk hk'=>?_,fun k hk=>?_,fun k hk=>?_⟩
 ·rw [hbx]
  by_cases e:b=m.nb
  ·subst e; rw [if_pos rfl]; exact hx
  ·rw [if_neg e]
   have hlt:b < m.nb:=by omega
   refine Va5 he hl (fun g=>by simp [locNew,e]) (fun ho g k hk=>?_) (hm.box b hlt)
   exact RowKit.Below.heap_alloc w o k (hm.own b g k hlt ho hk).2.2
 ·have:b≠m.nb:=by omega
  simp only [locNew,this,if_false]
  exact hm.free b g (by omega)
 ·rw [hbx] at ho
  by_cases e:b=m.nb
  ·subst e
   simp only [locNew,if_true] at hk
   split at hk
   ·cases hk
    exact ⟨hm.up _ (Qg _),fun hI=>absurd (hm.imm _ hI) (Qal _),by simp⟩
   ·cases hk
  ·rw [if_neg e] at ho
   simp only [locNew,e,if_false] at hk
   have:=hm.own b g k (by omega) ho hk
   exact ⟨this.1,this.2.1,by simp; omega⟩
 ·rw [hbx] at ho ho'
  by_cases e:b=m.nb
  ·by_cases e':b'=m.nb
   ·rw [e,e']
   ·subst e
    simp only [locNew,if_true] at hk
    simp only [locNew,e',if_false] at hk'
    rw [if_neg e'] at ho'
    split at hk
    ·cases hk
     have:=(hm.own b' g' _ (by omega) ho' hk').2.2
     omega
    ·cases hk
  ·by_cases e':b'=m.nb
   ·subst e'
    simp only [locNew,if_true] at hk'
    simp only [locNew,e,if_false] at hk
    rw [if_neg e] at ho
    split at hk'
    ·cases hk'
     have:=(hm.own b g _ (by omega) ho hk).2.2
     omega
    ·cases hk'
   ·rw [if_neg e] at ho
    rw [if_neg e'] at ho'
    simp only [locNew,e,if_false] at hk
    simp only [locNew,e',if_false] at hk'
    exact hm.inj b b' g g' k (by omega) (by omega) ho ho' hk hk'
 ·have:=hm.imm k hk; simp; omega
 ·exact hm.up k (by simp at hk; omega)
end
section
variable {P:Program} {O I:Nat→Prop} {w:World} {loc:Nat→Nat→Loc} {m:Mem}
def Res (O I:Nat→Prop) (loc:Nat→Nat→Loc) (w:World) (r:Result Next) (d:D) (m':Mem):Prop:=
 ∃ v w' loc',(r = .ok (.value v) w'∨(r = .ok .skip w'∧v=undef))∧MRel O I loc' m' w'∧V I w' d loc' v∧Ext I I w w'∧LocExt loc loc'∧Fr O w w'
theorem Res.of_same {r:Result Next} {d:D} (hm:MRel O I loc m w) (h:∃ v,r = .ok (.value v) w∧V I w d loc v):Res O I loc w r d m:=by
 obtain ⟨v,h1,h2⟩:=h
 exact ⟨v,w,loc,.inl h1,hm,h2,.refl _ _,.refl _,.refl _ _⟩
theorem Vay (w:World) (o:Obj):(w.alloc o).heap[w.heap.size]? = some o:=by
 show (w.heap.push o)[w.heap.size]? = some o
 simp
theorem V_new (b:Nat) (l:Nat):V I w (.bp b 0) (locNew loc b (.blk l)) (.pointer (some ⟨l,0,none⟩)):=by
 simp [V,locNew]
theorem Vzh (hm:MRel O I loc m w) {d:D} {u:Value} (el:TypeId) (hu:∀ I w loc,V I w d loc u) (hf:d.fit=true) :
  Res O I loc w (.ok (.value (.pointer (some ⟨w.heap.size,0,none⟩))) (w.alloc (.cells u.cells el))) (.bp m.nb 0) (m.add (.var d.cells)):=by
 refine ⟨_,_,locNew loc m.nb (.blk w.heap.size),.inl rfl,hm.alloc _ _ ?_,V_new _ _,Va9 hm.imm _,Var hm _,Vb3 _ _⟩
 obtain ⟨h1,h2⟩:=Vbm (hu I (w.alloc (.cells u.cells el)) (locNew loc m.nb (.blk w.heap.size))) hf
 simp only [RelB]
 refine ⟨fun g hg=>by simp [locNew,hg],w.heap.size,u.cells,el,(0,0),by simp [locNew],Vay _ _,fun o _=>by simp,h2,h1⟩
theorem Vs2 (hm:MRel O I loc m w) {t:TypeId} {z:D} (hz:tzero P t=some z) (hf:z.fit=true) (ρ:Operand→Value) (dst:Option Tmp) (ty:TypeId) (pos:String) (af:Array Edge) (gd:Option (Nat×Bool)) :
  Res O I loc w ((execOp ρ ⟨dst,.alloc t,ty,pos,af,gd⟩).run P w) (.bp m.nb 0) (m.add (.var z.cells)):=by
 obtain ⟨v,hv,rfl⟩:=run_zero' hz w
 have:(execOp ρ ⟨dst,.alloc t,ty,pos,af,gd⟩).run P w = .ok (.value (.pointer (some ⟨w.heap.size,0,none⟩))) (w.alloc (.cells v.cells t)):=by
  simp [execOp,Instr.alloc,hv,newVar,newRow]
 rw [this]
 exact Vzh hm t (fun _ _ _=>ofV_V v) hf
theorem Vzi (hm:MRel O I loc m w) {t:TypeId} {x:Operand} {d:D} (ρ:Operand→Value) (hv:V I w d loc (ρ x)) (hf:d.fit=true) (dst:Option Tmp) (ty:TypeId) (pos:String) (af:Array Edge) (gd:Option (Nat×Bool)) :
  Res O I loc w ((execOp ρ ⟨dst,.box t x,ty,pos,af,gd⟩).run P w) (.bp m.nb 0) (m.add (.var d.cells)):=by
 have:(execOp ρ ⟨dst,.box t x,ty,pos,af,gd⟩).run P w = .ok (.value (.pointer (some ⟨w.heap.size,0,none⟩))) (w.alloc (.cells (ρ x).cells t)):=by
  simp [execOp,Instr.box,newVar,newRow]
 rw [this]
 refine ⟨_,_,locNew loc m.nb (.blk w.heap.size),.inl rfl,hm.alloc _ _ ?_,V_new _ _,Va9 hm.imm _,Var hm _,Vb3 _ _⟩
 obtain ⟨h1,h2⟩:=Vbm (Va4 (Va9 hm.imm (.cells (ρ x).cells t)) d loc (locNew loc m.nb (.blk w.heap.size)) (ρ x) (Var hm _) hv) hf
 simp only [RelB]
 exact ⟨fun g hg=>by simp [locNew,hg],w.heap.size,(ρ x).cells,t,(0,0),by simp [locNew],Vay _ _,fun o _=>by simp,h2,h1⟩
theorem MRel.change (hm:MRel O I loc m w) {b:Nat} {loc':Nat→Nat→Loc} {w':World} {x:Box} (hb:b < m.nb) (hown:(m.bx b).owned=true)
  (hl:∀ b',b'≠b→∀ g,loc' b' g=loc b' g) (he:Ext I I w w') (hle:LocExt loc loc') (hx:RelB I w' loc' b x)
  (hself:∀ g k,loc' b g = .blk k→O k∧¬ I k∧k < w'.heap.size∧∀ b',b'≠b→b' < m.nb→(m.bx b').owned=true→∀ g',loc b' g'≠.blk k)
  (hsame:∀ k,k < w.heap.size→(∀ g,loc b g≠.blk k)→w'.heap[k]? = w.heap[k]?) (hsize:w.heap.size≤w'.heap.size) :
  MRel O I loc' (m.set b x) w':=by
 have hbx:∀ b',(m.set b x).bx b'=if b'=b then x else m.bx b':=fun b'=>rfl
 have hnb:(m.set b x).nb=m.nb:=rfl
 refine ⟨fun b' hb'=>?_,fun b' g hb'=>?_,fun b' g k hb' ho hk=>?_,fun b1 b2 g g' k h1 h2 ho ho' hk hk'=>?_,fun k hk=>?_,fun k hk=>hm.up k (by omega)⟩
 ·rw [hbx]
  by_cases e:b'=b
  ·subst e; rw [if_pos rfl]; exact hx
  ·rw [if_neg e]
   refine Va5 he hle (hl b' e) (fun ho g k hk=>?_) (hm.box b' hb')
   refine hsame k (hm.own b' g k hb' ho hk).2.2 fun g' hg'=>?_
   exact e (hm.inj b' b g g' k hb' hb ho hown hk hg')
 ·have e:b'≠b:=by rw [hnb] at hb'; omega
  rw [hl b' e]; exact hm.free b' g hb'
 ·rw [hbx] at ho
  by_cases e:b'=b
  ·subst e
   have:=hself g k hk
   exact ⟨this.1,this.2.1,this.2.2.1⟩
  ·rw [if_neg e] at ho
   rw [hl b' e] at hk
   have:=hm.own b' g k hb' ho hk
   exact ⟨this.1,this.2.1,by omega⟩
 ·rw [hbx] at ho ho'
  by_cases e1:b1=b
  ·by_cases e2:b2=b
   ·rw [e1,e2]
   ·subst e1
    rw [if_neg e2] at ho'
    rw [hl b2 e2] at hk'
    exact absurd hk' ((hself g k hk).2.2.2 b2 e2 h2 ho' g')
  ·by_cases e2:b2=b
   ·subst e2
    rw [if_neg e1] at ho
    rw [hl b1 e1] at hk
    exact absurd hk ((hself g' k hk').2.2.2 b1 e1 h1 ho g)
   ·rw [if_neg e1] at ho
    rw [if_neg e2] at ho'
    rw [hl b1 e1] at hk
    rw [hl b2 e2] at hk'
    exact hm.inj b1 b2 g g' k h1 h2 ho ho' hk hk'
 ·have:=hm.imm k hk; omega
theorem Vap (g o:Nat) (t:TypeId) (fz:Nat×Nat):∀ (vs:List Value) (i:Nat) (cur:Array Value) (w:World),w.heap[g]? = some (.cells cur t fz)→Unfz fz cur.size→o+i+vs.length≤cur.size→(∀ v∈vs,v.oneCell'=true) →
  (storeCells ⟨g,o,none⟩ vs i).run P w = .ok () (w.setRow g (cur.toList.take (o+i)++vs++cur.toList.drop (o+i+vs.length)).toArray)
 | [],i,cur,w,hg,_,_,_=>by
  simp only [storeCells,Qab,Qa5,Q5,List.take_append_drop,Qap]
  rw [setRow_self w g cur t fz hg]
  rfl
 | v::rest,i,cur,w,hg,hf,hl,h1=>by
  have hi:o+i < cur.size:=by simp at hl; omega
  have hadd:(⟨g,o,none⟩:Addr).add i=⟨g,o+i,none⟩:=Vav g o i
  have hcell:w.cell? ⟨g,o+i,none⟩=some cur[o+i]:=by simp [World.cell?,hg,hi]
  have hfro:w.frozen? ⟨g,o+i,none⟩=false:=by
   have:=hf (o+i) hi
   simp only [World.frozen?,hg]
   simpa using this
  have hst:(store ((⟨g,o,none⟩:Addr).add i) v).run P w = .ok () (w.setRow g (cur.setIfInBounds (o+i) v)):=by
   rw [hadd,run_store P w _ v _ (h1 v (by simp)),hcell]
   simp [hfro,setCell_eq_setRow w g (o+i) cur t fz v hg]
  have ih:=Vap g o t fz rest (i+1) (cur.setIfInBounds (o+i) v) (w.setRow g (cur.setIfInBounds (o+i) v)) (setRow_heap w g cur _ t _ hg) (by simpa using hf) (by simp at hl ⊢; omega) (fun x hx=>h1 x (by simp [hx]))
  simp only [storeCells,Qd,hst,Qc,ih,setRow_setRow]
  congr 3
  have:=list_seg_step cur.toList (o+i) v rest (by simp at hl ⊢; omega)
  simp only [Array.toList_setIfInBounds,Qv]
  rw [← this]
  congr 2
theorem Vcl {k:Nat} (hI:¬ I k) {c c':Array Value} {el:TypeId} {fz:Nat×Nat} (hk:w.heap[k]? = some (.cells c el fz)) (hs:c'.size=c.size):Ext I I w (w.setRow k c'):=by
 refine ⟨fun _ h=>h,fun b hb=>setRow_other w k b c' (fun e=>hI (e ▸ hb)),fun b=>?_⟩
 by_cases e:b=k
 ·subst e; simp [rowSize,hk,setRow_heap w b c c' el fz hk,hs]
 ·simp [rowSize,setRow_other w k b c' e]
theorem Vl1 {k:Nat} (hO:O k) (c':Array Value):Fr O w (w.setRow k c'):=
 ⟨rfl,rfl,rfl,by simp,fun b _ hb=>setRow_other w k b c' (fun e=>hb (e ▸ hO))⟩
theorem MRel.store (hm:MRel O I loc m w) {b g k:Nat} {x:Box} {c c':Array Value} {el:TypeId} {fz:Nat×Nat} (hb:b < m.nb) (hown:(m.bx b).owned=true) (hl:loc b g = .blk k)
  (hk:w.heap[k]? = some (.cells c el fz)) (hs:c'.size=c.size) (hx:RelB I (w.setRow k c') loc b x):MRel O I loc (m.set b x) (w.setRow k c')∧Ext I I w (w.setRow k c')∧Fr O w (w.setRow k c'):=by
 have ho:=hm.own b g k hb hown hl
 have he:=Vcl ho.2.1 hk hs
 refine ⟨hm.change hb hown (fun _ _ _=>rfl) he (.refl _) hx (fun g' k' hk'=>?_) (fun k' _ hk'=>setRow_other w k k' c' (fun e=>hk' g (e ▸ hl))) (by simp),he,Vl1 ho.1 c'⟩
 ·have:=hm.own b g' k' hb hown hk'
  refine ⟨this.1,this.2.1,by simpa using this.2.2,fun b' hb' h1 h2 g2 hg2=>hb' (hm.inj b' b g2 g' k' h1 hb h2 hown hg2 hk')⟩
theorem Vj7 (hm:MRel O I loc m w) {t:TypeId} {b off sz:Nat} {cs:List D} {y:D} {u v:Value} (hx:V I w (.bp b off) loc u) (hy:V I w y loc v) (hf:y.fit=true)
  (hsz:tsz P t=some sz) (hlen:y.cells.length=sz) (hbx:m.bx b = .var cs) (hoff:off+sz≤cs.length) :
  ∃ w',(Instr.storeAt t u v).run P w = .ok () w'∧MRel O I loc (m.set b (.var (setCells cs off y.cells))) w'∧Ext I I w w'∧Fr O w w':=by
 simp only [V] at hx
 have hlt:b < m.nb:=lt_nb (g:=0) hm (by intro e; simp [e] at hx)
 have hb:=hm.box b hlt
 rw [hbx] at hb; simp only [RelB] at hb
 obtain ⟨h0,k,c,el,fz,hl,hw,hu,hone,hv⟩:=hb
 simp only [hl] at hx; subst hx
 obtain ⟨hc1,hc2⟩:=Vbm hy hf
 have hcl:=Vaf hc1
 have hcs:=Vaf hv
 have hvs:v.cells.size=sz:=by simpa [hlen] using hcl
 have hcz:c.size=cs.length:=by simpa using hcs
 have hrun:=Vap (P:=P) k off el fz v.cells.toList 0 c w hw hu (by simp; omega) hc2
 simp only [Q5] at hrun
 let l':=c.toList.take off++v.cells.toList++c.toList.drop (off+v.cells.toList.length)
 have hl':l'.length=c.size:=by simp [l']; omega
 have hst:=hm.store (x:=.var (setCells cs off y.cells)) (c':=l'.toArray) hlt (by rw [hbx]; rfl) hl hw (by simp [hl']) (by
  simp only [RelB]
  refine ⟨h0,k,l'.toArray,el,fz,hl,setRow_heap w k c _ el fz hw,by simpa [hl'] using hu,?_,?_⟩
  ·intro x hx
   simp only [l',Qm] at hx
   rcases hx with (hx | hx) | hx
   ·exact hone x (Qs hx)
   ·exact hc2 x hx
   ·exact hone x (Ql hx)
  ·have he:=Vcl (hm.own b 0 k hlt (by rw [hbx]; rfl) hl).2.1 hw (c':=l'.toArray) (by simp [hl'])
   exact Vah he _ loc loc _ (.refl _) (Vlz cs c.toList off y.cells v.cells.toList hv hc1 (by omega)))
 refine ⟨w.setRow k l'.toArray,?_,hst.1,hst.2.1,hst.2.2⟩
 simp only [Instr.storeAt,Instr.sureAddr,storeVar,Qd,Qf,Qc,run_sizeOf' hsz]
 simp [hvs]
 exact hrun
end
section
variable {P:Program} {O I:Nat→Prop} {w:World} {loc:Nat→Nat→Loc} {m:Mem}
mutual
theorem Vx0:∀ {d:D} {v:Value},d.pure=true→V I w d loc v→V I w d free v
 | .dead,_,_,_=>trivial
 | .bool _,_,_,h=>by simpa only [V] using h
 | .int _ _,_,_,h=>by simpa only [V] using h
 | .str _,_,_,h=>by simpa only [V] using h
 | .lit _,_,_,h=>by simpa only [V] using h
 | .nilp,_,_,h=>by simpa only [V] using h
 | .nils,_,_,h=>by simpa only [V] using h
 | .rs _ _,_,_,h=>by simpa only [V] using h
 | .rp _,_,_,h=>by simpa only [V] using h
 | .agg cs,v,hp,h=>by
  simp only [V] at h ⊢
  simp only [D.pure] at hp
  obtain ⟨vs,rfl,h1,h2⟩:=h
  exact ⟨vs,rfl,h1,Ve9 hp h2⟩
 | .bp _ _,_,hp,_=>by simp [D.pure] at hp
 | .mp _,_,hp,_=>by simp [D.pure] at hp
 | .ap _ _ _ _ _,_,hp,_=>by simp [D.pure] at hp
 | .bs _ _ _ _ _,_,hp,_=>by simp [D.pure] at hp
 | .tup _,_,hp,_=>by simp [D.pure] at hp
 | .fn _ _,_,hp,_=>by simp [D.pure] at hp
theorem Ve9:∀ {ds:List D} {vs:List Value},pureL ds=true→VL I w ds loc vs→VL I w ds free vs
 | [],_,_,h=>by simpa only [VL] using h
 | d::r,vs,hp,h=>by
  simp only [VL] at h ⊢
  simp only [pureL,Qa3] at hp
  obtain ⟨v,vr,rfl,h1,h2⟩:=h
  exact ⟨v,vr,rfl,Vx0 hp.1 h1,Ve9 hp.2 h2⟩
end
theorem Vf8 {d:D} (hp:d.pure=true):pureL d.cells=true:=by
 cases d<;>simp_all [D.cells,D.pure,pureL]
theorem Vj8 {I':Nat→Prop} {w':World} (h:Ext I I' w w'):∀ {cs:List D} {b o:Nat},(∀ j,j < cs.length→w'.cell? ⟨b,o+j,none⟩=w.cell? ⟨b,o+j,none⟩)→VC I w cs b o→VC I' w' cs b o
 | [],_,_,_,_=>trivial
 | d::r,b,o,hc,hv=>by
  simp only [VC] at hv ⊢
  obtain ⟨⟨c,h1,h2,h3⟩,hr⟩:=hv
  refine ⟨⟨c,by rw [← h1]; simpa using hc 0 (by simp),h2,Va4 h d _ _ c (.refl _) h3⟩,Vj8 h (fun j hj=>?_) hr⟩
  have:=hc (j+1) (by simpa using hj)
  have e:o+1+j=o+(j+1):=by omega
  rw [e]; exact this
theorem Vl2 {s:Nat}:∀ {rows:List (List D)} {b o:Nat},VR I w s rows b o↔∀ (i:Nat) (row:List D),rows[i]? = some row→row.length=s∧VC I w row b (o+i * s)
 | [],b,o=>by simp [VR]
 | row::r,b,o=>by
  simp only [VR]
  rw [Vl2 (rows:=r)]
  constructor
  ·rintro ⟨h1,h2,h3⟩ i x hi
   cases i with
   | zero=>simp at hi; subst hi; exact ⟨h1,by simpa using h2⟩
   | succ i=>
    have:=h3 i x (by simpa using hi)
    have e:o+s+i * s=o+(i+1) * s:=by rw [Qe]; omega
    rw [e] at this
    exact this
  ·intro h
   refine ⟨(h 0 row (by simp)).1,by simpa using (h 0 row (by simp)).2,fun i x hi=>?_⟩
   have:=h (i+1) x (by simpa using hi)
   have e:o+s+i * s=o+(i+1) * s:=by rw [Qe]; omega
   rw [e]
   exact this
theorem Vne (l ws:List Value) (p j:Nat) (hp:p+ws.length≤l.length):(l.take p++ws++l.drop (p+ws.length))[j]? = if j < p then l[j]? else if j < p+ws.length then ws[j - p]? else l[j]?:=by
 have hlp:(l.take p).length=p:=by simp; omega
 rw [List.append_assoc,Q2,hlp]
 split
 ·simp [*]
 ·rw [Q2]
  split
  ·rw [if_pos (by omega)]
  ·rw [if_neg (by omega),Q6]
   congr 1; omega
theorem Vj9 (hm:MRel O I loc m w) {t:TypeId} {b g s i off sz:Nat} {rows:List (List D)} {row:List D} {y:D} {u v:Value} (hx:V I w (.ap b g s i off) loc u) (hy:V I w y loc v) (hf:y.fit=true) (hp:y.pure=true)
  (hsz:tsz P t=some sz) (hlen:y.cells.length=sz) (hbx:m.bx b = .arr g s rows) (hrow:rows[i]? = some row) (hoff:off+sz≤row.length) :
  ∃ w',(Instr.storeAt t u v).run P w = .ok () w'∧MRel O I loc (m.set b (.arr g s (rows.set i (setCells row off y.cells)))) w'∧Ext I I w w'∧Fr O w w':=by
 simp only [V] at hx
 have hlt:b < m.nb:=lt_nb (g:=g) hm (by intro e; simp [e] at hx)
 have hb:=hm.box b hlt
 rw [hbx] at hb; simp only [RelB] at hb
 obtain ⟨h0,hb⟩:=hb
 rcases hb with ⟨_,rfl⟩ | ⟨k,c,el,fz,hl,hw,hu,hrc,hv⟩
 ·simp at hrow
 simp only [hl] at hx; subst hx
 have hil:i < rows.length:=by
  rcases Qj i rows.length with h | h
  ·exact h
  ·rw [Qk h] at hrow; cases hrow
 have hrl:=Vfj hv hrow
 obtain ⟨hc1,hc2⟩:=Vbm hy hf
 have hc1:=Ve9 (Vf8 hp) hc1
 have hcl:=Vaf hc1
 have hvs:v.cells.size=sz:=by simpa [hlen] using hcl
 have hbig:(i+1) * s≤rows.length * s:=Qt s hil
 rw [Qe,Nat.one_mul] at hbig
 have hfit:i * s+off+v.cells.toList.length≤c.size:=by simp; omega
 have hrun:=Vap (P:=P) k (i * s+off) el fz v.cells.toList 0 c w hw hu (by simpa using hfit) hc2
 simp only [Q5] at hrun
 let l':=c.toList.take (i * s+off)++v.cells.toList++c.toList.drop (i * s+off+v.cells.toList.length)
 have hl':l'.length=c.size:=by simp [l'] at hfit ⊢; omega
 have he:=Vcl (hm.own b g k hlt (by rw [hbx]; rfl) hl).2.1 hw (c':=l'.toArray) (by simp [hl'])
 have hcell:∀ j,(w.setRow k l'.toArray).cell? ⟨k,j,none⟩=if j < i * s+off then c[j]? else if j < i * s+off+v.cells.toList.length then v.cells.toList[j - (i * s+off)]? else c[j]?:=by
  intro j
  rw [cell_setRow_same w k j c l'.toArray el fz hw]
  have:=Vne c.toList v.cells.toList (i * s+off) j (by simpa using hfit)
  simpa [l'] using this
 have hold:∀ j,w.cell? ⟨k,j,none⟩=c[j]?:=fun j=>by simp [World.cell?,hw]
 have hst := hm.store (x := .arr g s (rows.set i (setCells row off y.cells))) (c' := l'.toArray) hlt (by rw [hbx]; rfl) hl hw (by simp [hl']) (by
  simp only [RelB]
  refine ⟨h0,.inr ⟨k,l'.toArray,el,fz,hl,setRow_heap w k c _ el fz hw,by simpa [hl'] using hu,by simpa [hl'] using hrc,?_⟩⟩
  rw [Vl2]
  intro j x hj
  rw [List.getElem?_set] at hj
  split at hj
  ·rename_i hij
   subst hij
   simp only [Qa] at hj; subst hj
   refine ⟨by rw [Vbn _ _ _ (by omega)]; exact hrl.1,?_⟩
   obtain ⟨us,q1,q2,q3⟩:=Vc8 hrl.2
   have hus:=Vaf q1
   refine Vdm (Vah he _ free free _ (.refl _) (Vlz row us off y.cells v.cells.toList q1 hc1 (by omega))) ?_ ?_
   ·intro z hz
    simp only [Qm] at hz
    rcases hz with (hz | hz) | hz
    ·exact q2 z (Qs hz)
    ·exact hc2 z hz
    ·exact q2 z (Ql hz)
   ·intro q z hz
    rw [hcell]
    have hsg:=Vne us v.cells.toList off q (by simp; omega)
    rw [hsg] at hz
    have hql:q < us.length:=by
     rcases Qj q us.length with h | h
     ·exact h
     ·split at hz
      ·omega
      ·split at hz
       ·simp at hfit; simp at *; omega
       ·rw [Qk h] at hz; cases hz
    have q4:∀ z,us[q]? = some z→c[0+i * s+q]? = some z:=fun z hz=>by rw [← hold]; exact q3 q z hz
    split at hz
    ·rw [if_pos (by omega)]; exact q4 z hz
    ·split at hz
     ·rw [if_neg (by omega),if_pos (by omega)]
      rw [← hz]; congr 1; omega
     ·rw [if_neg (by omega),if_neg (by omega)]; exact q4 z hz
  ·rename_i hij
   have hx:=Vfj hv hj
   refine ⟨hx.1,Vj8 he (fun q hq=>?_) hx.2⟩
   rw [hcell,hold]
   have hjl:j < rows.length:=by
    rcases Qj j rows.length with h | h
    ·exact h
    ·rw [Qk h] at hj; cases hj
   have hsep:j * s+s≤i * s∨i * s+s≤j * s:=by
    rcases Qj j i with h | h
    ·left
     have:(j+1) * s≤i * s:=Qt s h
     rw [Qe] at this; omega
    ·right
     have:(i+1) * s≤j * s:=Qt s (by omega)
     rw [Qe] at this; omega
   have hvl:v.cells.toList.length=sz:=by simpa using hvs
   rw [hvl]
   split
   ·rfl
   ·split
    ·omega
    ·rfl)
 refine ⟨w.setRow k l'.toArray,?_,hst.1,hst.2.1,hst.2.2⟩
 simp only [Instr.storeAt,Instr.sureAddr,storeVar,Qd,Qf,Qc,run_sizeOf' hsz]
 simp [hvs]
 exact hrun
theorem Vbb {s:Nat}:∀ {rows:List (List D)} {vs:List Value} {b o:Nat},(∀ row∈rows,row.length=s)→VL I w rows.flatten free vs→(∀ x∈vs,x.oneCell'=true) →
  (∀ j x,vs[j]? = some x→w.cell? ⟨b,o+j,none⟩=some x)→VR I w s rows b o
 | [],vs,b,o,_,_,_,_=>by simp [VR]
 | row::r,vs,b,o,hs,hv,h1,hc=>by
  simp only [Qh] at hv
  have hrow:row.length=s:=hs row (by simp)
  have ht:=Vd5 row.length hv
  have hd:=Vc6 row.length hv
  rw [List.take_left] at ht
  rw [List.drop_left] at hd
  simp only [VR]
  refine ⟨hrow,Vdm ht (fun x hx=>h1 x (Qs hx)) (fun j x hj=>?_),Vbb (fun x hx=>hs x (by simp [hx])) hd (fun x hx=>h1 x (Ql hx)) (fun j x hj=>?_)⟩
  ·rw [Qax] at hj
   split at hj
   ·exact hc j x hj
   ·cases hj
  ·rw [Q6] at hj
   have:=hc _ x hj
   rw [hrow] at this
   rw [← this]; congr 2; omega
theorem Vf9 {s:Nat}:∀ {rows:List (List D)} {b o:Nat},VR I w s rows b o→∃ vs:List Value,VL I w rows.flatten free vs∧(∀ x∈vs,x.oneCell'=true)∧vs.length=rows.length * s∧∀ j x,vs[j]? = some x→w.cell? ⟨b,o+j,none⟩=some x
 | [],b,o,_=>⟨[],by simp [VL],by simp,by simp,by simp⟩
 | row::r,b,o,h=>by
  simp only [VR] at h
  obtain ⟨hs,hc,hr⟩:=h
  obtain ⟨us,u1,u2,u3⟩:=Vc8 hc
  obtain ⟨vs,v1,v2,v4,v3⟩:=Vf9 hr
  have hul:=Vaf u1
  refine ⟨us++vs,by rw [Qh]; exact Va0 u1 v1,?_,?_,fun j x hj=>?_⟩
  ·intro x hx
   simp only [Qm] at hx
   rcases hx with hx | hx
   ·exact u2 x hx
   ·exact v2 x hx
  ·simp only [Qp,Qv,v4,hul,hs]; rw [Qe]; omega
  ·rw [Q2] at hj
   split at hj
   ·exact u3 j x hj
   ·have:=v3 _ x hj
    rw [← this]; congr 2; omega
end
section
variable {P:Program} {O I:Nat→Prop} {w:World} {loc:Nat→Nat→Loc} {m:Mem}
theorem Vg2 (z:List Value):∀ n:Nat,(Q1 (n * z.length)).map (fun i=>z.toArray[i % z.length]!)=(Qi n z).flatten
 | 0=>by simp
 | n+1=>by
  have e:(n+1) * z.length=n * z.length+z.length:=by rw [Qe]; omega
  rw [e,Qah,List.map_append,Vg2 z n,List.replicate_succ',Qau]
  congr 1
  simp only [List.map_map,List.flatten_singleton]
  apply Qa2
  ·simp
  ·intro i h1 h2
   simp only [List.length_map,List.length_range] at h1
   simp only [List.getElem_map,List.getElem_range,Function.comp]
   have:(n * z.length+i) % z.length=i:=by rw [Nat.mul_comm,Nat.mul_add_mod,Nat.mod_eq_of_lt h1]
   rw [this]
   simp [h1]
theorem Vd9 (z:List Value) (n:Nat):Builtin.zeroCells z.toArray n=((Qi n z).flatten).toArray:=by
 unfold Builtin.zeroCells
 apply Qu
 have:=Vg2 z n
 simpa [Qav] using this
theorem Vdz {s:Nat}:∀ (rows:List (List D)) (i:Nat) (vs:List D),(∀ row ∈ rows,row.length=s) → vs.length=s → i < rows.length →
    setCells rows.flatten (i * s) vs=(rows.set i vs).flatten
  | [],i,vs,_,_,h=>by simp at h
  | row :: r,0,vs,hs,hv,_=>by
    have hrow:row.length=s:=hs row (by simp)
    have gen : ∀ (a b v : List D), v.length = a.length → setCells (a ++ b) 0 v = v ++ b := by
      intro a
      induction a with
      | nil => intro b v hv; have : v = [] := by simpa using hv
               subst this; cases b <;> simp [setCells]
      | cons x a ih=>
        intro b v hv
        cases v with
        | nil=>simp at hv
        | cons y v=>simp only [Qo,setCells]; rw [ih b v (by simpa using hv)]
    simp only [Qh,Nat.zero_mul,List.set_cons_zero]
    exact gen row _ vs (by omega)
  | row :: r,i + 1,vs,hs,hv,h=>by
    have hrow:row.length=s:=hs row (by simp)
    have gen:∀ (a b v:List D) (k:Nat),setCells (a ++ b) (a.length + k) v=a ++ setCells b k v:=by
      intro a
      induction a with
      | nil=>intro b v k; simp
      | cons x a ih=>
        intro b v k
        cases v with
        | nil=>simp [setCells]
        | cons y v=>
          have:(x :: a).length + k=(a.length + k) + 1:=by simp; omega
          rw [this]
          simp only [Qo,setCells]
          rw [ih]
    have e:(i + 1) * s=row.length + i * s:=by rw [Qe,hrow]; omega
    simp only [Qh,List.set_cons_succ]
    rw [e,gen,Vdz r i vs (fun x hx=>hs x (by simp [hx])) hv (by simpa using h)]
theorem Vai {s:Nat}:∀ (rows:List (List D)),(∀ row∈rows,row.length=s)→rows.flatten.length=rows.length * s
 | [],_=>by simp
 | row::r,h=>by
  simp only [Qh,Qp,Qv]
  rw [Vai r (fun x hx=>h x (by simp [hx])),h row (by simp),Qe]; omega
theorem Vdn {s:Nat} {e:Operand→D}:∀ (ps:List (Nat×Operand)) (rows rows':List (List D)),(∀ row∈rows,row.length=s) →
  rowParts P s rows (ps.map fun p=>(p.1,e p.2))=some rows' →
  fillD (fun i=>some (i * s,s)) rows.flatten (ps.map fun p=>(p.1,e p.2))=some rows'.flatten∧(∀ row∈rows',row.length=s)∧rows'.length=rows.length∧((∀ row∈rows,pureL row=true)→∀ row∈rows',pureL row=true)
 | [],rows,rows',hs,h=>by
  simp only [Qbc,rowParts,Qa] at h; subst h
  exact ⟨rfl,hs,rfl,fun h=>h⟩
 | (i, x)::r, rows, rows', hs, h => by
  simp only [Qx,rowParts] at h
  split at h
  case isFalse=>cases h
  rename_i hc
  obtain ⟨h1,h2,h3,h4⟩:=hc
  have hs':∀ row∈rows.set i (e x).cells,row.length=s:=fun row hr=>by
   rcases Qaj hr with hr | rfl
   ·exact hs row hr
   ·exact h2
  obtain ⟨q1,q2,q3,q4⟩:=Vdn r _ rows' hs' h
  refine ⟨?_,q2,by simpa using q3,fun hp=>q4 fun row hr=>?_⟩
  ·simp only [Qx,fillD]
   rw [Vdz rows i _ hs h2 h4,if_pos]
   ·exact q1
   ·refine ⟨h1,h2,?_⟩
    rw [Vai rows hs]
    have:(i+1) * s≤rows.length * s:=Qt s h4
    rw [Qe] at this; omega
  ·rcases Qaj hr with hr | rfl
   ·exact hp row hr
   ·exact Vf8 h3
theorem Vfn:∀ (rows:List (List D)),(∀ row∈rows,pureL row=true)→pureL rows.flatten=true
 | [],_=>rfl
 | row::r,h=>by
  have app:∀ a b:List D,pureL a=true→pureL b=true→pureL (a++b)=true:=by
   intro a
   induction a with
   | nil=>intro b _ hb; exact hb
   | cons x a ih=>intro b ha hb; simp only [Qo,pureL,Qa3] at ha ⊢; exact ⟨ha.1,ih b ha.2 hb⟩
  rw [Qh]
  exact app _ _ (h row (by simp)) (Vfn r fun x hx=>h x (by simp [hx]))
theorem Vfo {e:TypeId} {s:Nat} {z:List D} (h:zrow P e s=some z) (w:World):∃ v,(zeroValue e).run P w = .ok v w∧z=(ofV v).cells∧z.length=s∧pureL z=true∧(ofV v).fit=true∧v.cells.size=s:=by
 unfold zrow at h
 split at h
 case h_2=>cases h
 rename_i d hd
 obtain ⟨v,hv,rfl⟩:=run_zero' hd w
 split at h
 case isFalse=>cases h
 rename_i hc
 simp only [Qa] at h; subst h
 have:=Vaf (Vbm (I:=fun _=>True) (w:=w) (loc:=free) (ofV_V v) hc.1).1
 exact ⟨v,hv,rfl,hc.2.1,Vf8 hc.2.2,hc.1,by rw [← hc.2.1,← this]; simp⟩
theorem Vs3 (hm:MRel O I loc m w) {s n cap:Nat} {rows:List (List D)} {vs:List Value} (el:TypeId) (hs:∀ row∈rows,row.length=s) (_hn:rows.length=n) (hv:VL I w rows.flatten free vs) (h1:∀ x∈vs,x.oneCell'=true) (rest:List Value) (hcap:cap * s=(vs++rest).length) (hle:n≤cap) :
  Res O I loc w (.ok (.value (.slice (some ⟨w.heap.size,0,none⟩) n cap)) (w.alloc (.cells (vs++rest).toArray el))) (.bs m.nb 0 s 0 n) (m.add (.arr 0 s rows)):=by
 have hvl:=Vaf hv
 have he:=Va9 hm.imm (.cells (vs++rest).toArray el)
 refine ⟨_,_,locNew loc m.nb (.blk w.heap.size),.inl rfl,hm.alloc _ _ ?_,?_,he,Var hm _,Vb3 _ _⟩
 ·simp only [RelB]
  refine ⟨⟨fun g hg=>by omega,fun g hg=>by simp [locNew]; omega⟩,.inr ⟨w.heap.size,_,el,(0,0),by simp [locNew],Vay _ _,fun o _=>by simp,?_,?_⟩⟩
  ·rw [Vai rows hs] at hvl
   simp; omega
  ·refine Vbb hs (Vah he _ free free vs (.refl _) hv) h1 fun j x hj=>?_
   simp only [World.cell?,Vay,Qz]
   have hj':j < vs.length:=by
    rcases Qj j vs.length with h | h
    ·exact h
    ·rw [Qk h] at hj; cases hj
   simp [Q7 hj',hj]
 ·simp only [V,locNew,if_true]
  exact ⟨0,cap,rfl,hle,.inr (by simp),by rw [rowSize,Vay]; simpa using Nat.le_of_eq hcap⟩
theorem Vi3 (hm:MRel O I loc m w) {e:Operand→D} {ρ:Operand→Value} (he:∀ x,V I w (e x) loc (ρ x)) {t el:TypeId} {n sz:Nat} {parts:Array (Nat×Operand)} {z:List D} {rows:List (List D)}
  (ht:telem P t=some el) (hsz:tsz P el=some sz) (hn:n * sz≤16777216) (hz:zrow P el sz=some z) (hr:rowParts P sz (Qi n z) (parts.toList.map fun p=>(p.1,e p.2))=some rows) :
  ∃ v w',(Instr.buildSlice t n (parts.map fun (i,x)=>(i,ρ x))).run P w = .ok v w'∧Res O I loc w (.ok (.value v) w') (.bs m.nb 0 sz 0 n) (m.add (.arr 0 sz rows)):=by
 have hp:(parts.map fun (i,x)=>(i,ρ x)).toList=parts.toList.map fun p=>(p.1,ρ p.2):=by simp
 obtain ⟨v,hv,rfl,hzl,hzp,hzf,hvz⟩:=Vfo hz w
 obtain ⟨q1,q2,q3,q4⟩:=Vdn parts.toList (Qi n (ofV v).cells) rows (fun row hr=>by rw [Q8 hr]; exact hzl) hr
 obtain ⟨hc1,hc2⟩:=Vbm (I:=I) (w:=w) (loc:=loc) (ofV_V v) hzf
 have hflat:∀ n,VL I w (Qi n (ofV v).cells).flatten loc (Qi n v.cells.toList).flatten:=by
  intro n
  induction n with
  | zero=>simp [VL]
  | succ n ih=>simp only [List.replicate_succ,Qh]; exact Va0 hc1 ih
 have hone:∀ x∈(Qi n v.cells.toList).flatten,x.oneCell'=true:=by
  intro x hx
  rw [List.mem_flatten] at hx
  obtain ⟨l,hl,hx⟩:=hx
  rw [Q8 hl] at hx
  exact hc2 x hx
 obtain ⟨vs,hvs,ho,hl⟩:=Vfm he parts.toList _ _ _ (hflat n) hone q1
 have hlen:rows.length=n:=by simpa using q3
 have hpure:=Vfn rows (q4 fun row hr=>by rw [Q8 hr]; exact hzp)
 have hres:=Vs3 hm (n:=n) (cap:=n) el q2 hlen (Ve9 hpure hl) ho [] (by rw [Qab,Vaf hl,Vai rows q2,hlen]) (Qg _)
 refine ⟨_,_,?_,hres⟩
 have hcells:(Array.range (n * sz)).map ((if n * sz=0 then (#[]:Array Value) else v.cells)[· % (if n * sz=0 then (#[]:Array Value) else v.cells).size]!)=((Qi n v.cells.toList).flatten).toArray:=by
  by_cases h0:n * sz=0
  ·rw [if_pos h0,h0]
   have:((Qi n v.cells.toList).flatten).length=0:=by
    rw [Qat]; simp [Qaw,Qam,hvz,h0]
   have e:(Qi n v.cells.toList).flatten=[]:=List.eq_nil_of_length_eq_zero this
   rw [e]; simp
  ·rw [if_neg h0]
   apply Qu
   have:=Vg2 v.cells.toList n
   simp only [Qar,hvz,Qap] at this
   simpa [Qav,hvz] using this
 have hnot:¬ n * sz > 2 ^ 24:=by simp; omega
 by_cases h0:n * sz=0
 ·simp only [h0,if_true] at hcells
  simp only [Instr.buildSlice,Qd,run_underlying (Val ht),Qc,run_sizeOf' hsz,h0,if_true,hp]
  simp only [gt_iff_lt,Nat.not_lt_zero,if_false,hcells,hvs,Qf,Qc,Qd,newRow,run_newObj,World.alloc_eq,Qab]
 ·simp only [h0,if_false] at hcells
  simp only [Instr.buildSlice,Qd,run_underlying (Val ht),Qc,run_sizeOf' hsz,h0,if_false,Qf,hp,hnot,hv,hcells,hvs,newRow,run_newObj,World.alloc_eq,Qab]
end
section
variable {P:Program} {O I:Nat→Prop} {w:World} {loc:Nat→Nat→Loc} {m:Mem}
theorem Ext.of_heap {w':World} (h:w'.heap=w.heap):Ext I I w w':=⟨fun _ h=>h,fun b _=>by rw [h],fun b=>by simp [rowSize,h]⟩
theorem MRel.of_heap {w':World} (h:w'.heap=w.heap) (hm:MRel O I loc m w):MRel O I loc m w':=
 ⟨fun b hb=>Va5 (Ext.of_heap h) (.refl _) (fun _=>rfl) (fun _ g k _=>by rw [h]) (hm.box b hb),hm.free,fun b g k hb ho hk=>by rw [h]; exact hm.own b g k hb ho hk,hm.inj,fun k hk=>by rw [h]; exact hm.imm k hk,fun k hk=>hm.up k (by rw [← h]; exact hk)⟩
theorem Res.from {w1:World} {r:Result Next} {d:D} {m':Mem} (h:w1.heap=w.heap) (ho:w1.os=w.os) (ht:w1.tape=w.tape) (hp:w1.output=w.output) (hr:Res O I loc w1 r d m'):Res O I loc w r d m':=by
 obtain ⟨v,w',loc',h1,h2,h3,h4,h5,h6⟩:=hr
 exact ⟨v,w',loc',h1,h2,h3,(Ext.of_heap h).trans h4,h5,(Fr.mk ho ht hp (by rw [h]; exact Qg _) (fun b _ _=>by rw [h])).trans h6⟩
theorem Vl3 (newLen:Nat):∀ (r c:Nat),c < newLen→Builtin.growBy newLen r c≤2 * newLen+192
 | 0,c,h=>by simp only [Builtin.growBy]; omega
 | r+1,c,h=>by
  simp only [Builtin.growBy]
  rw [if_neg (by omega)]
  by_cases h':c+(c+768) / 4 < newLen
  ·exact Vl3 newLen r _ h'
  ·cases r with
   | zero=>simp only [Builtin.growBy]; omega
   | succ r=>simp only [Builtin.growBy]; rw [if_pos (by omega)]; omega
theorem Vje {need cap:Nat} (h:cap < need):Builtin.nextslicecap need cap≤2 * need+192:=by
 unfold Builtin.nextslicecap
 split
 ·omega
 ·split
  ·omega
  ·exact Vl3 need 4 cap h
structure Src (P:Program) (I:Nat→Prop) (w:World) (s:Nat) (rows:List (List D)) (vs:List Value) (x:Value):Prop where
 len:Builtin.lenOf x=pure rows.length
 first:∀ w2:World,w2.heap=w.heap→(Builtin.firstCells s rows.length x).run P w2 = .ok vs.toArray w2
 vl:VL I w rows.flatten free vs
 one:∀ x∈vs,x.oneCell'=true
 row:∀ row∈rows,row.length=s
theorem Vs4 {s:Nat} {rows:List (List D)} {b o:Nat} (h:VR I w s rows b o):∀ row∈rows,row.length=s:=by
 intro row hr
 obtain ⟨i,hi⟩:=List.getElem?_of_mem hr
 exact (Vfj h hi).1
theorem Vhs {s n cap k o:Nat} {rows:List (List D)} (hv:VR I w s rows k o) (hn:rows.length=n):∃ vs,Src P I w s rows vs (.slice (some ⟨k,o,none⟩) n cap):=by
 obtain ⟨vs,h1,h2,h3,h4⟩:=Vf9 hv
 refine ⟨vs,by simp [Builtin.lenOf,hn],fun w2 h=>?_,h1,h2,Vs4 hv⟩
 have:=run_loadCells_list (P:=P) w2 ⟨k,o,none⟩ vs (fun j x hj=>by rw [Vav,Vlv (w:=w) (by rw [h])]; exact h4 j x hj)
 simp only [Builtin.firstCells]
 rw [← h3]; exact this
theorem Vea {s:Nat} {a:Option Addr} {cap:Nat}:Src P I w s [] [] (.slice a 0 cap):=by
 refine ⟨rfl,fun w2 h=>?_,by simp [VL],by simp,by simp⟩
 cases a with
 | none=>rfl
 | some a=>simp [Builtin.firstCells,loadCells,loadCellsFrom]
theorem Vop {b g s i n:Nat} {rows:List (List D)} (h:m.cut b g s i n=some rows):∃ all,m.rows b g s=some all∧i+n≤all.length∧rows=(all.drop i).take n:=by
 unfold Mem.cut at h
 split at h
 ·rename_i all ha
  split at h
  ·simp only [Qa] at h
   exact ⟨all,ha,by assumption,h.symm⟩
  ·cases h
 ·cases h
theorem Vs5 (hm:MRel O I loc m w) {s:Nat} {x:D} {u:Value} {rows:List (List D)} (hx:V I w x loc u) (h:rowsOf m s x=some rows):∃ vs,Src P I w s rows vs u:=by
 unfold rowsOf at h
 split at h
 ·simp only [Qa] at h; subst h
  simp only [V] at hx; subst hx
  exact ⟨[],Vea⟩
 ·split at h
  ·rename_i hs
   subst hs
   simp only [Qa] at h; subst h
   simp only [V] at hx
   rcases hx with ⟨rfl,_,_,rfl⟩ | ⟨b,o,cap,rfl,_,_,hv⟩
   ·exact ⟨[],Vea⟩
   ·exact Vhs hv rfl
  ·cases h
 ·split at h
  ·rename_i hs
   subst hs
   rename_i b g i n
   obtain ⟨all,ha,hle,rfl⟩:=Vop h
   simp only [V] at hx
   have hlt:b < m.nb:=lt_nb (g:=g) hm (by intro e; simp [e] at hx)
   rcases Vf7 hm hlt ha with ⟨hl,rfl⟩ | ⟨k,hl,hv⟩
   ·simp only [hl] at hx
    obtain ⟨_,rfl,rfl⟩:=hx
    simp only [List.drop_nil,Qba]
    exact ⟨[],Vea⟩
   ·simp only [hl] at hx
    obtain ⟨o,cap,rfl,hn,ho,_⟩:=hx
    have hlen:((all.drop i).take n).length=n:=by simp; omega
    rcases ho with ho | ho
    ·have:n=0:=by omega
     subst this
     simp only [Qa7]
     exact ⟨[],Vea⟩
    ·subst ho
     have:=Vd6 n (Vhn i hv)
     simp only [Qz] at this
     exact Vhs this hlen
  ·cases h
 ·cases h
theorem Vzj (l:List UInt8):∃ vs,Src P I w 1 (bytesD l) vs (.string ⟨l.toArray⟩):=by
 refine ⟨l.map fun b=>.int .u8 b.toNat,by simp [Builtin.lenOf,Vdj,bytesD],fun w2 _=>?_,?_,by simp [Value.oneCell'],by simp [bytesD]⟩
 ·have:(ByteArray.mk l.toArray).extract 0 (bytesD l).length=⟨l.toArray⟩:=by
   rw [Vjc]; simp [bytesD]
  simp only [Builtin.firstCells,this,Qf]
  congr 1
  apply Qu; simp
 ·unfold bytesD
  induction l with
  | nil=>simp [VL]
  | cons b r ih=>simp only [Qx,Qh,Qo,Qaf,VL]; exact ⟨_,_,rfl,rfl,ih⟩
def dr (w:World):World:={ w with drawn:=w.drawn+1 }
theorem Vcs {t t' el ty:TypeId} {dsc:TypeDesc} {sz by':Nat} {z:List D} {u x:Value} {n cap:Nat} {a:Option Addr} {rows rows':List (List D)} {us vs:List Value}
    (ht:telem P t=some el) (ht':P.underlying t'=some dsc) (hni:dsc = .string ∨ ∃ e,dsc = .slice e) (hsz:tsz P el=some sz) (hby:tbytes P el=some by') (hz:zrow P el sz=some z)
    (hu:u = .slice a n cap) (hs:Src P I w sz rows us u) (hn:rows.length=n) (hx:Src P I w sz rows' vs x) (hg:cap < n + rows'.length) (hsm:small (n + rows'.length) by'=true) :
    ∃ newCap rest,n + rows'.length ≤ newCap ∧ newCap * sz=(us ++ vs ++ rest).length ∧
      (Builtin.append_ #[t,t'] ty #[u,x]).run P w = .ok (.slice (some ⟨w.heap.size,0,none⟩) (n + rows'.length) newCap) ((dr w).alloc (.cells (us ++ vs ++ rest).toArray el)):=by
  subst hu
  obtain ⟨v,hv,rfl,hzl,hzp,hzf,hvz⟩:=Vfo hz w
  unfold small at hsm
  simp only [decide_eq_true_eq] at hsm
  obtain ⟨hs1,hs2⟩:=hsm
  unfold tbytes at hby
  rw [Qb] at hby
  obtain ⟨info,hinfo,rfl⟩:=hby
  have hti:∀ w,(typeInfo el).run P w = .ok info w:=fun w=>by simp [typeInfo,hinfo]
  let need:=n + rows'.length
  let q:Question:=.appendCap need cap el
  let newCap:=q.cut (w.tape w.drawn q)
  have hcap:need ≤ newCap:=by simp only [newCap,q,Question.cut]; exact Nat.le_add_right _ _
  let rest:=((Qi (newCap - need) v.cells.toList).flatten)
  have hrest:rest.length=(newCap - need) * sz:=by
    simp only [rest,Qat,Qaw,Qam,Qar,hvz]
  have hul:us.length=n * sz:=by rw [Vaf hs.vl,Vai rows hs.row,hn]
  have hvl:vs.length=rows'.length * sz:=by rw [Vaf hx.vl,Vai rows' hx.row]
  refine ⟨newCap,rest,hcap,?_,?_⟩
  · simp only [Qp,hul,hvl,hrest]
    rw [← Qe,← Qe]
    congr 1
    show newCap=n + rows'.length + (newCap - (n + rows'.length))
    have:n + rows'.length ≤ newCap:=hcap
    omega
  · have hnx:Builtin.nextslicecap need cap * info.bytes ≤ 2 ^ 48:=by
      have h1:=Vje hg
      have h2:Builtin.nextslicecap need cap * info.bytes ≤ (2 * need + 192) * info.bytes:=Qt _ h1
      have h3:(2 * need + 192) * info.bytes ≤ 281474976710656:=hs2
      omega
    have hbig:¬ ((need:Nat):Int) > IntKind.i64.max:=by
      have:need ≤ 70368744177664:=hs1
      simp only [IntKind.max,IntKind.signed,IntKind.bits,if_true]
      omega
    have hno:¬ need ≤ cap:=by show ¬ (n + rows'.length ≤ cap); omega
    have hold:=hs.first (dr w) rfl
    rw [hn] at hold
    have hnew:=hx.first (dr w) rfl
    have hvw:(zeroValue el).run P (dr w) = .ok v (dr w):=by
      have h1:(zeroValue el).run P w = .ok v w:=hv
      simp only [zeroValue,Qd,hti,Qc] at h1 ⊢
      split at h1
      · simp only [Qf,Result.ok.injEq,and_true] at h1
        subst h1; rfl
      · simp at h1
    have hzc:Builtin.zeroCells v.cells (newCap - need)=rest.toArray:=by
      have:=Vd9 v.cells.toList (newCap - need)
      simpa using this
    have hm2:¬ (Builtin.nextslicecap need cap * info.bytes > 2 ^ 48):=by omega
    have hch:(choose q).run P w = .ok newCap (dr w):=by
      rw [run_choose]; rfl
    unfold Builtin.append_
    rcases hni with rfl | ⟨e0,rfl⟩ <;>
    · simp only [Qd,Qao,Q9,Qaa,run_underlying (Val ht),Qc,run_sizeOf' hsz,run_underlying ht',Qf,hx.len,Qq,if_false,Qa9,if_true,Qas,hti,run_askRoom]
      change (if need ≤ cap then _ else _)=_
      rw [if_neg hno]
      rw [if_neg (fun h=>hbig h.1),if_neg hm2]
      change ((choose q).run P w).andThen _=_
      rw [hch]
      simp only [Qc,hold,hnew,hvw]
      change ((newRow el (us.toArray ++ vs.toArray ++ Builtin.zeroCells v.cells (newCap - need))).run P (dr w)).andThen _=_
      rw [hzc]
      simp only [newRow,Qd,run_newObj,Qc,Qf,World.alloc_eq,List.append_toArray]
      rfl
theorem Vbo {t t' el ty:TypeId} {dsc:TypeDesc} {sz:Nat} {x:Value} {n cap:Nat} {a:Option Addr} {rows':List (List D)} {vs:List Value} {w':World}
  (ht:telem P t=some el) (ht':P.underlying t'=some dsc) (hni:dsc = .string∨∃ e,dsc = .slice e) (hsz:tsz P el=some sz)
  (hx:Src P I w sz rows' vs x) (hg:n+rows'.length≤cap) (hst:(match a with | some a=>storeCells (a.add (n * sz)) vs | none=>pure ():Sem Unit).run P w = .ok () w') :
  (Builtin.append_ #[t,t'] ty #[.slice a n cap,x]).run P w = .ok (.slice a (n+rows'.length) cap) w':=by
 have hnew:=hx.first w rfl
 unfold Builtin.append_
 rcases hni with rfl | ⟨e0,rfl⟩ <;>
 ·simp only [Qd,Qao,Q9,Qaa,run_underlying (Val ht),Qc,run_sizeOf' hsz,run_underlying ht',Qf,hx.len,Qq,if_false,Qa9,if_true,Qas]
  rw [if_pos hg]
  cases a with
  | none=>
   simp only [Qf,Result.ok.injEq,true_and] at hst
   subst hst
   simp only [hnew,Qc,Qf]
  | some a=>
   simp only [hnew,Qc,Qd]
   simp only at hst
   rw [hst]
   rfl
def locGen (loc:Nat→Nat→Loc) (b g:Nat) (l:Loc):Nat→Nat→Loc:=fun b' g'=>if b'=b then (if g'=g+1 then l else if g' < g+1 then .stale else .free) else loc b' g'
theorem Veq {b g:Nat} (l:Loc) (h:∀ g',g < g'→loc b g' = .free):LocExt loc (locGen loc b g l):=fun b' g'=>by
 unfold locGen
 by_cases e:b'=b
 ·subst e
  simp only [if_true]
  by_cases e2:g'=g+1
  ·left; exact h g' (by omega)
  ·by_cases e3:g' < g+1
   ·simp [e2,e3]
   ·left; exact h g' (by omega)
 ·simp [e]
theorem MRel.addNil (hm:MRel O I loc m w) (s:Nat):MRel O I (locNew loc m.nb .nil) (m.add (.arr 0 s [])) w:=by
 have hl:=Var hm .nil
 have hbx:∀ b,(m.add (.arr 0 s [])).bx b=if b=m.nb then .arr 0 s [] else m.bx b:=fun b=>rfl
 have hnb:(m.add (.arr 0 s [])).nb=m.nb+1:=rfl
 have key:∀ b g k,locNew loc m.nb .nil b g = .blk k→b≠m.nb∧loc b g = .blk k:=fun b g k h=>by
  unfold locNew at h
  by_cases e:b=m.nb
  ·rw [if_pos e] at h; split at h<;>cases h
  ·rw [if_neg e] at h; exact ⟨e,h⟩
 refine ⟨fun b hb=>?_,fun b g hb=>?_,fun b g k hb ho hk=>?_,fun b b' g g' k hb hb' ho ho' hk hk'=>?_,hm.imm,hm.up⟩
 ·rw [hbx]
  by_cases e:b=m.nb
  ·subst e
   rw [if_pos rfl]
   simp only [RelB]
   exact ⟨⟨fun g hg=>by omega,fun g hg=>by simp [locNew]; omega⟩,.inl (by simp [locNew])⟩
  ·rw [if_neg e]
   exact Va5 (.refl _ _) hl (fun g=>by simp [locNew,e]) (fun _ _ _ _=>rfl) (hm.box b (by omega))
 ·have:b≠m.nb:=by omega
  simp only [locNew,this,if_false]
  exact hm.free b g (by omega)
 ·obtain ⟨e,hk⟩:=key b g k hk
  rw [hbx,if_neg e] at ho
  exact hm.own b g k (by omega) ho hk
 ·obtain ⟨e,hk⟩:=key b g k hk
  obtain ⟨e',hk'⟩:=key b' g' k hk'
  rw [hbx,if_neg e] at ho
  rw [hbx,if_neg e'] at ho'
  exact hm.inj b b' g g' k (by omega) (by omega) ho ho' hk hk'
theorem Res.bind {s:Sem Value} {d:D} {m':Mem} {v:Value} {w':World} (h:s.run P w = .ok v w') (hr:Res O I loc w (.ok (.value v) w') d m'):Res O I loc w ((do pure (.value (← s)):Sem Next).run P w) d m':=by
 have:(do pure (.value (← s)):Sem Next).run P w = .ok (.value v) w':=by simp [h]
 rw [this]; exact hr
theorem Vl4 (hm:MRel O I loc m w) {b g s n cap:Nat} {old rows:List (List D)} {vs:List Value} (el:TypeId) (hb:b < m.nb) (hbx:m.bx b = .arr g s old) (hs:∀ row∈rows,row.length=s) (_hn:rows.length=n) (hv:VL I w rows.flatten free vs) (h1:∀ x∈vs,x.oneCell'=true) (rest:List Value) (hcap:cap * s=(vs++rest).length) (hle:n≤cap) :
  Res O I loc w (.ok (.value (.slice (some ⟨w.heap.size,0,none⟩) n cap)) (w.alloc (.cells (vs++rest).toArray el))) (.bs b (g+1) s 0 n) (m.set b (.arr (g+1) s rows)):=by
 have hvl:=Vaf hv
 have he:=Va9 hm.imm (.cells (vs++rest).toArray el)
 have hbr:=hm.box b hb
 rw [hbx] at hbr; simp only [RelB] at hbr
 have hfree:=hbr.1.2
 have hown:(m.bx b).owned=true:=by rw [hbx]; rfl
 have hle':=Veq (loc:=loc) (b:=b) (g:=g) (.blk w.heap.size) hfree
 refine ⟨_,_,locGen loc b g (.blk w.heap.size),.inl rfl,hm.change hb hown (fun b' hb' g'=>by simp [locGen,hb']) he hle' ?_ ?_ (fun k hk _=>RowKit.Below.heap_alloc w _ k hk) (by simp),?_,he,hle',Vb3 _ _⟩
 ·simp only [RelB]
  refine ⟨⟨fun g' hg=>by unfold locGen; rw [if_pos rfl,if_neg (by omega),if_pos hg],fun g' hg=>by unfold locGen; rw [if_pos rfl,if_neg (by omega),if_neg (by omega)]⟩,.inr ⟨w.heap.size,_,el,(0,0),by simp [locGen],Vay _ _,fun o _=>by simp,?_,?_⟩⟩
  ·rw [Vai rows hs] at hvl
   simp; omega
  ·refine Vbb hs (Vah he _ free free vs (.refl _) hv) h1 fun j x hj=>?_
   simp only [World.cell?,Vay,Qz]
   have hj':j < vs.length:=by
    rcases Qj j vs.length with h | h
    ·exact h
    ·rw [Qk h] at hj; cases hj
   simp [Q7 hj',hj]
 ·intro g' k hk
  simp only [locGen,if_true] at hk
  split at hk
  ·cases hk
   exact ⟨hm.up _ (Qg _),fun hI=>absurd (hm.imm _ hI) (Qal _),by simp,fun b' hb' h1 h2 g2 hg2=>absurd (hm.own b' g2 _ h1 h2 hg2).2.2 (Qal _)⟩
  ·split at hk<;>cases hk
 ·simp only [V,locGen,if_true]
  exact ⟨0,cap,rfl,hle,.inr (by simp),by rw [rowSize,Vay]; simpa using Nat.le_of_eq hcap⟩
theorem Vht {a b:List (List D)} {us vs:List Value} (h:VL I w a.flatten free us) (h':VL I w b.flatten free vs):VL I w (a++b).flatten free (us++vs):=by
 rw [Qau]; exact Va0 h h'
set_option maxHeartbeats 2000000 in
theorem Vnf (hm:MRel O I loc m w) {t t' ty:TypeId} {dsc:TypeDesc} {s d:D} {u x:Value} {more:Nat→Option (List (List D))} {m':Mem} (ht':P.underlying t'=some dsc) (hni:dsc = .string∨∃ e,dsc = .slice e)
  (hs:V I w s loc u) (hmore:∀ sz rows',more sz=some rows'→∃ vs,Src P I w sz rows' vs x) (h:appendW P m t s more=some (d,m')) :
  Res O I loc w ((do pure (.value (← Builtin.append_ #[t,t'] ty #[u,x])):Sem Next).run P w) d m':=by
 unfold appendW at h
 split at h
 ·cases h
 rename_i el ht
 split at h
 case h_2=>cases h
 rename_i sz by' hsz hby
 split at h
 case h_2=>cases h
 rename_i z rows' hz hmr
 obtain ⟨vs,hx⟩:=hmore sz rows' hmr
 have hvl:vs.length=rows'.length * sz:=by rw [Vaf hx.vl,Vai rows' hx.row]
 split at h
 ·-- nil
  split at h
  case isFalse=>cases h
  rename_i hsm
  simp only [Qa,Qag] at h
  obtain ⟨rfl,rfl⟩:=h
  simp only [V] at hs; subst hs
  by_cases h0:rows'.length=0
  ·have e:rows'=[]:=by simpa using h0
   subst e
   have hv0:vs=[]:=by simpa using hvl
   subst hv0
   refine Res.bind (Vbo ht ht' hni hsz hx (by simp) (w':=w) rfl) ?_
   refine ⟨_,w,locNew loc m.nb .nil,.inl rfl,hm.addNil sz,?_,.refl _ _,Var hm _,.refl _ _⟩
   simp [V,locNew]
  ·obtain ⟨newCap,rest,hc1,hc2,hrun⟩:=Vcs (P:=P) (I:=I) (w:=w) (ty:=ty) (us:=[]) (rows:=[]) (n:=0) (cap:=0) (a:=none) ht ht' hni hsz hby hz rfl Vea rfl hx (by omega) (by simpa using hsm)
   refine Res.bind hrun ?_
   refine Res.from (w1:=dr w) rfl rfl rfl rfl ?_
   have:=Vs3 (MRel.of_heap (w:=w) (w':=dr w) rfl hm) (n:=rows'.length) (cap:=newCap) el hx.row rfl (Vah (Ext.of_heap (w:=w) (w':=dr w) rfl) _ free free vs (.refl _) hx.vl) hx.one rest (by simpa using hc2) (by omega)
   rw [show (dr w).heap.size=w.heap.size from rfl] at this
   simpa using this
 ·-- a box
  rename_i b g s' n
  split at h
  case h_2=>cases h
  rename_i g' sq rows hbx
  split at h
  case isFalse=>cases h
  rename_i hc
  obtain ⟨rfl,rfl,rfl,hnr,hsm⟩:=hc
  simp only [Qa,Qag] at h
  obtain ⟨rfl,rfl⟩:=h
  have hs0:=hs
  simp only [V] at hs
  have hlt:b < m.nb:=lt_nb (g:=g) hm (by intro e; simp [e] at hs)
  have hbr:=hm.box b hlt
  rw [hbx] at hbr; simp only [RelB] at hbr
  obtain ⟨hgen,hbr⟩:=hbr
  have hown:(m.bx b).owned=true:=by rw [hbx]; rfl
  have hlenT:(rows.take n).length=n:=by simp; omega
  rcases hbr with ⟨hl,rfl⟩ | ⟨k,c,el',fz,hl,hw,hu,hrc,hv⟩
  ·simp only [hl] at hs
   obtain ⟨_,rfl,rfl⟩:=hs
   simp only [Qba,Qaf,Qz]
   by_cases h0:rows'.length=0
   ·have e:rows'=[]:=by simpa using h0
    subst e
    have hv0:vs=[]:=by simpa using hvl
    subst hv0
    refine Res.bind (Vbo ht ht' hni hsz hx (by simp) (w':=w) rfl) ?_
    have hle':=Veq (loc:=loc) (b:=b) (g:=g) .nil hgen.2
    refine ⟨_,w,locGen loc b g .nil,.inl rfl,hm.change hlt hown (fun b' hb' g'=>by simp [locGen,hb']) (.refl _ _) hle' ?_ ?_ (fun _ _ _=>rfl) (Qg _),?_,.refl _ _,hle',.refl _ _⟩
    ·simp only [RelB]
     refine ⟨⟨fun g' hg=>by unfold locGen; rw [if_pos rfl,if_neg (by omega),if_pos hg],fun g' hg=>by unfold locGen; rw [if_pos rfl,if_neg (by omega),if_neg (by omega)]⟩,.inl (by simp [locGen])⟩
    ·intro g' k hk
     simp only [locGen,if_true] at hk
     split at hk
     ·cases hk
     ·split at hk<;>cases hk
    ·simp [V,locGen]
   ·obtain ⟨newCap,rest,hc1,hc2,hrun⟩:=Vcs (P:=P) (I:=I) (w:=w) (ty:=ty) (us:=[]) (rows:=[]) (n:=0) (cap:=0) (a:=none) ht ht' hni hsz hby hz rfl Vea rfl hx (by omega) (by simpa using hsm)
    refine Res.bind hrun ?_
    refine Res.from (w1:=dr w) rfl rfl rfl rfl ?_
    have:=Vl4 (MRel.of_heap (w:=w) (w':=dr w) rfl hm) (n:=rows'.length) (cap:=newCap) el hlt hbx hx.row rfl (Vah (Ext.of_heap (w:=w) (w':=dr w) rfl) _ free free vs (.refl _) hx.vl) hx.one rest (by simpa using hc2) (by omega)
    rw [show (dr w).heap.size=w.heap.size from rfl] at this
    simpa using this
  ·simp only [hl] at hs
   obtain ⟨o,cap,rfl,hn,ho,hrs⟩:=hs
   -- what it holds
   have hsrc:∃ us,Src P I w sq (rows.take n) us (.slice (some ⟨k,o,none⟩) n cap):=by
    rcases ho with ho | ho
    ·have:n=0:=by omega
     subst this
     simp only [Qa7]
     exact ⟨[],Vea⟩
    ·have:o=0:=by simpa using ho
     subst this
     exact Vhs (Vd6 n hv) hlenT
   obtain ⟨us,hus⟩:=hsrc
   have hul:us.length=n * sq:=by rw [Vaf hus.vl,Vai _ hus.row,hlenT]
   by_cases hroom:n+rows'.length≤cap
   ·-- in place
    by_cases hc0:cap=0
    ·subst hc0
     have hn0:n=0:=by omega
     have hr0:rows'.length=0:=by omega
     subst hn0
     have e:rows'=[]:=by simpa using hr0
     subst e
     have hv0:vs=[]:=by simpa using hvl
     subst hv0
     refine Res.bind (Vbo ht ht' hni hsz hx hroom (w':=w) rfl) ?_
     have hle':=Veq (loc:=loc) (b:=b) (g:=g) (.blk k) hgen.2
     refine ⟨_,w,locGen loc b g (.blk k),.inl rfl,hm.change hlt hown (fun b' hb' g'=>by simp [locGen,hb']) (.refl _ _) hle' ?_ ?_ (fun _ _ _=>rfl) (Qg _),?_,.refl _ _,hle',.refl _ _⟩
     ·simp only [RelB]
      refine ⟨⟨fun g' hg=>by unfold locGen; rw [if_pos rfl,if_neg (by omega),if_pos hg],fun g' hg=>by unfold locGen; rw [if_pos rfl,if_neg (by omega),if_neg (by omega)]⟩,.inr ⟨k,c,el',fz,by simp [locGen],hw,hu,by simp,by simp [VR]⟩⟩
     ·intro g' k' hk'
      simp only [locGen,if_true] at hk'
      split at hk'
      ·cases hk'
       have:=hm.own b g k hlt hown hl
       exact ⟨this.1,this.2.1,this.2.2,fun b' hb' h1 h2 g2 hg2=>hb' (hm.inj b' b g2 g k h1 hlt h2 hown hg2 hl)⟩
      ·split at hk'<;>cases hk'
     ·simp only [V,locGen,if_true]
      exact ⟨o,0,by simp,by simp,.inl rfl,by simp⟩
    ·have ho0:o=0:=by
      rcases ho with ho | ho
      ·exact absurd ho hc0
      ·simpa using ho
     subst ho0
     have hsize:cap * sq≤c.size:=by
      have:rowSize w k=c.size:=by simp [rowSize,hw]
      rw [this] at hrs; simpa using hrs
     have hfit:n * sq+vs.length≤c.size:=by
      rw [hvl,← Qe]
      exact Q4 (Qt sq hroom) hsize
     have hrun:=Vap (P:=P) k (n * sq) el' fz vs 0 c w hw hu (by simpa using hfit) hx.one
     simp only [Q5] at hrun
     let l':=c.toList.take (n * sq)++vs++c.toList.drop (n * sq+vs.length)
     have hl':l'.length=c.size:=by simp [l']; omega
     have hIk:=hm.own b g k hlt hown hl
     have he:=Vcl hIk.2.1 hw (c':=l'.toArray) (by simp [hl'])
     refine Res.bind (Vbo ht ht' hni hsz hx hroom (w':=w.setRow k l'.toArray) (by simp only [Vav,Qz]; exact hrun)) ?_
     have hle':=Veq (loc:=loc) (b:=b) (g:=g) (.blk k) hgen.2
     have hold:∀ j,w.cell? ⟨k,j,none⟩=c[j]?:=fun j=>by simp [World.cell?,hw]
     have hcell:∀ j,(w.setRow k l'.toArray).cell? ⟨k,j,none⟩=if j < n * sq then c[j]? else if j < n * sq+vs.length then vs[j - n * sq]? else c[j]?:=by
      intro j
      rw [cell_setRow_same w k j c l'.toArray el' fz hw]
      have:=Vne c.toList vs (n * sq) j (by simpa using hfit)
      simpa [l'] using this
     have hlenA:(rows.take n++rows').length=n+rows'.length:=by rw [Qp,hlenT]
     refine ⟨_,_,locGen loc b g (.blk k),.inl rfl,hm.change hlt hown (fun b' hb' g'=>by simp [locGen,hb']) he hle' ?_ ?_ (fun k' _ hk'=>setRow_other w k k' _ (fun e=>hk' g (e ▸ hl))) (by simp),?_,he,hle',Vl1 hIk.1 _⟩
     ·simp only [RelB]
      refine ⟨⟨fun g' hg=>by unfold locGen; rw [if_pos rfl,if_neg (by omega),if_pos hg],fun g' hg=>by unfold locGen; rw [if_pos rfl,if_neg (by omega),if_neg (by omega)]⟩,.inr ⟨k,l'.toArray,el',fz,by simp [locGen],setRow_heap w k c _ el' fz hw,by simpa [hl'] using hu,?_,?_⟩⟩
      ·rw [hlenA,Qe,← hvl]; simpa [hl'] using hfit
      ·refine Vbb (vs:=us++vs) ?_ (Vah he _ free free _ (.refl _) (Vht hus.vl hx.vl)) ?_ ?_
       ·intro row hr
        simp only [Qm] at hr
        rcases hr with hr | hr
        ·exact hus.row row hr
        ·exact hx.row row hr
       ·intro y hy
        simp only [Qm] at hy
        rcases hy with hy | hy
        ·exact hus.one y hy
        ·exact hx.one y hy
       ·intro j y hj
        rw [Qz,hcell]
        rw [Q2,hul] at hj
        split at hj
        ·rename_i hlt'
         rw [if_pos hlt']
         rw [← hold]
         obtain ⟨us2,q1,q2,q3,q4⟩:=Vf9 (Vd6 n hv)
         have h1:=hus.first w rfl
         have h2:=run_loadCells_list (P:=P) w ⟨k,0,none⟩ us2 (fun j x hj=>by rw [Vav]; exact q4 j x hj)
         simp only [Builtin.firstCells,hlenT] at h1
         rw [q3,hlenT] at h2
         rw [h1] at h2
         have e:us=us2:=by
          have:=congrArg (fun r=>match r with | Result.ok a _=>a.toList | _=>[]) h2
          simpa using this
         rw [e] at hj
         have:=q4 j y hj
         simpa using this
        ·rename_i hge
         have hj':j - n * sq < vs.length:=by
          rcases Qj (j - n * sq) vs.length with h | h
          ·exact h
          ·rw [Qk h] at hj; cases hj
         rw [if_neg hge,if_pos (by omega)]
         exact hj
     ·intro g' k' hk'
      simp only [locGen,if_true] at hk'
      split at hk'
      ·cases hk'
       exact ⟨hIk.1,hIk.2.1,by simpa using hIk.2.2,fun b' hb' h1 h2 g2 hg2=>hb' (hm.inj b' b g2 g k h1 hlt h2 hown hg2 hl)⟩
      ·split at hk'<;>cases hk'
     ·simp only [V,locGen,if_true]
      refine ⟨0,cap,rfl,hroom,.inr (by simp),?_⟩
      rw [rowSize,setRow_heap w k c _ el' fz hw]
      simpa [hl'] using hsize
   ·obtain ⟨newCap,rest,hc1,hc2,hrun⟩:=Vcs (P:=P) (I:=I) (w:=w) (ty:=ty) ht ht' hni hsz hby hz rfl hus hlenT hx (by omega) hsm
    refine Res.bind hrun ?_
    refine Res.from (w1:=dr w) rfl rfl rfl rfl ?_
    have:=Vl4 (MRel.of_heap (w:=w) (w':=dr w) rfl hm) (rows:=rows.take n++rows') (n:=n+rows'.length) (cap:=newCap) el hlt hbx (fun row hr=>by
     simp only [Qm] at hr
     rcases hr with hr | hr
     ·exact hus.row row hr
     ·exact hx.row row hr) (by rw [Qp,hlenT]) (Vah (Ext.of_heap (w:=w) (w':=dr w) rfl) _ free free _ (.refl _) (Vht hus.vl hx.vl)) (fun y hy=>by
     simp only [Qm] at hy
     rcases hy with hy | hy
     ·exact hus.one y hy
     ·exact hx.one y hy) rest hc2 hc1
    exact this
 ·cases h
end
def Glob (G:Nat→Option (List D)) (I:Nat→Prop) (w:World):Prop:=∀ g cs,G g=some cs→I g∧VC I w cs g 0∧rowSize w g=cs.length
def none':Nat→Prop:=fun _=>False
def Sound (P:Program) (G:Nat→Option (List D)) (f:FuncId) (kind:Nat) (F:List D→Option (D×List Box)):Prop:=
 (∃ fn, P.funcs[f]? = some fn ∧ fn.body.isSome = true ∧ (fn.name == "runtime.NumGoroutine") = false) ∧
 ∀ (I:Nat→Prop) (w:World) (args:List Value) (ds:List D) (r:D) (bx:List Box),
  (∀ k,I k→k < w.heap.size)→Glob G I w→VL I w ds free args→F ds=some (r,bx) →
  Calls P f args.toArray w fun e w'=>∃ v I' loc',e = .returned v∧Fr none' w w'∧(if kind≤1 then I'=none' else (∀ k,I k→I' k)∧∀ k,I' k→I k∨w.heap.size≤k) ∧
   V I' w' r loc' v∧MRel (fun k=>w.heap.size≤k) I' loc' ⟨bx.length,bxOf bx⟩ w'
section
variable {P:Program} {O I:Nat→Prop} {w:World} {loc:Nat→Nat→Loc} {m:Mem}
theorem imm_all {J:Nat→Prop} (hI:∀ k,I k→J k):Ext I J w w:=⟨hI,fun _ _=>rfl,fun _=>Qg _⟩
theorem Vl5 {J:Nat→Prop} (hm:MRel O I loc m w) (hI:∀ k,I k→J k) (hJ:∀ k,k < w.heap.size→J k):∀ n,
  (∀ d d' v,snap m n d=some d'→V I w d loc v→V J w d' free v)∧(∀ ds ds' vs,snapL m n ds=some ds'→VL I w ds loc vs→VL J w ds' free vs)
 | 0=>by
  refine ⟨fun d d' v h=>by simp [snap] at h,fun ds ds' vs h hv=>?_⟩
  cases ds with
  | nil=>simp only [snapL,Qa] at h; subst h; simpa only [VL] using hv
  | cons d r=>simp [snapL] at h
 | n+1 => by
  have ih:=Vl5 hm hI hJ n
  have hone : ∀ d d' v, snap m (n+1) d = some d'→V I w d loc v→V J w d' free v := by
   intro d d' v h hv
   have he:Ext I J w w:=imm_all hI
   cases d<;>simp only [snap] at h
   case bs b g s i k=>
    rw [Qb] at h
    obtain ⟨rows,hr,rfl⟩:=h
    obtain ⟨all,ha,hle,rfl⟩:=Vop hr
    simp only [V] at hv ⊢
    have hlt:b < m.nb:=lt_nb (g:=g) hm (by intro e; simp [e] at hv)
    rcases Vf7 hm hlt ha with ⟨hl,rfl⟩ | ⟨c,hl,hvr⟩
    ·simp only [hl] at hv
     obtain ⟨rfl,rfl,rfl⟩:=hv
     left; exact ⟨by simp,_,_,rfl⟩
    ·simp only [hl] at hv
     obtain ⟨o,cap,rfl,hn,ho,hrs⟩:=hv
     right
     have hlen:((all.drop i).take k).length=k:=by simp; omega
     rw [hlen]
     have hc:c < w.heap.size:=by
      rcases Qj c w.heap.size with h | h
      ·exact h
      ·have hz:w.heap[c]? = none:=Qn h
       rcases Vhr ha with e | e
       ·have hx:=hm.box b hlt
        rw [e] at hx; simp only [RelB] at hx
        rcases hx.2 with ⟨h1,_⟩ | ⟨c',_,_,_,h1,h2,_⟩
        ·rw [hl] at h1; cases h1
        ·rw [hl] at h1; cases h1; rw [hz] at h2; cases h2
       ·have hx:=hm.box b hlt
        rw [e] at hx; simp only [RelB] at hx
        rcases hx.2 with ⟨h1,_⟩ | ⟨c',h1,h2,_⟩
        ·rw [hl] at h1; cases h1
        ·rw [hl] at h1; cases h1; exact hm.imm c h2
     refine ⟨c,o,cap,rfl,hn,hJ c hc,?_⟩
     rcases ho with ho | ho
     ·have:k=0:=by omega
      subst this
      simp [VR]
     ·subst ho
      have:=Vcc he s _ c _ rfl (Vd6 k (Vhn i hvr))
      simpa using this
   case bp b off=>
    split at h
    case h_2=>cases h
    rename_i cs hb
    rw [Qb] at h
    obtain ⟨cs',hc,rfl⟩:=h
    simp only [V] at hv ⊢
    have hlt:b < m.nb:=lt_nb (g:=0) hm (by intro e; simp [e] at hv)
    have hbx:=hm.box b hlt
    rw [hb] at hbx; simp only [RelB] at hbx
    obtain ⟨_,k,c,el,fz,hl,hw,_,h1,hvl⟩:=hbx
    simp only [hl] at hv; subst hv
    have hk:k < w.heap.size:=by
     rcases Qj k w.heap.size with h | h
     ·exact h
     ·rw [Qn h] at hw; cases hw
    refine ⟨k,off,rfl,hJ k hk,Vdm (ih.2 _ _ _ hc (Vc6 off hvl)) (fun x hx=>h1 x (Ql hx)) fun j x hj=>?_⟩
    rw [Q6] at hj
    simp [World.cell?,hw]
    simpa using hj
   case ap b g s i off=>
    split at h
    case h_2=>cases h
    rename_i rows hr
    rw [Qb] at h
    obtain ⟨row,hrow,rfl⟩:=h
    simp only [V] at hv ⊢
    have hlt:b < m.nb:=lt_nb (g:=g) hm (by intro e; simp [e] at hv)
    rcases Vf7 hm hlt hr with ⟨_,rfl⟩ | ⟨k,hl,hvr⟩
    ·simp at hrow
    simp only [hl] at hv; subst hv
    have hc:=(Vfj hvr hrow).2
    have hk:k < w.heap.size:=by
     rcases Qj k w.heap.size with h | h
     ·exact h
     ·have hz:w.heap[k]? = none:=Qn h
      rcases Vhr hr with e | e
      ·have hx:=hm.box b hlt
       rw [e] at hx; simp only [RelB] at hx
       rcases hx.2 with ⟨h1,_⟩ | ⟨c',_,_,_,h1,h2,_⟩
       ·rw [hl] at h1; cases h1
       ·rw [hl] at h1; cases h1; rw [hz] at h2; cases h2
      ·have hx:=hm.box b hlt
       rw [e] at hx; simp only [RelB] at hx
       rcases hx.2 with ⟨h1,_⟩ | ⟨c',h1,h2,_⟩
       ·rw [hl] at h1; cases h1
       ·rw [hl] at h1; cases h1; exact hm.imm k h2
    have h2:=Vf4 he _ k _ rfl (Vf5 off hc)
    simp only [Qz] at h2
    exact ⟨k,_,rfl,hJ k hk,h2⟩
   case agg cs=>
    rw [Qb] at h
    obtain ⟨cs',hc,rfl⟩:=h
    simp only [V] at hv ⊢
    obtain ⟨vs,rfl,h1,hl⟩:=hv
    exact ⟨vs,rfl,h1,ih.2 _ _ _ hc hl⟩
   case tup cs=>
    rw [Qb] at h
    obtain ⟨cs',hc,rfl⟩:=h
    simp only [V] at hv ⊢
    obtain ⟨vs,rfl,hl⟩:=hv
    exact ⟨vs,rfl,ih.2 _ _ _ hc hl⟩
   case fn f cs=>
    rw [Qb] at h
    obtain ⟨cs',hc,rfl⟩:=h
    simp only [V] at hv ⊢
    obtain ⟨vs,rfl,hl⟩:=hv
    exact ⟨vs,rfl,ih.2 _ _ _ hc hl⟩
   case mp b=>cases h
   all_goals
    simp only [Qa] at h; subst h
    first
     | trivial
     | (simpa only [V] using hv)
     | (exact Va4 he _ free free _ (.refl _) (by simpa only [V] using hv))
  refine ⟨hone,fun ds=>?_⟩
  induction ds with
  | nil=>intro ds' vs h hv; simp only [snapL,Qa] at h; subst h; simpa only [VL] using hv
  | cons d r ihr=>
   intro ds' vs h hv
   simp only [snapL] at h
   split at h
   case h_2=>cases h
   rename_i x y hx hy
   simp only [Qa] at h; subst h
   simp only [VL] at hv ⊢
   obtain ⟨v,vr,rfl,h1,h2⟩:=hv
   exact ⟨v,vr,rfl,ih.1 _ _ _ hx h1,ihr _ _ hy h2⟩
end
section
variable {P:Program} {O I:Nat→Prop} {w:World} {loc:Nat→Nat→Loc} {m:Mem}
def locJoin (loc:Nat→Nat→Loc) (n:Nat) (loc':Nat→Nat→Loc):Nat→Nat→Loc:=fun b g=>if b < n then loc b g else loc' (b - n) g
mutual
theorem Vzk {J K:Nat→Prop} (hJ:∀ k,J k→K k) {loc':Nat→Nat→Loc} (n:Nat):∀ (d:D) (v:Value),V J w d loc' v→V K w (d.shift n) (locJoin loc n loc') v
 | .dead,_,_=>trivial
 | .bool _,_,h=>by simpa only [V,D.shift] using h
 | .int _ _,_,h=>by simpa only [V,D.shift] using h
 | .str _,_,h=>by simpa only [V,D.shift] using h
 | .lit _,_,h=>by simpa only [V,D.shift] using h
 | .nilp,_,h=>by simpa only [V,D.shift] using h
 | .nils,_,h=>by simpa only [V,D.shift] using h
 | .rs s rows,v,h=>Va4 (imm_all hJ) (.rs s rows) free _ v (.free _) (by simpa only [V] using h)
 | .rp cs,v,h=>Va4 (imm_all hJ) (.rp cs) free _ v (.free _) (by simpa only [V] using h)
 | .bp b off,v,h=>by
  simp only [V,D.shift,locJoin] at h ⊢
  rw [if_neg (by omega),Q0]; exact h
 | .mp b,v,h=>by
  simp only [V,D.shift,locJoin] at h ⊢
  rw [if_neg (by omega),Q0]; exact h
 | .ap b g s i off,v,h=>by
  simp only [V,D.shift,locJoin] at h ⊢
  rw [if_neg (by omega),Q0]; exact h
 | .bs b g s i k,v,h=>by
  simp only [V,D.shift,locJoin] at h ⊢
  rw [if_neg (by omega),Q0]; exact h
 | .agg cs,v,h=>by
  simp only [V,D.shift] at h ⊢
  obtain ⟨vs,rfl,h1,h2⟩:=h
  exact ⟨vs,rfl,h1,Vfp hJ n cs vs h2⟩
 | .tup cs,v,h=>by
  simp only [V,D.shift] at h ⊢
  obtain ⟨vs,rfl,h2⟩:=h
  exact ⟨vs,rfl,Vfp hJ n cs vs h2⟩
 | .fn f cs,v,h=>by
  simp only [V,D.shift] at h ⊢
  obtain ⟨vs,rfl,h2⟩:=h
  exact ⟨vs,rfl,Vfp hJ n cs vs h2⟩
theorem Vfp {J K:Nat→Prop} (hJ:∀ k,J k→K k) {loc':Nat→Nat→Loc} (n:Nat):∀ (ds:List D) (vs:List Value),VL J w ds loc' vs→VL K w (shiftL n ds) (locJoin loc n loc') vs
 | [],_,h=>by simpa only [VL,shiftL] using h
 | d::r,vs,h=>by
  simp only [VL,shiftL] at h ⊢
  obtain ⟨v,vr,rfl,h1,h2⟩:=h
  exact ⟨v,vr,rfl,Vzk hJ n d v h1,Vfp hJ n r vr h2⟩
end
theorem Vhu {w':World} {K:Nat→Prop} (hf:Fr none' w w') (hi:∀ k,I k→k < w.heap.size) (hK:∀ k,I k→K k):Ext I K w w':=by
 refine ⟨hK,fun k hk=>hf.block k (hi k hk) (fun h=>h),fun k=>?_⟩
 rcases Qj k w.heap.size with h | h
 ·simp only [rowSize,hf.block k h (fun h=>h)]; exact Qg _
 ·have:w.heap[k]? = none:=Qn h
  simp [rowSize,this]
theorem MRel.step {w':World} (hm:MRel O I loc m w) (hf:Fr none' w w'):MRel O I loc m w':=by
 have he:=Vhu hf hm.imm (fun _ h=>h)
 refine ⟨fun b hb=>Va5 he (.refl _) (fun _=>rfl) (fun ho g k hk=>?_) (hm.box b hb),hm.free,fun b g k hb ho hk=>?_,hm.inj,fun k hk=>?_,fun k hk=>hm.up k ?_⟩
 ·exact hf.block k (hm.own b g k hb ho hk).2.2 (fun h=>h)
 ·have:=hm.own b g k hb ho hk
  exact ⟨this.1,this.2.1,Qad this.2.2 hf.size⟩
 ·exact Qad (hm.imm k hk) hf.size
 ·exact Q4 hf.size hk
theorem Box.shift_owned (n:Nat) (b:Box):(b.shift n).owned=b.owned:=by cases b<;>rfl
theorem Vp3 {J K:Nat→Prop} (hJ:∀ k,J k→K k) {loc':Nat→Nat→Loc} {n b:Nat} {x:Box} (h:RelB J w loc' b x):RelB K w (locJoin loc n loc') (b+n) (x.shift n):=by
 have hl:∀ g,locJoin loc n loc' (b+n) g=loc' b g:=fun g=>by unfold locJoin; rw [if_neg (by omega),Q0]
 have he:Ext J K w w:=imm_all hJ
 cases x with
 | gone=>simp only [RelB,Box.shift] at h ⊢; intro g; rw [hl]; exact h g
 | lent=>trivial
 | var cs=>
  simp only [RelB,Box.shift] at h ⊢
  obtain ⟨h0,k,c,el,fz,h1,h2,h3,h4,h5⟩:=h
  exact ⟨fun g hg=>by rw [hl]; exact h0 g hg,k,c,el,fz,by rw [hl]; exact h1,h2,h3,h4,Vfp hJ n cs _ h5⟩
 | arr g s rows=>
  simp only [RelB,Box.shift] at h ⊢
  refine ⟨⟨fun g' hg=>by rw [hl]; exact h.1.1 g' hg,fun g' hg=>by rw [hl]; exact h.1.2 g' hg⟩,?_⟩
  rcases h.2 with ⟨h1,h2⟩ | ⟨k,c,el,fz,h1,h2,h3,h4,h5⟩
  ·exact .inl ⟨by rw [hl]; exact h1,h2⟩
  ·exact .inr ⟨k,c,el,fz,by rw [hl]; exact h1,h2,h3,h4,Vcc he s rows k 0 rfl h5⟩
 | frz g s rows=>
  simp only [RelB,Box.shift] at h ⊢
  refine ⟨⟨fun g' hg=>by rw [hl]; exact h.1.1 g' hg,fun g' hg=>by rw [hl]; exact h.1.2 g' hg⟩,?_⟩
  rcases h.2 with ⟨h1,h2⟩ | ⟨k,h1,h2,h3⟩
  ·exact .inl ⟨by rw [hl]; exact h1,h2⟩
  ·exact .inr ⟨k,by rw [hl]; exact h1,hJ k h2,Vcc he s rows k 0 rfl h3⟩
 | iter l pos=>
  simp only [RelB,Box.shift] at h ⊢
  obtain ⟨h0,k,h1,h2⟩:=h
  exact ⟨fun g hg=>by rw [hl]; exact h0 g hg,k,by rw [hl]; exact h1,h2⟩
 | mset ks=>
  simp only [RelB,Box.shift] at h ⊢
  obtain ⟨h0,k,es,ck,h1,h2⟩:=h
  exact ⟨fun g hg=>by rw [hl]; exact h0 g hg,k,es,ck,by rw [hl]; exact h1,h2⟩
theorem MRel.join {J K:Nat→Prop} {w0:World} {loc':Nat→Nat→Loc} {bx:List Box} (hm:MRel O I loc m w) (hm2:MRel (fun k=>w0.heap.size≤k) J loc' ⟨bx.length,bxOf bx⟩ w)
  (hI:∀ k,I k→K k) (hJ:∀ k,J k→K k) (hK:∀ k,K k→k < w.heap.size) (hO:∀ k,w0.heap.size≤k→O k)
  (hold:∀ b g k,b < m.nb→(m.bx b).owned=true→loc b g = .blk k→k < w0.heap.size∧¬ K k) (hnew:∀ k,w0.heap.size≤k→¬ J k→¬ K k) :
  MRel O K (locJoin loc m.nb loc') (m.join bx) w∧LocExt loc (locJoin loc m.nb loc'):=by
 have hl1:∀ b g,b < m.nb→locJoin loc m.nb loc' b g=loc b g:=fun b g h=>by unfold locJoin; rw [if_pos h]
 have hl2:∀ b g,¬ b < m.nb→locJoin loc m.nb loc' b g=loc' (b - m.nb) g:=fun b g h=>by unfold locJoin; rw [if_neg h]
 have hext:LocExt loc (locJoin loc m.nb loc'):=fun b g=>by
  by_cases h:b < m.nb
  ·exact .inr (.inr (hl1 b g h))
  ·exact .inl (hm.free b g (by omega))
 have hb1:∀ b,b < m.nb→(m.join bx).bx b=m.bx b:=fun b h=>by simp [Mem.join,h]
 have hb2:∀ b,¬ b < m.nb→(m.join bx).bx b=(bxOf bx (b - m.nb)).shift m.nb:=fun b h=>by simp [Mem.join,h]
 have hnb:(m.join bx).nb=m.nb+bx.length:=rfl
 refine ⟨⟨fun b hb=>?_,fun b g hb=>?_,fun b g k hb ho hk=>?_,fun b b' g g' k hb hb' ho ho' hk hk'=>?_,hK,hm.up⟩,hext⟩
 ·by_cases h:b < m.nb
  ·rw [hb1 b h]
   exact Va5 (imm_all hI) hext (fun g=>hl1 b g h) (fun _ _ _ _=>rfl) (hm.box b h)
  ·rw [hb2 b h]
   have:=Vp3 (loc:=loc) (n:=m.nb) hJ (hm2.box (b - m.nb) (by simp only; omega))
   rwa [Nat.sub_add_cancel (by omega)] at this
 ·rw [hl2 b g (by omega)]
  exact hm2.free _ g (by simp only; omega)
 ·by_cases h:b < m.nb
  ·rw [hb1 b h] at ho
   rw [hl1 b g h] at hk
   have h1:=hm.own b g k h ho hk
   exact ⟨h1.1,(hold b g k h ho hk).2,h1.2.2⟩
  ·rw [hb2 b h,Box.shift_owned] at ho
   rw [hl2 b g h] at hk
   have h1:=hm2.own (b - m.nb) g k (by simp only; omega) ho hk
   exact ⟨hO k h1.1,hnew k h1.1 h1.2.1,h1.2.2⟩
 ·by_cases h:b < m.nb
  ·by_cases h':b' < m.nb
   ·rw [hb1 b h] at ho
    rw [hb1 b' h'] at ho'
    rw [hl1 b g h] at hk
    rw [hl1 b' g' h'] at hk'
    exact hm.inj b b' g g' k h h' ho ho' hk hk'
   ·rw [hb1 b h] at ho
    rw [hb2 b' h',Box.shift_owned] at ho'
    rw [hl1 b g h] at hk
    rw [hl2 b' g' h'] at hk'
    have h1:=(hold b g k h ho hk).1
    have h2:w0.heap.size≤k:=(hm2.own (b' - m.nb) g' k (by simp only; omega) ho' hk').1
    omega
  ·by_cases h':b' < m.nb
   ·rw [hb2 b h,Box.shift_owned] at ho
    rw [hb1 b' h'] at ho'
    rw [hl2 b g h] at hk
    rw [hl1 b' g' h'] at hk'
    have h1:=(hold b' g' k h' ho' hk').1
    have h2:w0.heap.size≤k:=(hm2.own (b - m.nb) g k (by simp only; omega) ho hk).1
    omega
   ·rw [hb2 b h,Box.shift_owned] at ho
    rw [hb2 b' h',Box.shift_owned] at ho'
    rw [hl2 b g h] at hk
    rw [hl2 b' g' h'] at hk'
    have:=hm2.inj (b - m.nb) (b' - m.nb) g g' k (by simp only; omega) (by simp only; omega) ho ho' hk hk'
    omega
theorem Va1 {G:Nat→Option (List D)} {I':Nat→Prop} {w':World} (h:Glob G I w) (he:Ext I I' w w'):Glob G I' w':=fun g cs hg=>by
 obtain ⟨h1,h2,h3⟩:=h g cs hg
 exact ⟨he.imm g h1,Vf4 he cs g 0 (he.same g h1) h2,by rw [← h3]; unfold rowSize; rw [he.same g h1]⟩
def SpecsOk (P:Program) (Sp:Specs):Prop:=∀ f k F,Sp.fn f=some (k,F)→Sound P Sp.glob f k F
theorem Fr.weaken {w':World} (h:Fr none' w w'):Fr O w w':=⟨h.os,h.tape,h.output,h.size,fun b hb _=>h.block b hb (fun h=>h)⟩
def Follows (P:Program) (Sp:Specs) (O I:Nat → Prop) (loc:Nat → Nat → Loc) (w:World) (o:Oper) (r:Result Next) (d:D) (m':Mem):Prop:=
  ∀ (a:Act) (next:Act → World → Prop) (Q:Exit → Act → World → Prop),(∀ v w' I' loc',MRel O I' loc' m' w' → Glob Sp.glob I' w' → V I' w' d loc' v → Ext I I' w w' → (∀ k,I' k → I k ∨ w.heap.size ≤ k) → LocExt loc loc' → Fr O w w' → next (a.put o.dst v) w') →
    o.upon P a next Q r
theorem Follows.of_res {Sp:Specs} {o:Oper} {r:Result Next} {d:D} {m':Mem} (hG:Glob Sp.glob I w) (h:Res O I loc w r d m'):Follows P Sp O I loc w o r d m':=by
 obtain ⟨v,w',loc',h1,h2,h3,h4,h5,h6⟩:=h
 intro a next Q hn
 have:=hn v w' I loc' h2 (Va1 hG h4) h3 h4 (fun _ h=>.inl h) h5 h6
 rcases h1 with rfl | ⟨rfl,rfl⟩
 ·exact this
 ·exact this
theorem Vka {ρ:Operand→Value} {f:Operand} {args:Array Operand} {at':Array TypeId} {k:Nat} {vs:List Value} (hf:ρ f = .func (.func k) #[] vs.toArray)
  (hb : ∃ fn, P.funcs[k]? = some fn ∧ fn.body.isSome = true ∧ (fn.name == "runtime.NumGoroutine") = false) (dst : Option Tmp) (ty : TypeId) (pos : String) (af : Array Edge) (gd : Option (Nat × Bool)) :
  (execOp ρ ⟨dst,.call ⟨.value f,args,at'⟩,ty,pos,af,gd⟩).run P w = .ok (.enter k (args.toList.map ρ++vs).toArray) w:=by
 obtain ⟨fn,h1,h2,h3⟩:=hb
 have hn:fn.body.isNone=false:=by cases h:fn.body<;>simp_all
 have:args.map ρ++vs.toArray=(args.toList.map ρ++vs).toArray:=by apply Qu; simp
 simp only [execOp,resolve,hf,Deferred.ofValue,Qd,Qf,Qc,invoke,callFunc,run_program,h1,h3,Qq,if_false,hn,Array.empty_append,this]
theorem Vv3 {Sp:Specs} (hSp:SpecsOk P Sp) (hm:MRel O I loc m w) (hG:Glob Sp.glob I w) {e:Operand→D} {ρ:Operand→Value} (he:∀ x,V I w (e x) loc (ρ x)) {f:Operand} {args:Array Operand} {at':Array TypeId}
  {dst:Option Tmp} {ty:TypeId} {pos:String} {af:Array Edge} {gd:Option (Nat×Bool)} {k:Nat} {cap:List D} {F:List D→Option (D×List Box)} {ds:List D} {d:D}
  (hf:e f = .fn k cap) (hs:Sp.fn k=some (0,F)) (hF:F ds=some (d,[])) (hds:snapL m 8 (args.toList.map e++cap)=some ds) :
  Follows P Sp O I loc w ⟨dst,.call ⟨.value f,args,at'⟩,ty,pos,af,gd⟩ ((execOp ρ ⟨dst,.call ⟨.value f,args,at'⟩,ty,pos,af,gd⟩).run P w) d m:=by
 have hv:=he f
 rw [hf] at hv; simp only [V] at hv
 obtain ⟨vs,hv1,hv2⟩:=hv
 obtain ⟨hb,hS⟩:=hSp k 0 F hs
 rw [Vka hv1 hb]
 have hall:VL I w (args.toList.map e++cap) loc (args.toList.map ρ++vs):=Va0 (Vgr he _) hv2
 intro a next Q hn
 simp only [Oper.upon]
 have hJ:=(Vl5 (J:=fun k=>k < w.heap.size) hm hm.imm (fun _ h=>h) 8).2 _ _ _ hds hall
 refine (hS (fun k=>k < w.heap.size) w _ ds d [] (fun _ h=>h) (Va1 hG (imm_all hm.imm)) hJ hF).mono ?_
 rintro _ w' ⟨v,I',loc',rfl,hfr,hI',hvv,hm2⟩
 rw [if_pos (by omega)] at hI'
 subst hI'
 have hl:loc'=free:=by funext b g; exact hm2.free b g (Nat.zero_le _)
 subst hl
 have hx:=Vhu hfr hm.imm (fun _ h=>h)
 exact hn v w' I loc (hm.step hfr) (Va1 hG hx) (Va4 (imm_all (fun _ h=>h.elim)) d free loc v (.free _) hvv) hx (fun _ h=>.inl h) (.refl _) hfr.weaken
theorem Vjf:∀ (rows:List (List D)) (l:List UInt8) (vs:List Value),bytesOf rows=some l→VL I w rows.flatten free vs →
  ∃ ns:List Int,vs=ns.map (Value.int .u8)∧(ns.map fun n=>Qae n.toNat)=l
 | [],l,vs,h,hv=>by
  simp only [bytesOf,Qa] at h; subst h
  simp only [List.flatten_nil,VL] at hv; subst hv
  exact ⟨[],rfl,rfl⟩
 | row::r,l,vs,h,hv=>by
  unfold bytesOf at h
  split at h
  ·rename_i heq; cases heq
  ·rename_i n r' heq
   simp only [List.cons.injEq] at heq
   obtain ⟨rfl,rfl⟩:=heq
   split at h
   ·rw [Qb] at h
    obtain ⟨l',hl,rfl⟩:=h
    simp only [Qh,Qo,Qaf,VL] at hv
    obtain ⟨v,vr,rfl,h1,h2⟩:=hv
    simp only [V] at h1; subst h1
    obtain ⟨ns,rfl,rfl⟩:=Vjf r l' vr hl h2
    exact ⟨n::ns,rfl,rfl⟩
   ·cases h
  ·cases h
theorem Vkb {s:Nat} {x:D} {u:Value} {rows:List (List D)} (hx:V I w x loc u) (h:rowsOf m s x=some rows):∃ a n cap,u = .slice a n cap:=by
 unfold rowsOf at h
 split at h
 ·simp only [V] at hx; exact ⟨_,_,_,hx⟩
 ·simp only [V] at hx
  rcases hx with ⟨_,_,_,rfl⟩ | ⟨b,o,cap,rfl,_⟩<;>exact ⟨_,_,_,rfl⟩
 ·rename_i b g s' i n
  simp only [V] at hx
  cases hl:loc b g<;>simp only [hl] at hx
  ·obtain ⟨a,cap,rfl,_⟩:=hx; exact ⟨_,_,_,rfl⟩
  ·exact ⟨_,_,_,hx.2.2⟩
  ·obtain ⟨o,cap,rfl,_⟩:=hx; exact ⟨_,_,_,rfl⟩
 ·cases h
theorem Vs6 {Sp:Specs} (hSp:SpecsOk P Sp) (hm:MRel O I loc m w) (hG:Glob Sp.glob I w) {e:Operand→D} {ρ:Operand→Value} (he:∀ x,V I w (e x) loc (ρ x)) {o:Oper} {d:D} (h:semR P Sp o.op e m=some d) :
  Follows P Sp O I loc w o ((execOp ρ o).run P w) d m:=by
 obtain ⟨dst,op,type,pos,after,guard⟩:=o
 simp only at h
 unfold semR at h
 split at h
 ·rename_i t x
  obtain ⟨z,hz,hv⟩:=Vl0 (P:=P) hm (he x) h
  exact Follows.of_res hG (Res.of_same hm ⟨z,by simp [execOp,hz],hv⟩)
 ·rename_i src dst' x
  split at h
  case h_2=>cases h
  rename_i el hel
  split at h
  case isFalse=>cases h
  rename_i hc
  split at h
  case h_2=>cases h
  rename_i rows hr
  rw [Qb] at h
  obtain ⟨l,hl,rfl⟩:=h
  obtain ⟨vs,hsrc⟩:=Vs5 (P:=P) hm (he x) hr
  obtain ⟨a,n,cap,hu⟩:=Vkb (he x) hr
  obtain ⟨ns,rfl,rfl⟩:=Vjf rows l vs hl hsrc.vl
  have hlen:=hsrc.len
  rw [hu] at hlen
  have hn:n=rows.length:=by
   have:=congrArg (fun s:Sem Nat=>s.run P w) hlen
   simpa [Builtin.lenOf] using this
  have hfirst:=hsrc.first w rfl
  rw [hu] at hfirst
  have hconv:=run_convert_bytes_string (P:=P) w src dst' el a n cap (Val hel) (Vf6 hc.1) (Vcd hc.2)
  refine Follows.of_res hG (Res.of_same hm ⟨.string ⟨(ns.map fun n=>Qae n.toNat).toArray⟩,?_,by simp [V]⟩)
  have:(Conv.bytesToString (.slice a n cap)).run P w = .ok (.string ⟨(ns.map fun n=>Qae n.toNat).toArray⟩) w:=by
   cases a with
   | none=>
    simp only [Builtin.firstCells,Qf,Result.ok.injEq,and_true] at hfirst
    have hns:ns=[]:=by
     have:=congrArg Array.toList hfirst
     simpa using this.symm
    subst hns
    rfl
   | some a=>
    subst hn
    simp only [Builtin.firstCells,Nat.mul_one] at hfirst
    rw [run_bytesToString w a rows.length cap ns hfirst,foldl_push_bytes]
    simp [ByteArray.empty,ByteArray.emptyWithCapacity]
    rfl
  simp [execOp,hu,hconv,this]
 ·rename_i f args at'
  split at h
  case h_2=>cases h
  rename_i k cap hf
  split at h
  case h_2=>cases h
  rename_i F hs
  split at h
  case h_2=>cases h
  rename_i ds hds
  split at h
  case h_2=>cases h
  rename_i d' hF
  simp only [Qa] at h; subst h
  exact Vv3 hSp hm hG he hf hs hF hds
 ·cases h
end
structure Rel (Sp:Specs) (O I0:Nat→Prop) (w0:World) (n:Nat) (I:Nat→Prop) (loc:Nat→Nat→Loc) (σ:S) (a:Act) (w:World):Prop where
 size:a.tmps.size=n
 defers:a.defers=[]
 tmp:∀ i,V I w (σ.t i) loc (a.tmps.getD i undef)
 mem:MRel O I loc σ.m w
 glob:Glob Sp.glob I w
 fr:Fr O w0 w
 imm0:∀ k,I0 k→I k
 imm1:∀ k,I k→I0 k∨w0.heap.size≤k
def gslot (ops:Array Oper) (o:Oper):Option (Option Nat×Bool):=
 match o.guard with
 | none=>none
 | some (j,want)=>some ((ops[j]?).bind (·.dst),want)
def gd (ops:Array Oper) (o:Oper) (t:Nat→D):Option Bool:=
 match gslot ops o with
 | none=>some true
 | some (some k,want)=>match t k with
  | .bool b=>some (b == want)
  | _=>none
 | some (none,_)=>none
def stepO (P:Program) (Sp:Specs) (ops:Array Oper) (o:Oper) (σ:S):Option S:=
 match gd ops o σ.t with
 | none=>none
 | some false=>some (σ.put o.dst .dead)
 | some true=>match sem P Sp o.op (ev Sp σ.t) σ.m with
  | some (d,m')=>some ({ σ with m:=m' }.put o.dst d)
  | none=>none
section
variable {P:Program} {Sp:Specs} {O I0 I:Nat→Prop} {w0 w:World} {n:Nat} {loc:Nat→Nat→Loc} {σ:S} {a:Act}
theorem Rel.put (h:Rel Sp O I0 w0 n I loc σ a w) {m':Mem} {w':World} {I':Nat→Prop} {loc':Nat→Nat→Loc} {d:D} {v:Value} (dst:Option Nat) (hd:∀ k,dst=some k→k < n)
  (hm:MRel O I' loc' m' w') (hG:Glob Sp.glob I' w') (hv:V I' w' d loc' v) (he:Ext I I' w w') (hI:∀ k,I' k→I k∨w.heap.size≤k) (hl:LocExt loc loc') (hf:Fr O w w') :
  Rel Sp O I0 w0 n I' loc' ({ σ with m:=m' }.put dst d) (a.put dst v) w':=by
 have hold:∀ i,V I' w' (σ.t i) loc' (a.tmps.getD i undef):=fun i=>Va4 he _ loc loc' _ hl (h.tmp i)
 have hi1:∀ k,I' k→I0 k∨w0.heap.size≤k:=fun k hk=>by
  rcases hI k hk with h1 | h1
  ·exact h.imm1 k h1
  ·exact .inr (Q4 h.fr.size h1)
 cases dst with
 | none=>exact ⟨h.size,h.defers,hold,hm,hG,h.fr.trans hf,fun k hk=>he.imm k (h.imm0 k hk),hi1⟩
 | some k=>
  have hk:=hd k rfl
  refine ⟨by simp [Act.put,h.size],h.defers,fun i=>?_,hm,hG,h.fr.trans hf,fun k hk=>he.imm k (h.imm0 k hk),hi1⟩
  simp only [S.put,Act.put,upd]
  by_cases e:i=k
  ·subst e
   rw [if_pos rfl]
   have:(a.tmps.setIfInBounds i v).getD i undef=v:=by
    simp [Qy,Qw,h.size,hk]
   rw [this]; exact hv
  ·rw [if_neg e]
   have:(a.tmps.setIfInBounds k v).getD i undef=a.tmps.getD i undef:=by
    simp [Qy,Qw,Ne.symm e]
   rw [this]; exact hold i
end
def Cls.clash:Cls→Cls→Bool
 | .w,.w=>true
 | .w,.r=>true
 | .r,.w=>true
 | _,_=>false
def maskE (acc:List Nat):List Edge→Nat
 | []=>0
 | e::r=>if Region.binds .any e=true then 2 ^ e.on ||| acc.getD e.on 0 ||| maskE acc r else maskE acc r
def masks:List Oper→List Nat→List Nat
 | [],acc=>acc
 | o::r,acc=>masks r (acc++[maskE acc o.after.toList])
section
variable {P:Program} {Sp:Specs} {ops:Array Oper}
theorem Vl6 {o:Oper} {x:Nat} (h:Operand.tmp x∈o.op.operands):x∈o.looksAt ops:=by
 unfold Oper.looksAt
 rw [Qm]
 left
 rw [List.mem_filterMap]
 exact ⟨.tmp x,by simpa using h,rfl⟩
theorem S.put_comm (σ:S) {x y:Option Nat} (d d':D) (h:∀ k,x=some k→y≠some k):(σ.put x d).put y d'=(σ.put y d').put x d:=by
 cases x with
 | none=>rfl
 | some k=>
  cases y with
  | none=>rfl
  | some q=>
   have hne:k≠q:=fun e=>h k rfl (by rw [e])
   simp only [S.put]
   congr 1
   funext j
   simp only [upd]
   by_cases h1:j=k
   ·subst h1; simp [hne]
   ·simp [h1]
def left (n:Nat) (listed:Array Bool):List Nat:=(Q1 n).filter fun i=>!listed.getD i true
theorem mem_left {n i:Nat} {listed:Array Bool}:i∈left n listed↔i < n∧listed.getD i true=false:=by
 simp [left,Qa4]
def Closed (ops:Array Oper) (listed:Array Bool):Prop:=∀ (k:Nat) (o:Oper),ops[k]? = some o→listed.getD k false=true→∀ e∈o.after,Region.binds .any e=true→listed.getD e.on false=true
theorem Vga {acc:List Nat} {j:Nat}:∀ {es:List Edge},(maskE acc es).testBit j=true→∃ e∈es,Region.binds .any e=true∧(e.on=j∨(acc.getD e.on 0).testBit j=true)
 | [],h=>by simp [maskE] at h
 | e::r,h=>by
  simp only [maskE] at h
  split at h
  ·rename_i hb
   simp only [Nat.testBit_or,Qa6] at h
   rcases h with (h | h) | h
   ·rw [Nat.testBit_two_pow] at h
    exact ⟨e,by simp,hb,.inl (by simpa using h)⟩
   ·exact ⟨e,by simp,hb,.inr h⟩
   ·obtain ⟨e',h1,h2⟩:=Vga h
    exact ⟨e',by simp [h1],h2⟩
  ·obtain ⟨e',h1,h2⟩:=Vga h
   exact ⟨e',by simp [h1],h2⟩
def GoodMask (ops:Array Oper) (i m:Nat):Prop:=∀ listed,Closed ops listed→∀ o,ops[i]? = some o→(∀ e∈o.after,Region.binds .any e=true→listed.getD e.on false=true)→∀ j,m.testBit j=true→listed.getD j false=true
theorem Vgb:∀ (l:List Oper) (acc:List Nat),(∀ i,i < l.length→ops[acc.length+i]? = l[i]?)→(∀ i,i < acc.length→GoodMask ops i (acc.getD i 0))→(∀ i,acc.length≤i→acc.getD i 0=0) →
  ∀ i,GoodMask ops i ((masks l acc).getD i 0)
 | [],acc,_,hg,h0,i=>by
  simp only [masks]
  by_cases hi:i < acc.length
  ·exact hg i hi
  ·rw [h0 i (by omega)]; intro _ _ _ _ _ j hj; simp at hj
 | o::r, acc, ho, hg, h0, i => by
  simp only [masks]
  refine Vgb r _ (fun k hk=>?_) (fun k hk=>?_) (fun k hk=>?_) i
  ·have:=ho (k+1) (by simpa using hk)
   simp only [Qp,Qan,Qaa] at this ⊢
   rw [← this]; congr 1; omega
  ·by_cases e:k < acc.length
   ·have:(acc++[maskE acc o.after.toList]).getD k 0=acc.getD k 0:=by simp [Qa0,Q7 e]
    rw [this]; exact hg k e
   ·have hk':k=acc.length:=by simp at hk; omega
    subst hk'
    have hm:(acc++[maskE acc o.after.toList]).getD acc.length 0=maskE acc o.after.toList:=by simp [Qa0]
    rw [hm]
    have hoi:=ho 0 (by simp)
    simp only [Q5,Q9] at hoi
    intro listed hcl o' ho' hd j hj
    rw [hoi] at ho'; cases ho'
    obtain ⟨e,he,hb,hor⟩:=Vga hj
    have hel:=hd e (by simpa using he) hb
    rcases hor with rfl | hor
    ·exact hel
    ·by_cases hlt:e.on < acc.length
     ·cases hoe:ops[e.on]? with
      | none=>
       have h3:=hg e.on hlt
       exfalso
       have:e.on < ops.size:=by
        have:acc.length < ops.size:=by
         rcases Qj acc.length ops.size with h | h
         ·exact h
         ·rw [Qn h] at hoi; cases hoi
        omega
       simp [this] at hoe
      | some oe=>exact hg e.on hlt listed hcl oe hoe (hcl e.on oe hoe hel) j hor
     ·rw [h0 e.on (by omega)] at hor; simp at hor
  ·simp only [Qp,Qan] at hk
   simp only [Qa0]
   rw [Qk (by simp; omega)]
   rfl
theorem Ver {n i:Nat} {listed:Array Bool} (_hsz:listed.size=n) (hi:i∈left n listed) :
  ∃ l r,left n listed=l++i::r∧(∀ j∈l,j < i∧listed.getD j true=false)∧left n (listed.setIfInBounds i true)=l++r:=by
 obtain ⟨hlt,hf⟩:=mem_left.1 hi
 have hr:Q1 n=Q1 i++i::(Q1 (n - i - 1)).map (i+1+·):=by
  have e:n=i+(1+(n - i - 1)):=by omega
  conv=>lhs; rw [e,Qah,Qah]
  simp [List.range_succ,Qac]
 refine ⟨(Q1 i).filter (fun k=>!listed.getD k true),((Q1 (n - i - 1)).map (i+1+·)).filter (fun k=>!listed.getD k true),?_,?_,?_⟩
 ·unfold left
  rw [hr,Qay,Qa1,if_pos (by simp [hf])]
 ·intro j hj
  simp only [Qa4,Qai] at hj
  exact ⟨hj.1,by simpa using hj.2⟩
 ·unfold left
  rw [hr,Qay,Qa1]
  have hi':(listed.setIfInBounds i true).getD i true=true:=by
   simp [Qy,Qw]
   split<;>rfl
  rw [if_neg (by simp [hi'])]
  have hne:∀ k,k≠i→(listed.setIfInBounds i true).getD k true=listed.getD k true:=fun k hk=>by
   simp [Qy,Qw,Ne.symm hk]
  congr 1
  ·apply Qaz
   intro k hk
   simp only [Qai] at hk
   rw [hne k (by omega)]
  ·apply Qaz
   intro k hk
   simp only [List.mem_map,Qai] at hk
   obtain ⟨q,_,rfl⟩:=hk
   rw [hne _ (by omega)]
end
inductive Ex where
 | normal
 | exit (id:Nat)
 | ret
def Weak (Sp:Specs) (σ σ':S):Prop:=∀ (O I0:Nat→Prop) (w0:World) (n:Nat) (I:Nat→Prop) (loc:Nat→Nat→Loc) (a:Act) (w:World),Rel Sp O I0 w0 n I loc σ a w→∃ I' loc',Rel Sp O I0 w0 n I' loc' σ' a w
def loopA (Sp:Specs) (B:S→(Ex→S→Prop)→Prop) (Q:Ex→S→Prop):Nat→S→Prop
 | 0,_=>False
 | n+1,σ=>∃ σ',Weak Sp σ σ'∧B σ' fun e τ=>match e with
  | .normal=>loopA Sp B Q n τ
  | e=>Q e τ
section
variable {P:Program} {Sp:Specs} {O I0:Nat→Prop} {w0:World} {n:Nat}
theorem Vl7 (ops:Array Oper):ops.toList.map some=(Q1 ops.size).map (ops[·]?):=by
 apply Qa2
 ·simp
 ·intro i h1 h2
  simp at h1
  simp [h1]
theorem Rel.drew {σ:S} {I:Nat→Prop} {loc:Nat→Nat→Loc} {a:Act} {w:World} (h:Rel Sp O I0 w0 n I loc σ a w):Rel Sp O I0 w0 n I loc σ a { w with drawn:=w.drawn+1 }:=by
 have he:Ext I I w { w with drawn:=w.drawn+1 }:=Ext.of_heap rfl
 exact ⟨h.size,h.defers,fun i=>Va4 he _ loc loc _ (.refl _) (h.tmp i),MRel.of_heap (w:=w) rfl h.mem,Va1 h.glob he,h.fr.trans ⟨rfl,rfl,rfl,Qg _,fun _ _ _=>rfl⟩,h.imm0,h.imm1⟩
theorem Weak.refl (σ:S):Weak Sp σ σ:=fun _ _ _ _ I loc _ _ h=>⟨I,loc,h⟩
def rdv (a:Act):ResultVar→Sem Value
 | .tmp t=>pure (a.tmps.getD t undef)
 | .cell x t=>do loadVar t (← asAddr (a.tmps.getD x undef))
def t0 (ds:List D):Nat→D:=fun i=>ds.getD i .dead
def S0 (ds:List D):S:=⟨t0 ds,⟨0,fun _=>.gone⟩⟩
end
end Go.Abs
