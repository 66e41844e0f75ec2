/- The library of abstract values, part 2: see the remarks ahead of each part. No condition. -/
import Derived.Test.YtaddhgkhilmniaaGreatDoorLib1
import Derived.Laws.CopyRow
set_option linter.unusedVariables false
set_option linter.unusedSimpArgs false
namespace Go.Abs
open Go
structure Fr (O:Nat->Prop) (w w':World):Prop where
 os:w'.os=w.os
 tape:w'.tape=w.tape
 output:w'.output=w.output
 size:w.heap.size<=w'.heap.size
 block:∀ b,b < w.heap.size->¬ O b->w'.heap[b]? = w.heap[b]?
def Unfz (fz:Nat×Nat) (n:Nat):Prop:=fz.1<=fz.2/\∀ o,o < n->¬ (fz.1<=o/\o < fz.2)
theorem unfz0 (n:Nat):Unfz (0,0) n:=⟨Nat.le_refl _,λo _=>by simp⟩
def RelB (I:Nat->Prop) (w:World) (loc:Nat->Nat->Loc) (b:Nat):Box->Prop
 | .gone=>∀ g,loc b g = .stale\/loc b g = .free
 | .lent=>True
 | .var cs=>(∀ g,g≠0->loc b g = .free)/\∃ k c el fz,loc b 0 = .blk k/\w.heap[k]? = some (.cells c el fz)/\Unfz fz c.size/\(∀ x∈c.toList,x.oneCell'=true)/\VL I w cs loc c.toList
 | .arr g s rows=>((∀ g',g' < g->loc b g' = .stale)/\∀ g',g < g'->loc b g' = .free)/\((loc b g = .nil/\rows=[]) \/
   ∃ k c el fz,loc b g = .blk k/\w.heap[k]? = some (.cells c el fz)/\Unfz fz c.size/\rows.length * s<=c.size/\VR I w s rows k 0)
 | .frz g s rows=>((∀ g',g' < g->loc b g' = .stale)/\∀ g',g < g'->loc b g' = .free)/\((loc b g = .nil/\rows=[])\/∃ k,loc b g = .blk k/\I k/\VR I w s rows k 0)
 | .iter l pos=>(∀ g,g≠0->loc b g = .free)/\∃ k,loc b 0 = .blk k/\w.heap[k]? = some (.stringIter ⟨l.toArray⟩ pos)
 | .mset ks=>(∀ g,g≠0->loc b g = .free)/\∃ k es clock,loc b 0 = .blk k/\w.heap[k]? = some (.map es clock)/\es.toList.map (λe=>(e.key,e.val))=ks.map λx=>(x,.bool true)
def Box.owned:Box->Bool
 | .var _=>true
 | .arr _ _ _=>true
 | .iter _ _=>true
 | .mset _=>true
 | _=>false
structure MRel (O I:Nat->Prop) (loc:Nat->Nat->Loc) (m:Mem) (w:World):Prop where
 box:∀ b,b < m.nb->RelB I w loc b (m.bx b)
 free:∀ b g,m.nb<=b->loc b g = .free
 own:∀ b g k,b < m.nb->(m.bx b).owned=true->loc b g = .blk k->O k/\¬ I k/\k < w.heap.size
 inj:∀ b b' g g' k,b < m.nb->b' < m.nb->(m.bx b).owned=true->(m.bx b').owned=true->loc b g = .blk k->loc b' g' = .blk k->b=b'
 imm:∀ k,I k->k < w.heap.size
 up:∀ k,w.heap.size<=k->O k
def Mem.rows (m:Mem) (b g s:Nat):Option (List (List D)):=
 match m.bx b with
 | .arr g' s' rows=>if g=g'/\s=s' then some rows else none
 | .frz g' s' rows=>if g=g'/\s=s' then some rows else none
 | _=>none
def Mem.cut (m:Mem) (b g s i n:Nat):Option (List (List D)):=
 match m.rows b g s with
 | some rows=>if i+n<=rows.length then some ((rows.drop i).take n) else none
 | none=>none
mutual
def snap (m:Mem):Nat->D->Option D
 | 0,_=>none
 | n+1,d=>match d with
  | .bs b g s i k=>(m.cut b g s i k).map (.rs s)
  | .bp b off=>match m.bx b with
   | .var cs=>(snapL m n (cs.drop off)).map .rp
   | _=>none
  | .ap b g s i off=>match m.rows b g s with
   | some rows=>(rows[i]?).map λrow=>.rp (row.drop off)
   | none=>none
  | .mp _=>none
  | .agg cs=>(snapL m n cs).map .agg
  | .tup cs=>(snapL m n cs).map .tup
  | .fn f cs=>(snapL m n cs).map (.fn f)
  | d=>some d
def snapL (m:Mem):Nat->List D->Option (List D)
 | _,[]=>some []
 | 0,_::_=>none
 | n+1,d::r=>match snap m n d,snapL m (n+1) r with
  | some x,some y=>some (x::y)
  | _,_=>none
end
mutual
def D.flat:D->Bool
 | .bool _=>true
 | .int _ _=>true
 | .str _=>true
 | .lit _=>true
 | .nilp=>true
 | .nils=>true
 | .agg cs=>flatL cs
 | .tup cs=>flatL cs
 | _=>false
def flatL:List D->Bool
 | []=>true
 | d::r=>d.flat&&flatL r
end
mutual
def D.pure:D->Bool
 | .dead=>true
 | .bool _=>true
 | .int _ _=>true
 | .str _=>true
 | .lit _=>true
 | .nilp=>true
 | .nils=>true
 | .rs _ _=>true
 | .rp _=>true
 | .agg cs=>pureL cs
 | _=>false
def pureL:List D->Bool
 | []=>true
 | d::r=>d.pure&&pureL r
end
def bytesD (l:List UInt8):List (List D):=l.map λb=>[.int .u8 b.toNat]
def bytesOf:List (List D)->Option (List UInt8)
 | []=>some []
 | [.int .u8 n]::r=>if 0<=n/\n < 256 then (bytesOf r).map (UInt8.ofNat n.toNat::·) else none
 | _::_=>none
def rowsOf (m:Mem) (s:Nat):D->Option (List (List D))
 | .nils=>some []
 | .rs s' rows=>if s=s' then some rows else none
 | .bs b g s' i n=>if s=s' then m.cut b g s i n else none
 | _=>none
def loadR (P:Program) (m:Mem) (t:TypeId) (x:D):Option D:=
 match x with
 | .bp b off=>match m.bx b with
  | .var cs=>loadD P t (cs.drop off)
  | _=>none
 | .ap b g s i off=>match m.rows b g s with
  | some rows=>loadD P t ((rows.drop i).flatten.drop off)
  | none=>none
 | .rp cs=>loadD P t cs
 | _=>none
def semR (P:Program) (Sp:Specs) (o:Op) (e:Operand -> D) (m:Mem):Option D:=
  match o with
  | .load t x=>loadR P m t (e x)
  | .convert src dst x=>match telem P src with
    | some el=>if tint P el=some .u8 /\ tstr P dst=true then match rowsOf m 1 (e x) with
        | some rows=>(bytesOf rows).map .str
        | none=>none
      else none
    | none=>none
  | .call { callee:=.value f,args,.. }=>match e f with
    | .fn k cap=>match Sp.fn k with
      | some (0,F)=>match snapL m 8 (args.toList.map e ++ cap) with
        | some ds=>match F ds with
          | some (d,[])=>some d
          | _=>none
        | none=>none
      | _=>none
    | _=>none
  | _=>none
mutual
def D.shift (k:Nat):D->D
 | .bp b off=>.bp (b+k) off
 | .mp b=>.mp (b+k)
 | .ap b g s i off=>.ap (b+k) g s i off
 | .bs b g s i n=>.bs (b+k) g s i n
 | .agg cs=>.agg (shiftL k cs)
 | .tup cs=>.tup (shiftL k cs)
 | .fn f cs=>.fn f (shiftL k cs)
 | d=>d
def shiftL (k:Nat):List D->List D
 | []=>[]
 | d::r=>d.shift k::shiftL k r
end
def Box.shift (k:Nat):Box->Box
 | .var cs=>.var (shiftL k cs)
 | b=>b
def Mem.join (m:Mem) (bx:List Box):Mem:={ nb:=m.nb+bx.length,bx:=λb=>if b < m.nb then m.bx b else (bxOf bx (b - m.nb)).shift m.nb }
def Mem.add (m:Mem) (x:Box):Mem:={ nb:=m.nb+1,bx:=upd m.bx m.nb x }
def Mem.set (m:Mem) (b:Nat) (x:Box):Mem:={ m with bx:=upd m.bx b x }
def zrow (P:Program) (e:TypeId) (s:Nat):Option (List D):=
 match tzero P e with
 | some z=>if z.fit=true/\z.cells.length=s/\z.pure then some z.cells else none
 | none=>none
def rowParts (P:Program) (s:Nat) (rows:List (List D)):List (Nat×D)->Option (List (List D))
 | []=>some rows
 | (i,x)::r=>if x.fit=true/\x.cells.length=s/\x.pure=true/\i < rows.length then rowParts P s (rows.set i x.cells) r else none
def small (need bytes:Nat):Bool:=decide (need<=70368744177664/\(2 * need+192) * bytes<=281474976710656)
def appendW (P:Program) (m:Mem) (t:TypeId) (s:D) (more:Nat -> Option (List (List D))):Option (D × Mem):=
  match telem P t with
  | none=>none
  | some el => match tsz P el, tbytes P el with
    | some sz,some by'=>match zrow P el sz,more sz with
      | some _,some rows'=>match s with
        | .nils=>if small rows'.length by' then some (.bs m.nb 0 sz 0 rows'.length,m.add (.arr 0 sz rows')) else none
        | .bs b g s' 0 n=>match m.bx b with
          | .arr g' s'' rows=>if g=g' /\ s'=sz /\ s''=sz /\ n <= rows.length /\ small (n + rows'.length) by'=true then
              some (.bs b (g + 1) sz 0 (n + rows'.length),m.set b (.arr (g + 1) sz (rows.take n ++ rows')))
            else none
          | _=>none
        | _=>none
      | _,_=>none
    | _,_=>none
def semW (P : Program) (Sp : Specs) (o : Op) (e : Operand -> D) (m : Mem) : Option (D × Mem) :=
  match o with
  | .alloc t=>match tzero P t with
    | some z=>if z.fit then some (.bp m.nb 0,m.add (.var z.cells)) else none
    | none=>none
  | .box _ x=>if (e x).fit then some (.bp m.nb 0,m.add (.var (e x).cells)) else none
  | .store t x y=>match tsz P t with
    | some sz => if (e y).fit = true /\ (e y).cells.length = sz then match e x with
        | .bp b off=>match m.bx b with
          | .var cs=>if off + sz <= cs.length then some (.dead,m.set b (.var (setCells cs off (e y).cells))) else none
          | _=>none
        | .ap b g s i off=>match m.bx b with
          | .arr g' s' rows=>if g=g' /\ s=s' /\ (e y).pure=true then match rows[i]? with
              | some row=>if off + sz <= row.length then some (.dead,m.set b (.arr g' s' (rows.set i (setCells row off (e y).cells)))) else none
              | none=>none
            else none
          | _=>none
        | _=>none
      else none
    | none=>none
  | .buildSlice t n parts=>match telem P t with
    | some el=>match tsz P el with
      | some sz=>if n * sz <= 16777216 then match zrow P el sz with
          | some z=>match rowParts P sz (List.replicate n z) (parts.toList.map λp=>(p.1,e p.2)) with
            | some rows=>some (.bs m.nb 0 sz 0 n,m.add (.arr 0 sz rows))
            | none=>none
          | none=>none
        else none
      | none=>none
    | none=>none
  | .range t x=>match e x with
    | .str l=>if tstr P t then some (.bp m.nb 0,m.add (.iter l 0)) else none
    | _=>none
  | .next x true=>match e x with
    | .bp b 0=>match m.bx b with
      | .iter l pos=>if pos < l.length then
          some (.tup [.bool true,.int .i64 pos,.int .i32 (Utf8.decode ⟨l.toArray⟩ pos).1],m.set b (.iter l (pos + (Utf8.decode ⟨l.toArray⟩ pos).2)))
        else some (.tup [.bool false],m)
      | _=>none
    | _=>none
  | .call { callee:=.builtin .append,args,argTypes }=>match args.toList,argTypes.toList with
    | [s,x],[t,t']=>match e x with
      | .str l=>if tstr P t'=true then appendW P m t (e s) (λsz=>if sz=1 then some (bytesD l) else none) else none
      | d=>if (telem P t').isSome then appendW P m t (e s) (λsz=>rowsOf m sz d) else none
    | _,_=>none
  | .call { callee:=.value f,args,.. }=>match e f with
    | .fn k cap=>match Sp.fn k with
      | some (1,F)=>match snapL m 8 (args.toList.map e ++ cap) with
        | some ds=>match F ds with
          | some (d,bx)=>some (d.shift m.nb,m.join bx)
          | none=>none
        | none=>none
      | some (2,F)=>if pureL (args.toList.map e ++ cap)=true then match F (args.toList.map e ++ cap) with
          | some (d,bx)=>some (d.shift m.nb,m.join bx)
          | none=>none
        else none
      | _=>none
    | _=>none
  | _=>none
inductive Cls where
 | n | r | w
def cls (P:Program) (Sp:Specs) (o:Op):Cls:=
 match o with
 | .load _ _=>.r
 | .convert src dst _=>if (telem P src).isSome then .r else if (telem P dst).isSome then .w else .n
 | .alloc _=>.w
 | .box _ _=>.w
 | .store _ _ _=>.w
 | .buildSlice _ _ _=>.w
 | .range _ _=>.w
 | .next _ _=>.w
 | .call { callee:=.builtin b,.. }=>match b with
  | .len=>.n
  | .min=>.n
  | .max=>.n
  | _=>.w
 | .call { callee:=.value (.func f),.. }=>match Sp.fn f with
  | some (0,_)=>.r
  | _=>.w
 | .call _=>.w
 | _=>.n
def sem (P:Program) (Sp:Specs) (o:Op) (e:Operand->D) (m:Mem):Option (D×Mem):=
 match cls P Sp o with
 | .n=>(semN P o e).map (·,m)
 | .r=>(semR P Sp o e m).map (·,m)
 | .w=>semW P Sp o e m
section
variable {P:Program} {O I:Nat->Prop} {w:World} {loc:Nat->Nat->Loc} {m:Mem}
theorem Ext.refl (I:Nat->Prop) (w:World):Ext I I w w:=⟨λ_ h=>h,λ_ _=>rfl,λ_=>Nat.le_refl _⟩
theorem Ext.trans {I1 I2 I3:Nat->Prop} {w1 w2 w3:World} (a:Ext I1 I2 w1 w2) (b:Ext I2 I3 w2 w3):Ext I1 I3 w1 w3:=
 ⟨λk h=>b.imm k (a.imm k h),λk h=>(b.same k (a.imm k h)).trans (a.same k h),λk=>Nat.le_trans (a.rows k) (b.rows k)⟩
theorem LocExt.trans {l1 l2 l3:Nat->Nat->Loc} (a:LocExt l1 l2) (b:LocExt l2 l3):LocExt l1 l3:=λx g=>by
 rcases a x g with h | h | h
 ·exact .inl h
 ·rcases b x g with k | k | k
  ·rw [h] at k; cases k
  ·exact .inr (.inl k)
  ·exact .inr (.inl (k.trans h))
 ·rcases b x g with k | k | k
  ·exact .inl (h ▸ k)
  ·exact .inr (.inl k)
  ·exact .inr (.inr (k.trans h))
theorem Fr.refl (O:Nat->Prop) (w:World):Fr O w w:=⟨rfl,rfl,rfl,Nat.le_refl _,λ_ _ _=>rfl⟩
theorem Fr.trans {w1 w2 w3:World} (a:Fr O w1 w2) (b:Fr O w2 w3):Fr O w1 w3:=
 ⟨b.os.trans a.os,b.tape.trans a.tape,b.output.trans a.output,Nat.le_trans a.size b.size,
  λk h ho=>(b.block k (Nat.lt_of_lt_of_le h a.size) ho).trans (a.block k h ho)⟩
theorem Vni {d:D} {v:Value} (h:V I w d free v):V I w d loc v:=Vaz (Ext.refl I w) d free loc v (.free _) h
theorem Vcu:∀ {cs:List D} {b o:Nat},VC I w cs b o->∃ vs:List Value,VL I w cs free vs/\(∀ x∈vs,x.oneCell'=true)/\∀ j x,vs[j]? = some x->w.cell? ⟨b,o+j,none⟩=some x
 | [],b,o,h=>⟨[],by simp [VL],by simp,by simp⟩
 | d::r,b,o,h=>by
  simp only [VC] at h;obtain ⟨⟨c,hc,h1,hv⟩,hr⟩:=h;obtain ⟨vs,h2,h3,h4⟩:=Vcu hr;refine ⟨c::vs,by simp only [VL]; exact ⟨c,vs,rfl,hv,h2⟩,?_,?_⟩
  ·intro x hx;simp only [List.mem_cons] at hx;rcases hx with rfl | hx
   ·exact h1
   ·exact h3 x hx
  ·intro j x hj;cases j with
   | zero=>simp at hj; subst hj; simpa using hc
   | succ j=>
    simp at hj;have:=h4 j x hj;rw [<- this]; congr 2; omega
theorem Vc6:∀ {cs:List D} {vs:List Value} {b o:Nat},VL I w cs free vs->(∀ x∈vs,x.oneCell'=true)->(∀ j x,vs[j]? = some x->w.cell? ⟨b,o+j,none⟩=some x)->VC I w cs b o
 | [],vs,b,o,h,h1,h2=>by simp [VC]
 | d::r,vs,b,o,h,h1,h2=>by
  simp only [VL] at h;obtain ⟨v,vr,rfl,hv,hr⟩:=h;simp only [VC];refine ⟨⟨v,by simpa using h2 0 v (by simp),h1 v (by simp),hv⟩,Vc6 hr (λx hx=>h1 x (by simp [hx])) λj x hj=>?_⟩;have:=h2 (j+1) x (by simpa using hj);rw [<- this]; congr 2; omega
theorem Vci {cs:List D} {vs:List Value} (h:VL I w cs free vs):VL I w cs loc vs:=Vaf (Ext.refl I w) cs free loc vs (.free _) h
theorem Vdt {t:TypeId} {cs:List D} {vs:List Value} {b o:Nat} {d:D} (hv:VL I w cs loc vs) (h1:∀ x∈vs,x.oneCell'=true)
  (hc:∀ j x,vs[j]? = some x->w.cell? ⟨b,o+j,none⟩=some x) (h:loadD P t cs=some d) :
  ∃ z,(Instr.loadAt t (.pointer (some ⟨b,o,none⟩))).run P w = .ok z w/\V I w d loc z:=by
 have hlen:=Vac hv;unfold loadD at h;split at h
 ·rename_i ha;split at h
  ·rename_i k hk;split at h
   ·rename_i hle;simp only [Option.some.injEq] at h; subst h;have e:(vs.take k).length=k:=by simp; omega
    have hl:=run_loadCells_list (P:=P) w ⟨b,o,none⟩ (vs.take k) (λj x hj=>by
     rw [Vap];refine hc j x ?_;rw [List.getElem?_take] at hj;split at hj
     ·exact hj
     ·cases hj)
    rw [e] at hl;refine ⟨.agg (vs.take k).toArray,?_,?_⟩
    ·simp [Instr.loadAt,Instr.sureAddr,loadVar,run_isAgg' ha,run_sizeOf' hk,hl]
    ·simp only [V];exact ⟨_,rfl,λx hx=>h1 x (List.mem_of_mem_take hx),Vdq k hv⟩
   ·cases h
  ·cases h
 ·rename_i ha;split at h
  ·rename_i c r;simp only [Option.some.injEq] at h; subst h;simp only [VL] at hv;obtain ⟨v,vr,rfl,hv',_⟩:=hv;have h0:=hc 0 v (by simp);simp only [Nat.add_zero] at h0;exact ⟨v,by simp [Instr.loadAt,Instr.sureAddr,loadVar,run_isAgg' ha,h0],hv'⟩
  ·cases h
 ·cases h
theorem Vg7 {b g s:Nat} {rows:List (List D)} (h:m.rows b g s=some rows):m.bx b = .arr g s rows\/m.bx b = .frz g s rows:=by
 unfold Mem.rows at h;split at h
 ·split at h
  ·rename_i hc; obtain ⟨rfl,rfl⟩:=hc; simp only [Option.some.injEq] at h; subst h; left; assumption
  ·cases h
 ·split at h
  ·rename_i hc; obtain ⟨rfl,rfl⟩:=hc; simp only [Option.some.injEq] at h; subst h; right; assumption
  ·cases h
 ·cases h
theorem lt_nb (h:MRel O I loc m w) {b g:Nat} (hl:loc b g≠.free):b < m.nb:=by
 rcases Nat.lt_or_ge b m.nb with hb | hb
 ·exact hb
 ·exact absurd (h.free b g hb) hl
theorem Ver (h:MRel O I loc m w) {b g s:Nat} {rows:List (List D)} (hb:b < m.nb) (hr:m.rows b g s=some rows) :
  (loc b g = .nil/\rows=[])\/∃ k,loc b g = .blk k/\VR I w s rows k 0:=by
 have hx:=h.box b hb;rcases Vg7 hr with e | e<;>rw [e] at hx<;>simp only [RelB] at hx
 ·rcases hx.2 with h1 | ⟨k,c,el,fz,h1,h2,h3,h4,h5⟩
  ·exact .inl h1
  ·exact .inr ⟨k,h1,h5⟩
 ·rcases hx.2 with h1 | ⟨k,h1,h2,h3⟩
  ·exact .inl h1
  ·exact .inr ⟨k,h1,h3⟩
theorem Vyu:∀ {a b':List D} {b o:Nat},VC I w a b o->VC I w b' b (o+a.length)->VC I w (a++b') b o
 | [],_,_,_,_,h=>by simpa using h
 | x::a,b',b,o,h1,h2=>by
  simp only [VC,List.cons_append] at h1 |-;refine ⟨h1.1,Vyu h1.2 ?_⟩;simp only [List.length_cons] at h2;rwa [show o+1+a.length=o+(a.length+1) by omega]
theorem Vmb {s:Nat}:∀ {rows:List (List D)} {b o:Nat},VR I w s rows b o->VC I w rows.flatten b o
 | [],_,_,_=>by simp [VC]
 | row::r,b,o,h=>by
  simp only [VR] at h;simp only [List.flatten_cons];refine Vyu h.2.1 ?_;rw [h.1];exact Vmb h.2.2
theorem Vnj {s:Nat}:∀ {rows:List (List D)} {b o:Nat} (i:Nat),VR I w s rows b o->VR I w s (rows.drop i) b (o+i * s)
 | _,_,_,0,h=>by simpa using h
 | [],_,_,_+1,_=>by simp [VR]
 | row::r,b,o,i+1,h=>by
  simp only [VR] at h;have:=Vnj i h.2.2;simp only [List.drop_succ_cons];rwa [show o+s+i * s=o+(i+1) * s by rw [Nat.add_mul]; omega] at this
theorem Vk6 {t:TypeId} {x d:D} {u:Value} (hm:MRel O I loc m w) (hx:V I w x loc u) (h:loadR P m t x=some d) :
  ∃ z,(Instr.loadAt t u).run P w = .ok z w/\V I w d loc z:=by
 unfold loadR at h;split at h
 ·rename_i b off;split at h
  case h_2=>cases h
  rename_i cs hb;simp only [V] at hx;have hlt:b < m.nb:=lt_nb (g:=0) hm (by intro e; simp [e] at hx);have hbx:=hm.box b hlt;rw [hb] at hbx; simp only [RelB] at hbx;obtain ⟨_,k,c,el,fz,hl,hw,_,hone,hv⟩:=hbx;simp only [hl] at hx; subst hx;refine Vdt (Vct off hv) (λx hx=>hone x (List.mem_of_mem_drop hx)) (λj x hj=>?_) h;simp only [List.getElem?_drop] at hj;simp [World.cell?,hw];simpa using hj
 ·rename_i b g s i off;split at h
  case h_2=>cases h
  rename_i rows hr;simp only [V] at hx;have hlt:b < m.nb:=lt_nb (g:=g) hm (by intro e; simp [e] at hx);rcases Ver hm hlt hr with ⟨hl,rfl⟩ | ⟨k,hl,hv⟩
  ·simp only [hl] at hx
  simp only [hl] at hx; subst hx;have hc:VC I w ((rows.drop i).flatten.drop off) k (i * s+off):=by
   have:=Vfm off (Vmb (Vnj i hv));rwa [Nat.zero_add] at this
  obtain ⟨vs,h1,h2,h3⟩:=Vcu hc;exact Vdt (Vci h1) h2 h3 h
 ·rename_i cs;simp only [V] at hx;obtain ⟨b,o,rfl,hI,hc⟩:=hx;obtain ⟨vs,h1,h2,h3⟩:=Vcu hc;exact Vdt (Vci h1) h2 h3 h
 ·cases h
theorem Va3 {I':Nat->Prop} {w':World} {loc':Nat->Nat->Loc} {b:Nat} {x:Box} (h:Ext I I' w w') (hl:LocExt loc loc') (hb:∀ g,loc' b g=loc b g)
  (hs:x.owned=true->∀ g k,loc b g = .blk k->w'.heap[k]? = w.heap[k]?) (hx:RelB I w loc b x):RelB I' w' loc' b x:=by
 cases x with
 | gone=>simp only [RelB] at hx |-; intro g; rw [hb]; exact hx g
 | lent=>trivial
 | var cs=>
  simp only [RelB] at hx |-;obtain ⟨h0,k,c,el,fz,h1,h2,h3,h4,h5⟩:=hx;exact ⟨λg hg=>by rw [hb]; exact h0 g hg,k,c,el,fz,by rw [hb]; exact h1,(hs rfl 0 k h1).trans h2,h3,h4,Vaf h cs loc loc' _ hl h5⟩
 | arr g s rows=>
  simp only [RelB] at hx |-;obtain ⟨h0,hx⟩:=hx;refine ⟨⟨λg' hg=>by rw [hb]; exact h0.1 g' hg,λg' hg=>by rw [hb]; exact h0.2 g' hg⟩,?_⟩;rcases hx with ⟨h1,h2⟩ | ⟨k,c,el,fz,h1,h2,h3,h4,h5⟩
  ·exact .inl ⟨by rw [hb]; exact h1,h2⟩
  ·exact .inr ⟨k,c,el,fz,by rw [hb]; exact h1,(hs rfl g k h1).trans h2,h3,h4,Vb4 h s rows k 0 (hs rfl g k h1) h5⟩
 | frz g s rows=>
  simp only [RelB] at hx |-;obtain ⟨h0,hx⟩:=hx;refine ⟨⟨λg' hg=>by rw [hb]; exact h0.1 g' hg,λg' hg=>by rw [hb]; exact h0.2 g' hg⟩,?_⟩;rcases hx with ⟨h1,h2⟩ | ⟨k,h1,h2,h3⟩
  ·exact .inl ⟨by rw [hb]; exact h1,h2⟩
  ·exact .inr ⟨k,by rw [hb]; exact h1,h.imm k h2,Vb4 h s rows k 0 (h.same k h2) h3⟩
 | iter l pos=>
  simp only [RelB] at hx |-;obtain ⟨h0,k,h1,h2⟩:=hx;exact ⟨λg hg=>by rw [hb]; exact h0 g hg,k,by rw [hb]; exact h1,(hs rfl 0 k h1).trans h2⟩
 | mset ks=>
  simp only [RelB] at hx |-;obtain ⟨h0,k,es,ck,h1,h2,h3⟩:=hx;exact ⟨λg hg=>by rw [hb]; exact h0 g hg,k,es,ck,by rw [hb]; exact h1,(hs rfl 0 k h1).trans h2,h3⟩
def locNew (loc:Nat->Nat->Loc) (b:Nat) (l:Loc):Nat->Nat->Loc:=λb' g=>if b'=b then (if g=0 then l else .free) else loc b' g
theorem Vav (hm:MRel O I loc m w) (l:Loc):LocExt loc (locNew loc m.nb l):=λb g=>by
 unfold locNew;by_cases hb:b=m.nb
 ·subst hb; exact .inl (hm.free _ _ (Nat.le_refl _))
 ·simp [hb]
theorem Vbd (hi:∀ k,I k->k < w.heap.size) (o:Obj):Ext I I w (w.alloc o):=by
 refine ⟨λ_ h=>h,λk hk=>RowKit.Below.heap_alloc w o k (hi k hk),λk=>?_⟩;rcases Nat.lt_or_ge k w.heap.size with hk | hk
 ·simp only [rowSize,RowKit.Below.heap_alloc w o k hk]; exact Nat.le_refl _
 ·have:w.heap[k]? = none:=Array.getElem?_eq_none hk;simp [rowSize,this]
theorem Vb6 (w:World) (o:Obj):Fr O w (w.alloc o):=⟨rfl,rfl,rfl,by simp,λk hk _=>RowKit.Below.heap_alloc w o k hk⟩
theorem MRel.alloc (hm:MRel O I loc m w) (o:Obj) (x:Box) (hx:RelB I (w.alloc o) (locNew loc m.nb (.blk w.heap.size)) m.nb x) :
  MRel O I (locNew loc m.nb (.blk w.heap.size)) (m.add x) (w.alloc o):=by
 have he:=Vbd hm.imm o;have hl:=Vav hm (.blk w.heap.size);have ne:∀ b,b < m.nb->b≠m.nb:=λb hb=>Nat.ne_of_lt hb;have hnb:(m.add x).nb=m.nb+1:=rfl;have hbx:∀ b,(m.add x).bx b=if b=m.nb then x else m.bx b:=λb=>rfl
 refine ⟨λb hb=>?_,λb g hb=>?_,λb g k hb ho hk=>?_,λb b' g g' k hb hb' ho ho' hk hk'=>?_,λk hk=>?_,λk hk=>?_⟩
 ·rw [hbx];by_cases e:b=m.nb
  ·subst e; rw [if_pos rfl]; exact hx
  ·rw [if_neg e];have hlt:b < m.nb:=by omega
   refine Va3 he hl (λg=>by simp [locNew,e]) (λho g k hk=>?_) (hm.box b hlt);exact RowKit.Below.heap_alloc w o k (hm.own b g k hlt ho hk).2.2
 ·have:b≠m.nb:=by omega
  simp only [locNew,this,if_false];exact hm.free b g (by omega)
 ·rw [hbx] at ho;by_cases e:b=m.nb
  ·subst e;simp only [locNew,if_true] at hk;split at hk
   ·cases hk;exact ⟨hm.up _ (Nat.le_refl _),λhI=>absurd (hm.imm _ hI) (Nat.lt_irrefl _),by simp⟩
   ·cases hk
  ·rw [if_neg e] at ho;simp only [locNew,e,if_false] at hk;have:=hm.own b g k (by omega) ho hk;exact ⟨this.1,this.2.1,by simp; omega⟩
 ·rw [hbx] at ho ho';by_cases e:b=m.nb
  ·by_cases e':b'=m.nb
   ·rw [e,e']
   ·subst e;simp only [locNew,if_true] at hk;simp only [locNew,e',if_false] at hk';rw [if_neg e'] at ho';split at hk
    ·cases hk;have:=(hm.own b' g' _ (by omega) ho' hk').2.2;omega
    ·cases hk
  ·by_cases e':b'=m.nb
   ·subst e';simp only [locNew,if_true] at hk';simp only [locNew,e,if_false] at hk;rw [if_neg e] at ho;split at hk'
    ·cases hk';have:=(hm.own b g _ (by omega) ho hk).2.2;omega
    ·cases hk'
   ·rw [if_neg e] at ho;rw [if_neg e'] at ho';simp only [locNew,e,if_false] at hk;simp only [locNew,e',if_false] at hk';exact hm.inj b b' g g' k (by omega) (by omega) ho ho' hk hk'
 ·have:=hm.imm k hk; simp; omega
 ·exact hm.up k (by simp at hk; omega)
end
section
variable {P:Program} {O I:Nat->Prop} {w:World} {loc:Nat->Nat->Loc} {m:Mem}
def Res (O I:Nat->Prop) (loc:Nat->Nat->Loc) (w:World) (r:Result Next) (d:D) (m':Mem):Prop:=
 ∃ v w' loc',(r = .ok (.value v) w'\/(r = .ok .skip w'/\v=undef))/\MRel O I loc' m' w'/\V I w' d loc' v/\Ext I I w w'/\LocExt loc loc'/\Fr O w w'
theorem Res.of_same {r:Result Next} {d:D} (hm:MRel O I loc m w) (h:∃ v,r = .ok (.value v) w/\V I w d loc v):Res O I loc w r d m:=by
 obtain ⟨v,h1,h2⟩:=h;exact ⟨v,w,loc,.inl h1,hm,h2,.refl _ _,.refl _,.refl _ _⟩
theorem Va2 (w:World) (o:Obj):(w.alloc o).heap[w.heap.size]? = some o:=by
 show (w.heap.push o)[w.heap.size]? = some o;simp
theorem V_new (b:Nat) (l:Nat):V I w (.bp b 0) (locNew loc b (.blk l)) (.pointer (some ⟨l,0,none⟩)):=by
 simp [V,locNew]
theorem Vaea (hm:MRel O I loc m w) {d:D} {u:Value} (el:TypeId) (hu:∀ I w loc,V I w d loc u) (hf:d.fit=true) :
  Res O I loc w (.ok (.value (.pointer (some ⟨w.heap.size,0,none⟩))) (w.alloc (.cells u.cells el))) (.bp m.nb 0) (m.add (.var d.cells)):=by
 refine ⟨_,_,locNew loc m.nb (.blk w.heap.size),.inl rfl,hm.alloc _ _ ?_,V_new _ _,Vbd hm.imm _,Vav hm _,Vb6 _ _⟩;obtain ⟨h1,h2⟩:=Vbj (hu I (w.alloc (.cells u.cells el)) (locNew loc m.nb (.blk w.heap.size))) hf;simp only [RelB];refine ⟨λg hg=>by simp [locNew,hg],w.heap.size,u.cells,el,(0,0),by simp [locNew],Va2 _ _,unfz0 _,h2,h1⟩
theorem Vtx (hm:MRel O I loc m w) {t:TypeId} {z:D} (hz:tzero P t=some z) (hf:z.fit=true) (ρ:Operand->Value) (dst:Option Tmp) (ty:TypeId) (pos:String) (af:Array Edge) (gd:Option (Nat×Bool)) :
  Res O I loc w ((execOp ρ ⟨dst,.alloc t,ty,pos,af,gd⟩).run P w) (.bp m.nb 0) (m.add (.var z.cells)):=by
 obtain ⟨v,hv,rfl⟩:=run_zero' hz w;have:(execOp ρ ⟨dst,.alloc t,ty,pos,af,gd⟩).run P w = .ok (.value (.pointer (some ⟨w.heap.size,0,none⟩))) (w.alloc (.cells v.cells t)):=by
  simp [execOp,Instr.alloc,hv,newVar,newRow]
 rw [this];exact Vaea hm t (λ_ _ _=>ofV_V v) hf
theorem Vafa (hm:MRel O I loc m w) {t:TypeId} {x:Operand} {d:D} (ρ:Operand->Value) (hv:V I w d loc (ρ x)) (hf:d.fit=true) (dst:Option Tmp) (ty:TypeId) (pos:String) (af:Array Edge) (gd:Option (Nat×Bool)) :
  Res O I loc w ((execOp ρ ⟨dst,.box t x,ty,pos,af,gd⟩).run P w) (.bp m.nb 0) (m.add (.var d.cells)):=by
 have:(execOp ρ ⟨dst,.box t x,ty,pos,af,gd⟩).run P w = .ok (.value (.pointer (some ⟨w.heap.size,0,none⟩))) (w.alloc (.cells (ρ x).cells t)):=by
  simp [execOp,Instr.box,newVar,newRow]
 rw [this];refine ⟨_,_,locNew loc m.nb (.blk w.heap.size),.inl rfl,hm.alloc _ _ ?_,V_new _ _,Vbd hm.imm _,Vav hm _,Vb6 _ _⟩;obtain ⟨h1,h2⟩:=Vbj (Vaz (Vbd hm.imm (.cells (ρ x).cells t)) d loc (locNew loc m.nb (.blk w.heap.size)) (ρ x) (Vav hm _) hv) hf;simp only [RelB];exact ⟨λg hg=>by simp [locNew,hg],w.heap.size,(ρ x).cells,t,(0,0),by simp [locNew],Va2 _ _,unfz0 _,h2,h1⟩
theorem MRel.change (hm:MRel O I loc m w) {b:Nat} {loc':Nat->Nat->Loc} {w':World} {x:Box} (hb:b < m.nb) (hown:(m.bx b).owned=true)
  (hl:∀ b',b'≠b->∀ g,loc' b' g=loc b' g) (he:Ext I I w w') (hle:LocExt loc loc') (hx:RelB I w' loc' b x)
  (hself:∀ g k,loc' b g = .blk k->O k/\¬ I k/\k < w'.heap.size/\∀ b',b'≠b->b' < m.nb->(m.bx b').owned=true->∀ g',loc b' g'≠.blk k)
  (hsame:∀ k,k < w.heap.size->(∀ g,loc b g≠.blk k)->w'.heap[k]? = w.heap[k]?) (hsize:w.heap.size<=w'.heap.size) :
  MRel O I loc' (m.set b x) w':=by
 have hbx:∀ b',(m.set b x).bx b'=if b'=b then x else m.bx b':=λb'=>rfl
 have hnb:(m.set b x).nb=m.nb:=rfl;refine ⟨λb' hb'=>?_,λb' g hb'=>?_,λb' g k hb' ho hk=>?_,λb1 b2 g g' k h1 h2 ho ho' hk hk'=>?_,λk hk=>?_,λk hk=>hm.up k (by omega)⟩
 ·rw [hbx];by_cases e:b'=b
  ·subst e; rw [if_pos rfl]; exact hx
  ·rw [if_neg e];refine Va3 he hle (hl b' e) (λho g k hk=>?_) (hm.box b' hb');refine hsame k (hm.own b' g k hb' ho hk).2.2 λg' hg'=>?_;exact e (hm.inj b' b g g' k hb' hb ho hown hk hg')
 ·have e:b'≠b:=by rw [hnb] at hb'; omega
  rw [hl b' e]; exact hm.free b' g hb'
 ·rw [hbx] at ho;by_cases e:b'=b
  ·subst e;have:=hself g k hk;exact ⟨this.1,this.2.1,this.2.2.1⟩
  ·rw [if_neg e] at ho;rw [hl b' e] at hk;have:=hm.own b' g k hb' ho hk;exact ⟨this.1,this.2.1,by omega⟩
 ·rw [hbx] at ho ho';by_cases e1:b1=b
  ·by_cases e2:b2=b
   ·rw [e1,e2]
   ·subst e1;rw [if_neg e2] at ho';rw [hl b2 e2] at hk';exact absurd hk' ((hself g k hk).2.2.2 b2 e2 h2 ho' g')
  ·by_cases e2:b2=b
   ·subst e2;rw [if_neg e1] at ho;rw [hl b1 e1] at hk;exact absurd hk ((hself g' k hk').2.2.2 b1 e1 h1 ho g)
   ·rw [if_neg e1] at ho;rw [if_neg e2] at ho';rw [hl b1 e1] at hk;rw [hl b2 e2] at hk';exact hm.inj b1 b2 g g' k h1 h2 ho ho' hk hk'
 ·have:=hm.imm k hk; omega
theorem Vak (g o:Nat) (t:TypeId) (fz:Nat×Nat):∀ (vs:List Value) (i:Nat) (cur:Array Value) (w:World),w.heap[g]? = some (.cells cur t fz)->Unfz fz cur.size->o+i+vs.length<=cur.size->(∀ v∈vs,v.oneCell'=true) ->
  (storeCells ⟨g,o,none⟩ vs i).run P w = .ok () (w.setRow g (cur.toList.take (o+i)++vs++cur.toList.drop (o+i+vs.length)).toArray)
 | [],i,cur,w,hg,_,_,_=>by
  simp only [storeCells,List.append_nil,List.length_nil,Nat.add_zero,List.take_append_drop,Array.toArray_toList];rw [setRow_self w g cur t fz hg];rfl
 | v::rest,i,cur,w,hg,hf,hl,h1=>by
  have hi:o+i < cur.size:=by simp at hl; omega
  have hadd:(⟨g,o,none⟩:Addr).add i=⟨g,o+i,none⟩:=Vap g o i;have hcell:w.cell? ⟨g,o+i,none⟩=some cur[o+i]:=by simp [World.cell?,hg,hi]
  have hfro:w.frozen? ⟨g,o+i,none⟩=false:=by
   have:=hf.2 (o+i) hi;simp only [World.frozen?,hg];simpa using this
  have hst:(store ((⟨g,o,none⟩:Addr).add i) v).run P w = .ok () (w.setRow g (cur.setIfInBounds (o+i) v)):=by
   rw [hadd,run_store P w _ v _ (h1 v (by simp)),hcell];simp [hfro,setCell_eq_setRow w g (o+i) cur t fz v hg]
  have ih:=Vak g o t fz rest (i+1) (cur.setIfInBounds (o+i) v) (w.setRow g (cur.setIfInBounds (o+i) v)) (setRow_heap w g cur _ t _ hg) (by simpa using hf) (by simp at hl |-; omega) (λx hx=>h1 x (by simp [hx]));simp only [storeCells,Sem.run_bind,hst,Result.andThen_ok,ih,setRow_setRow];congr 3;have:=list_seg_step cur.toList (o+i) v rest (by simp at hl |-; omega);simp only [Array.toList_setIfInBounds,List.length_cons];rw [<- this];congr 2
theorem Vbv {k:Nat} (hI:¬ I k) {c c':Array Value} {el:TypeId} {fz:Nat×Nat} (hk:w.heap[k]? = some (.cells c el fz)) (hs:c'.size=c.size):Ext I I w (w.setRow k c'):=by
 refine ⟨λ_ h=>h,λb hb=>setRow_other w k b c' (λe=>hI (e ▸ hb)),λb=>?_⟩;by_cases e:b=k
 ·subst e; simp [rowSize,hk,setRow_heap w b c c' el fz hk,hs]
 ·simp [rowSize,setRow_other w k b c' e]
theorem Vk7 {k:Nat} (hO:O k) (c':Array Value):Fr O w (w.setRow k c'):=
 ⟨rfl,rfl,rfl,by simp,λb _ hb=>setRow_other w k b c' (λe=>hb (e ▸ hO))⟩
theorem MRel.store (hm:MRel O I loc m w) {b g k:Nat} {x:Box} {c c':Array Value} {el:TypeId} {fz:Nat×Nat} (hb:b < m.nb) (hown:(m.bx b).owned=true) (hl:loc b g = .blk k)
  (hk:w.heap[k]? = some (.cells c el fz)) (hs:c'.size=c.size) (hx:RelB I (w.setRow k c') loc b x):MRel O I loc (m.set b x) (w.setRow k c')/\Ext I I w (w.setRow k c')/\Fr O w (w.setRow k c'):=by
 have ho:=hm.own b g k hb hown hl;have he:=Vbv ho.2.1 hk hs;refine ⟨hm.change hb hown (λ_ _ _=>rfl) he (.refl _) hx (λg' k' hk'=>?_) (λk' _ hk'=>setRow_other w k k' c' (λe=>hk' g (e ▸ hl))) (by simp),he,Vk7 ho.1 c'⟩
 ·have:=hm.own b g' k' hb hown hk';refine ⟨this.1,this.2.1,by simpa using this.2.2,λb' hb' h1 h2 g2 hg2=>hb' (hm.inj b' b g2 g' k' h1 hb h2 hown hg2 hk')⟩
theorem Vi9 (hm:MRel O I loc m w) {t:TypeId} {b off sz:Nat} {cs:List D} {y:D} {u v:Value} (hx:V I w (.bp b off) loc u) (hy:V I w y loc v) (hf:y.fit=true)
  (hsz:tsz P t=some sz) (hlen:y.cells.length=sz) (hbx:m.bx b = .var cs) (hoff:off+sz<=cs.length) :
  ∃ w',(Instr.storeAt t u v).run P w = .ok () w'/\MRel O I loc (m.set b (.var (setCells cs off y.cells))) w'/\Ext I I w w'/\Fr O w w':=by
 simp only [V] at hx;have hlt:b < m.nb:=lt_nb (g:=0) hm (by intro e; simp [e] at hx);have hb:=hm.box b hlt;rw [hbx] at hb; simp only [RelB] at hb;obtain ⟨h0,k,c,el,fz,hl,hw,hu,hone,hv⟩:=hb;simp only [hl] at hx; subst hx;obtain ⟨hc1,hc2⟩:=Vbj hy hf;have hcl:=Vac hc1;have hcs:=Vac hv;have hvs:v.cells.size=sz:=by simpa [hlen] using hcl
 have hcz:c.size=cs.length:=by simpa using hcs
 have hrun:=Vak (P:=P) k off el fz v.cells.toList 0 c w hw hu (by simp; omega) hc2;simp only [Nat.add_zero] at hrun;let l':=c.toList.take off++v.cells.toList++c.toList.drop (off+v.cells.toList.length);have hl':l'.length=c.size:=by simp [l']; omega
 have hst:=hm.store (x:=.var (setCells cs off y.cells)) (c':=l'.toArray) hlt (by rw [hbx]; rfl) hl hw (by simp [hl']) (by
  simp only [RelB];refine ⟨h0,k,l'.toArray,el,fz,hl,setRow_heap w k c _ el fz hw,by simpa [hl'] using hu,?_,?_⟩
  ·intro x hx;simp only [l',List.mem_append] at hx;rcases hx with (hx | hx) | hx
   ·exact hone x (List.mem_of_mem_take hx)
   ·exact hc2 x hx
   ·exact hone x (List.mem_of_mem_drop hx)
  ·have he:=Vbv (hm.own b 0 k hlt (by rw [hbx]; rfl) hl).2.1 hw (c':=l'.toArray) (by simp [hl']);exact Vaf he _ loc loc _ (.refl _) (Vk5 cs c.toList off y.cells v.cells.toList hv hc1 (by omega)))
 refine ⟨w.setRow k l'.toArray,?_,hst.1,hst.2.1,hst.2.2⟩;simp only [Instr.storeAt,Instr.sureAddr,storeVar,Sem.run_bind,Sem.run_pure,Result.andThen_ok,run_sizeOf' hsz];simp [hvs];exact hrun
end
section
variable {P:Program} {O I:Nat->Prop} {w:World} {loc:Nat->Nat->Loc} {m:Mem}
mutual
theorem Vyv:∀ {d:D} {v:Value},d.pure=true->V I w d loc v->V I w d free v
 | .dead,_,_,_=>trivial
 | .bool _,_,_,h=>by simpa only [V] using h
 | .int _ _,_,_,h=>by simpa only [V] using h
 | .str _,_,_,h=>by simpa only [V] using h
 | .lit _,_,_,h=>by simpa only [V] using h
 | .nilp,_,_,h=>by simpa only [V] using h
 | .nils,_,_,h=>by simpa only [V] using h
 | .rs _ _,_,_,h=>by simpa only [V] using h
 | .rp _,_,_,h=>by simpa only [V] using h
 | .agg cs,v,hp,h=>by
  simp only [V] at h |-;simp only [D.pure] at hp;obtain ⟨vs,rfl,h1,h2⟩:=h;exact ⟨vs,rfl,h1,Vg8 hp h2⟩
 | .bp _ _,_,hp,_=>by simp [D.pure] at hp
 | .mp _,_,hp,_=>by simp [D.pure] at hp
 | .ap _ _ _ _ _,_,hp,_=>by simp [D.pure] at hp
 | .bs _ _ _ _ _,_,hp,_=>by simp [D.pure] at hp
 | .tup _,_,hp,_=>by simp [D.pure] at hp
 | .fn _ _,_,hp,_=>by simp [D.pure] at hp
theorem Vg8:∀ {ds:List D} {vs:List Value},pureL ds=true->VL I w ds loc vs->VL I w ds free vs
 | [],_,_,h=>by simpa only [VL] using h
 | d::r,vs,hp,h=>by
  simp only [VL] at h |-;simp only [pureL,Bool.and_eq_true] at hp;obtain ⟨v,vr,rfl,h1,h2⟩:=h;exact ⟨v,vr,rfl,Vyv hp.1 h1,Vg8 hp.2 h2⟩
end
theorem Vfn {d:D} (hp:d.pure=true):pureL d.cells=true:=by
 cases d<;>simp_all [D.cells,D.pure,pureL]
theorem Vd8 {I':Nat->Prop} {w':World} (h:Ext I I' w w'):∀ {cs:List D} {b o:Nat},(∀ j,j < cs.length->w'.cell? ⟨b,o+j,none⟩=w.cell? ⟨b,o+j,none⟩)->VC I w cs b o->VC I' w' cs b o
 | [],_,_,_,_=>trivial
 | d::r,b,o,hc,hv=>by
  simp only [VC] at hv |-;obtain ⟨⟨c,h1,h2,h3⟩,hr⟩:=hv;refine ⟨⟨c,by rw [<- h1]; simpa using hc 0 (by simp),h2,Vaz h d _ _ c (.refl _) h3⟩,Vd8 h (λj hj=>?_) hr⟩;have:=hc (j+1) (by simpa using hj);have e:o+1+j=o+(j+1):=by omega
  rw [e]; exact this
theorem Vg9 {s:Nat}:∀ {rows:List (List D)} {b o:Nat},VR I w s rows b o↔∀ (i:Nat) (row:List D),rows[i]? = some row->row.length=s/\VC I w row b (o+i * s)
 | [],b,o=>by simp [VR]
 | row::r,b,o=>by
  simp only [VR];rw [Vg9 (rows:=r)];constructor
  ·rintro ⟨h1,h2,h3⟩ i x hi;cases i with
   | zero=>simp at hi; subst hi; exact ⟨h1,by simpa using h2⟩
   | succ i=>
    have:=h3 i x (by simpa using hi);have e:o+s+i * s=o+(i+1) * s:=by rw [Nat.add_mul]; omega
    rw [e] at this;exact this
  ·intro h;refine ⟨(h 0 row (by simp)).1,by simpa using (h 0 row (by simp)).2,λi x hi=>?_⟩;have:=h (i+1) x (by simpa using hi);have e:o+s+i * s=o+(i+1) * s:=by rw [Nat.add_mul]; omega
   rw [e];exact this
theorem Vmc (l ws:List Value) (p j:Nat) (hp:p+ws.length<=l.length):(l.take p++ws++l.drop (p+ws.length))[j]? = if j < p then l[j]? else if j < p+ws.length then ws[j - p]? else l[j]?:=by
 have hlp:(l.take p).length=p:=by simp; omega
 rw [List.append_assoc,List.getElem?_append,hlp];split
 ·simp [*]
 ·rw [List.getElem?_append];split
  ·rw [if_pos (by omega)]
  ·rw [if_neg (by omega),List.getElem?_drop];congr 1; omega
theorem Vja (hm:MRel O I loc m w) {t:TypeId} {b g s i off sz:Nat} {rows:List (List D)} {row:List D} {y:D} {u v:Value} (hx:V I w (.ap b g s i off) loc u) (hy:V I w y loc v) (hf:y.fit=true) (hp:y.pure=true)
  (hsz:tsz P t=some sz) (hlen:y.cells.length=sz) (hbx:m.bx b = .arr g s rows) (hrow:rows[i]? = some row) (hoff:off+sz<=row.length) :
  ∃ w',(Instr.storeAt t u v).run P w = .ok () w'/\MRel O I loc (m.set b (.arr g s (rows.set i (setCells row off y.cells)))) w'/\Ext I I w w'/\Fr O w w':=by
 simp only [V] at hx;have hlt:b < m.nb:=lt_nb (g:=g) hm (by intro e; simp [e] at hx);have hb:=hm.box b hlt;rw [hbx] at hb; simp only [RelB] at hb;obtain ⟨h0,hb⟩:=hb;rcases hb with ⟨_,rfl⟩ | ⟨k,c,el,fz,hl,hw,hu,hrc,hv⟩
 ·simp at hrow
 simp only [hl] at hx; subst hx;have hil:i < rows.length:=by
  rcases Nat.lt_or_ge i rows.length with h | h
  ·exact h
  ·rw [List.getElem?_eq_none h] at hrow; cases hrow
 have hrl:=Vde hv hrow;obtain ⟨hc1,hc2⟩:=Vbj hy hf;have hc1:=Vg8 (Vfn hp) hc1;have hcl:=Vac hc1;have hvs:v.cells.size=sz:=by simpa [hlen] using hcl
 have hbig:(i+1) * s<=rows.length * s:=Nat.mul_le_mul_right s hil;rw [Nat.add_mul,Nat.one_mul] at hbig;have hfit:i * s+off+v.cells.toList.length<=c.size:=by simp; omega
 have hrun:=Vak (P:=P) k (i * s+off) el fz v.cells.toList 0 c w hw hu (by simpa using hfit) hc2;simp only [Nat.add_zero] at hrun;let l':=c.toList.take (i * s+off)++v.cells.toList++c.toList.drop (i * s+off+v.cells.toList.length);have hl':l'.length=c.size:=by simp [l'] at hfit |-; omega
 have he:=Vbv (hm.own b g k hlt (by rw [hbx]; rfl) hl).2.1 hw (c':=l'.toArray) (by simp [hl']);have hcell:∀ j,(w.setRow k l'.toArray).cell? ⟨k,j,none⟩=if j < i * s+off then c[j]? else if j < i * s+off+v.cells.toList.length then v.cells.toList[j - (i * s+off)]? else c[j]?:=by
  intro j;rw [cell_setRow_same w k j c l'.toArray el fz hw];have:=Vmc c.toList v.cells.toList (i * s+off) j (by simpa using hfit);simpa [l'] using this
 have hold:∀ j,w.cell? ⟨k,j,none⟩=c[j]?:=λj=>by simp [World.cell?,hw]
 have hst := hm.store (x := .arr g s (rows.set i (setCells row off y.cells))) (c' := l'.toArray) hlt (by rw [hbx]; rfl) hl hw (by simp [hl']) (by
  simp only [RelB];refine ⟨h0,.inr ⟨k,l'.toArray,el,fz,hl,setRow_heap w k c _ el fz hw,by simpa [hl'] using hu,by simpa [hl'] using hrc,?_⟩⟩;rw [Vg9];intro j x hj;rw [List.getElem?_set] at hj;split at hj
  ·rename_i hij;subst hij;simp only [Option.some.injEq] at hj; subst hj;refine ⟨by rw [Vbo _ _ _ (by omega)]; exact hrl.1,?_⟩;obtain ⟨us,q1,q2,q3⟩:=Vcu hrl.2;have hus:=Vac q1;refine Vc6 (Vaf he _ free free _ (.refl _) (Vk5 row us off y.cells v.cells.toList q1 hc1 (by omega))) ?_ ?_
   ·intro z hz;simp only [List.mem_append] at hz;rcases hz with (hz | hz) | hz
    ·exact q2 z (List.mem_of_mem_take hz)
    ·exact hc2 z hz
    ·exact q2 z (List.mem_of_mem_drop hz)
   ·intro q z hz;rw [hcell];have hsg:=Vmc us v.cells.toList off q (by simp; omega);rw [hsg] at hz;have hql:q < us.length:=by
     rcases Nat.lt_or_ge q us.length with h | h
     ·exact h
     ·split at hz
      ·omega
      ·split at hz
       ·simp at hfit; simp at *; omega
       ·rw [List.getElem?_eq_none h] at hz; cases hz
    have q4:∀ z,us[q]? = some z->c[0+i * s+q]? = some z:=λz hz=>by rw [<- hold]; exact q3 q z hz
    split at hz
    ·rw [if_pos (by omega)]; exact q4 z hz
    ·split at hz
     ·rw [if_neg (by omega),if_pos (by omega)];rw [<- hz]; congr 1; omega
     ·rw [if_neg (by omega),if_neg (by omega)]; exact q4 z hz
  ·rename_i hij;have hx:=Vde hv hj;refine ⟨hx.1,Vd8 he (λq hq=>?_) hx.2⟩;rw [hcell,hold];have hjl:j < rows.length:=by
    rcases Nat.lt_or_ge j rows.length with h | h
    ·exact h
    ·rw [List.getElem?_eq_none h] at hj; cases hj
   have hsep:j * s+s<=i * s\/i * s+s<=j * s:=by
    rcases Nat.lt_or_ge j i with h | h
    ·left;have:(j+1) * s<=i * s:=Nat.mul_le_mul_right s h;rw [Nat.add_mul] at this; omega
    ·right;have:(i+1) * s<=j * s:=Nat.mul_le_mul_right s (by omega);rw [Nat.add_mul] at this; omega
   have hvl:v.cells.toList.length=sz:=by simpa using hvs
   rw [hvl];split
   ·rfl
   ·split
    ·omega
    ·rfl)
 refine ⟨w.setRow k l'.toArray,?_,hst.1,hst.2.1,hst.2.2⟩;simp only [Instr.storeAt,Instr.sureAddr,storeVar,Sem.run_bind,Sem.run_pure,Result.andThen_ok,run_sizeOf' hsz];simp [hvs];exact hrun
theorem Va6 {s:Nat}:∀ {rows:List (List D)} {vs:List Value} {b o:Nat},(∀ row∈rows,row.length=s)->VL I w rows.flatten free vs->(∀ x∈vs,x.oneCell'=true) ->
  (∀ j x,vs[j]? = some x->w.cell? ⟨b,o+j,none⟩=some x)->VR I w s rows b o
 | [],vs,b,o,_,_,_,_=>by simp [VR]
 | row::r,vs,b,o,hs,hv,h1,hc=>by
  simp only [List.flatten_cons] at hv;have hrow:row.length=s:=hs row (by simp);have ht:=Vdq row.length hv;have hd:=Vct row.length hv;rw [List.take_left] at ht;rw [List.drop_left] at hd;simp only [VR];refine ⟨hrow,Vc6 ht (λx hx=>h1 x (List.mem_of_mem_take hx)) (λj x hj=>?_),Va6 (λx hx=>hs x (by simp [hx])) hd (λx hx=>h1 x (List.mem_of_mem_drop hx)) (λj x hj=>?_)⟩
  ·rw [List.getElem?_take] at hj;split at hj
   ·exact hc j x hj
   ·cases hj
  ·rw [List.getElem?_drop] at hj;have:=hc _ x hj;rw [hrow] at this;rw [<- this]; congr 2; omega
theorem Vfo {s:Nat}:∀ {rows:List (List D)} {b o:Nat},VR I w s rows b o->∃ vs:List Value,VL I w rows.flatten free vs/\(∀ x∈vs,x.oneCell'=true)/\vs.length=rows.length * s/\∀ j x,vs[j]? = some x->w.cell? ⟨b,o+j,none⟩=some x
 | [],b,o,_=>⟨[],by simp [VL],by simp,by simp,by simp⟩
 | row::r,b,o,h=>by
  simp only [VR] at h;obtain ⟨hs,hc,hr⟩:=h;obtain ⟨us,u1,u2,u3⟩:=Vcu hc;obtain ⟨vs,v1,v2,v4,v3⟩:=Vfo hr;have hul:=Vac u1;refine ⟨us++vs,by rw [List.flatten_cons]; exact Var u1 v1,?_,?_,λj x hj=>?_⟩
  ·intro x hx;simp only [List.mem_append] at hx;rcases hx with hx | hx
   ·exact u2 x hx
   ·exact v2 x hx
  ·simp only [List.length_append,List.length_cons,v4,hul,hs]; rw [Nat.add_mul]; omega
  ·rw [List.getElem?_append] at hj;split at hj
   ·exact u3 j x hj
   ·have:=v3 _ x hj;rw [<- this]; congr 2; omega
end
section
variable {P:Program} {O I:Nat->Prop} {w:World} {loc:Nat->Nat->Loc} {m:Mem}
theorem Vga (z:List Value):∀ n:Nat,(List.range (n * z.length)).map (λi=>z.toArray[i % z.length]!)=(List.replicate n z).flatten
 | 0=>by simp
 | n+1=>by
  have e:(n+1) * z.length=n * z.length+z.length:=by rw [Nat.add_mul]; omega
  rw [e,List.range_add,List.map_append,Vga z n,List.replicate_succ',List.flatten_append];congr 1;simp only [List.map_map,List.flatten_singleton];apply List.ext_getElem
  ·simp
  ·intro i h1 h2;simp only [List.length_map,List.length_range] at h1;simp only [List.getElem_map,List.getElem_range,Function.comp];have:(n * z.length+i) % z.length=i:=by rw [Nat.mul_comm,Nat.mul_add_mod,Nat.mod_eq_of_lt h1]
   rw [this];simp [h1]
theorem Vb2 (z:List Value) (n:Nat):Builtin.zeroCells z.toArray n=((List.replicate n z).flatten).toArray:=by
 unfold Builtin.zeroCells;apply Array.ext';have:=Vga z n;simpa [Array.toList_range] using this
theorem Vdf {s:Nat}:∀ (rows:List (List D)) (i:Nat) (vs:List D),(∀ row ∈ rows,row.length=s) -> vs.length=s -> i < rows.length ->
    setCells rows.flatten (i * s) vs=(rows.set i vs).flatten
  | [],i,vs,_,_,h=>by simp at h
  | row :: r,0,vs,hs,hv,_=>by
    have hrow:row.length=s:=hs row (by simp);have gen : ∀ (a b v : List D), v.length = a.length -> setCells (a ++ b) 0 v = v ++ b := by
      intro a;induction a with
      | nil => intro b v hv; have : v = [] := by simpa using hv
               subst this; cases b <;> simp [setCells]
      | cons x a ih=>
        intro b v hv;cases v with
        | nil=>simp at hv
        | cons y v=>simp only [List.cons_append,setCells]; rw [ih b v (by simpa using hv)]
    simp only [List.flatten_cons,Nat.zero_mul,List.set_cons_zero];exact gen row _ vs (by omega)
  | row :: r,i + 1,vs,hs,hv,h=>by
    have hrow:row.length=s:=hs row (by simp);have gen:∀ (a b v:List D) (k:Nat),setCells (a ++ b) (a.length + k) v=a ++ setCells b k v:=by
      intro a;induction a with
      | nil=>intro b v k; simp
      | cons x a ih=>
        intro b v k;cases v with
        | nil=>simp [setCells]
        | cons y v=>
          have:(x :: a).length + k=(a.length + k) + 1:=by simp; omega
          rw [this];simp only [List.cons_append,setCells];rw [ih]
    have e:(i + 1) * s=row.length + i * s:=by rw [Nat.add_mul,hrow]; omega
    simp only [List.flatten_cons,List.set_cons_succ];rw [e,gen,Vdf r i vs (λx hx=>hs x (by simp [hx])) hv (by simpa using h)]
theorem Vad {s:Nat}:∀ (rows:List (List D)),(∀ row∈rows,row.length=s)->rows.flatten.length=rows.length * s
 | [],_=>by simp
 | row::r,h=>by
  simp only [List.flatten_cons,List.length_append,List.length_cons];rw [Vad r (λx hx=>h x (by simp [hx])),h row (by simp),Nat.add_mul]; omega
theorem Vc7 {s:Nat} {e:Operand->D}:∀ (ps:List (Nat×Operand)) (rows rows':List (List D)),(∀ row∈rows,row.length=s) ->
  rowParts P s rows (ps.map λp=>(p.1,e p.2))=some rows' ->
  fillD (λi=>some (i * s,s)) rows.flatten (ps.map λp=>(p.1,e p.2))=some rows'.flatten/\(∀ row∈rows',row.length=s)/\rows'.length=rows.length/\((∀ row∈rows,pureL row=true)->∀ row∈rows',pureL row=true)
 | [],rows,rows',hs,h=>by
  simp only [List.map_nil,rowParts,Option.some.injEq] at h; subst h;exact ⟨rfl,hs,rfl,λh=>h⟩
 | (i, x)::r, rows, rows', hs, h => by
  simp only [List.map_cons,rowParts] at h;split at h
  case isFalse=>cases h
  rename_i hc;obtain ⟨h1,h2,h3,h4⟩:=hc;have hs':∀ row∈rows.set i (e x).cells,row.length=s:=λrow hr=>by
   rcases List.mem_or_eq_of_mem_set hr with hr | rfl
   ·exact hs row hr
   ·exact h2
  obtain ⟨q1,q2,q3,q4⟩:=Vc7 r _ rows' hs' h;refine ⟨?_,q2,by simpa using q3,λhp=>q4 λrow hr=>?_⟩
  ·simp only [List.map_cons,fillD];rw [Vdf rows i _ hs h2 h4,if_pos]
   ·exact q1
   ·refine ⟨h1,h2,?_⟩;rw [Vad rows hs];have:(i+1) * s<=rows.length * s:=Nat.mul_le_mul_right s h4;rw [Nat.add_mul] at this; omega
  ·rcases List.mem_or_eq_of_mem_set hr with hr | rfl
   ·exact hp row hr
   ·exact Vfn h3
theorem Ve2:∀ (rows:List (List D)),(∀ row∈rows,pureL row=true)->pureL rows.flatten=true
 | [],_=>rfl
 | row::r,h=>by
  have app:∀ a b:List D,pureL a=true->pureL b=true->pureL (a++b)=true:=by
   intro a;induction a with
   | nil=>intro b _ hb; exact hb
   | cons x a ih=>intro b ha hb; simp only [List.cons_append,pureL,Bool.and_eq_true] at ha |-; exact ⟨ha.1,ih b ha.2 hb⟩
  rw [List.flatten_cons];exact app _ _ (h row (by simp)) (Ve2 r λx hx=>h x (by simp [hx]))
theorem Vdu {e:TypeId} {s:Nat} {z:List D} (h:zrow P e s=some z) (w:World):∃ v,(zeroValue e).run P w = .ok v w/\z=(ofV v).cells/\z.length=s/\pureL z=true/\(ofV v).fit=true/\v.cells.size=s:=by
 unfold zrow at h;split at h
 case h_2=>cases h
 rename_i d hd;obtain ⟨v,hv,rfl⟩:=run_zero' hd w;split at h
 case isFalse=>cases h
 rename_i hc;simp only [Option.some.injEq] at h; subst h;have:=Vac (Vbj (I:=λ_=>True) (w:=w) (loc:=free) (ofV_V v) hc.1).1;exact ⟨v,hv,rfl,hc.2.1,Vfn hc.2.2,hc.1,by rw [<- hc.2.1,<- this]; simp⟩
theorem Vty (hm:MRel O I loc m w) {s n cap:Nat} {rows:List (List D)} {vs:List Value} (el:TypeId) (hs:∀ row∈rows,row.length=s) (_hn:rows.length=n) (hv:VL I w rows.flatten free vs) (h1:∀ x∈vs,x.oneCell'=true) (rest:List Value) (hcap:cap * s=(vs++rest).length) (hle:n<=cap) :
  Res O I loc w (.ok (.value (.slice (some ⟨w.heap.size,0,none⟩) n cap)) (w.alloc (.cells (vs++rest).toArray el))) (.bs m.nb 0 s 0 n) (m.add (.arr 0 s rows)):=by
 have hvl:=Vac hv;have he:=Vbd hm.imm (.cells (vs++rest).toArray el);refine ⟨_,_,locNew loc m.nb (.blk w.heap.size),.inl rfl,hm.alloc _ _ ?_,?_,he,Vav hm _,Vb6 _ _⟩
 ·simp only [RelB];refine ⟨⟨λg hg=>by omega,λg hg=>by simp [locNew]; omega⟩,.inr ⟨w.heap.size,_,el,(0,0),by simp [locNew],Va2 _ _,unfz0 _,?_,?_⟩⟩
  ·rw [Vad rows hs] at hvl;simp; omega
  ·refine Va6 hs (Vaf he _ free free vs (.refl _) hv) h1 λj x hj=>?_;simp only [World.cell?,Va2,Nat.zero_add];have hj':j < vs.length:=by
    rcases Nat.lt_or_ge j vs.length with h | h
    ·exact h
    ·rw [List.getElem?_eq_none h] at hj; cases hj
   simp [List.getElem?_append_left hj',hj]
 ·simp only [V,locNew,if_true];exact ⟨0,cap,rfl,hle,.inr (by simp),by rw [rowSize,Va2]; simpa using Nat.le_of_eq hcap⟩
theorem Via (hm:MRel O I loc m w) {e:Operand->D} {ρ:Operand->Value} (he:∀ x,V I w (e x) loc (ρ x)) {t el:TypeId} {n sz:Nat} {parts:Array (Nat×Operand)} {z:List D} {rows:List (List D)}
  (ht:telem P t=some el) (hsz:tsz P el=some sz) (hn:n * sz<=16777216) (hz:zrow P el sz=some z) (hr:rowParts P sz (List.replicate n z) (parts.toList.map λp=>(p.1,e p.2))=some rows) :
  ∃ v w',(Instr.buildSlice t n (parts.map λ(i,x)=>(i,ρ x))).run P w = .ok v w'/\Res O I loc w (.ok (.value v) w') (.bs m.nb 0 sz 0 n) (m.add (.arr 0 sz rows)):=by
 have hp:(parts.map λ(i,x)=>(i,ρ x)).toList=parts.toList.map λp=>(p.1,ρ p.2):=by simp
 obtain ⟨v,hv,rfl,hzl,hzp,hzf,hvz⟩:=Vdu hz w;obtain ⟨q1,q2,q3,q4⟩:=Vc7 parts.toList (List.replicate n (ofV v).cells) rows (λrow hr=>by rw [List.eq_of_mem_replicate hr]; exact hzl) hr;obtain ⟨hc1,hc2⟩:=Vbj (I:=I) (w:=w) (loc:=loc) (ofV_V v) hzf;have hflat:∀ n,VL I w (List.replicate n (ofV v).cells).flatten loc (List.replicate n v.cells.toList).flatten:=by
  intro n;induction n with
  | zero=>simp [VL]
  | succ n ih=>simp only [List.replicate_succ,List.flatten_cons]; exact Var hc1 ih
 have hone:∀ x∈(List.replicate n v.cells.toList).flatten,x.oneCell'=true:=by
  intro x hx;rw [List.mem_flatten] at hx;obtain ⟨l,hl,hx⟩:=hx;rw [List.eq_of_mem_replicate hl] at hx;exact hc2 x hx
 obtain ⟨vs,hvs,ho,hl⟩:=Ve1 he parts.toList _ _ _ (hflat n) hone q1;have hlen:rows.length=n:=by simpa using q3
 have hpure:=Ve2 rows (q4 λrow hr=>by rw [List.eq_of_mem_replicate hr]; exact hzp);have hres:=Vty hm (n:=n) (cap:=n) el q2 hlen (Vg8 hpure hl) ho [] (by rw [List.append_nil,Vac hl,Vad rows q2,hlen]) (Nat.le_refl _);refine ⟨_,_,?_,hres⟩;have hcells:(Array.range (n * sz)).map ((if n * sz=0 then (#[]:Array Value) else v.cells)[· % (if n * sz=0 then (#[]:Array Value) else v.cells).size]!)=((List.replicate n v.cells.toList).flatten).toArray:=by
  by_cases h0:n * sz=0
  ·rw [if_pos h0,h0];have:((List.replicate n v.cells.toList).flatten).length=0:=by
    rw [List.length_flatten]; simp [List.map_replicate,List.sum_replicate_nat,hvz,h0]
   have e:(List.replicate n v.cells.toList).flatten=[]:=List.eq_nil_of_length_eq_zero this;rw [e]; simp
  ·rw [if_neg h0];apply Array.ext';have:=Vga v.cells.toList n;simp only [Array.length_toList,hvz,Array.toArray_toList] at this;simpa [Array.toList_range,hvz] using this
 have hnot:¬ n * sz > 2 ^ 24:=by simp; omega
 by_cases h0:n * sz=0
 ·simp only [h0,if_true] at hcells;simp only [Instr.buildSlice,Sem.run_bind,run_underlying (Vag ht),Result.andThen_ok,run_sizeOf' hsz,h0,if_true,hp];simp only [gt_iff_lt,Nat.not_lt_zero,if_false,hcells,hvs,Sem.run_pure,Result.andThen_ok,Sem.run_bind,newRow,run_newObj,World.alloc_eq,List.append_nil]
 ·simp only [h0,if_false] at hcells;simp only [Instr.buildSlice,Sem.run_bind,run_underlying (Vag ht),Result.andThen_ok,run_sizeOf' hsz,h0,if_false,Sem.run_pure,hp,hnot,hv,hcells,hvs,newRow,run_newObj,World.alloc_eq,List.append_nil]
end
section
variable {P:Program} {O I:Nat->Prop} {w:World} {loc:Nat->Nat->Loc} {m:Mem}
theorem Ext.of_heap {w':World} (h:w'.heap=w.heap):Ext I I w w':=⟨λ_ h=>h,λb _=>by rw [h],λb=>by simp [rowSize,h]⟩
theorem MRel.of_heap {w':World} (h:w'.heap=w.heap) (hm:MRel O I loc m w):MRel O I loc m w':=
 ⟨λb hb=>Va3 (Ext.of_heap h) (.refl _) (λ_=>rfl) (λ_ g k _=>by rw [h]) (hm.box b hb),hm.free,λb g k hb ho hk=>by rw [h]; exact hm.own b g k hb ho hk,hm.inj,λk hk=>by rw [h]; exact hm.imm k hk,λk hk=>hm.up k (by rw [<- h]; exact hk)⟩
theorem Res.from {w1:World} {r:Result Next} {d:D} {m':Mem} (h:w1.heap=w.heap) (ho:w1.os=w.os) (ht:w1.tape=w.tape) (hp:w1.output=w.output) (hr:Res O I loc w1 r d m'):Res O I loc w r d m':=by
 obtain ⟨v,w',loc',h1,h2,h3,h4,h5,h6⟩:=hr;exact ⟨v,w',loc',h1,h2,h3,(Ext.of_heap h).trans h4,h5,(Fr.mk ho ht hp (by rw [h]; exact Nat.le_refl _) (λb _ _=>by rw [h])).trans h6⟩
theorem Vk8 (newLen:Nat):∀ (r c:Nat),c < newLen->Builtin.growBy newLen r c<=2 * newLen+192
 | 0,c,h=>by simp only [Builtin.growBy]; omega
 | r+1,c,h=>by
  simp only [Builtin.growBy];rw [if_neg (by omega)];by_cases h':c+(c+768) / 4 < newLen
  ·exact Vk8 newLen r _ h'
  ·cases r with
   | zero=>simp only [Builtin.growBy]; omega
   | succ r=>simp only [Builtin.growBy]; rw [if_pos (by omega)]; omega
theorem Vfp {need cap:Nat} (h:cap < need):Builtin.nextslicecap need cap<=2 * need+192:=by
 unfold Builtin.nextslicecap;split
 ·omega
 ·split
  ·omega
  ·exact Vk8 need 4 cap h
structure Src (P:Program) (I:Nat->Prop) (w:World) (s:Nat) (rows:List (List D)) (vs:List Value) (x:Value):Prop where
 len:Builtin.lenOf x=pure rows.length
 first:∀ w2:World,w2.heap=w.heap->(Builtin.firstCells s rows.length x).run P w2 = .ok vs.toArray w2
 vl:VL I w rows.flatten free vs
 one:∀ x∈vs,x.oneCell'=true
 row:∀ row∈rows,row.length=s
theorem Vtz {s:Nat} {rows:List (List D)} {b o:Nat} (h:VR I w s rows b o):∀ row∈rows,row.length=s:=by
 intro row hr;obtain ⟨i,hi⟩:=List.getElem?_of_mem hr;exact (Vde h hi).1
theorem Vha {s n cap k o:Nat} {rows:List (List D)} (hv:VR I w s rows k o) (hn:rows.length=n):∃ vs,Src P I w s rows vs (.slice (some ⟨k,o,none⟩) n cap):=by
 obtain ⟨vs,h1,h2,h3,h4⟩:=Vfo hv;refine ⟨vs,by simp [Builtin.lenOf,hn],λw2 h=>?_,h1,h2,Vtz hv⟩;have:=run_loadCells_list (P:=P) w2 ⟨k,o,none⟩ vs (λj x hj=>by rw [Vap,Vk1 (w:=w) (by rw [h])]; exact h4 j x hj);simp only [Builtin.firstCells];rw [<- h3]; exact this
theorem Vdv {s:Nat} {a:Option Addr} {cap:Nat}:Src P I w s [] [] (.slice a 0 cap):=by
 refine ⟨rfl,λw2 h=>?_,by simp [VL],by simp,by simp⟩;cases a with
 | none=>rfl
 | some a=>simp [Builtin.firstCells,loadCells,loadCellsFrom]
theorem Vnk {b g s i n:Nat} {rows:List (List D)} (h:m.cut b g s i n=some rows):∃ all,m.rows b g s=some all/\i+n<=all.length/\rows=(all.drop i).take n:=by
 unfold Mem.cut at h;split at h
 ·rename_i all ha;split at h
  ·simp only [Option.some.injEq] at h;exact ⟨all,ha,by assumption,h.symm⟩
  ·cases h
 ·cases h
theorem Vnl (hm:MRel O I loc m w) {s:Nat} {x:D} {u:Value} {rows:List (List D)} (hx:V I w x loc u) (h:rowsOf m s x=some rows):∃ vs,Src P I w s rows vs u:=by
 unfold rowsOf at h;split at h
 ·simp only [Option.some.injEq] at h; subst h;simp only [V] at hx; subst hx;exact ⟨[],Vdv⟩
 ·split at h
  ·rename_i hs;subst hs;simp only [Option.some.injEq] at h; subst h;simp only [V] at hx;rcases hx with ⟨rfl,_,_,rfl⟩ | ⟨b,o,cap,rfl,_,_,hv⟩
   ·exact ⟨[],Vdv⟩
   ·exact Vha hv rfl
  ·cases h
 ·split at h
  ·rename_i hs;subst hs;rename_i b g i n;obtain ⟨all,ha,hle,rfl⟩:=Vnk h;simp only [V] at hx;have hlt:b < m.nb:=lt_nb (g:=g) hm (by intro e; simp [e] at hx);rcases Ver hm hlt ha with ⟨hl,rfl⟩ | ⟨k,hl,hv⟩
   ·simp only [hl] at hx;obtain ⟨_,rfl,rfl⟩:=hx;simp only [List.drop_nil,List.take_nil];exact ⟨[],Vdv⟩
   ·simp only [hl] at hx;obtain ⟨o,cap,rfl,hn,ho,_⟩:=hx;have hlen:((all.drop i).take n).length=n:=by simp; omega
    rcases ho with ho | ho
    ·have:n=0:=by omega
     subst this;simp only [List.take_zero];exact ⟨[],Vdv⟩
    ·subst ho;have:=Vdr n (Vg3 i hv);simp only [Nat.zero_add] at this;exact Vha this hlen
  ·cases h
 ·cases h
theorem Vt0 (l:List UInt8):∃ vs,Src P I w 1 (bytesD l) vs (.string ⟨l.toArray⟩):=by
 refine ⟨l.map λb=>.int .u8 b.toNat,by simp [Builtin.lenOf,Vc4,bytesD],λw2 _=>?_,?_,by simp [Value.oneCell'],by simp [bytesD]⟩
 ·have:(ByteArray.mk l.toArray).extract 0 (bytesD l).length=⟨l.toArray⟩:=by
   rw [Vii]; simp [bytesD]
  simp only [Builtin.firstCells,this,Sem.run_pure];congr 1;apply Array.ext'; simp
 ·unfold bytesD;induction l with
  | nil=>simp [VL]
  | cons b r ih=>simp only [List.map_cons,List.flatten_cons,List.cons_append,List.nil_append,VL]; exact ⟨_,_,rfl,rfl,ih⟩
def dr (w:World):World:={ w with drawn:=w.drawn+1 }
theorem Vhb {t t' el ty:TypeId} {dsc:TypeDesc} {sz by':Nat} {z:List D} {u x:Value} {n cap:Nat} {a:Option Addr} {rows rows':List (List D)} {us vs:List Value}
    (ht:telem P t=some el) (ht':P.underlying t'=some dsc) (hni:dsc = .string \/ ∃ e,dsc = .slice e) (hsz:tsz P el=some sz) (hby:tbytes P el=some by') (hz:zrow P el sz=some z)
    (hu:u = .slice a n cap) (hs:Src P I w sz rows us u) (hn:rows.length=n) (hx:Src P I w sz rows' vs x) (hg:cap < n + rows'.length) (hsm:small (n + rows'.length) by'=true) :
    ∃ newCap rest,n + rows'.length <= newCap /\ newCap * sz=(us ++ vs ++ rest).length /\
      (Builtin.append_ #[t,t'] ty #[u,x]).run P w = .ok (.slice (some ⟨w.heap.size,0,none⟩) (n + rows'.length) newCap) ((dr w).alloc (.cells (us ++ vs ++ rest).toArray el)):=by
  subst hu;obtain ⟨v,hv,rfl,hzl,hzp,hzf,hvz⟩:=Vdu hz w;unfold small at hsm;simp only [decide_eq_true_eq] at hsm;obtain ⟨hs1,hs2⟩:=hsm;unfold tbytes at hby;rw [Option.map_eq_some_iff] at hby;obtain ⟨info,hinfo,rfl⟩:=hby;have hti:∀ w,(typeInfo el).run P w = .ok info w:=λw=>by simp [typeInfo,hinfo]
  let need:=n + rows'.length;let q:Question:=.appendCap need cap el;let newCap:=q.cut (w.tape w.drawn q);have hcap:need <= newCap:=by simp only [newCap,q,Question.cut]; exact Nat.le_add_right _ _
  let rest:=((List.replicate (newCap - need) v.cells.toList).flatten);have hrest:rest.length=(newCap - need) * sz:=by
    simp only [rest,List.length_flatten,List.map_replicate,List.sum_replicate_nat,Array.length_toList,hvz]
  have hul:us.length=n * sz:=by rw [Vac hs.vl,Vad rows hs.row,hn]
  have hvl:vs.length=rows'.length * sz:=by rw [Vac hx.vl,Vad rows' hx.row]
  refine ⟨newCap,rest,hcap,?_,?_⟩
  · simp only [List.length_append,hul,hvl,hrest]
    rw [<- Nat.add_mul,<- Nat.add_mul];congr 1;show newCap=n + rows'.length + (newCap - (n + rows'.length));have:n + rows'.length <= newCap:=hcap;omega
  · have hnx:Builtin.nextslicecap need cap * info.bytes <= 2 ^ 48:=by
      have h1:=Vfp hg;have h2:Builtin.nextslicecap need cap * info.bytes <= (2 * need + 192) * info.bytes:=Nat.mul_le_mul_right _ h1;have h3:(2 * need + 192) * info.bytes <= 281474976710656:=hs2;omega
    have hbig:¬ ((need:Nat):Int) > IntKind.i64.max:=by
      have:need <= 70368744177664:=hs1;simp only [IntKind.max,IntKind.signed,IntKind.bits,if_true];omega
    have hno:¬ need <= cap:=by show ¬ (n + rows'.length <= cap); omega
    have hold:=hs.first (dr w) rfl
    rw [hn] at hold;have hnew:=hx.first (dr w) rfl
    have hvw:(zeroValue el).run P (dr w) = .ok v (dr w):=by
      have h1:(zeroValue el).run P w = .ok v w:=hv;simp only [zeroValue,Sem.run_bind,hti,Result.andThen_ok] at h1 |-;split at h1
      · simp only [Sem.run_pure,Result.ok.injEq,and_true] at h1
        subst h1; rfl
      · simp at h1
    have hzc:Builtin.zeroCells v.cells (newCap - need)=rest.toArray:=by
      have:=Vb2 v.cells.toList (newCap - need);simpa using this
    have hm2:¬ (Builtin.nextslicecap need cap * info.bytes > 2 ^ 48):=by omega
    have hch:(choose q).run P w = .ok newCap (dr w):=by
      rw [run_choose]; rfl
    unfold Builtin.append_;rcases hni with rfl | ⟨e0,rfl⟩ <;>
    · simp only [Sem.run_bind,List.getElem?_toArray,List.getElem?_cons_zero,List.getElem?_cons_succ,run_underlying (Vag ht),Result.andThen_ok,run_sizeOf' hsz,run_underlying ht',Sem.run_pure,hx.len,Bool.false_eq_true,if_false,Bool.not_false,if_true,Sem.run_ite,hti,run_askRoom]
      change (if need <= cap then _ else _)=_;rw [if_neg hno];rw [if_neg (λh=>hbig h.1),if_neg hm2];change ((choose q).run P w).andThen _=_;rw [hch];simp only [Result.andThen_ok,hold,hnew,hvw];change ((newRow el (us.toArray ++ vs.toArray ++ Builtin.zeroCells v.cells (newCap - need))).run P (dr w)).andThen _=_;rw [hzc];simp only [newRow,Sem.run_bind,run_newObj,Result.andThen_ok,Sem.run_pure,World.alloc_eq,List.append_toArray];rfl
theorem Vhc {t t' el ty:TypeId} {dsc:TypeDesc} {sz:Nat} {x:Value} {n cap:Nat} {a:Option Addr} {rows':List (List D)} {vs:List Value} {w':World}
  (ht:telem P t=some el) (ht':P.underlying t'=some dsc) (hni:dsc = .string\/∃ e,dsc = .slice e) (hsz:tsz P el=some sz)
  (hx:Src P I w sz rows' vs x) (hg:n+rows'.length<=cap) (hst:(match a with | some a=>storeCells (a.add (n * sz)) vs | none=>pure ():Sem Unit).run P w = .ok () w') :
  (Builtin.append_ #[t,t'] ty #[.slice a n cap,x]).run P w = .ok (.slice a (n+rows'.length) cap) w':=by
 have hnew:=hx.first w rfl
 unfold Builtin.append_;rcases hni with rfl | ⟨e0,rfl⟩ <;>
 ·simp only [Sem.run_bind,List.getElem?_toArray,List.getElem?_cons_zero,List.getElem?_cons_succ,run_underlying (Vag ht),Result.andThen_ok,run_sizeOf' hsz,run_underlying ht',Sem.run_pure,hx.len,Bool.false_eq_true,if_false,Bool.not_false,if_true,Sem.run_ite];rw [if_pos hg];cases a with
  | none=>
   simp only [Sem.run_pure,Result.ok.injEq,true_and] at hst;subst hst;simp only [hnew,Result.andThen_ok,Sem.run_pure]
  | some a=>
   simp only [hnew,Result.andThen_ok,Sem.run_bind];simp only at hst;rw [hst];rfl
def locGen (loc:Nat->Nat->Loc) (b g:Nat) (l:Loc):Nat->Nat->Loc:=λb' g'=>if b'=b then (if g'=g+1 then l else if g' < g+1 then .stale else .free) else loc b' g'
theorem Vd9 {b g:Nat} (l:Loc) (h:∀ g',g < g'->loc b g' = .free):LocExt loc (locGen loc b g l):=λb' g'=>by
 unfold locGen;by_cases e:b'=b
 ·subst e;simp only [if_true];by_cases e2:g'=g+1
  ·left; exact h g' (by omega)
  ·by_cases e3:g' < g+1
   ·simp [e2,e3]
   ·left; exact h g' (by omega)
 ·simp [e]
theorem MRel.addNil (hm:MRel O I loc m w) (s:Nat):MRel O I (locNew loc m.nb .nil) (m.add (.arr 0 s [])) w:=by
 have hl:=Vav hm .nil;have hbx:∀ b,(m.add (.arr 0 s [])).bx b=if b=m.nb then .arr 0 s [] else m.bx b:=λb=>rfl
 have hnb:(m.add (.arr 0 s [])).nb=m.nb+1:=rfl;have key:∀ b g k,locNew loc m.nb .nil b g = .blk k->b≠m.nb/\loc b g = .blk k:=λb g k h=>by
  unfold locNew at h;by_cases e:b=m.nb
  ·rw [if_pos e] at h; split at h<;>cases h
  ·rw [if_neg e] at h; exact ⟨e,h⟩
 refine ⟨λb hb=>?_,λb g hb=>?_,λb g k hb ho hk=>?_,λb b' g g' k hb hb' ho ho' hk hk'=>?_,hm.imm,hm.up⟩
 ·rw [hbx];by_cases e:b=m.nb
  ·subst e;rw [if_pos rfl];simp only [RelB];exact ⟨⟨λg hg=>by omega,λg hg=>by simp [locNew]; omega⟩,.inl (by simp [locNew])⟩
  ·rw [if_neg e];exact Va3 (.refl _ _) hl (λg=>by simp [locNew,e]) (λ_ _ _ _=>rfl) (hm.box b (by omega))
 ·have:b≠m.nb:=by omega
  simp only [locNew,this,if_false];exact hm.free b g (by omega)
 ·obtain ⟨e,hk⟩:=key b g k hk;rw [hbx,if_neg e] at ho;exact hm.own b g k (by omega) ho hk
 ·obtain ⟨e,hk⟩:=key b g k hk;obtain ⟨e',hk'⟩:=key b' g' k hk';rw [hbx,if_neg e] at ho;rw [hbx,if_neg e'] at ho';exact hm.inj b b' g g' k (by omega) (by omega) ho ho' hk hk'
theorem Res.bind {s:Sem Value} {d:D} {m':Mem} {v:Value} {w':World} (h:s.run P w = .ok v w') (hr:Res O I loc w (.ok (.value v) w') d m'):Res O I loc w ((do pure (.value (<- s)):Sem Next).run P w) d m':=by
 have:(do pure (.value (<- s)):Sem Next).run P w = .ok (.value v) w':=by simp [h]
 rw [this]; exact hr
theorem Vk9 (hm:MRel O I loc m w) {b g s n cap:Nat} {old rows:List (List D)} {vs:List Value} (el:TypeId) (hb:b < m.nb) (hbx:m.bx b = .arr g s old) (hs:∀ row∈rows,row.length=s) (_hn:rows.length=n) (hv:VL I w rows.flatten free vs) (h1:∀ x∈vs,x.oneCell'=true) (rest:List Value) (hcap:cap * s=(vs++rest).length) (hle:n<=cap) :
  Res O I loc w (.ok (.value (.slice (some ⟨w.heap.size,0,none⟩) n cap)) (w.alloc (.cells (vs++rest).toArray el))) (.bs b (g+1) s 0 n) (m.set b (.arr (g+1) s rows)):=by
 have hvl:=Vac hv;have he:=Vbd hm.imm (.cells (vs++rest).toArray el);have hbr:=hm.box b hb;rw [hbx] at hbr; simp only [RelB] at hbr;have hfree:=hbr.1.2;have hown:(m.bx b).owned=true:=by rw [hbx]; rfl
 have hle':=Vd9 (loc:=loc) (b:=b) (g:=g) (.blk w.heap.size) hfree;refine ⟨_,_,locGen loc b g (.blk w.heap.size),.inl rfl,hm.change hb hown (λb' hb' g'=>by simp [locGen,hb']) he hle' ?_ ?_ (λk hk _=>RowKit.Below.heap_alloc w _ k hk) (by simp),?_,he,hle',Vb6 _ _⟩
 ·simp only [RelB];refine ⟨⟨λg' hg=>by unfold locGen; rw [if_pos rfl,if_neg (by omega),if_pos hg],λg' hg=>by unfold locGen; rw [if_pos rfl,if_neg (by omega),if_neg (by omega)]⟩,.inr ⟨w.heap.size,_,el,(0,0),by simp [locGen],Va2 _ _,unfz0 _,?_,?_⟩⟩
  ·rw [Vad rows hs] at hvl;simp; omega
  ·refine Va6 hs (Vaf he _ free free vs (.refl _) hv) h1 λj x hj=>?_;simp only [World.cell?,Va2,Nat.zero_add];have hj':j < vs.length:=by
    rcases Nat.lt_or_ge j vs.length with h | h
    ·exact h
    ·rw [List.getElem?_eq_none h] at hj; cases hj
   simp [List.getElem?_append_left hj',hj]
 ·intro g' k hk;simp only [locGen,if_true] at hk;split at hk
  ·cases hk;exact ⟨hm.up _ (Nat.le_refl _),λhI=>absurd (hm.imm _ hI) (Nat.lt_irrefl _),by simp,λb' hb' h1 h2 g2 hg2=>absurd (hm.own b' g2 _ h1 h2 hg2).2.2 (Nat.lt_irrefl _)⟩
  ·split at hk<;>cases hk
 ·simp only [V,locGen,if_true];exact ⟨0,cap,rfl,hle,.inr (by simp),by rw [rowSize,Va2]; simpa using Nat.le_of_eq hcap⟩
theorem Vhd {a b:List (List D)} {us vs:List Value} (h:VL I w a.flatten free us) (h':VL I w b.flatten free vs):VL I w (a++b).flatten free (us++vs):=by
 rw [List.flatten_append]; exact Var h h'
structure More (P:Program) (I:Nat -> Prop) (w:World) (t t' ty el:TypeId) (sz by':Nat) (rows':List (List D)) (vs:List Value) (x:Value):Prop where
  vl:VL I w rows'.flatten free vs
  one:∀ x ∈ vs,x.oneCell'=true
  row:∀ row ∈ rows',row.length=sz
  grow:∀ {u:Value} {n cap:Nat} {a:Option Addr} {rows:List (List D)} {us:List Value},u = .slice a n cap -> Src P I w sz rows us u -> rows.length=n -> cap < n + rows'.length -> small (n + rows'.length) by'=true ->
    ∃ newCap rest,n + rows'.length <= newCap /\ newCap * sz=(us ++ vs ++ rest).length /\
      (Builtin.append_ #[t,t'] ty #[u,x]).run P w = .ok (.slice (some ⟨w.heap.size,0,none⟩) (n + rows'.length) newCap) ((dr w).alloc (.cells (us ++ vs ++ rest).toArray el))
  room:∀ {n cap:Nat} {a:Option Addr} {w':World},n + rows'.length <= cap -> (match a with | some a=>storeCells (a.add (n * sz)) vs | none=>pure ():Sem Unit).run P w = .ok () w' ->
    (Builtin.append_ #[t,t'] ty #[.slice a n cap,x]).run P w = .ok (.slice a (n + rows'.length) cap) w'
theorem Vwq {t t' el ty:TypeId} {dsc:TypeDesc} {sz by':Nat} {z:List D} {x:Value} {rows':List (List D)} {vs:List Value}
  (ht:telem P t=some el) (ht':P.underlying t'=some dsc) (hni:dsc = .string\/∃ e,dsc = .slice e) (hsz:tsz P el=some sz) (hby:tbytes P el=some by') (hz:zrow P el sz=some z) (hx:Src P I w sz rows' vs x):More P I w t t' ty el sz by' rows' vs x:=
 ⟨hx.vl,hx.one,hx.row,λhu hs hn hg hsm=>Vhb ht ht' hni hsz hby hz hu hs hn hx hg hsm,λhg hst=>Vhc ht ht' hni hsz hx hg hst⟩
set_option maxHeartbeats 2000000 in
theorem Vmd (hm:MRel O I loc m w) {t t' ty:TypeId} {s d:D} {u x:Value} {more:Nat->Option (List (List D))} {m':Mem}
  (hs:V I w s loc u) (hmore:∀ el sz by' z rows',telem P t=some el->tsz P el=some sz->tbytes P el=some by'->zrow P el sz=some z->more sz=some rows'->∃ vs,More P I w t t' ty el sz by' rows' vs x) (h:appendW P m t s more=some (d,m')) :
  Res O I loc w ((do pure (.value (<- Builtin.append_ #[t,t'] ty #[u,x])):Sem Next).run P w) d m':=by
 unfold appendW at h;split at h
 ·cases h
 rename_i el ht;split at h
 case h_2=>cases h
 rename_i sz by' hsz hby
 split at h
 case h_2=>cases h
 rename_i z rows' hz hmr;obtain ⟨vs,hx⟩:=hmore el sz by' z rows' ht hsz hby hz hmr
 have hvl:vs.length=rows'.length * sz:=by rw [Vac hx.vl,Vad rows' hx.row]
 split at h
 ·-- nil
  split at h
  case isFalse=>cases h
  rename_i hsm;simp only [Option.some.injEq,Prod.mk.injEq] at h;obtain ⟨rfl,rfl⟩:=h;simp only [V] at hs; subst hs;by_cases h0:rows'.length=0
  ·have e:rows'=[]:=by simpa using h0
   subst e;have hv0:vs=[]:=by simpa using hvl
   subst hv0;refine Res.bind (hx.room (by simp) (w':=w) rfl) ?_;refine ⟨_,w,locNew loc m.nb .nil,.inl rfl,hm.addNil sz,?_,.refl _ _,Vav hm _,.refl _ _⟩;simp [V,locNew]
  ·obtain ⟨newCap,rest,hc1,hc2,hrun⟩:=hx.grow (us:=[]) (rows:=[]) (n:=0) (cap:=0) (a:=none) rfl Vdv rfl (by omega) (by simpa using hsm);refine Res.bind hrun ?_;refine Res.from (w1:=dr w) rfl rfl rfl rfl ?_;have:=Vty (MRel.of_heap (w:=w) (w':=dr w) rfl hm) (n:=rows'.length) (cap:=newCap) el hx.row rfl (Vaf (Ext.of_heap (w:=w) (w':=dr w) rfl) _ free free vs (.refl _) hx.vl) hx.one rest (by simpa using hc2) (by omega);rw [show (dr w).heap.size=w.heap.size from rfl] at this;simpa using this
 ·-- a box
  rename_i b g s' n;split at h
  case h_2=>cases h
  rename_i g' sq rows hbx;split at h
  case isFalse=>cases h
  rename_i hc;obtain ⟨rfl,rfl,rfl,hnr,hsm⟩:=hc;simp only [Option.some.injEq,Prod.mk.injEq] at h;obtain ⟨rfl,rfl⟩:=h;have hs0:=hs;simp only [V] at hs;have hlt:b < m.nb:=lt_nb (g:=g) hm (by intro e; simp [e] at hs);have hbr:=hm.box b hlt;rw [hbx] at hbr; simp only [RelB] at hbr;obtain ⟨hgen,hbr⟩:=hbr;have hown:(m.bx b).owned=true:=by rw [hbx]; rfl
  have hlenT:(rows.take n).length=n:=by simp; omega
  rcases hbr with ⟨hl,rfl⟩ | ⟨k,c,el',fz,hl,hw,hu,hrc,hv⟩
  ·simp only [hl] at hs;obtain ⟨_,rfl,rfl⟩:=hs;simp only [List.take_nil,List.nil_append,Nat.zero_add];by_cases h0:rows'.length=0
   ·have e:rows'=[]:=by simpa using h0
    subst e;have hv0:vs=[]:=by simpa using hvl
    subst hv0;refine Res.bind (hx.room (by simp) (w':=w) rfl) ?_;have hle':=Vd9 (loc:=loc) (b:=b) (g:=g) .nil hgen.2;refine ⟨_,w,locGen loc b g .nil,.inl rfl,hm.change hlt hown (λb' hb' g'=>by simp [locGen,hb']) (.refl _ _) hle' ?_ ?_ (λ_ _ _=>rfl) (Nat.le_refl _),?_,.refl _ _,hle',.refl _ _⟩
    ·simp only [RelB];refine ⟨⟨λg' hg=>by unfold locGen; rw [if_pos rfl,if_neg (by omega),if_pos hg],λg' hg=>by unfold locGen; rw [if_pos rfl,if_neg (by omega),if_neg (by omega)]⟩,.inl (by simp [locGen])⟩
    ·intro g' k hk;simp only [locGen,if_true] at hk;split at hk
     ·cases hk
     ·split at hk<;>cases hk
    ·simp [V,locGen]
   ·obtain ⟨newCap,rest,hc1,hc2,hrun⟩:=hx.grow (us:=[]) (rows:=[]) (n:=0) (cap:=0) (a:=none) rfl Vdv rfl (by omega) (by simpa using hsm);refine Res.bind hrun ?_;refine Res.from (w1:=dr w) rfl rfl rfl rfl ?_;have:=Vk9 (MRel.of_heap (w:=w) (w':=dr w) rfl hm) (n:=rows'.length) (cap:=newCap) el hlt hbx hx.row rfl (Vaf (Ext.of_heap (w:=w) (w':=dr w) rfl) _ free free vs (.refl _) hx.vl) hx.one rest (by simpa using hc2) (by omega);rw [show (dr w).heap.size=w.heap.size from rfl] at this;simpa using this
  ·simp only [hl] at hs;obtain ⟨o,cap,rfl,hn,ho,hrs⟩:=hs
   -- what it holds
   have hsrc:∃ us,Src P I w sq (rows.take n) us (.slice (some ⟨k,o,none⟩) n cap):=by
    rcases ho with ho | ho
    ·have:n=0:=by omega
     subst this;simp only [List.take_zero];exact ⟨[],Vdv⟩
    ·have:o=0:=by simpa using ho
     subst this;exact Vha (Vdr n hv) hlenT
   obtain ⟨us,hus⟩:=hsrc;have hul:us.length=n * sq:=by rw [Vac hus.vl,Vad _ hus.row,hlenT]
   by_cases hroom:n+rows'.length<=cap
   ·-- in place
    by_cases hc0:cap=0
    ·subst hc0;have hn0:n=0:=by omega
     have hr0:rows'.length=0:=by omega
     subst hn0;have e:rows'=[]:=by simpa using hr0
     subst e;have hv0:vs=[]:=by simpa using hvl
     subst hv0;refine Res.bind (hx.room hroom (w':=w) rfl) ?_;have hle':=Vd9 (loc:=loc) (b:=b) (g:=g) (.blk k) hgen.2;refine ⟨_,w,locGen loc b g (.blk k),.inl rfl,hm.change hlt hown (λb' hb' g'=>by simp [locGen,hb']) (.refl _ _) hle' ?_ ?_ (λ_ _ _=>rfl) (Nat.le_refl _),?_,.refl _ _,hle',.refl _ _⟩
     ·simp only [RelB];refine ⟨⟨λg' hg=>by unfold locGen; rw [if_pos rfl,if_neg (by omega),if_pos hg],λg' hg=>by unfold locGen; rw [if_pos rfl,if_neg (by omega),if_neg (by omega)]⟩,.inr ⟨k,c,el',fz,by simp [locGen],hw,hu,by simp,by simp [VR]⟩⟩
     ·intro g' k' hk';simp only [locGen,if_true] at hk';split at hk'
      ·cases hk';have:=hm.own b g k hlt hown hl;exact ⟨this.1,this.2.1,this.2.2,λb' hb' h1 h2 g2 hg2=>hb' (hm.inj b' b g2 g k h1 hlt h2 hown hg2 hl)⟩
      ·split at hk'<;>cases hk'
     ·simp only [V,locGen,if_true];exact ⟨o,0,by simp,by simp,.inl rfl,by simp⟩
    ·have ho0:o=0:=by
      rcases ho with ho | ho
      ·exact absurd ho hc0
      ·simpa using ho
     subst ho0;have hsize:cap * sq<=c.size:=by
      have:rowSize w k=c.size:=by simp [rowSize,hw]
      rw [this] at hrs; simpa using hrs
     have hfit:n * sq+vs.length<=c.size:=by
      rw [hvl,<- Nat.add_mul];exact Nat.le_trans (Nat.mul_le_mul_right sq hroom) hsize
     have hrun:=Vak (P:=P) k (n * sq) el' fz vs 0 c w hw hu (by simpa using hfit) hx.one;simp only [Nat.add_zero] at hrun;let l':=c.toList.take (n * sq)++vs++c.toList.drop (n * sq+vs.length);have hl':l'.length=c.size:=by simp [l']; omega
     have hIk:=hm.own b g k hlt hown hl;have he:=Vbv hIk.2.1 hw (c':=l'.toArray) (by simp [hl']);refine Res.bind (hx.room hroom (w':=w.setRow k l'.toArray) (by simp only [Vap,Nat.zero_add]; exact hrun)) ?_;have hle':=Vd9 (loc:=loc) (b:=b) (g:=g) (.blk k) hgen.2;have hold:∀ j,w.cell? ⟨k,j,none⟩=c[j]?:=λj=>by simp [World.cell?,hw]
     have hcell:∀ j,(w.setRow k l'.toArray).cell? ⟨k,j,none⟩=if j < n * sq then c[j]? else if j < n * sq+vs.length then vs[j - n * sq]? else c[j]?:=by
      intro j;rw [cell_setRow_same w k j c l'.toArray el' fz hw];have:=Vmc c.toList vs (n * sq) j (by simpa using hfit);simpa [l'] using this
     have hlenA:(rows.take n++rows').length=n+rows'.length:=by rw [List.length_append,hlenT]
     refine ⟨_,_,locGen loc b g (.blk k),.inl rfl,hm.change hlt hown (λb' hb' g'=>by simp [locGen,hb']) he hle' ?_ ?_ (λk' _ hk'=>setRow_other w k k' _ (λe=>hk' g (e ▸ hl))) (by simp),?_,he,hle',Vk7 hIk.1 _⟩
     ·simp only [RelB];refine ⟨⟨λg' hg=>by unfold locGen; rw [if_pos rfl,if_neg (by omega),if_pos hg],λg' hg=>by unfold locGen; rw [if_pos rfl,if_neg (by omega),if_neg (by omega)]⟩,.inr ⟨k,l'.toArray,el',fz,by simp [locGen],setRow_heap w k c _ el' fz hw,by simpa [hl'] using hu,?_,?_⟩⟩
      ·rw [hlenA,Nat.add_mul,<- hvl]; simpa [hl'] using hfit
      ·refine Va6 (vs:=us++vs) ?_ (Vaf he _ free free _ (.refl _) (Vhd hus.vl hx.vl)) ?_ ?_
       ·intro row hr;simp only [List.mem_append] at hr;rcases hr with hr | hr
        ·exact hus.row row hr
        ·exact hx.row row hr
       ·intro y hy;simp only [List.mem_append] at hy;rcases hy with hy | hy
        ·exact hus.one y hy
        ·exact hx.one y hy
       ·intro j y hj;rw [Nat.zero_add,hcell];rw [List.getElem?_append,hul] at hj;split at hj
        ·rename_i hlt';rw [if_pos hlt'];rw [<- hold];obtain ⟨us2,q1,q2,q3,q4⟩:=Vfo (Vdr n hv);have h1:=hus.first w rfl
         have h2:=run_loadCells_list (P:=P) w ⟨k,0,none⟩ us2 (λj x hj=>by rw [Vap]; exact q4 j x hj);simp only [Builtin.firstCells,hlenT] at h1;rw [q3,hlenT] at h2;rw [h1] at h2;have e:us=us2:=by
          have:=congrArg (λr=>match r with | Result.ok a _=>a.toList | _=>[]) h2;simpa using this
         rw [e] at hj;have:=q4 j y hj;simpa using this
        ·rename_i hge;have hj':j - n * sq < vs.length:=by
          rcases Nat.lt_or_ge (j - n * sq) vs.length with h | h
          ·exact h
          ·rw [List.getElem?_eq_none h] at hj; cases hj
         rw [if_neg hge,if_pos (by omega)];exact hj
     ·intro g' k' hk';simp only [locGen,if_true] at hk';split at hk'
      ·cases hk';exact ⟨hIk.1,hIk.2.1,by simpa using hIk.2.2,λb' hb' h1 h2 g2 hg2=>hb' (hm.inj b' b g2 g k h1 hlt h2 hown hg2 hl)⟩
      ·split at hk'<;>cases hk'
     ·simp only [V,locGen,if_true];refine ⟨0,cap,rfl,hroom,.inr (by simp),?_⟩;rw [rowSize,setRow_heap w k c _ el' fz hw];simpa [hl'] using hsize
   ·obtain ⟨newCap,rest,hc1,hc2,hrun⟩:=hx.grow rfl hus hlenT (by omega) hsm;refine Res.bind hrun ?_;refine Res.from (w1:=dr w) rfl rfl rfl rfl ?_;have:=Vk9 (MRel.of_heap (w:=w) (w':=dr w) rfl hm) (rows:=rows.take n++rows') (n:=n+rows'.length) (cap:=newCap) el hlt hbx (λrow hr=>by
     simp only [List.mem_append] at hr;rcases hr with hr | hr
     ·exact hus.row row hr
     ·exact hx.row row hr) (by rw [List.length_append,hlenT]) (Vaf (Ext.of_heap (w:=w) (w':=dr w) rfl) _ free free _ (.refl _) (Vhd hus.vl hx.vl)) (λy hy=>by
     simp only [List.mem_append] at hy;rcases hy with hy | hy
     ·exact hus.one y hy
     ·exact hx.one y hy) rest hc2 hc1
    exact this
 ·cases h
end
end Go.Abs
