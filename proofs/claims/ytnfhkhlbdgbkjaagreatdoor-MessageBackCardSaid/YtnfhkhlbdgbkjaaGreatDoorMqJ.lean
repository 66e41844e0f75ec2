/- The examples of the chapter. -/
import Derived.Test.YtnfhkhlbdgbkjaaGreatDoorMqH
set_option linter.unusedVariables false
set_option linter.unusedSimpArgs false
set_option maxRecDepth 100000
namespace Go.Proofs.YtnfhkhlbdgbkjaaGreatDoor
open Go Go.Abs
def bare(r:Jb):Jb:=⟨r.kind,r.rP,r.user,r.name,r.jz,r.jd,r.je,r.list,r.jg,r.js,r.jt,r.jo,r.jk,0#64,false,r.jv,r.box,r.proof,r.jb,r.iD,r.count⟩
theorem Vw0{r:Jb}(h:SaneQ r):SaneQ (bare r):=⟨h.rp,h.us,h.nm,h.li,h.bx,h.pf,h.ii,h.i1,h.i2,h.i3,h.i4,h.i5,h.i6⟩
theorem Vw1(r:Jb):(reqO r).1.length<900000000:=by
 unfold reqO;by_cases hv:valQ r=0
 ·rw[Um hv];have hle:=Vk9 (chosI (useQ r) (valsQ r)) (fitF (Vii hv)).data;have hl:=(fitF (Vii hv)).len;simp only[Bool.not_true,Uj,List.length_cons];omega
 ·rw[Un hv];exact Nat.lt_of_le_of_lt (Nat.le_refl 0) (by omega)
theorem Vzu(r:Jb):(reqO r).1.length<1000000000:=Nat.lt_trans (Vw1 r) (by omega)
theorem Voh(r:Jb)(h:SaneQ r):Zdb r=some ((),val1 0 (Zdb r),()):=by
 refine Vog ?_;unfold Zdb;rw[Vcc r h,bindU];dsimp only;cases decide (valQ r=0)
 ·exact⟨_,rfl⟩
 ·simp only[Bool.not_true,Uj];have e:=Vof (bare r) (Vw0 h);unfold bare at e;rw[e,bindU];have hh:=rHash 21 _ (Vzu (bare r));unfold bare at hh;rw[hh];exact⟨_,rfl⟩
theorem Vgpa:Zdv=some ((),true,()):=by kernel_rfl
end Go.Proofs.YtnfhkhlbdgbkjaaGreatDoor
