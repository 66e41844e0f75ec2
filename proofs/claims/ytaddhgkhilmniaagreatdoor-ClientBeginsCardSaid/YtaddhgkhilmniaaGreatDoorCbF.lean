/- The law ClientBegins, plainly: for all arguments that a machine can hold. No other condition. -/
import Derived.Test.YtaddhgkhilmniaaGreatDoorCbE
import Derived.Test.YtaddhgkhilmniaaGreatDoorCbW
set_option linter.unusedVariables false
set_option linter.unusedSimpArgs false
set_option maxRecDepth 100000
namespace Go.Proofs.YtaddhgkhilmniaaGreatDoor
open Go Go.Abs
theorem Voi (x:Jr) (h:WOk (den cd (encV cd (.agg 10) x))):∀ b∈x.list,b.length<=140737488355328:=by
 change WOk (D.agg (denL cd (cd.enc 10 x))) at h;rw [cd_ok.enc] at h;change WOkL (eD10 x) at h;simp only [eD10,WOkL,WOk] at h;intro b hb;have h1:=Vmw h.2.2.2.2.2.1.2 _ (List.mem_map.2 ⟨b,hb,rfl⟩);simp only [eD8,WOkL,WOk,List.length_map,reachBytes] at h1;omega
theorem ClientBegins_plain (a0:BitVec 64) (a1:Int) (a2:Jf) (a3:Bool) (a4:List UInt8) (a5:Jr) (a6:List Int) (hd:ClientBegins_dom a0 a1 a2 a3 a4 a5 a6) (hw:ArgW cd [.u64,(.int .i64),(.agg 9),.bool,.str,(.agg 10),(.rs 11)] (a0,a1,a2,a3,a4,a5,a6,())):Ok (Zaj a0 a1 a2 a3 a4 a5 a6) λr=>r.2.1=true:=
 ClientBegins_plain' a0 a1 a2 a3 a4 a5 a6 (Va6a hd.2.2.2.2.2.2.1) (Voi a5 hw.2.2.2.2.2.1)
end Go.Proofs.YtaddhgkhilmniaaGreatDoor
