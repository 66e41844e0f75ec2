/- The functions of the program, as plain functions, and that the program computes them. Written by a program. -/
import Derived.Test.YthoblablopmhfaaGreatDoorFns0
set_option linter.unusedVariables false
set_option maxRecDepth 100000
namespace Go.Proofs.YthoblablopmhfaaGreatDoor
open Go Go.Abs
open Go.IntKind renaming wrap → Qa, bits → Qd
open _root_.Sum renaming inl → Qb, inr → Qe, elim → Qk
open _root_.BitVec renaming ofInt → Qc, setWidth → Qg
open _root_.UInt8 renaming ofBitVec → Qf
open _root_.List renaming replicate → Qh, drop → Ql, set → Qm
open _root_.Int renaming tmod → Qi, fdiv → Qj
abbrev Y_Zbq_L0:=(Int×(ApiReply×Unit)×Ybq×Int×Unit)
abbrev Z_Zbq_L0:=(Int×(ApiReply×Unit)×Ybq×Unit)
def Zbq_L0b (y0:Int) (y1:(ApiReply × Unit)) (y2:Ybq) (y3:Int):Option (Y_Zbq_L0 ⊕ Z_Zbq_L0):=
 (let v19:Int:=(Qa .i64 ((Qc (Qd .i64) (Qj y0 (2 ^ (min 5 (Qd .i64)))) &&& Qc (Qd .i64) (3:Int)).toNat:Int))
 (bif (decide (y3 < v19)) then (let v20:Int:=(Qj y0 (2 ^ (min (Qc 64 (Qa .i64 ((3:Int) + y3))).toNat (Qd .i64))))
 (let v21:Int:=(Qa .i64 ((Qc (Qd .i64) v20 &&& Qc (Qd .i64) (31:Int)).toNat:Int))
 (bif (decide ((0:Int) ≤ v21) && (decide (v21 ≤ v21) && decide ((1:Int) * v21 ≤ 281474976710656 ∧ v21 ≤ 9223372036854775807))) then (let v22:List (UInt8):=(Qh (v21).toNat (0:UInt8))
 (bif small ((y2.2.2.2.1).length + (([v22]:List (List UInt8)):List (List UInt8)).length) 24 then (let v23:List (List UInt8):=(y2.2.2.2.1 ++ ([v22]:List (List UInt8)))
 ((Zdf (Qj y0 (2 ^ (min 3 (Qd .i64))))).bind fun r24=>((Zco y3).bind fun r25=>(let v26:Int:=(Qj y0 (2 ^ (min (Qc 64 y3).toNat (Qd .i64))))
 ((Zcn v26).bind fun r27=>((Zde y3).bind fun r28=>(let v29:Int:=(Qj y0 (2 ^ (min (Qc 64 (Qa .i64 ((4:Int) + y3))).toNat (Qd .i64))))
 (let v30:Int:=(Qa .i64 ((Qc (Qd .i64) v29 &&& Qc (Qd .i64) (15:Int)).toNat:Int))
 (let v31:List (ApiEntry):=([(⟨r24.2.1,r25.2.1,r27.2.1,r28.2.1,v30⟩:ApiEntry)]:List (ApiEntry))
 (bif small ((y2.2.2.2.2.2.2.2.2.2.2.2.2.2.2.2.2.2.1).length + (v31:List (ApiEntry)).length) 80 then (let v32:List (ApiEntry):=(y2.2.2.2.2.2.2.2.2.2.2.2.2.2.2.2.2.2.1 ++ v31)
 (some (Qb (y0,(y1.1,()),(y2.1,y2.2.1,y2.2.2.1,v23,y2.2.2.2.2.1,y2.2.2.2.2.2.1,y2.2.2.2.2.2.2.1,y2.2.2.2.2.2.2.2.1,y2.2.2.2.2.2.2.2.2.1,y2.2.2.2.2.2.2.2.2.2.1,y2.2.2.2.2.2.2.2.2.2.2.1,y2.2.2.2.2.2.2.2.2.2.2.2.1,y2.2.2.2.2.2.2.2.2.2.2.2.2.1,y2.2.2.2.2.2.2.2.2.2.2.2.2.2.1,y2.2.2.2.2.2.2.2.2.2.2.2.2.2.2.1,y2.2.2.2.2.2.2.2.2.2.2.2.2.2.2.2.1,y2.2.2.2.2.2.2.2.2.2.2.2.2.2.2.2.2.1,v32,()),(Qa .i64 (y3 + (1:Int))),()))))
 else none))))))))))
 else none))
 else none)))
 else (some (Qe (y0,(y1.1,()),y2,())))))
def Zbq_L0 (y:Y_Zbq_L0):Option Z_Zbq_L0:=iter (fun (y:Y_Zbq_L0)=>Zbq_L0b y.1 y.2.1 y.2.2.1 y.2.2.2.1) rounds y
def Zbq (a0:Int) (a1:Int):Option ((Unit) × (ApiReply × Unit)):=
 (let v1:Int:=(Qa .i64 ((Qc (Qd .i64) a0 &&& Qc (Qd .i64) (3:Int)).toNat:Int))
 (let v2:Int:=(Qa .i64 ((Qc (Qd .i64) (Qj a0 (2 ^ (min 2 (Qd .i64)))) &&& Qc (Qd .i64) (7:Int)).toNat:Int))
 (let v3:Int:=(Qa .i64 ((Qc (Qd .i64) (Qj a0 (2 ^ (min 5 (Qd .i64)))) &&& Qc (Qd .i64) (3:Int)).toNat:Int))
 (let v4:Int:=(Qa .i64 ((Qc (Qd .i64) (Qj a0 (2 ^ (min 7 (Qd .i64)))) &&& Qc (Qd .i64) (3:Int)).toNat:Int))
 (let v5:Int:=(Qa .i64 ((Qc (Qd .i64) (Qj a0 (2 ^ (min 9 (Qd .i64)))) &&& Qc (Qd .i64) (7:Int)).toNat:Int))
 (let v6:Int:=(Qa .i64 ((Qc (Qd .i64) (Qj a0 (2 ^ (min 12 (Qd .i64)))) &&& Qc (Qd .i64) (7:Int)).toNat:Int))
 (let v7:Int:=(Qa .i64 ((Qc (Qd .i64) (Qj a0 (2 ^ (min 15 (Qd .i64)))) &&& Qc (Qd .i64) (7:Int)).toNat:Int))
 (let v8:Int:=(Qa .i64 ((Qc (Qd .i64) (Qj a0 (2 ^ (min 18 (Qd .i64)))) &&& Qc (Qd .i64) (1:Int)).toNat:Int))
 (let v9:Int:=(Qa .i64 ((Qc (Qd .i64) (Qj a0 (2 ^ (min 19 (Qd .i64)))) &&& Qc (Qd .i64) (1:Int)).toNat:Int))
 ((Zco a1).bind fun r10=>((Zcn (Qj a1 (2 ^ (min 2 (Qd .i64))))).bind fun r11=>((let v12:Int:=(Qa .i64 ((Qc (Qd .i64) (Qj a0 (2 ^ (min 20 (Qd .i64)))) &&& Qc (Qd .i64) (1:Int)).toNat:Int))
 (bif (decide (v12=(1:Int))) then ((Zde a1).bind fun r13=>(let v14:Int:=(Qa .i64 ((Qc (Qd .i64) (Qj a1 (2 ^ (min 3 (Qd .i64)))) &&& Qc (Qd .i64) (63:Int)).toNat:Int))
 (bif (decide ((0:Int) ≤ v14) && (decide (v14 ≤ v14) && decide ((1:Int) * v14 ≤ 281474976710656 ∧ v14 ≤ 9223372036854775807))) then (let v15:List (UInt8):=(Qh (v14).toNat (0:UInt8))
 (let v16:Int:=(Qa .i64 ((Qc (Qd .i64) (Qj a1 (2 ^ (min 9 (Qd .i64)))) &&& Qc (Qd .i64) (63:Int)).toNat:Int))
 (bif (decide ((0:Int) ≤ v16) && (decide (v16 ≤ v16) && decide ((1:Int) * v16 ≤ 281474976710656 ∧ v16 ≤ 9223372036854775807))) then (let v17:List (UInt8):=(Qh (v16).toNat (0:UInt8))
 (some (a1,((⟨(0:Int),[],[],[],(0:Int),[],([]:List UInt8),([]:List UInt8),(0:Int),0#64,[],0#64,(0:Int),(0:Int),(0:Int),false,false,[]⟩:ApiReply),()),((0:Int),v15,v17,[],v1,r13.2.1,r10.2.1,r11.2.1,v2,(Qc 64 v3),[],(Qc 64 v4),v5,v6,v7,(decide (v8=(1:Int))),(decide (v9=(1:Int))),[],()),())))
 else none)))
 else none)))
 else (some (a1,((⟨(0:Int),[],[],[],(0:Int),[],([]:List UInt8),([]:List UInt8),(0:Int),0#64,[],0#64,(0:Int),(0:Int),(0:Int),false,false,[]⟩:ApiReply),()),((0:Int),[],[],[],v1,[],r10.2.1,r11.2.1,v2,(Qc 64 v3),[],(Qc 64 v4),v5,v6,v7,(decide (v8=(1:Int))),(decide (v9=(1:Int))),[],()),())))).bind (fun (j18:(Int × (ApiReply × Unit) × Ybq × Unit))=>((Zbq_L0 (j18.1,(j18.2.1.1,()),j18.2.2.1,(0:Int),())).bind (fun (z33:(Int × (ApiReply × Unit) × Ybq × Unit))=>(let v34:Int:=(Qa .i64 ((Qc (Qd .i64) (Qj z33.1 (2 ^ (min 4 (Qd .i64)))) &&& Qc (Qd .i64) (65535:Int)).toNat:Int))
 (let v35:Int:=(Qa .i64 ((Qc (Qd .i64) (Qj z33.1 (2 ^ (min 16 (Qd .i64)))) &&& Qc (Qd .i64) (15:Int)).toNat:Int))
 (bif (decide (v35=(0:Int))) then (let v36:Int:=(Qa .i64 ((Qc (Qd .i64) v34 &&& Qc (Qd .i64) (63:Int)).toNat:Int))
 (some ((),((⟨(Qa .i64 (v36 - (2:Int))),[],[],[],(0:Int),[],([]:List UInt8),([]:List UInt8),(0:Int),0#64,[],0#64,(0:Int),(0:Int),(0:Int),false,false,[]⟩:ApiReply),()))))
 else (bif (decide (v35=(1:Int))) then (some ((),((⟨(24:Int),z33.2.2.1.2.1,z33.2.2.1.2.2.1,z33.2.2.1.2.2.2.1,z33.2.2.1.2.2.2.2.1,z33.2.2.1.2.2.2.2.2.1,z33.2.2.1.2.2.2.2.2.2.1,z33.2.2.1.2.2.2.2.2.2.2.1,z33.2.2.1.2.2.2.2.2.2.2.2.1,z33.2.2.1.2.2.2.2.2.2.2.2.2.1,z33.2.2.1.2.2.2.2.2.2.2.2.2.2.1,z33.2.2.1.2.2.2.2.2.2.2.2.2.2.2.1,z33.2.2.1.2.2.2.2.2.2.2.2.2.2.2.2.1,z33.2.2.1.2.2.2.2.2.2.2.2.2.2.2.2.2.1,z33.2.2.1.2.2.2.2.2.2.2.2.2.2.2.2.2.2.1,z33.2.2.1.2.2.2.2.2.2.2.2.2.2.2.2.2.2.2.1,z33.2.2.1.2.2.2.2.2.2.2.2.2.2.2.2.2.2.2.2.1,z33.2.2.1.2.2.2.2.2.2.2.2.2.2.2.2.2.2.2.2.2.1⟩:ApiReply),())))
 else (bif (decide (v35=(2:Int))) then (let v37:Int:=(Qa .i64 ((Qi v34 (300:Int)) - (20:Int)))
 (some ((),((⟨z33.2.2.1.1,z33.2.2.1.2.1,z33.2.2.1.2.2.1,z33.2.2.1.2.2.2.1,z33.2.2.1.2.2.2.2.1,z33.2.2.1.2.2.2.2.2.1,z33.2.2.1.2.2.2.2.2.2.1,z33.2.2.1.2.2.2.2.2.2.2.1,v37,z33.2.2.1.2.2.2.2.2.2.2.2.2.1,z33.2.2.1.2.2.2.2.2.2.2.2.2.2.1,z33.2.2.1.2.2.2.2.2.2.2.2.2.2.2.1,z33.2.2.1.2.2.2.2.2.2.2.2.2.2.2.2.1,z33.2.2.1.2.2.2.2.2.2.2.2.2.2.2.2.2.1,z33.2.2.1.2.2.2.2.2.2.2.2.2.2.2.2.2.2.1,z33.2.2.1.2.2.2.2.2.2.2.2.2.2.2.2.2.2.2.1,z33.2.2.1.2.2.2.2.2.2.2.2.2.2.2.2.2.2.2.2.1,z33.2.2.1.2.2.2.2.2.2.2.2.2.2.2.2.2.2.2.2.2.1⟩:ApiReply),()))))
 else (bif (decide (v35=(3:Int))) then (let v38:Int:=(Qa .i64 ((Qc (Qd .i64) v34 &&& Qc (Qd .i64) (7:Int)).toNat:Int))
 (bif (decide ((0:Int) ≤ (Qa .i64 ((1020:Int) + v38))) && (decide ((Qa .i64 ((1020:Int) + v38)) ≤ (Qa .i64 ((1020:Int) + v38))) && decide ((1:Int) * (Qa .i64 ((1020:Int) + v38)) ≤ 281474976710656 ∧ (Qa .i64 ((1020:Int) + v38)) ≤ 9223372036854775807))) then (let v39:List (UInt8):=(Qh ((Qa .i64 ((1020:Int) + v38))).toNat (0:UInt8))
 (some ((),((⟨z33.2.2.1.1,z33.2.2.1.2.1,z33.2.2.1.2.2.1,z33.2.2.1.2.2.2.1,z33.2.2.1.2.2.2.2.1,z33.2.2.1.2.2.2.2.2.1,z33.2.2.1.2.2.2.2.2.2.1,z33.2.2.1.2.2.2.2.2.2.2.1,z33.2.2.1.2.2.2.2.2.2.2.2.1,z33.2.2.1.2.2.2.2.2.2.2.2.2.1,v39,z33.2.2.1.2.2.2.2.2.2.2.2.2.2.2.1,z33.2.2.1.2.2.2.2.2.2.2.2.2.2.2.2.1,z33.2.2.1.2.2.2.2.2.2.2.2.2.2.2.2.2.1,z33.2.2.1.2.2.2.2.2.2.2.2.2.2.2.2.2.2.1,z33.2.2.1.2.2.2.2.2.2.2.2.2.2.2.2.2.2.2.1,z33.2.2.1.2.2.2.2.2.2.2.2.2.2.2.2.2.2.2.2.1,z33.2.2.1.2.2.2.2.2.2.2.2.2.2.2.2.2.2.2.2.2.1⟩:ApiReply),()))))
 else none))
 else (bif (decide (v35=(4:Int))) then (let v40:List (UInt8):=(Qh 33 (0:UInt8))
 (let v41:Int:=(Qa .i64 ((Qc (Qd .i64) v34 &&& Qc (Qd .i64) (1:Int)).toNat:Int))
 (bif (decide ((0:Int) ≤ v41) && decide (v41 < (2:Int))) then (((([([255]:List UInt8),v40]:List (List UInt8)))[(v41).toNat]?).bind fun x42=>(some ((),((⟨z33.2.2.1.1,z33.2.2.1.2.1,z33.2.2.1.2.2.1,z33.2.2.1.2.2.2.1,z33.2.2.1.2.2.2.2.1,z33.2.2.1.2.2.2.2.2.1,z33.2.2.1.2.2.2.2.2.2.1,x42,z33.2.2.1.2.2.2.2.2.2.2.2.1,z33.2.2.1.2.2.2.2.2.2.2.2.2.1,z33.2.2.1.2.2.2.2.2.2.2.2.2.2.1,z33.2.2.1.2.2.2.2.2.2.2.2.2.2.2.1,z33.2.2.1.2.2.2.2.2.2.2.2.2.2.2.2.1,z33.2.2.1.2.2.2.2.2.2.2.2.2.2.2.2.2.1,z33.2.2.1.2.2.2.2.2.2.2.2.2.2.2.2.2.2.1,z33.2.2.1.2.2.2.2.2.2.2.2.2.2.2.2.2.2.2.1,z33.2.2.1.2.2.2.2.2.2.2.2.2.2.2.2.2.2.2.2.1,z33.2.2.1.2.2.2.2.2.2.2.2.2.2.2.2.2.2.2.2.2.1⟩:ApiReply),()))))
 else none)))
 else (bif (decide (v35=(5:Int))) then (bif (decide ((0:Int) ≤ (Qa .i64 ((175:Int) + (Qi v34 (3:Int))))) && (decide ((Qa .i64 ((175:Int) + (Qi v34 (3:Int)))) ≤ (Qa .i64 ((175:Int) + (Qi v34 (3:Int))))) && decide ((1:Int) * (Qa .i64 ((175:Int) + (Qi v34 (3:Int)))) ≤ 281474976710656 ∧ (Qa .i64 ((175:Int) + (Qi v34 (3:Int)))) ≤ 9223372036854775807))) then (let v43:List (UInt8):=(Qh ((Qa .i64 ((175:Int) + (Qi v34 (3:Int))))).toNat (0:UInt8))
 (some ((),((⟨z33.2.2.1.1,z33.2.2.1.2.1,z33.2.2.1.2.2.1,z33.2.2.1.2.2.2.1,z33.2.2.1.2.2.2.2.1,v43,z33.2.2.1.2.2.2.2.2.2.1,z33.2.2.1.2.2.2.2.2.2.2.1,z33.2.2.1.2.2.2.2.2.2.2.2.1,z33.2.2.1.2.2.2.2.2.2.2.2.2.1,z33.2.2.1.2.2.2.2.2.2.2.2.2.2.1,z33.2.2.1.2.2.2.2.2.2.2.2.2.2.2.1,z33.2.2.1.2.2.2.2.2.2.2.2.2.2.2.2.1,z33.2.2.1.2.2.2.2.2.2.2.2.2.2.2.2.2.1,z33.2.2.1.2.2.2.2.2.2.2.2.2.2.2.2.2.2.1,z33.2.2.1.2.2.2.2.2.2.2.2.2.2.2.2.2.2.2.1,z33.2.2.1.2.2.2.2.2.2.2.2.2.2.2.2.2.2.2.2.1,z33.2.2.1.2.2.2.2.2.2.2.2.2.2.2.2.2.2.2.2.2.1⟩:ApiReply),()))))
 else none)
 else (bif (decide (v35=(6:Int))) then (bif (decide ((0:Int) ≤ (Qa .i64 ((175:Int) + (Qi v34 (3:Int))))) && (decide ((Qa .i64 ((175:Int) + (Qi v34 (3:Int)))) ≤ (Qa .i64 ((175:Int) + (Qi v34 (3:Int))))) && decide ((1:Int) * (Qa .i64 ((175:Int) + (Qi v34 (3:Int)))) ≤ 281474976710656 ∧ (Qa .i64 ((175:Int) + (Qi v34 (3:Int)))) ≤ 9223372036854775807))) then (let v44:List (UInt8):=(Qh ((Qa .i64 ((175:Int) + (Qi v34 (3:Int))))).toNat (0:UInt8))
 (let v45:Int:=(Qa .i64 ((Qc (Qd .i64) (Qj v34 (2 ^ (min 2 (Qd .i64)))) &&& Qc (Qd .i64) (511:Int)).toNat:Int))
 (let v46:List (ApiEntry):=([(⟨([120]:List UInt8),([]:List UInt8),([]:List UInt8),v44,(Qa .i64 (v45 - (100:Int)))⟩:ApiEntry)]:List (ApiEntry))
 (bif small ((z33.2.2.1.2.2.2.2.2.2.2.2.2.2.2.2.2.2.2.2.2.1).length + (v46:List (ApiEntry)).length) 80 then (let v47:List (ApiEntry):=(z33.2.2.1.2.2.2.2.2.2.2.2.2.2.2.2.2.2.2.2.2.1 ++ v46)
 (some ((),((⟨z33.2.2.1.1,z33.2.2.1.2.1,z33.2.2.1.2.2.1,z33.2.2.1.2.2.2.1,z33.2.2.1.2.2.2.2.1,z33.2.2.1.2.2.2.2.2.1,z33.2.2.1.2.2.2.2.2.2.1,z33.2.2.1.2.2.2.2.2.2.2.1,z33.2.2.1.2.2.2.2.2.2.2.2.1,z33.2.2.1.2.2.2.2.2.2.2.2.2.1,z33.2.2.1.2.2.2.2.2.2.2.2.2.2.1,z33.2.2.1.2.2.2.2.2.2.2.2.2.2.2.1,z33.2.2.1.2.2.2.2.2.2.2.2.2.2.2.2.1,z33.2.2.1.2.2.2.2.2.2.2.2.2.2.2.2.2.1,z33.2.2.1.2.2.2.2.2.2.2.2.2.2.2.2.2.2.1,z33.2.2.1.2.2.2.2.2.2.2.2.2.2.2.2.2.2.2.1,z33.2.2.1.2.2.2.2.2.2.2.2.2.2.2.2.2.2.2.2.1,v47⟩:ApiReply),()))))
 else none))))
 else none)
 else (bif (decide (v35=(7:Int))) then (let v48:Int:=(Qa .i64 ((Qc (Qd .i64) v34 &&& Qc (Qd .i64) (7:Int)).toNat:Int))
 (bif (decide ((0:Int) ≤ v48) && (decide (v48 ≤ v48) && decide ((24:Int) * v48 ≤ 281474976710656 ∧ v48 ≤ 9223372036854775807))) then (let v49:List (List UInt8):=(Qh (v48).toNat [])
 (some ((),((⟨z33.2.2.1.1,z33.2.2.1.2.1,z33.2.2.1.2.2.1,v49,z33.2.2.1.2.2.2.2.1,z33.2.2.1.2.2.2.2.2.1,z33.2.2.1.2.2.2.2.2.2.1,z33.2.2.1.2.2.2.2.2.2.2.1,z33.2.2.1.2.2.2.2.2.2.2.2.1,z33.2.2.1.2.2.2.2.2.2.2.2.2.1,z33.2.2.1.2.2.2.2.2.2.2.2.2.2.1,z33.2.2.1.2.2.2.2.2.2.2.2.2.2.2.1,z33.2.2.1.2.2.2.2.2.2.2.2.2.2.2.2.1,z33.2.2.1.2.2.2.2.2.2.2.2.2.2.2.2.2.1,z33.2.2.1.2.2.2.2.2.2.2.2.2.2.2.2.2.2.1,z33.2.2.1.2.2.2.2.2.2.2.2.2.2.2.2.2.2.2.1,z33.2.2.1.2.2.2.2.2.2.2.2.2.2.2.2.2.2.2.2.1,z33.2.2.1.2.2.2.2.2.2.2.2.2.2.2.2.2.2.2.2.2.1⟩:ApiReply),()))))
 else none))
 else (bif (decide (v35=(8:Int))) then (let v50:List (UInt8):=(Qh 1024 (0:UInt8))
 (let v51:List (UInt8):=(Qh 1024 (0:UInt8))
 (let v52:List (UInt8):=(Qh 1000 (0:UInt8))
 (let v53:Int:=(Qa .i64 ((Qc (Qd .i64) v34 &&& Qc (Qd .i64) (255:Int)).toNat:Int))
 (bif (decide ((0:Int) ≤ (Qa .i64 ((900:Int) + v53))) && (decide ((Qa .i64 ((900:Int) + v53)) ≤ (Qa .i64 ((900:Int) + v53))) && decide ((1:Int) * (Qa .i64 ((900:Int) + v53)) ≤ 281474976710656 ∧ (Qa .i64 ((900:Int) + v53)) ≤ 9223372036854775807))) then (let v54:List (UInt8):=(Qh ((Qa .i64 ((900:Int) + v53))).toNat (0:UInt8))
 (some ((),((⟨z33.2.2.1.1,v50,v51,([v54]:List (List UInt8)),z33.2.2.1.2.2.2.2.1,z33.2.2.1.2.2.2.2.2.1,z33.2.2.1.2.2.2.2.2.2.1,z33.2.2.1.2.2.2.2.2.2.2.1,z33.2.2.1.2.2.2.2.2.2.2.2.1,z33.2.2.1.2.2.2.2.2.2.2.2.2.1,v52,z33.2.2.1.2.2.2.2.2.2.2.2.2.2.2.1,z33.2.2.1.2.2.2.2.2.2.2.2.2.2.2.2.1,z33.2.2.1.2.2.2.2.2.2.2.2.2.2.2.2.2.1,z33.2.2.1.2.2.2.2.2.2.2.2.2.2.2.2.2.2.1,z33.2.2.1.2.2.2.2.2.2.2.2.2.2.2.2.2.2.2.1,z33.2.2.1.2.2.2.2.2.2.2.2.2.2.2.2.2.2.2.2.1,z33.2.2.1.2.2.2.2.2.2.2.2.2.2.2.2.2.2.2.2.2.1⟩:ApiReply),()))))
 else none)))))
 else (some ((),((⟨z33.2.2.1.1,z33.2.2.1.2.1,z33.2.2.1.2.2.1,z33.2.2.1.2.2.2.1,z33.2.2.1.2.2.2.2.1,z33.2.2.1.2.2.2.2.2.1,z33.2.2.1.2.2.2.2.2.2.1,z33.2.2.1.2.2.2.2.2.2.2.1,z33.2.2.1.2.2.2.2.2.2.2.2.1,z33.2.2.1.2.2.2.2.2.2.2.2.2.1,z33.2.2.1.2.2.2.2.2.2.2.2.2.2.1,z33.2.2.1.2.2.2.2.2.2.2.2.2.2.2.1,z33.2.2.1.2.2.2.2.2.2.2.2.2.2.2.2.1,z33.2.2.1.2.2.2.2.2.2.2.2.2.2.2.2.2.1,z33.2.2.1.2.2.2.2.2.2.2.2.2.2.2.2.2.2.1,z33.2.2.1.2.2.2.2.2.2.2.2.2.2.2.2.2.2.2.1,z33.2.2.1.2.2.2.2.2.2.2.2.2.2.2.2.2.2.2.2.1,z33.2.2.1.2.2.2.2.2.2.2.2.2.2.2.2.2.2.2.2.2.1⟩:ApiReply),())))))))))))))))))))))))))))))
def S_Zbq:FSpec T:=⟨[.f (.v (.int .i64)),.f (.v (.int .i64))],[(.v (.agg 12))],fun x=>Zbq x.1 x.2.1⟩
def s_Zbq_L0:LSpec T:=⟨[(1,.f (.v (.int .i64))),(4,.ptr [(.v (.agg 12))]),(5,.ptr [(.v (.int .i64)),(.own 0),(.own 0),(.own 2),(.v (.int .i64)),(.own 0),(.v .str),(.v .str),(.v (.int .i64)),(.v .u64),(.own 0),(.v .u64),(.v (.int .i64)),(.v (.int .i64)),(.v (.int .i64)),(.v .bool),(.v .bool),(.own 11)]),(6,.f (.v (.int .i64)))],[(.exit 0,[(1,.f (.v (.int .i64))),(4,.ptr [(.v (.agg 12))]),(5,.ptr [(.v (.int .i64)),(.own 0),(.own 0),(.own 2),(.v (.int .i64)),(.own 0),(.v .str),(.v .str),(.v (.int .i64)),(.v .u64),(.own 0),(.v .u64),(.v (.int .i64)),(.v (.int .i64)),(.v (.int .i64)),(.v .bool),(.v .bool),(.own 11)])])],Zbq_L0,[]⟩
def A_Zbq:Loc2 T:=lcA [(0,s_Zbq_L0)] [(4,[(1,.f (.v (.int .i64))),(4,.ptr [(.v (.agg 12))]),(5,.ptr [(.v (.int .i64)),(.own 0),(.own 0),(.own 2),(.v (.int .i64)),(.own 0),(.v .str),(.v .str),(.v (.int .i64)),(.v .u64),(.own 0),(.v .u64),(.v (.int .i64)),(.v (.int .i64)),(.v (.int .i64)),(.v .bool),(.v .bool),(.own 11)])],true)] [3,7,8,24,28]
theorem Vrn:LoopOk Tryz.prog (mE c81) Tryz.f7.ntmps (kqOf S_Zbq.ps 0) (loopAt 0 (bodyOf Tryz.f7)) s_Zbq_L0:=
 lpC hmix o81 A_Zbq Vaa 0 (st:=fun y=>Zbq_L0b y.1 y.2.1 y.2.2.1 y.2.2.2.1) (fun _=>rfl) (by kernel_rfl) (by kernel_rfl) fun x=>by kernel_rfl
theorem Va1a:SoundT Tryz.prog cd gdn 7 S_Zbq:=
 sndC hmix o81 A_Zbq Tryz.func7 (Vab rfl Vrn Vaa) (by kernel_rfl) (by kernel_rfl) fun x=>by kernel_rfl
def c82:List (Ct T):=⟨7,none,S_Zbq,false⟩::c81
theorem o82:EnvOk Tryz.prog (mE c82):=eCons Va1a o81
def Zbj (a0:Int) (a1:Int) (a2:Int):Option ((Unit) × (Bool × Unit)):=
 (bif (decide (a1 ≤ a0)) then (some ((),((decide (a0 ≤ a2)),())))
 else (some ((),(false,()))))
def S_Zbj:FSpec T:=⟨[.f (.v (.int .i64)),.f (.v (.int .i64)),.f (.v (.int .i64))],[(.v .bool)],fun x=>Zbj x.1 x.2.1 x.2.2.1⟩
theorem Va2a:SoundT Tryz.prog cd gdn 41 S_Zbj:=
 sndC hmix o82 (lcA [] [] []) Tryz.func41 Vaa (by kernel_rfl) (by kernel_rfl) fun x=>by kernel_rfl
def c83:List (Ct T):=⟨41,none,S_Zbj,true⟩::c82
theorem o83:EnvOk Tryz.prog (mE c83):=eCons Va2a o82
abbrev Y_Zap_L0:=((ApiReply×Unit)×(ApiReply×Unit)×Int×Unit)
abbrev Z_Zap_L0:=((Bool×Unit)⊕((ApiReply×Unit)×(ApiReply×Unit)×Unit))
def Zap_L0b (y0:(ApiReply × Unit)) (y1:(ApiReply × Unit)) (y2:Int):Option (Y_Zap_L0 ⊕ Z_Zap_L0):=
 (bif (decide (y2 < ((y0.1.certificates).length:Int))) then ((getI y0.1.certificates y2).bind fun x1=>((getI y1.1.certificates y2).bind fun x2=>(bif (!decide (x1=x2)) then (some (Qe (Qb (false,()))))
 else (some (Qb ((y0.1,()),(y1.1,()),(Qa .i64 (y2 + (1:Int))),()))))))
 else (some (Qe (Qe ((y0.1,()),(y1.1,()),())))))
def Zap_L0 (y:Y_Zap_L0):Option Z_Zap_L0:=iter (fun (y:Y_Zap_L0)=>Zap_L0b y.1 y.2.1 y.2.2.1) rounds y
abbrev Y_Zap_L2:=((ApiReply×Unit)×(ApiReply×Unit)×Int×Unit)
abbrev Z_Zap_L2:=((Bool×Unit)⊕((ApiReply×Unit)×(ApiReply×Unit)×Unit))
def Zap_L2b (y0:(ApiReply × Unit)) (y1:(ApiReply × Unit)) (y2:Int):Option (Y_Zap_L2 ⊕ Z_Zap_L2):=
 (bif (decide (y2 < ((y0.1.entries).length:Int))) then ((getI y0.1.entries y2).bind fun x5=>((getI y1.1.entries y2).bind fun x6=>(bif (!decide (x5.rP=x6.rP)) then (some (Qe (Qb (false,()))))
 else (bif (!decide (x5.user=x6.user)) then (some (Qe (Qb (false,()))))
 else (bif (!decide (x5.name=x6.name)) then (some (Qe (Qb (false,()))))
 else (bif (!decide (x5.iD=x6.iD)) then (some (Qe (Qb (false,()))))
 else (bif (!decide (x5.left=x6.left)) then (some (Qe (Qb (false,()))))
 else (some (Qb ((y0.1,()),(y1.1,()),(Qa .i64 (y2 + (1:Int))),()))))))))))
 else (some (Qe (Qe ((y0.1,()),(y1.1,()),())))))
def Zap_L2 (y:Y_Zap_L2):Option Z_Zap_L2:=iter (fun (y:Y_Zap_L2)=>Zap_L2b y.1 y.2.1 y.2.2.1) rounds y
def Zap (a0:ApiReply) (a1:ApiReply):Option ((Unit) × (Bool × Unit)):=
 (bif (!decide (((a0.certificates).length:Int)=((a1.certificates).length:Int))) then (some ((),(false,())))
 else (bif (!decide (((a0.entries).length:Int)=((a1.entries).length:Int))) then (some ((),(false,())))
 else ((Zap_L0 ((a0,()),(a1,()),(0:Int),())).bind (Qk (fun (z3:(Bool × Unit))=>(some ((),(z3.1,())))) (fun (z4:((ApiReply × Unit) × (ApiReply × Unit) × Unit))=>((Zap_L2 ((z4.1.1,()),(z4.2.1.1,()),(0:Int),())).bind (Qk (fun (z7:(Bool × Unit))=>(some ((),(z7.1,())))) (fun (z8:((ApiReply × Unit) × (ApiReply × Unit) × Unit))=>(bif (decide (z8.1.1.err=z8.2.1.1.err)) then (bif (decide (z8.1.1.authData=z8.2.1.1.authData)) then (bif (decide (z8.1.1.signature=z8.2.1.1.signature)) then (bif (decide (z8.1.1.format=z8.2.1.1.format)) then (bif (decide (z8.1.1.iD=z8.2.1.1.iD)) then (bif (decide (z8.1.1.user=z8.2.1.1.user)) then (bif (decide (z8.1.1.name=z8.2.1.1.name)) then (bif (decide (z8.1.1.count=z8.2.1.1.count)) then (bif (decide (z8.1.1.peer=z8.2.1.1.peer)) then (bif (decide (z8.1.1.box=z8.2.1.1.box)) then (bif (decide (z8.1.1.model=z8.2.1.1.model)) then (bif (decide (z8.1.1.retries=z8.2.1.1.retries)) then (bif (decide (z8.1.1.rooms=z8.2.1.1.rooms)) then (bif (decide (z8.1.1.leases=z8.2.1.1.leases)) then (bif (z8.1.1.pinSet == z8.2.1.1.pinSet) then (some ((),((z8.1.1.finger == z8.2.1.1.finger),())))
 else (some ((),(false,()))))
 else (some ((),(false,()))))
 else (some ((),(false,()))))
 else (some ((),(false,()))))
 else (some ((),(false,()))))
 else (some ((),(false,()))))
 else (some ((),(false,()))))
 else (some ((),(false,()))))
 else (some ((),(false,()))))
 else (some ((),(false,()))))
 else (some ((),(false,()))))
 else (some ((),(false,()))))
 else (some ((),(false,()))))
 else (some ((),(false,()))))
 else (some ((),(false,()))))))))))))
def S_Zap:FSpec T:=⟨[.f (.v (.agg 12)),.f (.v (.agg 12))],[(.v .bool)],fun x=>Zap x.1 x.2.1⟩
def s_Zap_L0:LSpec T:=⟨[(2,.ptr [(.v (.agg 12))]),(3,.ptr [(.v (.agg 12))]),(5,.f (.v (.int .i64)))],[(.ret,[(4,.f (.v .bool))]),(.exit 0,[(2,.ptr [(.v (.agg 12))]),(3,.ptr [(.v (.agg 12))])])],Zap_L0,[]⟩
def s_Zap_L2:LSpec T:=⟨[(2,.ptr [(.v (.agg 12))]),(3,.ptr [(.v (.agg 12))]),(6,.f (.v (.int .i64)))],[(.ret,[(4,.f (.v .bool))]),(.exit 2,[(2,.ptr [(.v (.agg 12))]),(3,.ptr [(.v (.agg 12))])])],Zap_L2,[]⟩
def A_Zap:Loc2 T:=lcA [(0,s_Zap_L0),(2,s_Zap_L2)] [] [11]
theorem Vlp:LoopOk Tryz.prog (mE c83) Tryz.f16.ntmps (kqOf S_Zap.ps 0) (loopAt 0 (bodyOf Tryz.f16)) s_Zap_L0:=
 lpC hmix o83 A_Zap Vaa 0 (st:=fun y=>Zap_L0b y.1 y.2.1 y.2.2.1) (fun _=>rfl) (by kernel_rfl) (by kernel_rfl) fun x=>by kernel_rfl
theorem Vro:LoopOk Tryz.prog (mE c83) Tryz.f16.ntmps (kqOf S_Zap.ps 0) (loopAt 2 (bodyOf Tryz.f16)) s_Zap_L2:=
 lpC hmix o83 A_Zap (Vab rfl Vlp Vaa) 2 (st:=fun y=>Zap_L2b y.1 y.2.1 y.2.2.1) (fun _=>rfl) (by kernel_rfl) (by kernel_rfl) fun x=>by kernel_rfl
theorem Va3a:SoundT Tryz.prog cd gdn 16 S_Zap:=
 sndC hmix o83 A_Zap Tryz.func16 (Vab rfl Vlp (Vab rfl Vro Vaa)) (by kernel_rfl) (by kernel_rfl) fun x=>by kernel_rfl
def c84:List (Ct T):=⟨16,none,S_Zap,true⟩::c83
theorem o84:EnvOk Tryz.prog (mE c84):=eCons Va3a o83
def Zcb (a0:ApiReply):Option ((Unit) × (Bool × Unit)):=
 ((Zap a0 (⟨a0.err,[],[],[],(0:Int),[],([]:List UInt8),([]:List UInt8),(0:Int),0#64,[],0#64,(0:Int),(0:Int),(0:Int),false,false,[]⟩:ApiReply)).bind fun r1=>(some ((),(r1.2.1,()))))
def S_Zcb:FSpec T:=⟨[.f (.v (.agg 12))],[(.v .bool)],fun x=>Zcb x.1⟩
theorem Va4a:SoundT Tryz.prog cd gdn 42 S_Zcb:=
 sndC hmix o84 (lcA [] [] []) Tryz.func42 Vaa (by kernel_rfl) (by kernel_rfl) fun x=>by kernel_rfl
def c85:List (Ct T):=⟨42,none,S_Zcb,true⟩::c84
theorem o85:EnvOk Tryz.prog (mE c85):=eCons Va4a o84
abbrev Y_Zaf_L0:=((ApiReply×Unit)×Int×Unit)
abbrev Z_Zaf_L0:=((Int×Unit)⊕((ApiReply×Unit)×Unit))
def Zaf_L0b (y0:(ApiReply × Unit)) (y1:Int):Option (Y_Zaf_L0 ⊕ Z_Zaf_L0):=
 (bif (decide (y1 < ((y0.1.entries).length:Int))) then ((getI y0.1.entries y1).bind fun x7=>((Zbj x7.left (0:Int) (255:Int)).bind fun r8=>(bif (!r8.2.1) then (some (Qe (Qb ((9:Int),()))))
 else (some (Qb ((y0.1,()),(Qa .i64 (y1 + (1:Int))),()))))))
 else (some (Qe (Qe ((y0.1,()),())))))
def Zaf_L0 (y:Y_Zaf_L0):Option Z_Zaf_L0:=iter (fun (y:Y_Zaf_L0)=>Zaf_L0b y.1 y.2.1) rounds y
abbrev Y_Zaf_L2:=((ApiReply×Unit)×Bool×Int×Unit)
abbrev Z_Zaf_L2:=((ApiReply×Unit)×Bool×Unit)
def Zaf_L2b (y0:(ApiReply × Unit)) (y1:Bool) (y2:Int):Option (Y_Zaf_L2 ⊕ Z_Zaf_L2):=
 (bif (decide (y2 < ((y0.1.certificates).length:Int))) then (bif y1 then (some (Qb ((y0.1,()),true,(Qa .i64 (y2 + (1:Int))),())))
 else ((getI y0.1.certificates y2).bind fun x12=>(some (Qb ((y0.1,()),(decide ((1024:Int) < ((x12).length:Int))),(Qa .i64 (y2 + (1:Int))),())))))
 else (some (Qe ((y0.1,()),y1,()))))
def Zaf_L2 (y:Y_Zaf_L2):Option Z_Zaf_L2:=iter (fun (y:Y_Zaf_L2)=>Zaf_L2b y.1 y.2.1 y.2.2.1) rounds y
abbrev Y_Zaf_L4:=((ApiReply×Unit)×Bool×Bool×Bool×Int×Unit)
abbrev Z_Zaf_L4:=(Bool×Bool×Bool×Unit)
def Zaf_L4b (y0:(ApiReply × Unit)) (y1:Bool) (y2:Bool) (y3:Bool) (y4:Int):Option (Y_Zaf_L4 ⊕ Z_Zaf_L4):=
 (bif (decide (y4 < ((y0.1.entries).length:Int))) then ((getI y0.1.entries y4).bind fun x15=>(bif y1 then (bif y2 then ((Zct x15.rP).bind fun r16=>(bif r16.2.1 then ((Zct x15.name).bind fun r17=>(bif y3 then (some (Qb ((y0.1,()),true,r17.2.1,(decide (((x15.iD).length:Int)=(176:Int))),(Qa .i64 (y4 + (1:Int))),())))
 else (some (Qb ((y0.1,()),true,r17.2.1,false,(Qa .i64 (y4 + (1:Int))),())))))
 else (bif y3 then (some (Qb ((y0.1,()),true,false,(decide (((x15.iD).length:Int)=(176:Int))),(Qa .i64 (y4 + (1:Int))),())))
 else (some (Qb ((y0.1,()),true,false,false,(Qa .i64 (y4 + (1:Int))),()))))))
 else (bif y3 then (some (Qb ((y0.1,()),true,false,(decide (((x15.iD).length:Int)=(176:Int))),(Qa .i64 (y4 + (1:Int))),())))
 else (some (Qb ((y0.1,()),true,false,false,(Qa .i64 (y4 + (1:Int))),())))))
 else (bif (decide ((64:Int) < ((x15.rP).length:Int))) then (bif y2 then ((Zct x15.rP).bind fun r18=>(bif r18.2.1 then ((Zct x15.name).bind fun r19=>(bif y3 then (some (Qb ((y0.1,()),true,r19.2.1,(decide (((x15.iD).length:Int)=(176:Int))),(Qa .i64 (y4 + (1:Int))),())))
 else (some (Qb ((y0.1,()),true,r19.2.1,false,(Qa .i64 (y4 + (1:Int))),())))))
 else (bif y3 then (some (Qb ((y0.1,()),true,false,(decide (((x15.iD).length:Int)=(176:Int))),(Qa .i64 (y4 + (1:Int))),())))
 else (some (Qb ((y0.1,()),true,false,false,(Qa .i64 (y4 + (1:Int))),()))))))
 else (bif y3 then (some (Qb ((y0.1,()),true,false,(decide (((x15.iD).length:Int)=(176:Int))),(Qa .i64 (y4 + (1:Int))),())))
 else (some (Qb ((y0.1,()),true,false,false,(Qa .i64 (y4 + (1:Int))),())))))
 else (bif (decide ((16:Int) < ((x15.user).length:Int))) then (bif y2 then ((Zct x15.rP).bind fun r20=>(bif r20.2.1 then ((Zct x15.name).bind fun r21=>(bif y3 then (some (Qb ((y0.1,()),true,r21.2.1,(decide (((x15.iD).length:Int)=(176:Int))),(Qa .i64 (y4 + (1:Int))),())))
 else (some (Qb ((y0.1,()),true,r21.2.1,false,(Qa .i64 (y4 + (1:Int))),())))))
 else (bif y3 then (some (Qb ((y0.1,()),true,false,(decide (((x15.iD).length:Int)=(176:Int))),(Qa .i64 (y4 + (1:Int))),())))
 else (some (Qb ((y0.1,()),true,false,false,(Qa .i64 (y4 + (1:Int))),()))))))
 else (bif y3 then (some (Qb ((y0.1,()),true,false,(decide (((x15.iD).length:Int)=(176:Int))),(Qa .i64 (y4 + (1:Int))),())))
 else (some (Qb ((y0.1,()),true,false,false,(Qa .i64 (y4 + (1:Int))),())))))
 else (bif y2 then ((Zct x15.rP).bind fun r22=>(bif r22.2.1 then ((Zct x15.name).bind fun r23=>(bif y3 then (some (Qb ((y0.1,()),(decide ((32:Int) < ((x15.name).length:Int))),r23.2.1,(decide (((x15.iD).length:Int)=(176:Int))),(Qa .i64 (y4 + (1:Int))),())))
 else (some (Qb ((y0.1,()),(decide ((32:Int) < ((x15.name).length:Int))),r23.2.1,false,(Qa .i64 (y4 + (1:Int))),())))))
 else (bif y3 then (some (Qb ((y0.1,()),(decide ((32:Int) < ((x15.name).length:Int))),false,(decide (((x15.iD).length:Int)=(176:Int))),(Qa .i64 (y4 + (1:Int))),())))
 else (some (Qb ((y0.1,()),(decide ((32:Int) < ((x15.name).length:Int))),false,false,(Qa .i64 (y4 + (1:Int))),()))))))
 else (bif y3 then (some (Qb ((y0.1,()),(decide ((32:Int) < ((x15.name).length:Int))),false,(decide (((x15.iD).length:Int)=(176:Int))),(Qa .i64 (y4 + (1:Int))),())))
 else (some (Qb ((y0.1,()),(decide ((32:Int) < ((x15.name).length:Int))),false,false,(Qa .i64 (y4 + (1:Int))),())))))))))
 else (some (Qe (y1,y2,y3,()))))
def Zaf_L4 (y:Y_Zaf_L4):Option Z_Zaf_L4:=iter (fun (y:Y_Zaf_L4)=>Zaf_L4b y.1 y.2.1 y.2.2.1 y.2.2.2.1 y.2.2.2.2.1) rounds y
def Zaf (a0:ApiReply):Option ((Unit) × (Int × Unit)):=
 ((Zbj a0.err (0:Int) (42:Int)).bind fun r1=>(bif (!r1.2.1) then (some ((),((9:Int),())))
 else ((Zbj a0.format (0:Int) (255:Int)).bind fun r2=>(bif (!r2.2.1) then (some ((),((9:Int),())))
 else ((Zbj a0.count (0:Int) (255:Int)).bind fun r3=>(bif (!r3.2.1) then (some ((),((9:Int),())))
 else ((Zbj a0.retries (0:Int) (255:Int)).bind fun r4=>(bif (!r4.2.1) then (some ((),((9:Int),())))
 else ((Zbj a0.rooms (0:Int) (255:Int)).bind fun r5=>(bif (!r5.2.1) then (some ((),((9:Int),())))
 else ((Zbj a0.leases (0:Int) (255:Int)).bind fun r6=>(bif (!r6.2.1) then (some ((),((9:Int),())))
 else ((Zaf_L0 ((a0,()),(0:Int),())).bind (Qk (fun (z9:(Int × Unit))=>(some ((),(z9.1,())))) (fun (z10:((ApiReply × Unit) × Unit))=>(bif (!decide (z10.1.1.err=(0:Int))) then ((Zcb z10.1.1).bind fun r11=>(bif (!r11.2.1) then (some ((),((4:Int),())))
 else (bif (decide ((1024:Int) < ((z10.1.1.authData).length:Int))) then ((Zaf_L2 ((z10.1.1,()),true,(0:Int),())).bind (fun (z13:((ApiReply × Unit) × Bool × Unit))=>((Zct z13.1.1.name).bind fun r14=>(bif (decide (((z13.1.1.iD).length:Int)=(0:Int))) then ((Zaf_L4 ((z13.1.1,()),z13.2.1,r14.2.1,true,(0:Int),())).bind (fun (z24:(Bool × Bool × Bool × Unit))=>(bif z24.1 then (some ((),((8:Int),())))
 else (bif (!z24.2.1) then (some ((),((6:Int),())))
 else (bif (!z24.2.2.1) then (some ((),((4:Int),())))
 else (some ((),((0:Int),()))))))))
 else ((Zaf_L4 ((z13.1.1,()),z13.2.1,r14.2.1,(decide (((z13.1.1.iD).length:Int)=(176:Int))),(0:Int),())).bind (fun (z25:(Bool × Bool × Bool × Unit))=>(bif z25.1 then (some ((),((8:Int),())))
 else (bif (!z25.2.1) then (some ((),((6:Int),())))
 else (bif (!z25.2.2.1) then (some ((),((4:Int),())))
 else (some ((),((0:Int),()))))))))))))
 else (bif (decide ((1024:Int) < ((z10.1.1.signature).length:Int))) then ((Zaf_L2 ((z10.1.1,()),true,(0:Int),())).bind (fun (z26:((ApiReply × Unit) × Bool × Unit))=>((Zct z26.1.1.name).bind fun r27=>(bif (decide (((z26.1.1.iD).length:Int)=(0:Int))) then ((Zaf_L4 ((z26.1.1,()),z26.2.1,r27.2.1,true,(0:Int),())).bind (fun (z28:(Bool × Bool × Bool × Unit))=>(bif z28.1 then (some ((),((8:Int),())))
 else (bif (!z28.2.1) then (some ((),((6:Int),())))
 else (bif (!z28.2.2.1) then (some ((),((4:Int),())))
 else (some ((),((0:Int),()))))))))
 else ((Zaf_L4 ((z26.1.1,()),z26.2.1,r27.2.1,(decide (((z26.1.1.iD).length:Int)=(176:Int))),(0:Int),())).bind (fun (z29:(Bool × Bool × Bool × Unit))=>(bif z29.1 then (some ((),((8:Int),())))
 else (bif (!z29.2.1) then (some ((),((6:Int),())))
 else (bif (!z29.2.2.1) then (some ((),((4:Int),())))
 else (some ((),((0:Int),()))))))))))))
 else (bif (decide ((1024:Int) < ((z10.1.1.box).length:Int))) then ((Zaf_L2 ((z10.1.1,()),true,(0:Int),())).bind (fun (z30:((ApiReply × Unit) × Bool × Unit))=>((Zct z30.1.1.name).bind fun r31=>(bif (decide (((z30.1.1.iD).length:Int)=(0:Int))) then ((Zaf_L4 ((z30.1.1,()),z30.2.1,r31.2.1,true,(0:Int),())).bind (fun (z32:(Bool × Bool × Bool × Unit))=>(bif z32.1 then (some ((),((8:Int),())))
 else (bif (!z32.2.1) then (some ((),((6:Int),())))
 else (bif (!z32.2.2.1) then (some ((),((4:Int),())))
 else (some ((),((0:Int),()))))))))
 else ((Zaf_L4 ((z30.1.1,()),z30.2.1,r31.2.1,(decide (((z30.1.1.iD).length:Int)=(176:Int))),(0:Int),())).bind (fun (z33:(Bool × Bool × Bool × Unit))=>(bif z33.1 then (some ((),((8:Int),())))
 else (bif (!z33.2.1) then (some ((),((6:Int),())))
 else (bif (!z33.2.2.1) then (some ((),((4:Int),())))
 else (some ((),((0:Int),()))))))))))))
 else (bif (decide ((3:Int) < ((z10.1.1.certificates).length:Int))) then ((Zaf_L2 ((z10.1.1,()),true,(0:Int),())).bind (fun (z34:((ApiReply × Unit) × Bool × Unit))=>((Zct z34.1.1.name).bind fun r35=>(bif (decide (((z34.1.1.iD).length:Int)=(0:Int))) then ((Zaf_L4 ((z34.1.1,()),z34.2.1,r35.2.1,true,(0:Int),())).bind (fun (z36:(Bool × Bool × Bool × Unit))=>(bif z36.1 then (some ((),((8:Int),())))
 else (bif (!z36.2.1) then (some ((),((6:Int),())))
 else (bif (!z36.2.2.1) then (some ((),((4:Int),())))
 else (some ((),((0:Int),()))))))))
 else ((Zaf_L4 ((z34.1.1,()),z34.2.1,r35.2.1,(decide (((z34.1.1.iD).length:Int)=(176:Int))),(0:Int),())).bind (fun (z37:(Bool × Bool × Bool × Unit))=>(bif z37.1 then (some ((),((8:Int),())))
 else (bif (!z37.2.1) then (some ((),((6:Int),())))
 else (bif (!z37.2.2.1) then (some ((),((4:Int),())))
 else (some ((),((0:Int),()))))))))))))
 else (bif (decide ((8:Int) < ((z10.1.1.entries).length:Int))) then ((Zaf_L2 ((z10.1.1,()),true,(0:Int),())).bind (fun (z38:((ApiReply × Unit) × Bool × Unit))=>((Zct z38.1.1.name).bind fun r39=>(bif (decide (((z38.1.1.iD).length:Int)=(0:Int))) then ((Zaf_L4 ((z38.1.1,()),z38.2.1,r39.2.1,true,(0:Int),())).bind (fun (z40:(Bool × Bool × Bool × Unit))=>(bif z40.1 then (some ((),((8:Int),())))
 else (bif (!z40.2.1) then (some ((),((6:Int),())))
 else (bif (!z40.2.2.1) then (some ((),((4:Int),())))
 else (some ((),((0:Int),()))))))))
 else ((Zaf_L4 ((z38.1.1,()),z38.2.1,r39.2.1,(decide (((z38.1.1.iD).length:Int)=(176:Int))),(0:Int),())).bind (fun (z41:(Bool × Bool × Bool × Unit))=>(bif z41.1 then (some ((),((8:Int),())))
 else (bif (!z41.2.1) then (some ((),((6:Int),())))
 else (bif (!z41.2.2.1) then (some ((),((4:Int),())))
 else (some ((),((0:Int),()))))))))))))
 else (bif (decide ((16:Int) < ((z10.1.1.user).length:Int))) then ((Zaf_L2 ((z10.1.1,()),true,(0:Int),())).bind (fun (z42:((ApiReply × Unit) × Bool × Unit))=>((Zct z42.1.1.name).bind fun r43=>(bif (decide (((z42.1.1.iD).length:Int)=(0:Int))) then ((Zaf_L4 ((z42.1.1,()),z42.2.1,r43.2.1,true,(0:Int),())).bind (fun (z44:(Bool × Bool × Bool × Unit))=>(bif z44.1 then (some ((),((8:Int),())))
 else (bif (!z44.2.1) then (some ((),((6:Int),())))
 else (bif (!z44.2.2.1) then (some ((),((4:Int),())))
 else (some ((),((0:Int),()))))))))
 else ((Zaf_L4 ((z42.1.1,()),z42.2.1,r43.2.1,(decide (((z42.1.1.iD).length:Int)=(176:Int))),(0:Int),())).bind (fun (z45:(Bool × Bool × Bool × Unit))=>(bif z45.1 then (some ((),((8:Int),())))
 else (bif (!z45.2.1) then (some ((),((6:Int),())))
 else (bif (!z45.2.2.1) then (some ((),((4:Int),())))
 else (some ((),((0:Int),()))))))))))))
 else ((Zaf_L2 ((z10.1.1,()),(decide ((32:Int) < ((z10.1.1.name).length:Int))),(0:Int),())).bind (fun (z46:((ApiReply × Unit) × Bool × Unit))=>((Zct z46.1.1.name).bind fun r47=>(bif (decide (((z46.1.1.iD).length:Int)=(0:Int))) then ((Zaf_L4 ((z46.1.1,()),z46.2.1,r47.2.1,true,(0:Int),())).bind (fun (z48:(Bool × Bool × Bool × Unit))=>(bif z48.1 then (some ((),((8:Int),())))
 else (bif (!z48.2.1) then (some ((),((6:Int),())))
 else (bif (!z48.2.2.1) then (some ((),((4:Int),())))
 else (some ((),((0:Int),()))))))))
 else ((Zaf_L4 ((z46.1.1,()),z46.2.1,r47.2.1,(decide (((z46.1.1.iD).length:Int)=(176:Int))),(0:Int),())).bind (fun (z49:(Bool × Bool × Bool × Unit))=>(bif z49.1 then (some ((),((8:Int),())))
 else (bif (!z49.2.1) then (some ((),((6:Int),())))
 else (bif (!z49.2.2.1) then (some ((),((4:Int),())))
 else (some ((),((0:Int),()))))))))))))))))))))
 else (bif (decide ((1024:Int) < ((z10.1.1.authData).length:Int))) then ((Zaf_L2 ((z10.1.1,()),true,(0:Int),())).bind (fun (z50:((ApiReply × Unit) × Bool × Unit))=>((Zct z50.1.1.name).bind fun r51=>(bif (decide (((z50.1.1.iD).length:Int)=(0:Int))) then ((Zaf_L4 ((z50.1.1,()),z50.2.1,r51.2.1,true,(0:Int),())).bind (fun (z52:(Bool × Bool × Bool × Unit))=>(bif z52.1 then (some ((),((8:Int),())))
 else (bif (!z52.2.1) then (some ((),((6:Int),())))
 else (bif (!z52.2.2.1) then (some ((),((4:Int),())))
 else (some ((),((0:Int),()))))))))
 else ((Zaf_L4 ((z50.1.1,()),z50.2.1,r51.2.1,(decide (((z50.1.1.iD).length:Int)=(176:Int))),(0:Int),())).bind (fun (z53:(Bool × Bool × Bool × Unit))=>(bif z53.1 then (some ((),((8:Int),())))
 else (bif (!z53.2.1) then (some ((),((6:Int),())))
 else (bif (!z53.2.2.1) then (some ((),((4:Int),())))
 else (some ((),((0:Int),()))))))))))))
 else (bif (decide ((1024:Int) < ((z10.1.1.signature).length:Int))) then ((Zaf_L2 ((z10.1.1,()),true,(0:Int),())).bind (fun (z54:((ApiReply × Unit) × Bool × Unit))=>((Zct z54.1.1.name).bind fun r55=>(bif (decide (((z54.1.1.iD).length:Int)=(0:Int))) then ((Zaf_L4 ((z54.1.1,()),z54.2.1,r55.2.1,true,(0:Int),())).bind (fun (z56:(Bool × Bool × Bool × Unit))=>(bif z56.1 then (some ((),((8:Int),())))
 else (bif (!z56.2.1) then (some ((),((6:Int),())))
 else (bif (!z56.2.2.1) then (some ((),((4:Int),())))
 else (some ((),((0:Int),()))))))))
 else ((Zaf_L4 ((z54.1.1,()),z54.2.1,r55.2.1,(decide (((z54.1.1.iD).length:Int)=(176:Int))),(0:Int),())).bind (fun (z57:(Bool × Bool × Bool × Unit))=>(bif z57.1 then (some ((),((8:Int),())))
 else (bif (!z57.2.1) then (some ((),((6:Int),())))
 else (bif (!z57.2.2.1) then (some ((),((4:Int),())))
 else (some ((),((0:Int),()))))))))))))
 else (bif (decide ((1024:Int) < ((z10.1.1.box).length:Int))) then ((Zaf_L2 ((z10.1.1,()),true,(0:Int),())).bind (fun (z58:((ApiReply × Unit) × Bool × Unit))=>((Zct z58.1.1.name).bind fun r59=>(bif (decide (((z58.1.1.iD).length:Int)=(0:Int))) then ((Zaf_L4 ((z58.1.1,()),z58.2.1,r59.2.1,true,(0:Int),())).bind (fun (z60:(Bool × Bool × Bool × Unit))=>(bif z60.1 then (some ((),((8:Int),())))
 else (bif (!z60.2.1) then (some ((),((6:Int),())))
 else (bif (!z60.2.2.1) then (some ((),((4:Int),())))
 else (some ((),((0:Int),()))))))))
 else ((Zaf_L4 ((z58.1.1,()),z58.2.1,r59.2.1,(decide (((z58.1.1.iD).length:Int)=(176:Int))),(0:Int),())).bind (fun (z61:(Bool × Bool × Bool × Unit))=>(bif z61.1 then (some ((),((8:Int),())))
 else (bif (!z61.2.1) then (some ((),((6:Int),())))
 else (bif (!z61.2.2.1) then (some ((),((4:Int),())))
 else (some ((),((0:Int),()))))))))))))
 else (bif (decide ((3:Int) < ((z10.1.1.certificates).length:Int))) then ((Zaf_L2 ((z10.1.1,()),true,(0:Int),())).bind (fun (z62:((ApiReply × Unit) × Bool × Unit))=>((Zct z62.1.1.name).bind fun r63=>(bif (decide (((z62.1.1.iD).length:Int)=(0:Int))) then ((Zaf_L4 ((z62.1.1,()),z62.2.1,r63.2.1,true,(0:Int),())).bind (fun (z64:(Bool × Bool × Bool × Unit))=>(bif z64.1 then (some ((),((8:Int),())))
 else (bif (!z64.2.1) then (some ((),((6:Int),())))
 else (bif (!z64.2.2.1) then (some ((),((4:Int),())))
 else (some ((),((0:Int),()))))))))
 else ((Zaf_L4 ((z62.1.1,()),z62.2.1,r63.2.1,(decide (((z62.1.1.iD).length:Int)=(176:Int))),(0:Int),())).bind (fun (z65:(Bool × Bool × Bool × Unit))=>(bif z65.1 then (some ((),((8:Int),())))
 else (bif (!z65.2.1) then (some ((),((6:Int),())))
 else (bif (!z65.2.2.1) then (some ((),((4:Int),())))
 else (some ((),((0:Int),()))))))))))))
 else (bif (decide ((8:Int) < ((z10.1.1.entries).length:Int))) then ((Zaf_L2 ((z10.1.1,()),true,(0:Int),())).bind (fun (z66:((ApiReply × Unit) × Bool × Unit))=>((Zct z66.1.1.name).bind fun r67=>(bif (decide (((z66.1.1.iD).length:Int)=(0:Int))) then ((Zaf_L4 ((z66.1.1,()),z66.2.1,r67.2.1,true,(0:Int),())).bind (fun (z68:(Bool × Bool × Bool × Unit))=>(bif z68.1 then (some ((),((8:Int),())))
 else (bif (!z68.2.1) then (some ((),((6:Int),())))
 else (bif (!z68.2.2.1) then (some ((),((4:Int),())))
 else (some ((),((0:Int),()))))))))
 else ((Zaf_L4 ((z66.1.1,()),z66.2.1,r67.2.1,(decide (((z66.1.1.iD).length:Int)=(176:Int))),(0:Int),())).bind (fun (z69:(Bool × Bool × Bool × Unit))=>(bif z69.1 then (some ((),((8:Int),())))
 else (bif (!z69.2.1) then (some ((),((6:Int),())))
 else (bif (!z69.2.2.1) then (some ((),((4:Int),())))
 else (some ((),((0:Int),()))))))))))))
 else (bif (decide ((16:Int) < ((z10.1.1.user).length:Int))) then ((Zaf_L2 ((z10.1.1,()),true,(0:Int),())).bind (fun (z70:((ApiReply × Unit) × Bool × Unit))=>((Zct z70.1.1.name).bind fun r71=>(bif (decide (((z70.1.1.iD).length:Int)=(0:Int))) then ((Zaf_L4 ((z70.1.1,()),z70.2.1,r71.2.1,true,(0:Int),())).bind (fun (z72:(Bool × Bool × Bool × Unit))=>(bif z72.1 then (some ((),((8:Int),())))
 else (bif (!z72.2.1) then (some ((),((6:Int),())))
 else (bif (!z72.2.2.1) then (some ((),((4:Int),())))
 else (some ((),((0:Int),()))))))))
 else ((Zaf_L4 ((z70.1.1,()),z70.2.1,r71.2.1,(decide (((z70.1.1.iD).length:Int)=(176:Int))),(0:Int),())).bind (fun (z73:(Bool × Bool × Bool × Unit))=>(bif z73.1 then (some ((),((8:Int),())))
 else (bif (!z73.2.1) then (some ((),((6:Int),())))
 else (bif (!z73.2.2.1) then (some ((),((4:Int),())))
 else (some ((),((0:Int),()))))))))))))
 else ((Zaf_L2 ((z10.1.1,()),(decide ((32:Int) < ((z10.1.1.name).length:Int))),(0:Int),())).bind (fun (z74:((ApiReply × Unit) × Bool × Unit))=>((Zct z74.1.1.name).bind fun r75=>(bif (decide (((z74.1.1.iD).length:Int)=(0:Int))) then ((Zaf_L4 ((z74.1.1,()),z74.2.1,r75.2.1,true,(0:Int),())).bind (fun (z76:(Bool × Bool × Bool × Unit))=>(bif z76.1 then (some ((),((8:Int),())))
 else (bif (!z76.2.1) then (some ((),((6:Int),())))
 else (bif (!z76.2.2.1) then (some ((),((4:Int),())))
 else (some ((),((0:Int),()))))))))
 else ((Zaf_L4 ((z74.1.1,()),z74.2.1,r75.2.1,(decide (((z74.1.1.iD).length:Int)=(176:Int))),(0:Int),())).bind (fun (z77:(Bool × Bool × Bool × Unit))=>(bif z77.1 then (some ((),((8:Int),())))
 else (bif (!z77.2.1) then (some ((),((6:Int),())))
 else (bif (!z77.2.2.1) then (some ((),((4:Int),())))
 else (some ((),((0:Int),()))))))))))))))))))))))))))))))))))
def S_Zaf:FSpec T:=⟨[.f (.v (.agg 12))],[(.v (.int .i64))],fun x=>Zaf x.1⟩
def s_Zaf_L0:LSpec T:=⟨[(1,.ptr [(.v (.agg 12))]),(3,.f (.v (.int .i64)))],[(.ret,[(2,.f (.v (.int .i64)))]),(.exit 0,[(1,.ptr [(.v (.agg 12))])])],Zaf_L0,[]⟩
def s_Zaf_L2:LSpec T:=⟨[(1,.ptr [(.v (.agg 12))]),(4,.f (.v .bool)),(5,.f (.v (.int .i64)))],[(.exit 2,[(1,.ptr [(.v (.agg 12))]),(4,.f (.v .bool))])],Zaf_L2,[]⟩
def s_Zaf_L4:LSpec T:=⟨[(1,.ptr [(.v (.agg 12))]),(4,.f (.v .bool)),(6,.f (.v .bool)),(7,.f (.v .bool)),(8,.f (.v (.int .i64)))],[(.exit 4,[(4,.f (.v .bool)),(6,.f (.v .bool)),(7,.f (.v .bool))])],Zaf_L4,[]⟩
def A_Zaf:Loc2 T:=lcA [(0,s_Zaf_L0),(2,s_Zaf_L2),(4,s_Zaf_L4)] [] []
theorem Vhk:LoopOk Tryz.prog (mE c85) Tryz.f15.ntmps (kqOf S_Zaf.ps 0) (loopAt 0 (bodyOf Tryz.f15)) s_Zaf_L0:=
 lpC hmix o85 A_Zaf Vaa 0 (st:=fun y=>Zaf_L0b y.1 y.2.1) (fun _=>rfl) (by kernel_rfl) (by kernel_rfl) fun x=>by kernel_rfl
theorem Vlq:LoopOk Tryz.prog (mE c85) Tryz.f15.ntmps (kqOf S_Zaf.ps 0) (loopAt 2 (bodyOf Tryz.f15)) s_Zaf_L2:=
 lpC hmix o85 A_Zaf (Vab rfl Vhk Vaa) 2 (st:=fun y=>Zaf_L2b y.1 y.2.1 y.2.2.1) (fun _=>rfl) (by kernel_rfl) (by kernel_rfl) fun x=>by kernel_rfl
theorem Vrp:LoopOk Tryz.prog (mE c85) Tryz.f15.ntmps (kqOf S_Zaf.ps 0) (loopAt 4 (bodyOf Tryz.f15)) s_Zaf_L4:=
 lpC hmix o85 A_Zaf (Vab rfl Vhk (Vab rfl Vlq Vaa)) 4 (st:=fun y=>Zaf_L4b y.1 y.2.1 y.2.2.1 y.2.2.2.1 y.2.2.2.2.1) (fun _=>rfl) (by kernel_rfl) (by kernel_rfl) fun x=>by kernel_rfl
theorem Va5a:SoundT Tryz.prog cd gdn 15 S_Zaf:=
 sndC hmix o85 A_Zaf Tryz.func15 (Vab rfl Vhk (Vab rfl Vlq (Vab rfl Vrp Vaa))) (by kernel_rfl) (by kernel_rfl) fun x=>by kernel_rfl
def c86:List (Ct T):=⟨15,none,S_Zaf,true⟩::c85
theorem o86:EnvOk Tryz.prog (mE c86):=eCons Va5a o85
def Zbi (a0:(BitVec 64)):Option ((Unit) × (ApiItem × Unit)):=
 (some ((),((⟨(1:Int),a0,([]:List UInt8)⟩:ApiItem),())))
def S_Zbi:FSpec T:=⟨[.f (.v .u64)],[(.v (.agg 1))],fun x=>Zbi x.1⟩
theorem Va6a:SoundT Tryz.prog cd gdn 44 S_Zbi:=
 sndC hmix o86 (lcA [] [] []) Tryz.func44 Vaa (by kernel_rfl) (by kernel_rfl) fun x=>by kernel_rfl
def c87:List (Ct T):=⟨44,none,S_Zbi,true⟩::c86
theorem o87:EnvOk Tryz.prog (mE c87):=eCons Va6a o86
def Zca (a0:(List UInt8)):Option ((Unit) × (ApiItem × Unit)):=
 (some ((),((⟨(4:Int),0#64,a0⟩:ApiItem),())))
def S_Zca:FSpec T:=⟨[.f (.v .str)],[(.v (.agg 1))],fun x=>Zca x.1⟩
theorem Va7a:SoundT Tryz.prog cd gdn 45 S_Zca:=
 sndC hmix o87 (lcA [] [] []) Tryz.func45 Vaa (by kernel_rfl) (by kernel_rfl) fun x=>by kernel_rfl
def c88:List (Ct T):=⟨45,none,S_Zca,true⟩::c87
theorem o88:EnvOk Tryz.prog (mE c88):=eCons Va7a o87
def Zby (a0:(List UInt8)):Option ((Unit) × (ApiItem × Unit)):=
 (some ((),((⟨(3:Int),0#64,a0⟩:ApiItem),())))
def S_Zby:FSpec T:=⟨[.f (.v .str)],[(.v (.agg 1))],fun x=>Zby x.1⟩
theorem Va8a:SoundT Tryz.prog cd gdn 46 S_Zby:=
 sndC hmix o88 (lcA [] [] []) Tryz.func46 Vaa (by kernel_rfl) (by kernel_rfl) fun x=>by kernel_rfl
def c89:List (Ct T):=⟨46,none,S_Zby,true⟩::c88
theorem o89:EnvOk Tryz.prog (mE c89):=eCons Va8a o88
def Zax (a0:Bool):Option ((Unit) × (ApiItem × Unit)):=
 (bif a0 then (some ((),((⟨(7:Int),1#64,([]:List UInt8)⟩:ApiItem),())))
 else (some ((),((⟨(7:Int),0#64,([]:List UInt8)⟩:ApiItem),()))))
def S_Zax:FSpec T:=⟨[.f (.v .bool)],[(.v (.agg 1))],fun x=>Zax x.1⟩
theorem Va9a:SoundT Tryz.prog cd gdn 47 S_Zax:=
 sndC hmix o89 (lcA [] [] []) Tryz.func47 Vaa (by kernel_rfl) (by kernel_rfl) fun x=>by kernel_rfl
def c90:List (Ct T):=⟨47,none,S_Zax,true⟩::c89
theorem o90:EnvOk Tryz.prog (mE c90):=eCons Va9a o89
abbrev Y_Zbz_L0:=((List (List UInt8))×(List (ApiItem))×Int×Unit)
abbrev Z_Zbz_L0:=((List (ApiItem))×Unit)
def Zbz_L0b (y0:(List (List UInt8))) (y1:(List (ApiItem))) (y2:Int):Option (Y_Zbz_L0 ⊕ Z_Zbz_L0):=
 (bif (decide (y2 < ((y0).length:Int))) then ((getI y0 y2).bind fun x2=>((Zby x2).bind fun r3=>(bif small ((y1).length + (([r3.2.1]:List (ApiItem)):List (ApiItem)).length) 32 then (some (Qb (y0,(y1 ++ ([r3.2.1]:List (ApiItem))),(Qa .i64 (y2 + (1:Int))),())))
 else none)))
 else (some (Qe (y1,()))))
def Zbz_L0 (y:Y_Zbz_L0):Option Z_Zbz_L0:=iter (fun (y:Y_Zbz_L0)=>Zbz_L0b y.1 y.2.1 y.2.2.1) rounds y
def Zbz (a0:(List (List UInt8))):Option ((Unit) × ((List (ApiItem)) × Unit)):=
 (let v1:List (ApiItem):=([(⟨(5:Int),(Qc 64 ((a0).length:Int)),([]:List UInt8)⟩:ApiItem)]:List (ApiItem))
 ((Zbz_L0 (a0,v1,(0:Int),())).bind (fun (z4:((List (ApiItem)) × Unit))=>(some ((),(z4.1,()))))))
def S_Zbz:FSpec T:=⟨[.f (.v (.rs 2))],[(.own 1)],fun x=>Zbz x.1⟩
def s_Zbz_L0:LSpec T:=⟨[(0,.f (.v (.rs 2))),(3,.f (.own 1)),(4,.f (.v (.int .i64)))],[(.exit 0,[(3,.f (.own 1))])],Zbz_L0,[]⟩
def A_Zbz:Loc2 T:=lcA [(0,s_Zbz_L0)] [] []
theorem Vrq:LoopOk Tryz.prog (mE c90) Tryz.f48.ntmps (kqOf S_Zbz.ps 0) (loopAt 0 (bodyOf Tryz.f48)) s_Zbz_L0:=
 lpC hmix o90 A_Zbz Vaa 0 (st:=fun y=>Zbz_L0b y.1 y.2.1 y.2.2.1) (fun _=>rfl) (by kernel_rfl) (by kernel_rfl) fun x=>by kernel_rfl
theorem Vbaa:SoundT Tryz.prog cd gdn 48 S_Zbz:=
 sndC hmix o90 A_Zbz Tryz.func48 (Vab rfl Vrq Vaa) (by kernel_rfl) (by kernel_rfl) fun x=>by kernel_rfl
def c91:List (Ct T):=⟨48,none,S_Zbz,false⟩::c90
theorem o91:EnvOk Tryz.prog (mE c91):=eCons Vbaa o90
abbrev Y_passkeyref14_replyFields_L0:=((ApiReply×Unit)×Yaq×Yaq×(List (BitVec 64))×(List (List UInt8))×(List (Bool))×Int×Unit)
abbrev Z_passkeyref14_replyFields_L0:=((ApiReply×Unit)×Yaq×Yaq×Unit)
def passkeyref14_replyFields_L0b (y0:(ApiReply × Unit)) (y1:Yaq) (y2:Yaq) (y3:(List (BitVec 64))) (y4:(List (List UInt8))) (y5:(List (Bool))) (y6:Int):Option (Y_passkeyref14_replyFields_L0 ⊕ Z_passkeyref14_replyFields_L0):=
 (bif (decide (y6 < (18:Int))) then (bif (decide ((0:Int) ≤ y6) && decide (y6 < (18:Int))) then (((y3)[(y6).toNat]?).bind fun x1=>(bif (!decide (x1=0#64)) then (bif (decide ((0:Int) ≤ y6) && decide (y6 < (18:Int))) then (((y3)[(y6).toNat]?).bind fun x2=>((Zbi x2).bind fun r3=>(bif (decide ((0:Int) ≤ y6) && decide (y6 < (18:Int))) then (bif Nat.beq (y6).toNat 17 then (some (Qb ((y0.1,()),y1,(y2.1,y2.2.1,y2.2.2.1,y2.2.2.2.1,y2.2.2.2.2.1,y2.2.2.2.2.2.1,y2.2.2.2.2.2.2.1,y2.2.2.2.2.2.2.2.1,y2.2.2.2.2.2.2.2.2.1,y2.2.2.2.2.2.2.2.2.2.1,y2.2.2.2.2.2.2.2.2.2.2.1,y2.2.2.2.2.2.2.2.2.2.2.2.1,y2.2.2.2.2.2.2.2.2.2.2.2.2.1,y2.2.2.2.2.2.2.2.2.2.2.2.2.2.1,y2.2.2.2.2.2.2.2.2.2.2.2.2.2.2.1,y2.2.2.2.2.2.2.2.2.2.2.2.2.2.2.2.1,y2.2.2.2.2.2.2.2.2.2.2.2.2.2.2.2.2.1,([r3.2.1]:List (ApiItem)),()),y3,y4,y5,(Qa .i64 (y6 + (1:Int))),())))
 else (bif Nat.beq (y6).toNat 16 then (some (Qb ((y0.1,()),y1,(y2.1,y2.2.1,y2.2.2.1,y2.2.2.2.1,y2.2.2.2.2.1,y2.2.2.2.2.2.1,y2.2.2.2.2.2.2.1,y2.2.2.2.2.2.2.2.1,y2.2.2.2.2.2.2.2.2.1,y2.2.2.2.2.2.2.2.2.2.1,y2.2.2.2.2.2.2.2.2.2.2.1,y2.2.2.2.2.2.2.2.2.2.2.2.1,y2.2.2.2.2.2.2.2.2.2.2.2.2.1,y2.2.2.2.2.2.2.2.2.2.2.2.2.2.1,y2.2.2.2.2.2.2.2.2.2.2.2.2.2.2.1,y2.2.2.2.2.2.2.2.2.2.2.2.2.2.2.2.1,([r3.2.1]:List (ApiItem)),y2.2.2.2.2.2.2.2.2.2.2.2.2.2.2.2.2.2.1,()),y3,y4,y5,(Qa .i64 (y6 + (1:Int))),())))
 else (bif Nat.beq (y6).toNat 15 then (some (Qb ((y0.1,()),y1,(y2.1,y2.2.1,y2.2.2.1,y2.2.2.2.1,y2.2.2.2.2.1,y2.2.2.2.2.2.1,y2.2.2.2.2.2.2.1,y2.2.2.2.2.2.2.2.1,y2.2.2.2.2.2.2.2.2.1,y2.2.2.2.2.2.2.2.2.2.1,y2.2.2.2.2.2.2.2.2.2.2.1,y2.2.2.2.2.2.2.2.2.2.2.2.1,y2.2.2.2.2.2.2.2.2.2.2.2.2.1,y2.2.2.2.2.2.2.2.2.2.2.2.2.2.1,y2.2.2.2.2.2.2.2.2.2.2.2.2.2.2.1,([r3.2.1]:List (ApiItem)),y2.2.2.2.2.2.2.2.2.2.2.2.2.2.2.2.2),y3,y4,y5,(Qa .i64 (y6 + (1:Int))),())))
 else (bif Nat.beq (y6).toNat 14 then (some (Qb ((y0.1,()),y1,(y2.1,y2.2.1,y2.2.2.1,y2.2.2.2.1,y2.2.2.2.2.1,y2.2.2.2.2.2.1,y2.2.2.2.2.2.2.1,y2.2.2.2.2.2.2.2.1,y2.2.2.2.2.2.2.2.2.1,y2.2.2.2.2.2.2.2.2.2.1,y2.2.2.2.2.2.2.2.2.2.2.1,y2.2.2.2.2.2.2.2.2.2.2.2.1,y2.2.2.2.2.2.2.2.2.2.2.2.2.1,y2.2.2.2.2.2.2.2.2.2.2.2.2.2.1,([r3.2.1]:List (ApiItem)),y2.2.2.2.2.2.2.2.2.2.2.2.2.2.2.2),y3,y4,y5,(Qa .i64 (y6 + (1:Int))),())))
 else (bif Nat.beq (y6).toNat 13 then (some (Qb ((y0.1,()),y1,(y2.1,y2.2.1,y2.2.2.1,y2.2.2.2.1,y2.2.2.2.2.1,y2.2.2.2.2.2.1,y2.2.2.2.2.2.2.1,y2.2.2.2.2.2.2.2.1,y2.2.2.2.2.2.2.2.2.1,y2.2.2.2.2.2.2.2.2.2.1,y2.2.2.2.2.2.2.2.2.2.2.1,y2.2.2.2.2.2.2.2.2.2.2.2.1,y2.2.2.2.2.2.2.2.2.2.2.2.2.1,([r3.2.1]:List (ApiItem)),y2.2.2.2.2.2.2.2.2.2.2.2.2.2.2),y3,y4,y5,(Qa .i64 (y6 + (1:Int))),())))
 else (bif Nat.beq (y6).toNat 12 then (some (Qb ((y0.1,()),y1,(y2.1,y2.2.1,y2.2.2.1,y2.2.2.2.1,y2.2.2.2.2.1,y2.2.2.2.2.2.1,y2.2.2.2.2.2.2.1,y2.2.2.2.2.2.2.2.1,y2.2.2.2.2.2.2.2.2.1,y2.2.2.2.2.2.2.2.2.2.1,y2.2.2.2.2.2.2.2.2.2.2.1,y2.2.2.2.2.2.2.2.2.2.2.2.1,([r3.2.1]:List (ApiItem)),y2.2.2.2.2.2.2.2.2.2.2.2.2.2),y3,y4,y5,(Qa .i64 (y6 + (1:Int))),())))
 else (bif Nat.beq (y6).toNat 11 then (some (Qb ((y0.1,()),y1,(y2.1,y2.2.1,y2.2.2.1,y2.2.2.2.1,y2.2.2.2.2.1,y2.2.2.2.2.2.1,y2.2.2.2.2.2.2.1,y2.2.2.2.2.2.2.2.1,y2.2.2.2.2.2.2.2.2.1,y2.2.2.2.2.2.2.2.2.2.1,y2.2.2.2.2.2.2.2.2.2.2.1,([r3.2.1]:List (ApiItem)),y2.2.2.2.2.2.2.2.2.2.2.2.2),y3,y4,y5,(Qa .i64 (y6 + (1:Int))),())))
 else (bif Nat.beq (y6).toNat 10 then (some (Qb ((y0.1,()),y1,(y2.1,y2.2.1,y2.2.2.1,y2.2.2.2.1,y2.2.2.2.2.1,y2.2.2.2.2.2.1,y2.2.2.2.2.2.2.1,y2.2.2.2.2.2.2.2.1,y2.2.2.2.2.2.2.2.2.1,y2.2.2.2.2.2.2.2.2.2.1,([r3.2.1]:List (ApiItem)),y2.2.2.2.2.2.2.2.2.2.2.2),y3,y4,y5,(Qa .i64 (y6 + (1:Int))),())))
 else (bif Nat.beq (y6).toNat 9 then (some (Qb ((y0.1,()),y1,(y2.1,y2.2.1,y2.2.2.1,y2.2.2.2.1,y2.2.2.2.2.1,y2.2.2.2.2.2.1,y2.2.2.2.2.2.2.1,y2.2.2.2.2.2.2.2.1,y2.2.2.2.2.2.2.2.2.1,([r3.2.1]:List (ApiItem)),y2.2.2.2.2.2.2.2.2.2.2),y3,y4,y5,(Qa .i64 (y6 + (1:Int))),())))
 else (bif Nat.beq (y6).toNat 8 then (some (Qb ((y0.1,()),y1,(y2.1,y2.2.1,y2.2.2.1,y2.2.2.2.1,y2.2.2.2.2.1,y2.2.2.2.2.2.1,y2.2.2.2.2.2.2.1,y2.2.2.2.2.2.2.2.1,([r3.2.1]:List (ApiItem)),y2.2.2.2.2.2.2.2.2.2),y3,y4,y5,(Qa .i64 (y6 + (1:Int))),())))
 else (bif Nat.beq (y6).toNat 7 then (some (Qb ((y0.1,()),y1,(y2.1,y2.2.1,y2.2.2.1,y2.2.2.2.1,y2.2.2.2.2.1,y2.2.2.2.2.2.1,y2.2.2.2.2.2.2.1,([r3.2.1]:List (ApiItem)),y2.2.2.2.2.2.2.2.2),y3,y4,y5,(Qa .i64 (y6 + (1:Int))),())))
 else (bif Nat.beq (y6).toNat 6 then (some (Qb ((y0.1,()),y1,(y2.1,y2.2.1,y2.2.2.1,y2.2.2.2.1,y2.2.2.2.2.1,y2.2.2.2.2.2.1,([r3.2.1]:List (ApiItem)),y2.2.2.2.2.2.2.2),y3,y4,y5,(Qa .i64 (y6 + (1:Int))),())))
 else (bif Nat.beq (y6).toNat 5 then (some (Qb ((y0.1,()),y1,(y2.1,y2.2.1,y2.2.2.1,y2.2.2.2.1,y2.2.2.2.2.1,([r3.2.1]:List (ApiItem)),y2.2.2.2.2.2.2),y3,y4,y5,(Qa .i64 (y6 + (1:Int))),())))
 else (bif Nat.beq (y6).toNat 4 then (some (Qb ((y0.1,()),y1,(y2.1,y2.2.1,y2.2.2.1,y2.2.2.2.1,([r3.2.1]:List (ApiItem)),y2.2.2.2.2.2),y3,y4,y5,(Qa .i64 (y6 + (1:Int))),())))
 else (bif Nat.beq (y6).toNat 3 then (some (Qb ((y0.1,()),y1,(y2.1,y2.2.1,y2.2.2.1,([r3.2.1]:List (ApiItem)),y2.2.2.2.2),y3,y4,y5,(Qa .i64 (y6 + (1:Int))),())))
 else (bif Nat.beq (y6).toNat 2 then (some (Qb ((y0.1,()),y1,(y2.1,y2.2.1,([r3.2.1]:List (ApiItem)),y2.2.2.2),y3,y4,y5,(Qa .i64 (y6 + (1:Int))),())))
 else (bif Nat.beq (y6).toNat 1 then (some (Qb ((y0.1,()),y1,(y2.1,([r3.2.1]:List (ApiItem)),y2.2.2),y3,y4,y5,(Qa .i64 (y6 + (1:Int))),())))
 else (bif Nat.beq (y6).toNat 0 then (some (Qb ((y0.1,()),y1,(([r3.2.1]:List (ApiItem)),y2.2),y3,y4,y5,(Qa .i64 (y6 + (1:Int))),())))
 else none))))))))))))))))))
 else none)))
 else none)
 else (bif (decide ((0:Int) ≤ y6) && decide (y6 < (18:Int))) then (((y4)[(y6).toNat]?).bind fun x4=>(bif (!decide (x4=([]:List UInt8))) then (bif (decide (y6=(7:Int))) then (bif (decide ((0:Int) ≤ y6) && decide (y6 < (18:Int))) then (((y4)[(y6).toNat]?).bind fun x5=>((Zca x5).bind fun r6=>(bif (decide ((0:Int) ≤ y6) && decide (y6 < (18:Int))) then (bif Nat.beq (y6).toNat 17 then (some (Qb ((y0.1,()),y1,(y2.1,y2.2.1,y2.2.2.1,y2.2.2.2.1,y2.2.2.2.2.1,y2.2.2.2.2.2.1,y2.2.2.2.2.2.2.1,y2.2.2.2.2.2.2.2.1,y2.2.2.2.2.2.2.2.2.1,y2.2.2.2.2.2.2.2.2.2.1,y2.2.2.2.2.2.2.2.2.2.2.1,y2.2.2.2.2.2.2.2.2.2.2.2.1,y2.2.2.2.2.2.2.2.2.2.2.2.2.1,y2.2.2.2.2.2.2.2.2.2.2.2.2.2.1,y2.2.2.2.2.2.2.2.2.2.2.2.2.2.2.1,y2.2.2.2.2.2.2.2.2.2.2.2.2.2.2.2.1,y2.2.2.2.2.2.2.2.2.2.2.2.2.2.2.2.2.1,([r6.2.1]:List (ApiItem)),()),y3,y4,y5,(Qa .i64 (y6 + (1:Int))),())))
 else (bif Nat.beq (y6).toNat 16 then (some (Qb ((y0.1,()),y1,(y2.1,y2.2.1,y2.2.2.1,y2.2.2.2.1,y2.2.2.2.2.1,y2.2.2.2.2.2.1,y2.2.2.2.2.2.2.1,y2.2.2.2.2.2.2.2.1,y2.2.2.2.2.2.2.2.2.1,y2.2.2.2.2.2.2.2.2.2.1,y2.2.2.2.2.2.2.2.2.2.2.1,y2.2.2.2.2.2.2.2.2.2.2.2.1,y2.2.2.2.2.2.2.2.2.2.2.2.2.1,y2.2.2.2.2.2.2.2.2.2.2.2.2.2.1,y2.2.2.2.2.2.2.2.2.2.2.2.2.2.2.1,y2.2.2.2.2.2.2.2.2.2.2.2.2.2.2.2.1,([r6.2.1]:List (ApiItem)),y2.2.2.2.2.2.2.2.2.2.2.2.2.2.2.2.2.2.1,()),y3,y4,y5,(Qa .i64 (y6 + (1:Int))),())))
 else (bif Nat.beq (y6).toNat 15 then (some (Qb ((y0.1,()),y1,(y2.1,y2.2.1,y2.2.2.1,y2.2.2.2.1,y2.2.2.2.2.1,y2.2.2.2.2.2.1,y2.2.2.2.2.2.2.1,y2.2.2.2.2.2.2.2.1,y2.2.2.2.2.2.2.2.2.1,y2.2.2.2.2.2.2.2.2.2.1,y2.2.2.2.2.2.2.2.2.2.2.1,y2.2.2.2.2.2.2.2.2.2.2.2.1,y2.2.2.2.2.2.2.2.2.2.2.2.2.1,y2.2.2.2.2.2.2.2.2.2.2.2.2.2.1,y2.2.2.2.2.2.2.2.2.2.2.2.2.2.2.1,([r6.2.1]:List (ApiItem)),y2.2.2.2.2.2.2.2.2.2.2.2.2.2.2.2.2),y3,y4,y5,(Qa .i64 (y6 + (1:Int))),())))
 else (bif Nat.beq (y6).toNat 14 then (some (Qb ((y0.1,()),y1,(y2.1,y2.2.1,y2.2.2.1,y2.2.2.2.1,y2.2.2.2.2.1,y2.2.2.2.2.2.1,y2.2.2.2.2.2.2.1,y2.2.2.2.2.2.2.2.1,y2.2.2.2.2.2.2.2.2.1,y2.2.2.2.2.2.2.2.2.2.1,y2.2.2.2.2.2.2.2.2.2.2.1,y2.2.2.2.2.2.2.2.2.2.2.2.1,y2.2.2.2.2.2.2.2.2.2.2.2.2.1,y2.2.2.2.2.2.2.2.2.2.2.2.2.2.1,([r6.2.1]:List (ApiItem)),y2.2.2.2.2.2.2.2.2.2.2.2.2.2.2.2),y3,y4,y5,(Qa .i64 (y6 + (1:Int))),())))
 else (bif Nat.beq (y6).toNat 13 then (some (Qb ((y0.1,()),y1,(y2.1,y2.2.1,y2.2.2.1,y2.2.2.2.1,y2.2.2.2.2.1,y2.2.2.2.2.2.1,y2.2.2.2.2.2.2.1,y2.2.2.2.2.2.2.2.1,y2.2.2.2.2.2.2.2.2.1,y2.2.2.2.2.2.2.2.2.2.1,y2.2.2.2.2.2.2.2.2.2.2.1,y2.2.2.2.2.2.2.2.2.2.2.2.1,y2.2.2.2.2.2.2.2.2.2.2.2.2.1,([r6.2.1]:List (ApiItem)),y2.2.2.2.2.2.2.2.2.2.2.2.2.2.2),y3,y4,y5,(Qa .i64 (y6 + (1:Int))),())))
 else (bif Nat.beq (y6).toNat 12 then (some (Qb ((y0.1,()),y1,(y2.1,y2.2.1,y2.2.2.1,y2.2.2.2.1,y2.2.2.2.2.1,y2.2.2.2.2.2.1,y2.2.2.2.2.2.2.1,y2.2.2.2.2.2.2.2.1,y2.2.2.2.2.2.2.2.2.1,y2.2.2.2.2.2.2.2.2.2.1,y2.2.2.2.2.2.2.2.2.2.2.1,y2.2.2.2.2.2.2.2.2.2.2.2.1,([r6.2.1]:List (ApiItem)),y2.2.2.2.2.2.2.2.2.2.2.2.2.2),y3,y4,y5,(Qa .i64 (y6 + (1:Int))),())))
 else (bif Nat.beq (y6).toNat 11 then (some (Qb ((y0.1,()),y1,(y2.1,y2.2.1,y2.2.2.1,y2.2.2.2.1,y2.2.2.2.2.1,y2.2.2.2.2.2.1,y2.2.2.2.2.2.2.1,y2.2.2.2.2.2.2.2.1,y2.2.2.2.2.2.2.2.2.1,y2.2.2.2.2.2.2.2.2.2.1,y2.2.2.2.2.2.2.2.2.2.2.1,([r6.2.1]:List (ApiItem)),y2.2.2.2.2.2.2.2.2.2.2.2.2),y3,y4,y5,(Qa .i64 (y6 + (1:Int))),())))
 else (bif Nat.beq (y6).toNat 10 then (some (Qb ((y0.1,()),y1,(y2.1,y2.2.1,y2.2.2.1,y2.2.2.2.1,y2.2.2.2.2.1,y2.2.2.2.2.2.1,y2.2.2.2.2.2.2.1,y2.2.2.2.2.2.2.2.1,y2.2.2.2.2.2.2.2.2.1,y2.2.2.2.2.2.2.2.2.2.1,([r6.2.1]:List (ApiItem)),y2.2.2.2.2.2.2.2.2.2.2.2),y3,y4,y5,(Qa .i64 (y6 + (1:Int))),())))
 else (bif Nat.beq (y6).toNat 9 then (some (Qb ((y0.1,()),y1,(y2.1,y2.2.1,y2.2.2.1,y2.2.2.2.1,y2.2.2.2.2.1,y2.2.2.2.2.2.1,y2.2.2.2.2.2.2.1,y2.2.2.2.2.2.2.2.1,y2.2.2.2.2.2.2.2.2.1,([r6.2.1]:List (ApiItem)),y2.2.2.2.2.2.2.2.2.2.2),y3,y4,y5,(Qa .i64 (y6 + (1:Int))),())))
 else (bif Nat.beq (y6).toNat 8 then (some (Qb ((y0.1,()),y1,(y2.1,y2.2.1,y2.2.2.1,y2.2.2.2.1,y2.2.2.2.2.1,y2.2.2.2.2.2.1,y2.2.2.2.2.2.2.1,y2.2.2.2.2.2.2.2.1,([r6.2.1]:List (ApiItem)),y2.2.2.2.2.2.2.2.2.2),y3,y4,y5,(Qa .i64 (y6 + (1:Int))),())))
 else (bif Nat.beq (y6).toNat 7 then (some (Qb ((y0.1,()),y1,(y2.1,y2.2.1,y2.2.2.1,y2.2.2.2.1,y2.2.2.2.2.1,y2.2.2.2.2.2.1,y2.2.2.2.2.2.2.1,([r6.2.1]:List (ApiItem)),y2.2.2.2.2.2.2.2.2),y3,y4,y5,(Qa .i64 (y6 + (1:Int))),())))
 else (bif Nat.beq (y6).toNat 6 then (some (Qb ((y0.1,()),y1,(y2.1,y2.2.1,y2.2.2.1,y2.2.2.2.1,y2.2.2.2.2.1,y2.2.2.2.2.2.1,([r6.2.1]:List (ApiItem)),y2.2.2.2.2.2.2.2),y3,y4,y5,(Qa .i64 (y6 + (1:Int))),())))
 else (bif Nat.beq (y6).toNat 5 then (some (Qb ((y0.1,()),y1,(y2.1,y2.2.1,y2.2.2.1,y2.2.2.2.1,y2.2.2.2.2.1,([r6.2.1]:List (ApiItem)),y2.2.2.2.2.2.2),y3,y4,y5,(Qa .i64 (y6 + (1:Int))),())))
 else (bif Nat.beq (y6).toNat 4 then (some (Qb ((y0.1,()),y1,(y2.1,y2.2.1,y2.2.2.1,y2.2.2.2.1,([r6.2.1]:List (ApiItem)),y2.2.2.2.2.2),y3,y4,y5,(Qa .i64 (y6 + (1:Int))),())))
 else (bif Nat.beq (y6).toNat 3 then (some (Qb ((y0.1,()),y1,(y2.1,y2.2.1,y2.2.2.1,([r6.2.1]:List (ApiItem)),y2.2.2.2.2),y3,y4,y5,(Qa .i64 (y6 + (1:Int))),())))
 else (bif Nat.beq (y6).toNat 2 then (some (Qb ((y0.1,()),y1,(y2.1,y2.2.1,([r6.2.1]:List (ApiItem)),y2.2.2.2),y3,y4,y5,(Qa .i64 (y6 + (1:Int))),())))
 else (bif Nat.beq (y6).toNat 1 then (some (Qb ((y0.1,()),y1,(y2.1,([r6.2.1]:List (ApiItem)),y2.2.2),y3,y4,y5,(Qa .i64 (y6 + (1:Int))),())))
 else (bif Nat.beq (y6).toNat 0 then (some (Qb ((y0.1,()),y1,(([r6.2.1]:List (ApiItem)),y2.2),y3,y4,y5,(Qa .i64 (y6 + (1:Int))),())))
 else none))))))))))))))))))
 else none)))
 else none)
 else (bif (decide ((0:Int) ≤ y6) && decide (y6 < (18:Int))) then (((y4)[(y6).toNat]?).bind fun x7=>(bif (!decide (x7=([]:List UInt8))) then (bif (decide ((0:Int) ≤ y6) && decide (y6 < (18:Int))) then (((y4)[(y6).toNat]?).bind fun x8=>((Zby x8).bind fun r9=>(bif (decide ((0:Int) ≤ y6) && decide (y6 < (18:Int))) then (bif Nat.beq (y6).toNat 17 then (some (Qb ((y0.1,()),y1,(y2.1,y2.2.1,y2.2.2.1,y2.2.2.2.1,y2.2.2.2.2.1,y2.2.2.2.2.2.1,y2.2.2.2.2.2.2.1,y2.2.2.2.2.2.2.2.1,y2.2.2.2.2.2.2.2.2.1,y2.2.2.2.2.2.2.2.2.2.1,y2.2.2.2.2.2.2.2.2.2.2.1,y2.2.2.2.2.2.2.2.2.2.2.2.1,y2.2.2.2.2.2.2.2.2.2.2.2.2.1,y2.2.2.2.2.2.2.2.2.2.2.2.2.2.1,y2.2.2.2.2.2.2.2.2.2.2.2.2.2.2.1,y2.2.2.2.2.2.2.2.2.2.2.2.2.2.2.2.1,y2.2.2.2.2.2.2.2.2.2.2.2.2.2.2.2.2.1,([r9.2.1]:List (ApiItem)),()),y3,y4,y5,(Qa .i64 (y6 + (1:Int))),())))
 else (bif Nat.beq (y6).toNat 16 then (some (Qb ((y0.1,()),y1,(y2.1,y2.2.1,y2.2.2.1,y2.2.2.2.1,y2.2.2.2.2.1,y2.2.2.2.2.2.1,y2.2.2.2.2.2.2.1,y2.2.2.2.2.2.2.2.1,y2.2.2.2.2.2.2.2.2.1,y2.2.2.2.2.2.2.2.2.2.1,y2.2.2.2.2.2.2.2.2.2.2.1,y2.2.2.2.2.2.2.2.2.2.2.2.1,y2.2.2.2.2.2.2.2.2.2.2.2.2.1,y2.2.2.2.2.2.2.2.2.2.2.2.2.2.1,y2.2.2.2.2.2.2.2.2.2.2.2.2.2.2.1,y2.2.2.2.2.2.2.2.2.2.2.2.2.2.2.2.1,([r9.2.1]:List (ApiItem)),y2.2.2.2.2.2.2.2.2.2.2.2.2.2.2.2.2.2.1,()),y3,y4,y5,(Qa .i64 (y6 + (1:Int))),())))
 else (bif Nat.beq (y6).toNat 15 then (some (Qb ((y0.1,()),y1,(y2.1,y2.2.1,y2.2.2.1,y2.2.2.2.1,y2.2.2.2.2.1,y2.2.2.2.2.2.1,y2.2.2.2.2.2.2.1,y2.2.2.2.2.2.2.2.1,y2.2.2.2.2.2.2.2.2.1,y2.2.2.2.2.2.2.2.2.2.1,y2.2.2.2.2.2.2.2.2.2.2.1,y2.2.2.2.2.2.2.2.2.2.2.2.1,y2.2.2.2.2.2.2.2.2.2.2.2.2.1,y2.2.2.2.2.2.2.2.2.2.2.2.2.2.1,y2.2.2.2.2.2.2.2.2.2.2.2.2.2.2.1,([r9.2.1]:List (ApiItem)),y2.2.2.2.2.2.2.2.2.2.2.2.2.2.2.2.2),y3,y4,y5,(Qa .i64 (y6 + (1:Int))),())))
 else (bif Nat.beq (y6).toNat 14 then (some (Qb ((y0.1,()),y1,(y2.1,y2.2.1,y2.2.2.1,y2.2.2.2.1,y2.2.2.2.2.1,y2.2.2.2.2.2.1,y2.2.2.2.2.2.2.1,y2.2.2.2.2.2.2.2.1,y2.2.2.2.2.2.2.2.2.1,y2.2.2.2.2.2.2.2.2.2.1,y2.2.2.2.2.2.2.2.2.2.2.1,y2.2.2.2.2.2.2.2.2.2.2.2.1,y2.2.2.2.2.2.2.2.2.2.2.2.2.1,y2.2.2.2.2.2.2.2.2.2.2.2.2.2.1,([r9.2.1]:List (ApiItem)),y2.2.2.2.2.2.2.2.2.2.2.2.2.2.2.2),y3,y4,y5,(Qa .i64 (y6 + (1:Int))),())))
 else (bif Nat.beq (y6).toNat 13 then (some (Qb ((y0.1,()),y1,(y2.1,y2.2.1,y2.2.2.1,y2.2.2.2.1,y2.2.2.2.2.1,y2.2.2.2.2.2.1,y2.2.2.2.2.2.2.1,y2.2.2.2.2.2.2.2.1,y2.2.2.2.2.2.2.2.2.1,y2.2.2.2.2.2.2.2.2.2.1,y2.2.2.2.2.2.2.2.2.2.2.1,y2.2.2.2.2.2.2.2.2.2.2.2.1,y2.2.2.2.2.2.2.2.2.2.2.2.2.1,([r9.2.1]:List (ApiItem)),y2.2.2.2.2.2.2.2.2.2.2.2.2.2.2),y3,y4,y5,(Qa .i64 (y6 + (1:Int))),())))
 else (bif Nat.beq (y6).toNat 12 then (some (Qb ((y0.1,()),y1,(y2.1,y2.2.1,y2.2.2.1,y2.2.2.2.1,y2.2.2.2.2.1,y2.2.2.2.2.2.1,y2.2.2.2.2.2.2.1,y2.2.2.2.2.2.2.2.1,y2.2.2.2.2.2.2.2.2.1,y2.2.2.2.2.2.2.2.2.2.1,y2.2.2.2.2.2.2.2.2.2.2.1,y2.2.2.2.2.2.2.2.2.2.2.2.1,([r9.2.1]:List (ApiItem)),y2.2.2.2.2.2.2.2.2.2.2.2.2.2),y3,y4,y5,(Qa .i64 (y6 + (1:Int))),())))
 else (bif Nat.beq (y6).toNat 11 then (some (Qb ((y0.1,()),y1,(y2.1,y2.2.1,y2.2.2.1,y2.2.2.2.1,y2.2.2.2.2.1,y2.2.2.2.2.2.1,y2.2.2.2.2.2.2.1,y2.2.2.2.2.2.2.2.1,y2.2.2.2.2.2.2.2.2.1,y2.2.2.2.2.2.2.2.2.2.1,y2.2.2.2.2.2.2.2.2.2.2.1,([r9.2.1]:List (ApiItem)),y2.2.2.2.2.2.2.2.2.2.2.2.2),y3,y4,y5,(Qa .i64 (y6 + (1:Int))),())))
 else (bif Nat.beq (y6).toNat 10 then (some (Qb ((y0.1,()),y1,(y2.1,y2.2.1,y2.2.2.1,y2.2.2.2.1,y2.2.2.2.2.1,y2.2.2.2.2.2.1,y2.2.2.2.2.2.2.1,y2.2.2.2.2.2.2.2.1,y2.2.2.2.2.2.2.2.2.1,y2.2.2.2.2.2.2.2.2.2.1,([r9.2.1]:List (ApiItem)),y2.2.2.2.2.2.2.2.2.2.2.2),y3,y4,y5,(Qa .i64 (y6 + (1:Int))),())))
 else (bif Nat.beq (y6).toNat 9 then (some (Qb ((y0.1,()),y1,(y2.1,y2.2.1,y2.2.2.1,y2.2.2.2.1,y2.2.2.2.2.1,y2.2.2.2.2.2.1,y2.2.2.2.2.2.2.1,y2.2.2.2.2.2.2.2.1,y2.2.2.2.2.2.2.2.2.1,([r9.2.1]:List (ApiItem)),y2.2.2.2.2.2.2.2.2.2.2),y3,y4,y5,(Qa .i64 (y6 + (1:Int))),())))
 else (bif Nat.beq (y6).toNat 8 then (some (Qb ((y0.1,()),y1,(y2.1,y2.2.1,y2.2.2.1,y2.2.2.2.1,y2.2.2.2.2.1,y2.2.2.2.2.2.1,y2.2.2.2.2.2.2.1,y2.2.2.2.2.2.2.2.1,([r9.2.1]:List (ApiItem)),y2.2.2.2.2.2.2.2.2.2),y3,y4,y5,(Qa .i64 (y6 + (1:Int))),())))
 else (bif Nat.beq (y6).toNat 7 then (some (Qb ((y0.1,()),y1,(y2.1,y2.2.1,y2.2.2.1,y2.2.2.2.1,y2.2.2.2.2.1,y2.2.2.2.2.2.1,y2.2.2.2.2.2.2.1,([r9.2.1]:List (ApiItem)),y2.2.2.2.2.2.2.2.2),y3,y4,y5,(Qa .i64 (y6 + (1:Int))),())))
 else (bif Nat.beq (y6).toNat 6 then (some (Qb ((y0.1,()),y1,(y2.1,y2.2.1,y2.2.2.1,y2.2.2.2.1,y2.2.2.2.2.1,y2.2.2.2.2.2.1,([r9.2.1]:List (ApiItem)),y2.2.2.2.2.2.2.2),y3,y4,y5,(Qa .i64 (y6 + (1:Int))),())))
 else (bif Nat.beq (y6).toNat 5 then (some (Qb ((y0.1,()),y1,(y2.1,y2.2.1,y2.2.2.1,y2.2.2.2.1,y2.2.2.2.2.1,([r9.2.1]:List (ApiItem)),y2.2.2.2.2.2.2),y3,y4,y5,(Qa .i64 (y6 + (1:Int))),())))
 else (bif Nat.beq (y6).toNat 4 then (some (Qb ((y0.1,()),y1,(y2.1,y2.2.1,y2.2.2.1,y2.2.2.2.1,([r9.2.1]:List (ApiItem)),y2.2.2.2.2.2),y3,y4,y5,(Qa .i64 (y6 + (1:Int))),())))
 else (bif Nat.beq (y6).toNat 3 then (some (Qb ((y0.1,()),y1,(y2.1,y2.2.1,y2.2.2.1,([r9.2.1]:List (ApiItem)),y2.2.2.2.2),y3,y4,y5,(Qa .i64 (y6 + (1:Int))),())))
 else (bif Nat.beq (y6).toNat 2 then (some (Qb ((y0.1,()),y1,(y2.1,y2.2.1,([r9.2.1]:List (ApiItem)),y2.2.2.2),y3,y4,y5,(Qa .i64 (y6 + (1:Int))),())))
 else (bif Nat.beq (y6).toNat 1 then (some (Qb ((y0.1,()),y1,(y2.1,([r9.2.1]:List (ApiItem)),y2.2.2),y3,y4,y5,(Qa .i64 (y6 + (1:Int))),())))
 else (bif Nat.beq (y6).toNat 0 then (some (Qb ((y0.1,()),y1,(([r9.2.1]:List (ApiItem)),y2.2),y3,y4,y5,(Qa .i64 (y6 + (1:Int))),())))
 else none))))))))))))))))))
 else none)))
 else none)
 else (bif (decide ((0:Int) ≤ y6) && decide (y6 < (18:Int))) then (((y5)[(y6).toNat]?).bind fun x10=>(bif x10 then ((Zax true).bind fun r11=>(bif (decide ((0:Int) ≤ y6) && decide (y6 < (18:Int))) then (bif Nat.beq (y6).toNat 17 then (some (Qb ((y0.1,()),y1,(y2.1,y2.2.1,y2.2.2.1,y2.2.2.2.1,y2.2.2.2.2.1,y2.2.2.2.2.2.1,y2.2.2.2.2.2.2.1,y2.2.2.2.2.2.2.2.1,y2.2.2.2.2.2.2.2.2.1,y2.2.2.2.2.2.2.2.2.2.1,y2.2.2.2.2.2.2.2.2.2.2.1,y2.2.2.2.2.2.2.2.2.2.2.2.1,y2.2.2.2.2.2.2.2.2.2.2.2.2.1,y2.2.2.2.2.2.2.2.2.2.2.2.2.2.1,y2.2.2.2.2.2.2.2.2.2.2.2.2.2.2.1,y2.2.2.2.2.2.2.2.2.2.2.2.2.2.2.2.1,y2.2.2.2.2.2.2.2.2.2.2.2.2.2.2.2.2.1,([r11.2.1]:List (ApiItem)),()),y3,y4,y5,(Qa .i64 (y6 + (1:Int))),())))
 else (bif Nat.beq (y6).toNat 16 then (some (Qb ((y0.1,()),y1,(y2.1,y2.2.1,y2.2.2.1,y2.2.2.2.1,y2.2.2.2.2.1,y2.2.2.2.2.2.1,y2.2.2.2.2.2.2.1,y2.2.2.2.2.2.2.2.1,y2.2.2.2.2.2.2.2.2.1,y2.2.2.2.2.2.2.2.2.2.1,y2.2.2.2.2.2.2.2.2.2.2.1,y2.2.2.2.2.2.2.2.2.2.2.2.1,y2.2.2.2.2.2.2.2.2.2.2.2.2.1,y2.2.2.2.2.2.2.2.2.2.2.2.2.2.1,y2.2.2.2.2.2.2.2.2.2.2.2.2.2.2.1,y2.2.2.2.2.2.2.2.2.2.2.2.2.2.2.2.1,([r11.2.1]:List (ApiItem)),y2.2.2.2.2.2.2.2.2.2.2.2.2.2.2.2.2.2.1,()),y3,y4,y5,(Qa .i64 (y6 + (1:Int))),())))
 else (bif Nat.beq (y6).toNat 15 then (some (Qb ((y0.1,()),y1,(y2.1,y2.2.1,y2.2.2.1,y2.2.2.2.1,y2.2.2.2.2.1,y2.2.2.2.2.2.1,y2.2.2.2.2.2.2.1,y2.2.2.2.2.2.2.2.1,y2.2.2.2.2.2.2.2.2.1,y2.2.2.2.2.2.2.2.2.2.1,y2.2.2.2.2.2.2.2.2.2.2.1,y2.2.2.2.2.2.2.2.2.2.2.2.1,y2.2.2.2.2.2.2.2.2.2.2.2.2.1,y2.2.2.2.2.2.2.2.2.2.2.2.2.2.1,y2.2.2.2.2.2.2.2.2.2.2.2.2.2.2.1,([r11.2.1]:List (ApiItem)),y2.2.2.2.2.2.2.2.2.2.2.2.2.2.2.2.2),y3,y4,y5,(Qa .i64 (y6 + (1:Int))),())))
 else (bif Nat.beq (y6).toNat 14 then (some (Qb ((y0.1,()),y1,(y2.1,y2.2.1,y2.2.2.1,y2.2.2.2.1,y2.2.2.2.2.1,y2.2.2.2.2.2.1,y2.2.2.2.2.2.2.1,y2.2.2.2.2.2.2.2.1,y2.2.2.2.2.2.2.2.2.1,y2.2.2.2.2.2.2.2.2.2.1,y2.2.2.2.2.2.2.2.2.2.2.1,y2.2.2.2.2.2.2.2.2.2.2.2.1,y2.2.2.2.2.2.2.2.2.2.2.2.2.1,y2.2.2.2.2.2.2.2.2.2.2.2.2.2.1,([r11.2.1]:List (ApiItem)),y2.2.2.2.2.2.2.2.2.2.2.2.2.2.2.2),y3,y4,y5,(Qa .i64 (y6 + (1:Int))),())))
 else (bif Nat.beq (y6).toNat 13 then (some (Qb ((y0.1,()),y1,(y2.1,y2.2.1,y2.2.2.1,y2.2.2.2.1,y2.2.2.2.2.1,y2.2.2.2.2.2.1,y2.2.2.2.2.2.2.1,y2.2.2.2.2.2.2.2.1,y2.2.2.2.2.2.2.2.2.1,y2.2.2.2.2.2.2.2.2.2.1,y2.2.2.2.2.2.2.2.2.2.2.1,y2.2.2.2.2.2.2.2.2.2.2.2.1,y2.2.2.2.2.2.2.2.2.2.2.2.2.1,([r11.2.1]:List (ApiItem)),y2.2.2.2.2.2.2.2.2.2.2.2.2.2.2),y3,y4,y5,(Qa .i64 (y6 + (1:Int))),())))
 else (bif Nat.beq (y6).toNat 12 then (some (Qb ((y0.1,()),y1,(y2.1,y2.2.1,y2.2.2.1,y2.2.2.2.1,y2.2.2.2.2.1,y2.2.2.2.2.2.1,y2.2.2.2.2.2.2.1,y2.2.2.2.2.2.2.2.1,y2.2.2.2.2.2.2.2.2.1,y2.2.2.2.2.2.2.2.2.2.1,y2.2.2.2.2.2.2.2.2.2.2.1,y2.2.2.2.2.2.2.2.2.2.2.2.1,([r11.2.1]:List (ApiItem)),y2.2.2.2.2.2.2.2.2.2.2.2.2.2),y3,y4,y5,(Qa .i64 (y6 + (1:Int))),())))
 else (bif Nat.beq (y6).toNat 11 then (some (Qb ((y0.1,()),y1,(y2.1,y2.2.1,y2.2.2.1,y2.2.2.2.1,y2.2.2.2.2.1,y2.2.2.2.2.2.1,y2.2.2.2.2.2.2.1,y2.2.2.2.2.2.2.2.1,y2.2.2.2.2.2.2.2.2.1,y2.2.2.2.2.2.2.2.2.2.1,y2.2.2.2.2.2.2.2.2.2.2.1,([r11.2.1]:List (ApiItem)),y2.2.2.2.2.2.2.2.2.2.2.2.2),y3,y4,y5,(Qa .i64 (y6 + (1:Int))),())))
 else (bif Nat.beq (y6).toNat 10 then (some (Qb ((y0.1,()),y1,(y2.1,y2.2.1,y2.2.2.1,y2.2.2.2.1,y2.2.2.2.2.1,y2.2.2.2.2.2.1,y2.2.2.2.2.2.2.1,y2.2.2.2.2.2.2.2.1,y2.2.2.2.2.2.2.2.2.1,y2.2.2.2.2.2.2.2.2.2.1,([r11.2.1]:List (ApiItem)),y2.2.2.2.2.2.2.2.2.2.2.2),y3,y4,y5,(Qa .i64 (y6 + (1:Int))),())))
 else (bif Nat.beq (y6).toNat 9 then (some (Qb ((y0.1,()),y1,(y2.1,y2.2.1,y2.2.2.1,y2.2.2.2.1,y2.2.2.2.2.1,y2.2.2.2.2.2.1,y2.2.2.2.2.2.2.1,y2.2.2.2.2.2.2.2.1,y2.2.2.2.2.2.2.2.2.1,([r11.2.1]:List (ApiItem)),y2.2.2.2.2.2.2.2.2.2.2),y3,y4,y5,(Qa .i64 (y6 + (1:Int))),())))
 else (bif Nat.beq (y6).toNat 8 then (some (Qb ((y0.1,()),y1,(y2.1,y2.2.1,y2.2.2.1,y2.2.2.2.1,y2.2.2.2.2.1,y2.2.2.2.2.2.1,y2.2.2.2.2.2.2.1,y2.2.2.2.2.2.2.2.1,([r11.2.1]:List (ApiItem)),y2.2.2.2.2.2.2.2.2.2),y3,y4,y5,(Qa .i64 (y6 + (1:Int))),())))
 else (bif Nat.beq (y6).toNat 7 then (some (Qb ((y0.1,()),y1,(y2.1,y2.2.1,y2.2.2.1,y2.2.2.2.1,y2.2.2.2.2.1,y2.2.2.2.2.2.1,y2.2.2.2.2.2.2.1,([r11.2.1]:List (ApiItem)),y2.2.2.2.2.2.2.2.2),y3,y4,y5,(Qa .i64 (y6 + (1:Int))),())))
 else (bif Nat.beq (y6).toNat 6 then (some (Qb ((y0.1,()),y1,(y2.1,y2.2.1,y2.2.2.1,y2.2.2.2.1,y2.2.2.2.2.1,y2.2.2.2.2.2.1,([r11.2.1]:List (ApiItem)),y2.2.2.2.2.2.2.2),y3,y4,y5,(Qa .i64 (y6 + (1:Int))),())))
 else (bif Nat.beq (y6).toNat 5 then (some (Qb ((y0.1,()),y1,(y2.1,y2.2.1,y2.2.2.1,y2.2.2.2.1,y2.2.2.2.2.1,([r11.2.1]:List (ApiItem)),y2.2.2.2.2.2.2),y3,y4,y5,(Qa .i64 (y6 + (1:Int))),())))
 else (bif Nat.beq (y6).toNat 4 then (some (Qb ((y0.1,()),y1,(y2.1,y2.2.1,y2.2.2.1,y2.2.2.2.1,([r11.2.1]:List (ApiItem)),y2.2.2.2.2.2),y3,y4,y5,(Qa .i64 (y6 + (1:Int))),())))
 else (bif Nat.beq (y6).toNat 3 then (some (Qb ((y0.1,()),y1,(y2.1,y2.2.1,y2.2.2.1,([r11.2.1]:List (ApiItem)),y2.2.2.2.2),y3,y4,y5,(Qa .i64 (y6 + (1:Int))),())))
 else (bif Nat.beq (y6).toNat 2 then (some (Qb ((y0.1,()),y1,(y2.1,y2.2.1,([r11.2.1]:List (ApiItem)),y2.2.2.2),y3,y4,y5,(Qa .i64 (y6 + (1:Int))),())))
 else (bif Nat.beq (y6).toNat 1 then (some (Qb ((y0.1,()),y1,(y2.1,([r11.2.1]:List (ApiItem)),y2.2.2),y3,y4,y5,(Qa .i64 (y6 + (1:Int))),())))
 else (bif Nat.beq (y6).toNat 0 then (some (Qb ((y0.1,()),y1,(([r11.2.1]:List (ApiItem)),y2.2),y3,y4,y5,(Qa .i64 (y6 + (1:Int))),())))
 else none))))))))))))))))))
 else none))
 else (some (Qb ((y0.1,()),y1,y2,y3,y4,y5,(Qa .i64 (y6 + (1:Int))),())))))
 else none)))
 else none))
 else (bif (decide ((0:Int) ≤ y6) && decide (y6 < (18:Int))) then (((y4)[(y6).toNat]?).bind fun x12=>(bif (!decide (x12=([]:List UInt8))) then (bif (decide ((0:Int) ≤ y6) && decide (y6 < (18:Int))) then (((y4)[(y6).toNat]?).bind fun x13=>((Zby x13).bind fun r14=>(bif (decide ((0:Int) ≤ y6) && decide (y6 < (18:Int))) then (bif Nat.beq (y6).toNat 17 then (some (Qb ((y0.1,()),y1,(y2.1,y2.2.1,y2.2.2.1,y2.2.2.2.1,y2.2.2.2.2.1,y2.2.2.2.2.2.1,y2.2.2.2.2.2.2.1,y2.2.2.2.2.2.2.2.1,y2.2.2.2.2.2.2.2.2.1,y2.2.2.2.2.2.2.2.2.2.1,y2.2.2.2.2.2.2.2.2.2.2.1,y2.2.2.2.2.2.2.2.2.2.2.2.1,y2.2.2.2.2.2.2.2.2.2.2.2.2.1,y2.2.2.2.2.2.2.2.2.2.2.2.2.2.1,y2.2.2.2.2.2.2.2.2.2.2.2.2.2.2.1,y2.2.2.2.2.2.2.2.2.2.2.2.2.2.2.2.1,y2.2.2.2.2.2.2.2.2.2.2.2.2.2.2.2.2.1,([r14.2.1]:List (ApiItem)),()),y3,y4,y5,(Qa .i64 (y6 + (1:Int))),())))
 else (bif Nat.beq (y6).toNat 16 then (some (Qb ((y0.1,()),y1,(y2.1,y2.2.1,y2.2.2.1,y2.2.2.2.1,y2.2.2.2.2.1,y2.2.2.2.2.2.1,y2.2.2.2.2.2.2.1,y2.2.2.2.2.2.2.2.1,y2.2.2.2.2.2.2.2.2.1,y2.2.2.2.2.2.2.2.2.2.1,y2.2.2.2.2.2.2.2.2.2.2.1,y2.2.2.2.2.2.2.2.2.2.2.2.1,y2.2.2.2.2.2.2.2.2.2.2.2.2.1,y2.2.2.2.2.2.2.2.2.2.2.2.2.2.1,y2.2.2.2.2.2.2.2.2.2.2.2.2.2.2.1,y2.2.2.2.2.2.2.2.2.2.2.2.2.2.2.2.1,([r14.2.1]:List (ApiItem)),y2.2.2.2.2.2.2.2.2.2.2.2.2.2.2.2.2.2.1,()),y3,y4,y5,(Qa .i64 (y6 + (1:Int))),())))
 else (bif Nat.beq (y6).toNat 15 then (some (Qb ((y0.1,()),y1,(y2.1,y2.2.1,y2.2.2.1,y2.2.2.2.1,y2.2.2.2.2.1,y2.2.2.2.2.2.1,y2.2.2.2.2.2.2.1,y2.2.2.2.2.2.2.2.1,y2.2.2.2.2.2.2.2.2.1,y2.2.2.2.2.2.2.2.2.2.1,y2.2.2.2.2.2.2.2.2.2.2.1,y2.2.2.2.2.2.2.2.2.2.2.2.1,y2.2.2.2.2.2.2.2.2.2.2.2.2.1,y2.2.2.2.2.2.2.2.2.2.2.2.2.2.1,y2.2.2.2.2.2.2.2.2.2.2.2.2.2.2.1,([r14.2.1]:List (ApiItem)),y2.2.2.2.2.2.2.2.2.2.2.2.2.2.2.2.2),y3,y4,y5,(Qa .i64 (y6 + (1:Int))),())))
 else (bif Nat.beq (y6).toNat 14 then (some (Qb ((y0.1,()),y1,(y2.1,y2.2.1,y2.2.2.1,y2.2.2.2.1,y2.2.2.2.2.1,y2.2.2.2.2.2.1,y2.2.2.2.2.2.2.1,y2.2.2.2.2.2.2.2.1,y2.2.2.2.2.2.2.2.2.1,y2.2.2.2.2.2.2.2.2.2.1,y2.2.2.2.2.2.2.2.2.2.2.1,y2.2.2.2.2.2.2.2.2.2.2.2.1,y2.2.2.2.2.2.2.2.2.2.2.2.2.1,y2.2.2.2.2.2.2.2.2.2.2.2.2.2.1,([r14.2.1]:List (ApiItem)),y2.2.2.2.2.2.2.2.2.2.2.2.2.2.2.2),y3,y4,y5,(Qa .i64 (y6 + (1:Int))),())))
 else (bif Nat.beq (y6).toNat 13 then (some (Qb ((y0.1,()),y1,(y2.1,y2.2.1,y2.2.2.1,y2.2.2.2.1,y2.2.2.2.2.1,y2.2.2.2.2.2.1,y2.2.2.2.2.2.2.1,y2.2.2.2.2.2.2.2.1,y2.2.2.2.2.2.2.2.2.1,y2.2.2.2.2.2.2.2.2.2.1,y2.2.2.2.2.2.2.2.2.2.2.1,y2.2.2.2.2.2.2.2.2.2.2.2.1,y2.2.2.2.2.2.2.2.2.2.2.2.2.1,([r14.2.1]:List (ApiItem)),y2.2.2.2.2.2.2.2.2.2.2.2.2.2.2),y3,y4,y5,(Qa .i64 (y6 + (1:Int))),())))
 else (bif Nat.beq (y6).toNat 12 then (some (Qb ((y0.1,()),y1,(y2.1,y2.2.1,y2.2.2.1,y2.2.2.2.1,y2.2.2.2.2.1,y2.2.2.2.2.2.1,y2.2.2.2.2.2.2.1,y2.2.2.2.2.2.2.2.1,y2.2.2.2.2.2.2.2.2.1,y2.2.2.2.2.2.2.2.2.2.1,y2.2.2.2.2.2.2.2.2.2.2.1,y2.2.2.2.2.2.2.2.2.2.2.2.1,([r14.2.1]:List (ApiItem)),y2.2.2.2.2.2.2.2.2.2.2.2.2.2),y3,y4,y5,(Qa .i64 (y6 + (1:Int))),())))
 else (bif Nat.beq (y6).toNat 11 then (some (Qb ((y0.1,()),y1,(y2.1,y2.2.1,y2.2.2.1,y2.2.2.2.1,y2.2.2.2.2.1,y2.2.2.2.2.2.1,y2.2.2.2.2.2.2.1,y2.2.2.2.2.2.2.2.1,y2.2.2.2.2.2.2.2.2.1,y2.2.2.2.2.2.2.2.2.2.1,y2.2.2.2.2.2.2.2.2.2.2.1,([r14.2.1]:List (ApiItem)),y2.2.2.2.2.2.2.2.2.2.2.2.2),y3,y4,y5,(Qa .i64 (y6 + (1:Int))),())))
 else (bif Nat.beq (y6).toNat 10 then (some (Qb ((y0.1,()),y1,(y2.1,y2.2.1,y2.2.2.1,y2.2.2.2.1,y2.2.2.2.2.1,y2.2.2.2.2.2.1,y2.2.2.2.2.2.2.1,y2.2.2.2.2.2.2.2.1,y2.2.2.2.2.2.2.2.2.1,y2.2.2.2.2.2.2.2.2.2.1,([r14.2.1]:List (ApiItem)),y2.2.2.2.2.2.2.2.2.2.2.2),y3,y4,y5,(Qa .i64 (y6 + (1:Int))),())))
 else (bif Nat.beq (y6).toNat 9 then (some (Qb ((y0.1,()),y1,(y2.1,y2.2.1,y2.2.2.1,y2.2.2.2.1,y2.2.2.2.2.1,y2.2.2.2.2.2.1,y2.2.2.2.2.2.2.1,y2.2.2.2.2.2.2.2.1,y2.2.2.2.2.2.2.2.2.1,([r14.2.1]:List (ApiItem)),y2.2.2.2.2.2.2.2.2.2.2),y3,y4,y5,(Qa .i64 (y6 + (1:Int))),())))
 else (bif Nat.beq (y6).toNat 8 then (some (Qb ((y0.1,()),y1,(y2.1,y2.2.1,y2.2.2.1,y2.2.2.2.1,y2.2.2.2.2.1,y2.2.2.2.2.2.1,y2.2.2.2.2.2.2.1,y2.2.2.2.2.2.2.2.1,([r14.2.1]:List (ApiItem)),y2.2.2.2.2.2.2.2.2.2),y3,y4,y5,(Qa .i64 (y6 + (1:Int))),())))
 else (bif Nat.beq (y6).toNat 7 then (some (Qb ((y0.1,()),y1,(y2.1,y2.2.1,y2.2.2.1,y2.2.2.2.1,y2.2.2.2.2.1,y2.2.2.2.2.2.1,y2.2.2.2.2.2.2.1,([r14.2.1]:List (ApiItem)),y2.2.2.2.2.2.2.2.2),y3,y4,y5,(Qa .i64 (y6 + (1:Int))),())))
 else (bif Nat.beq (y6).toNat 6 then (some (Qb ((y0.1,()),y1,(y2.1,y2.2.1,y2.2.2.1,y2.2.2.2.1,y2.2.2.2.2.1,y2.2.2.2.2.2.1,([r14.2.1]:List (ApiItem)),y2.2.2.2.2.2.2.2),y3,y4,y5,(Qa .i64 (y6 + (1:Int))),())))
 else (bif Nat.beq (y6).toNat 5 then (some (Qb ((y0.1,()),y1,(y2.1,y2.2.1,y2.2.2.1,y2.2.2.2.1,y2.2.2.2.2.1,([r14.2.1]:List (ApiItem)),y2.2.2.2.2.2.2),y3,y4,y5,(Qa .i64 (y6 + (1:Int))),())))
 else (bif Nat.beq (y6).toNat 4 then (some (Qb ((y0.1,()),y1,(y2.1,y2.2.1,y2.2.2.1,y2.2.2.2.1,([r14.2.1]:List (ApiItem)),y2.2.2.2.2.2),y3,y4,y5,(Qa .i64 (y6 + (1:Int))),())))
 else (bif Nat.beq (y6).toNat 3 then (some (Qb ((y0.1,()),y1,(y2.1,y2.2.1,y2.2.2.1,([r14.2.1]:List (ApiItem)),y2.2.2.2.2),y3,y4,y5,(Qa .i64 (y6 + (1:Int))),())))
 else (bif Nat.beq (y6).toNat 2 then (some (Qb ((y0.1,()),y1,(y2.1,y2.2.1,([r14.2.1]:List (ApiItem)),y2.2.2.2),y3,y4,y5,(Qa .i64 (y6 + (1:Int))),())))
 else (bif Nat.beq (y6).toNat 1 then (some (Qb ((y0.1,()),y1,(y2.1,([r14.2.1]:List (ApiItem)),y2.2.2),y3,y4,y5,(Qa .i64 (y6 + (1:Int))),())))
 else (bif Nat.beq (y6).toNat 0 then (some (Qb ((y0.1,()),y1,(([r14.2.1]:List (ApiItem)),y2.2),y3,y4,y5,(Qa .i64 (y6 + (1:Int))),())))
 else none))))))))))))))))))
 else none)))
 else none)
 else (bif (decide ((0:Int) ≤ y6) && decide (y6 < (18:Int))) then (((y5)[(y6).toNat]?).bind fun x15=>(bif x15 then ((Zax true).bind fun r16=>(bif (decide ((0:Int) ≤ y6) && decide (y6 < (18:Int))) then (bif Nat.beq (y6).toNat 17 then (some (Qb ((y0.1,()),y1,(y2.1,y2.2.1,y2.2.2.1,y2.2.2.2.1,y2.2.2.2.2.1,y2.2.2.2.2.2.1,y2.2.2.2.2.2.2.1,y2.2.2.2.2.2.2.2.1,y2.2.2.2.2.2.2.2.2.1,y2.2.2.2.2.2.2.2.2.2.1,y2.2.2.2.2.2.2.2.2.2.2.1,y2.2.2.2.2.2.2.2.2.2.2.2.1,y2.2.2.2.2.2.2.2.2.2.2.2.2.1,y2.2.2.2.2.2.2.2.2.2.2.2.2.2.1,y2.2.2.2.2.2.2.2.2.2.2.2.2.2.2.1,y2.2.2.2.2.2.2.2.2.2.2.2.2.2.2.2.1,y2.2.2.2.2.2.2.2.2.2.2.2.2.2.2.2.2.1,([r16.2.1]:List (ApiItem)),()),y3,y4,y5,(Qa .i64 (y6 + (1:Int))),())))
 else (bif Nat.beq (y6).toNat 16 then (some (Qb ((y0.1,()),y1,(y2.1,y2.2.1,y2.2.2.1,y2.2.2.2.1,y2.2.2.2.2.1,y2.2.2.2.2.2.1,y2.2.2.2.2.2.2.1,y2.2.2.2.2.2.2.2.1,y2.2.2.2.2.2.2.2.2.1,y2.2.2.2.2.2.2.2.2.2.1,y2.2.2.2.2.2.2.2.2.2.2.1,y2.2.2.2.2.2.2.2.2.2.2.2.1,y2.2.2.2.2.2.2.2.2.2.2.2.2.1,y2.2.2.2.2.2.2.2.2.2.2.2.2.2.1,y2.2.2.2.2.2.2.2.2.2.2.2.2.2.2.1,y2.2.2.2.2.2.2.2.2.2.2.2.2.2.2.2.1,([r16.2.1]:List (ApiItem)),y2.2.2.2.2.2.2.2.2.2.2.2.2.2.2.2.2.2.1,()),y3,y4,y5,(Qa .i64 (y6 + (1:Int))),())))
 else (bif Nat.beq (y6).toNat 15 then (some (Qb ((y0.1,()),y1,(y2.1,y2.2.1,y2.2.2.1,y2.2.2.2.1,y2.2.2.2.2.1,y2.2.2.2.2.2.1,y2.2.2.2.2.2.2.1,y2.2.2.2.2.2.2.2.1,y2.2.2.2.2.2.2.2.2.1,y2.2.2.2.2.2.2.2.2.2.1,y2.2.2.2.2.2.2.2.2.2.2.1,y2.2.2.2.2.2.2.2.2.2.2.2.1,y2.2.2.2.2.2.2.2.2.2.2.2.2.1,y2.2.2.2.2.2.2.2.2.2.2.2.2.2.1,y2.2.2.2.2.2.2.2.2.2.2.2.2.2.2.1,([r16.2.1]:List (ApiItem)),y2.2.2.2.2.2.2.2.2.2.2.2.2.2.2.2.2),y3,y4,y5,(Qa .i64 (y6 + (1:Int))),())))
 else (bif Nat.beq (y6).toNat 14 then (some (Qb ((y0.1,()),y1,(y2.1,y2.2.1,y2.2.2.1,y2.2.2.2.1,y2.2.2.2.2.1,y2.2.2.2.2.2.1,y2.2.2.2.2.2.2.1,y2.2.2.2.2.2.2.2.1,y2.2.2.2.2.2.2.2.2.1,y2.2.2.2.2.2.2.2.2.2.1,y2.2.2.2.2.2.2.2.2.2.2.1,y2.2.2.2.2.2.2.2.2.2.2.2.1,y2.2.2.2.2.2.2.2.2.2.2.2.2.1,y2.2.2.2.2.2.2.2.2.2.2.2.2.2.1,([r16.2.1]:List (ApiItem)),y2.2.2.2.2.2.2.2.2.2.2.2.2.2.2.2),y3,y4,y5,(Qa .i64 (y6 + (1:Int))),())))
 else (bif Nat.beq (y6).toNat 13 then (some (Qb ((y0.1,()),y1,(y2.1,y2.2.1,y2.2.2.1,y2.2.2.2.1,y2.2.2.2.2.1,y2.2.2.2.2.2.1,y2.2.2.2.2.2.2.1,y2.2.2.2.2.2.2.2.1,y2.2.2.2.2.2.2.2.2.1,y2.2.2.2.2.2.2.2.2.2.1,y2.2.2.2.2.2.2.2.2.2.2.1,y2.2.2.2.2.2.2.2.2.2.2.2.1,y2.2.2.2.2.2.2.2.2.2.2.2.2.1,([r16.2.1]:List (ApiItem)),y2.2.2.2.2.2.2.2.2.2.2.2.2.2.2),y3,y4,y5,(Qa .i64 (y6 + (1:Int))),())))
 else (bif Nat.beq (y6).toNat 12 then (some (Qb ((y0.1,()),y1,(y2.1,y2.2.1,y2.2.2.1,y2.2.2.2.1,y2.2.2.2.2.1,y2.2.2.2.2.2.1,y2.2.2.2.2.2.2.1,y2.2.2.2.2.2.2.2.1,y2.2.2.2.2.2.2.2.2.1,y2.2.2.2.2.2.2.2.2.2.1,y2.2.2.2.2.2.2.2.2.2.2.1,y2.2.2.2.2.2.2.2.2.2.2.2.1,([r16.2.1]:List (ApiItem)),y2.2.2.2.2.2.2.2.2.2.2.2.2.2),y3,y4,y5,(Qa .i64 (y6 + (1:Int))),())))
 else (bif Nat.beq (y6).toNat 11 then (some (Qb ((y0.1,()),y1,(y2.1,y2.2.1,y2.2.2.1,y2.2.2.2.1,y2.2.2.2.2.1,y2.2.2.2.2.2.1,y2.2.2.2.2.2.2.1,y2.2.2.2.2.2.2.2.1,y2.2.2.2.2.2.2.2.2.1,y2.2.2.2.2.2.2.2.2.2.1,y2.2.2.2.2.2.2.2.2.2.2.1,([r16.2.1]:List (ApiItem)),y2.2.2.2.2.2.2.2.2.2.2.2.2),y3,y4,y5,(Qa .i64 (y6 + (1:Int))),())))
 else (bif Nat.beq (y6).toNat 10 then (some (Qb ((y0.1,()),y1,(y2.1,y2.2.1,y2.2.2.1,y2.2.2.2.1,y2.2.2.2.2.1,y2.2.2.2.2.2.1,y2.2.2.2.2.2.2.1,y2.2.2.2.2.2.2.2.1,y2.2.2.2.2.2.2.2.2.1,y2.2.2.2.2.2.2.2.2.2.1,([r16.2.1]:List (ApiItem)),y2.2.2.2.2.2.2.2.2.2.2.2),y3,y4,y5,(Qa .i64 (y6 + (1:Int))),())))
 else (bif Nat.beq (y6).toNat 9 then (some (Qb ((y0.1,()),y1,(y2.1,y2.2.1,y2.2.2.1,y2.2.2.2.1,y2.2.2.2.2.1,y2.2.2.2.2.2.1,y2.2.2.2.2.2.2.1,y2.2.2.2.2.2.2.2.1,y2.2.2.2.2.2.2.2.2.1,([r16.2.1]:List (ApiItem)),y2.2.2.2.2.2.2.2.2.2.2),y3,y4,y5,(Qa .i64 (y6 + (1:Int))),())))
 else (bif Nat.beq (y6).toNat 8 then (some (Qb ((y0.1,()),y1,(y2.1,y2.2.1,y2.2.2.1,y2.2.2.2.1,y2.2.2.2.2.1,y2.2.2.2.2.2.1,y2.2.2.2.2.2.2.1,y2.2.2.2.2.2.2.2.1,([r16.2.1]:List (ApiItem)),y2.2.2.2.2.2.2.2.2.2),y3,y4,y5,(Qa .i64 (y6 + (1:Int))),())))
 else (bif Nat.beq (y6).toNat 7 then (some (Qb ((y0.1,()),y1,(y2.1,y2.2.1,y2.2.2.1,y2.2.2.2.1,y2.2.2.2.2.1,y2.2.2.2.2.2.1,y2.2.2.2.2.2.2.1,([r16.2.1]:List (ApiItem)),y2.2.2.2.2.2.2.2.2),y3,y4,y5,(Qa .i64 (y6 + (1:Int))),())))
 else (bif Nat.beq (y6).toNat 6 then (some (Qb ((y0.1,()),y1,(y2.1,y2.2.1,y2.2.2.1,y2.2.2.2.1,y2.2.2.2.2.1,y2.2.2.2.2.2.1,([r16.2.1]:List (ApiItem)),y2.2.2.2.2.2.2.2),y3,y4,y5,(Qa .i64 (y6 + (1:Int))),())))
 else (bif Nat.beq (y6).toNat 5 then (some (Qb ((y0.1,()),y1,(y2.1,y2.2.1,y2.2.2.1,y2.2.2.2.1,y2.2.2.2.2.1,([r16.2.1]:List (ApiItem)),y2.2.2.2.2.2.2),y3,y4,y5,(Qa .i64 (y6 + (1:Int))),())))
 else (bif Nat.beq (y6).toNat 4 then (some (Qb ((y0.1,()),y1,(y2.1,y2.2.1,y2.2.2.1,y2.2.2.2.1,([r16.2.1]:List (ApiItem)),y2.2.2.2.2.2),y3,y4,y5,(Qa .i64 (y6 + (1:Int))),())))
 else (bif Nat.beq (y6).toNat 3 then (some (Qb ((y0.1,()),y1,(y2.1,y2.2.1,y2.2.2.1,([r16.2.1]:List (ApiItem)),y2.2.2.2.2),y3,y4,y5,(Qa .i64 (y6 + (1:Int))),())))
 else (bif Nat.beq (y6).toNat 2 then (some (Qb ((y0.1,()),y1,(y2.1,y2.2.1,([r16.2.1]:List (ApiItem)),y2.2.2.2),y3,y4,y5,(Qa .i64 (y6 + (1:Int))),())))
 else (bif Nat.beq (y6).toNat 1 then (some (Qb ((y0.1,()),y1,(y2.1,([r16.2.1]:List (ApiItem)),y2.2.2),y3,y4,y5,(Qa .i64 (y6 + (1:Int))),())))
 else (bif Nat.beq (y6).toNat 0 then (some (Qb ((y0.1,()),y1,(([r16.2.1]:List (ApiItem)),y2.2),y3,y4,y5,(Qa .i64 (y6 + (1:Int))),())))
 else none))))))))))))))))))
 else none))
 else (some (Qb ((y0.1,()),y1,y2,y3,y4,y5,(Qa .i64 (y6 + (1:Int))),())))))
 else none)))
 else none)))
 else none)))
 else none)
 else (some (Qe ((y0.1,()),y1,y2,()))))
def passkeyref14_replyFields_L0 (y:Y_passkeyref14_replyFields_L0):Option Z_passkeyref14_replyFields_L0:=iter (fun (y:Y_passkeyref14_replyFields_L0)=>passkeyref14_replyFields_L0b y.1 y.2.1 y.2.2.1 y.2.2.2.1 y.2.2.2.2.1 y.2.2.2.2.2.1 y.2.2.2.2.2.2.1) rounds y
abbrev Y_passkeyref14_replyFields_L3:=((ApiReply×Unit)×Yaq×Yaq×Int×Unit)
abbrev Z_passkeyref14_replyFields_L3:=(Yaq×Yaq×Unit)
def passkeyref14_replyFields_L3b (y0:(ApiReply × Unit)) (y1:Yaq) (y2:Yaq) (y3:Int):Option (Y_passkeyref14_replyFields_L3 ⊕ Z_passkeyref14_replyFields_L3):=
 (bif (decide (y3 < ((y0.1.entries).length:Int))) then ((getI y0.1.entries y3).bind fun x22=>((Zbi (1#64)).bind fun r23=>((Zca x22.rP).bind fun r24=>((Zbi (2#64)).bind fun r25=>((Zby x22.user).bind fun r26=>((Zbi (3#64)).bind fun r27=>((Zca x22.name).bind fun r28=>((Zbi (4#64)).bind fun r29=>((Zby x22.iD).bind fun r30=>((Zbi (5#64)).bind fun r31=>((Zbi (Qc 64 x22.left)).bind fun r32=>(let v33:List (ApiItem):=([(⟨(6:Int),5#64,([]:List UInt8)⟩:ApiItem),r23.2.1,r24.2.1,r25.2.1,r26.2.1,r27.2.1,r28.2.1,r29.2.1,r30.2.1,r31.2.1,r32.2.1]:List (ApiItem))
 (bif small ((y2.2.2.2.2.2.2.2.2.2.2.2.2.2.2.2.2.2.1).length + (v33:List (ApiItem)).length) 32 then (let v34:List (ApiItem):=(y2.2.2.2.2.2.2.2.2.2.2.2.2.2.2.2.2.2.1 ++ v33)
 (some (Qb ((y0.1,()),y1,(y2.1,y2.2.1,y2.2.2.1,y2.2.2.2.1,y2.2.2.2.2.1,y2.2.2.2.2.2.1,y2.2.2.2.2.2.2.1,y2.2.2.2.2.2.2.2.1,y2.2.2.2.2.2.2.2.2.1,y2.2.2.2.2.2.2.2.2.2.1,y2.2.2.2.2.2.2.2.2.2.2.1,y2.2.2.2.2.2.2.2.2.2.2.2.1,y2.2.2.2.2.2.2.2.2.2.2.2.2.1,y2.2.2.2.2.2.2.2.2.2.2.2.2.2.1,y2.2.2.2.2.2.2.2.2.2.2.2.2.2.2.1,y2.2.2.2.2.2.2.2.2.2.2.2.2.2.2.2.1,y2.2.2.2.2.2.2.2.2.2.2.2.2.2.2.2.2.1,v34,()),(Qa .i64 (y3 + (1:Int))),()))))
 else none)))))))))))))
 else (some (Qe (y1,y2,()))))
def passkeyref14_replyFields_L3 (y:Y_passkeyref14_replyFields_L3):Option Z_passkeyref14_replyFields_L3:=iter (fun (y:Y_passkeyref14_replyFields_L3)=>passkeyref14_replyFields_L3b y.1 y.2.1 y.2.2.1 y.2.2.2.1) rounds y
def passkeyref14_replyFields (a0:ApiReply):Option ((Unit) × (Arr18_ListApiItem × Unit)):=
 ((passkeyref14_replyFields_L0 ((a0,()),([],[],[],[],[],[],[],[],[],[],[],[],[],[],[],[],[],[],()),([],[],[],[],[],[],[],[],[],[],[],[],[],[],[],[],[],[],()),([0#64,0#64,0#64,0#64,(Qc 64 a0.format),0#64,0#64,0#64,(Qc 64 a0.count),a0.peer,0#64,a0.model,(Qc 64 a0.retries),(Qc 64 a0.rooms),(Qc 64 a0.leases),0#64,0#64,0#64]:List (BitVec 64)),([([]:List UInt8),a0.authData,a0.signature,([]:List UInt8),([]:List UInt8),a0.iD,a0.user,a0.name,([]:List UInt8),([]:List UInt8),a0.box,([]:List UInt8),([]:List UInt8),([]:List UInt8),([]:List UInt8),([]:List UInt8),([]:List UInt8),([]:List UInt8)]:List (List UInt8)),([false,false,false,false,false,false,false,false,false,false,false,false,false,false,false,a0.pinSet,a0.finger,false]:List (Bool)),(1:Int),())).bind (fun (z17:((ApiReply × Unit) × Yaq × Yaq × Unit))=>((bif (decide ((0:Int) < ((z17.1.1.certificates).length:Int))) then ((Zbz z17.1.1.certificates).bind fun r18=>(some ((z17.1.1,()),z17.2.1,(z17.2.2.1.1,z17.2.2.1.2.1,z17.2.2.1.2.2.1,r18.2.1,z17.2.2.1.2.2.2.2),())))
 else (some ((z17.1.1,()),z17.2.1,z17.2.2.1,()))).bind (fun (j19:((ApiReply × Unit) × Yaq × Yaq × Unit))=>((bif (decide ((0:Int) < ((j19.1.1.entries).length:Int))) then (let v20:List (ApiItem):=([(⟨(5:Int),(Qc 64 ((j19.1.1.entries).length:Int)),([]:List UInt8)⟩:ApiItem)]:List (ApiItem))
 (some ((j19.1.1,()),j19.2.1,(j19.2.2.1.1,j19.2.2.1.2.1,j19.2.2.1.2.2.1,j19.2.2.1.2.2.2.1,j19.2.2.1.2.2.2.2.1,j19.2.2.1.2.2.2.2.2.1,j19.2.2.1.2.2.2.2.2.2.1,j19.2.2.1.2.2.2.2.2.2.2.1,j19.2.2.1.2.2.2.2.2.2.2.2.1,j19.2.2.1.2.2.2.2.2.2.2.2.2.1,j19.2.2.1.2.2.2.2.2.2.2.2.2.2.1,j19.2.2.1.2.2.2.2.2.2.2.2.2.2.2.1,j19.2.2.1.2.2.2.2.2.2.2.2.2.2.2.2.1,j19.2.2.1.2.2.2.2.2.2.2.2.2.2.2.2.2.1,j19.2.2.1.2.2.2.2.2.2.2.2.2.2.2.2.2.2.1,j19.2.2.1.2.2.2.2.2.2.2.2.2.2.2.2.2.2.2.1,j19.2.2.1.2.2.2.2.2.2.2.2.2.2.2.2.2.2.2.2.1,v20,()),())))
 else (some ((j19.1.1,()),j19.2.1,j19.2.2.1,()))).bind (fun (j21:((ApiReply × Unit) × Yaq × Yaq × Unit))=>((passkeyref14_replyFields_L3 ((j21.1.1,()),j21.2.1,j21.2.2.1,(0:Int),())).bind (fun (z35:(Yaq × Yaq × Unit))=>(some ((),((⟨z35.2.1.1,z35.2.1.2.1,z35.2.1.2.2.1,z35.2.1.2.2.2.1,z35.2.1.2.2.2.2.1,z35.2.1.2.2.2.2.2.1,z35.2.1.2.2.2.2.2.2.1,z35.2.1.2.2.2.2.2.2.2.1,z35.2.1.2.2.2.2.2.2.2.2.1,z35.2.1.2.2.2.2.2.2.2.2.2.1,z35.2.1.2.2.2.2.2.2.2.2.2.2.1,z35.2.1.2.2.2.2.2.2.2.2.2.2.2.1,z35.2.1.2.2.2.2.2.2.2.2.2.2.2.2.1,z35.2.1.2.2.2.2.2.2.2.2.2.2.2.2.2.1,z35.2.1.2.2.2.2.2.2.2.2.2.2.2.2.2.2.1,z35.2.1.2.2.2.2.2.2.2.2.2.2.2.2.2.2.2.1,z35.2.1.2.2.2.2.2.2.2.2.2.2.2.2.2.2.2.2.1,z35.2.1.2.2.2.2.2.2.2.2.2.2.2.2.2.2.2.2.2.1⟩:Arr18_ListApiItem),())))))))))))
def S_passkeyref14_replyFields:FSpec T:=⟨[.f (.v (.agg 12))],[(.v (.agg 16))],fun x=>passkeyref14_replyFields x.1⟩
def s_passkeyref14_replyFields_L0:LSpec T:=⟨[(1,.ptr [(.v (.agg 12))]),(2,.ptr [(.own 1),(.own 1),(.own 1),(.own 1),(.own 1),(.own 1),(.own 1),(.own 1),(.own 1),(.own 1),(.own 1),(.own 1),(.own 1),(.own 1),(.own 1),(.own 1),(.own 1),(.own 1)]),(3,.ptr [(.own 1),(.own 1),(.own 1),(.own 1),(.own 1),(.own 1),(.own 1),(.own 1),(.own 1),(.own 1),(.own 1),(.own 1),(.own 1),(.own 1),(.own 1),(.own 1),(.own 1),(.own 1)]),(4,.lar 10),(5,.lar 14),(6,.lar 4),(7,.f (.v (.int .i64)))],[(.exit 0,[(1,.ptr [(.v (.agg 12))]),(2,.ptr [(.own 1),(.own 1),(.own 1),(.own 1),(.own 1),(.own 1),(.own 1),(.own 1),(.own 1),(.own 1),(.own 1),(.own 1),(.own 1),(.own 1),(.own 1),(.own 1),(.own 1),(.own 1)]),(3,.ptr [(.own 1),(.own 1),(.own 1),(.own 1),(.own 1),(.own 1),(.own 1),(.own 1),(.own 1),(.own 1),(.own 1),(.own 1),(.own 1),(.own 1),(.own 1),(.own 1),(.own 1),(.own 1)])])],passkeyref14_replyFields_L0,[]⟩
def s_passkeyref14_replyFields_L3:LSpec T:=⟨[(1,.ptr [(.v (.agg 12))]),(2,.ptr [(.own 1),(.own 1),(.own 1),(.own 1),(.own 1),(.own 1),(.own 1),(.own 1),(.own 1),(.own 1),(.own 1),(.own 1),(.own 1),(.own 1),(.own 1),(.own 1),(.own 1),(.own 1)]),(3,.ptr [(.own 1),(.own 1),(.own 1),(.own 1),(.own 1),(.own 1),(.own 1),(.own 1),(.own 1),(.own 1),(.own 1),(.own 1),(.own 1),(.own 1),(.own 1),(.own 1),(.own 1),(.own 1)]),(8,.f (.v (.int .i64)))],[(.exit 3,[(2,.ptr [(.own 1),(.own 1),(.own 1),(.own 1),(.own 1),(.own 1),(.own 1),(.own 1),(.own 1),(.own 1),(.own 1),(.own 1),(.own 1),(.own 1),(.own 1),(.own 1),(.own 1),(.own 1)]),(3,.ptr [(.own 1),(.own 1),(.own 1),(.own 1),(.own 1),(.own 1),(.own 1),(.own 1),(.own 1),(.own 1),(.own 1),(.own 1),(.own 1),(.own 1),(.own 1),(.own 1),(.own 1),(.own 1)])])],passkeyref14_replyFields_L3,[]⟩
def A_passkeyref14_replyFields:Loc2 T:=lcA [(0,s_passkeyref14_replyFields_L0),(3,s_passkeyref14_replyFields_L3)] [(18,[(1,.ptr [(.v (.agg 12))]),(2,.ptr [(.own 1),(.own 1),(.own 1),(.own 1),(.own 1),(.own 1),(.own 1),(.own 1),(.own 1),(.own 1),(.own 1),(.own 1),(.own 1),(.own 1),(.own 1),(.own 1),(.own 1),(.own 1)]),(3,.ptr [(.own 1),(.own 1),(.own 1),(.own 1),(.own 1),(.own 1),(.own 1),(.own 1),(.own 1),(.own 1),(.own 1),(.own 1),(.own 1),(.own 1),(.own 1),(.own 1),(.own 1),(.own 1)])],true),(20,[(1,.ptr [(.v (.agg 12))]),(2,.ptr [(.own 1),(.own 1),(.own 1),(.own 1),(.own 1),(.own 1),(.own 1),(.own 1),(.own 1),(.own 1),(.own 1),(.own 1),(.own 1),(.own 1),(.own 1),(.own 1),(.own 1),(.own 1)]),(3,.ptr [(.own 1),(.own 1),(.own 1),(.own 1),(.own 1),(.own 1),(.own 1),(.own 1),(.own 1),(.own 1),(.own 1),(.own 1),(.own 1),(.own 1),(.own 1),(.own 1),(.own 1),(.own 1)])],true)] [24]
theorem Va3:LoopOk Tryz.prog (mE c91) Tryz.f21.ntmps (kqOf S_passkeyref14_replyFields.ps 0) (loopAt 0 (bodyOf Tryz.f21)) s_passkeyref14_replyFields_L0:=
 lpC hmix o91 A_passkeyref14_replyFields Vaa 0 (st:=fun y=>passkeyref14_replyFields_L0b y.1 y.2.1 y.2.2.1 y.2.2.2.1 y.2.2.2.2.1 y.2.2.2.2.2.1 y.2.2.2.2.2.2.1) (fun _=>rfl) (by kernel_rfl) (by kernel_rfl) fun x=>by kernel_rfl
theorem Vb8:LoopOk Tryz.prog (mE c91) Tryz.f21.ntmps (kqOf S_passkeyref14_replyFields.ps 0) (loopAt 3 (bodyOf Tryz.f21)) s_passkeyref14_replyFields_L3:=
 lpC hmix o91 A_passkeyref14_replyFields (Vab rfl Va3 Vaa) 3 (st:=fun y=>passkeyref14_replyFields_L3b y.1 y.2.1 y.2.2.1 y.2.2.2.1) (fun _=>rfl) (by kernel_rfl) (by kernel_rfl) fun x=>by kernel_rfl
theorem Vcp:SoundT Tryz.prog cd gdn 21 S_passkeyref14_replyFields:=
 sndC hmix o91 A_passkeyref14_replyFields Tryz.func21 (Vab rfl Va3 (Vab rfl Vb8 Vaa)) (by kernel_rfl) (by kernel_rfl) fun x=>by kernel_rfl
def c92:List (Ct T):=⟨21,none,S_passkeyref14_replyFields,false⟩::c91
theorem o92:EnvOk Tryz.prog (mE c92):=eCons Vcp o91
def Zbv (a0:Int) (a1:Int) (a2:Int):Option ((Unit) × (Bool × Unit)):=
 (bif (decide (a1 ≤ a0)) then (some ((),((decide (a0 ≤ a2)),())))
 else (some ((),(false,()))))
def S_Zbv:FSpec T:=⟨[.f (.v (.int .i64)),.f (.v (.int .i64)),.f (.v (.int .i64))],[(.v .bool)],fun x=>Zbv x.1 x.2.1 x.2.2.1⟩
theorem Vbba:SoundT Tryz.prog cd gdn 121 S_Zbv:=
 sndC hmix o92 (lcA [] [] []) Tryz.func121 Vaa (by kernel_rfl) (by kernel_rfl) fun x=>by kernel_rfl
def c93:List (Ct T):=⟨121,none,S_Zbv,true⟩::c92
theorem o93:EnvOk Tryz.prog (mE c93):=eCons Vbba o92
def Zce (a0:Int):Option ((Unit) × (Bool × Unit)):=
 (bif (decide (a0=(1:Int))) then (some ((),(true,())))
 else (bif (decide (a0=(2:Int))) then (some ((),(true,())))
 else (some ((),((decide (a0=(4:Int))),())))))
def S_Zce:FSpec T:=⟨[.f (.v (.int .i64))],[(.v .bool)],fun x=>Zce x.1⟩
theorem Vxq:SoundT Tryz.prog cd gdn 93 S_Zce:=
 sndC hmix o93 (lcA [] [] []) Tryz.func93 Vaa (by kernel_rfl) (by kernel_rfl) fun x=>by kernel_rfl
def c94:List (Ct T):=⟨93,none,S_Zce,true⟩::c93
theorem o94:EnvOk Tryz.prog (mE c94):=eCons Vxq o93
def Zcq (a0:ApiItem):Option ((Unit) × ((List (UInt8)) × Unit)):=
 ((bif (decide (a0.kind=(7:Int))) then (let v1:UInt8:=(Qf ((244:UInt8).toBitVec + (Qf (Qg 8 a0.number)).toBitVec))
 (((some ((),(([v1]:List (UInt8)),())))).bind fun q=>some (Qe q)))
 else (bif (decide (a0.kind=(8:Int))) then (((some ((),(([(246:UInt8)]:List (UInt8)),())))).bind fun q=>some (Qe q))
 else (bif (decide (a0.kind=(2:Int))) then (some (Qb (a0.number,(32:UInt8),())))
 else (bif (decide (a0.kind=(3:Int))) then (some (Qb ((Qc 64 ((a0.data).length:Int)),(64:UInt8),())))
 else (bif (decide (a0.kind=(4:Int))) then (some (Qb ((Qc 64 ((a0.data).length:Int)),(96:UInt8),())))
 else (bif (decide (a0.kind=(5:Int))) then (some (Qb (a0.number,(128:UInt8),())))
 else (bif (decide (a0.kind=(6:Int))) then (some (Qb (a0.number,(160:UInt8),())))
 else (some (Qb (a0.number,(0:UInt8),())))))))))).bind (Qk (fun (j2:((BitVec 64) × UInt8 × Unit))=>(bif (decide (j2.1.toNat < (24#64).toNat)) then (let v3:UInt8:=(Qf (j2.2.1.toBitVec + (Qf (Qg 8 j2.1)).toBitVec))
 (some ((),(([v3]:List (UInt8)),()))))
 else (bif (decide (j2.1.toNat < (256#64).toNat)) then (let v4:List (UInt8):=([(Qf (j2.2.1.toBitVec + (24:UInt8).toBitVec)),(Qf (Qg 8 j2.1))]:List (UInt8))
 (some ((),(v4,()))))
 else (bif (decide (j2.1.toNat < (65536#64).toNat)) then (let v5:List (UInt8):=([(Qf (j2.2.1.toBitVec + (25:UInt8).toBitVec)),(Qf (Qg 8 (j2.1 >>> 8))),(Qf (Qg 8 j2.1))]:List (UInt8))
 (some ((),(v5,()))))
 else (bif (decide (j2.1.toNat < (4294967296#64).toNat)) then (let v6:List (UInt8):=([(Qf (j2.2.1.toBitVec + (26:UInt8).toBitVec)),(Qf (Qg 8 (j2.1 >>> 24))),(Qf (Qg 8 (j2.1 >>> 16))),(Qf (Qg 8 (j2.1 >>> 8))),(Qf (Qg 8 j2.1))]:List (UInt8))
 (some ((),(v6,()))))
 else (let v7:List (UInt8):=([(Qf (j2.2.1.toBitVec + (27:UInt8).toBitVec))]:List (UInt8))
 ((passkeyref1_Words ([j2.1]:List (BitVec 64))).bind fun r8=>(bif small ((v7).length + (r8.2.1:List (UInt8)).length) 1 then (some ((),((v7 ++ r8.2.1),())))
 else none)))))))) some))
def S_Zcq:FSpec T:=⟨[.f (.v (.agg 1))],[(.own 0)],fun x=>Zcq x.1⟩
theorem Vbca:SoundT Tryz.prog cd gdn 91 S_Zcq:=
 sndC hmix o94 (lcA [] [(18,[(3,.f (.v .u64)),(4,.f (.v .u8))],false)] []) Tryz.func91 Vaa (by kernel_rfl) (by kernel_rfl) fun x=>by kernel_rfl
def c95:List (Ct T):=⟨91,none,S_Zcq,false⟩::c94
theorem o95:EnvOk Tryz.prog (mE c95):=eCons Vbca o94
def Zcc (a0:ApiItem):Option ((Unit) × ((List UInt8) × Unit)):=
 ((Zcq a0).bind fun r1=>(bif Nat.ble ((r1.2.1).length + (a0.data).length) 9223372036854775807 then (some ((),((r1.2.1 ++ a0.data),())))
 else none))
def S_Zcc:FSpec T:=⟨[.f (.v (.agg 1))],[(.v .str)],fun x=>Zcc x.1⟩
theorem Vrr:SoundT Tryz.prog cd gdn 72 S_Zcc:=
 sndC hmix o95 (lcA [] [] [1]) Tryz.func72 Vaa (by kernel_rfl) (by kernel_rfl) fun x=>by kernel_rfl
def c96:List (Ct T):=⟨72,none,S_Zcc,true⟩::c95
theorem o96:EnvOk Tryz.prog (mE c96):=eCons Vrr o95
def Zcr (a0:(List UInt8)) (a1:(List UInt8)):Option ((Unit) × (Bool × Unit)):=
 (bif (!decide (((a0).length:Int)=((a1).length:Int))) then (some ((),((decide (((a0).length:Int) < ((a1).length:Int))),())))
 else (some ((),((Op.bytesLess a0 a1),()))))
def S_Zcr:FSpec T:=⟨[.f (.v .str),.f (.v .str)],[(.v .bool)],fun x=>Zcr x.1 x.2.1⟩
theorem Vxr:SoundT Tryz.prog cd gdn 94 S_Zcr:=
 sndC hmix o96 (lcA [] [] []) Tryz.func94 Vaa (by kernel_rfl) (by kernel_rfl) fun x=>by kernel_rfl
def c97:List (Ct T):=⟨94,none,S_Zcr,true⟩::c96
theorem o97:EnvOk Tryz.prog (mE c97):=eCons Vxr o96
def Zcd (a0:ApiItem) (a1:Int) (a2:Int) (a3:Bool) (a4:(List UInt8)):Option ((Unit) × (Int × Unit)):=
 ((bif (decide (a0.kind=(3:Int))) then (some (a1,a2,a3,a4,(a0,()),true,()))
 else (some (a1,a2,a3,a4,(a0,()),(decide (a0.kind=(4:Int))),()))).bind (fun (j1:(Int × Int × Bool × (List UInt8) × (ApiItem × Unit) × Bool × Unit))=>((bif (decide (j1.2.2.2.2.1.1.kind=(5:Int))) then (some (j1.1,j1.2.1,j1.2.2.1,j1.2.2.2.1,(j1.2.2.2.2.1.1,()),j1.2.2.2.2.2.1,true,()))
 else (some (j1.1,j1.2.1,j1.2.2.1,j1.2.2.2.1,(j1.2.2.2.2.1.1,()),j1.2.2.2.2.2.1,(decide (j1.2.2.2.2.1.1.kind=(6:Int))),()))).bind (fun (j2:(Int × Int × Bool × (List UInt8) × (ApiItem × Unit) × Bool × Bool × Unit))=>(bif (decide ((512:Int) ≤ j2.1)) then (some ((),((8:Int),())))
 else (((Zbv j2.2.2.2.2.1.1.kind (1:Int) (8:Int)).bind fun r3=>(bif (!r3.2.1) then (some (j2.2.1,j2.2.2.1,j2.2.2.2.1,(j2.2.2.2.2.1.1,()),j2.2.2.2.2.2.1,j2.2.2.2.2.2.2.1,true,()))
 else (bif j2.2.2.1 then ((Zce j2.2.2.2.2.1.1.kind).bind fun r4=>(some (j2.2.1,j2.2.2.1,j2.2.2.2.1,(j2.2.2.2.2.1.1,()),j2.2.2.2.2.2.1,j2.2.2.2.2.2.2.1,(!r4.2.1),())))
 else (some (j2.2.1,j2.2.2.1,j2.2.2.2.1,(j2.2.2.2.2.1.1,()),j2.2.2.2.2.2.1,j2.2.2.2.2.2.2.1,false,()))))).bind (fun (j5:(Int × Bool × (List UInt8) × (ApiItem × Unit) × Bool × Bool × Bool × Unit))=>(bif j5.2.2.2.2.2.2.1 then (some ((),((3:Int),())))
 else (bif (decide ((8:Int) < j5.1)) then (some ((),((5:Int),())))
 else ((bif j5.2.2.2.2.1 then (bif (!decide (j5.2.2.2.1.1.number=0#64)) then (some (j5.2.1,j5.2.2.1,(j5.2.2.2.1.1,()),j5.2.2.2.2.2.1,true,()))
 else (bif (decide (j5.2.2.2.1.1.kind=(7:Int))) then (bif (decide ((1#64).toNat < j5.2.2.2.1.1.number.toNat)) then (some (j5.2.1,j5.2.2.1,(j5.2.2.2.1.1,()),j5.2.2.2.2.2.1,true,()))
 else (bif (!j5.2.2.2.2.1) then (some (j5.2.1,j5.2.2.1,(j5.2.2.2.1.1,()),j5.2.2.2.2.2.1,(!decide (j5.2.2.2.1.1.data=([]:List UInt8))),()))
 else (some (j5.2.1,j5.2.2.1,(j5.2.2.2.1.1,()),j5.2.2.2.2.2.1,false,()))))
 else (bif (!j5.2.2.2.2.1) then (some (j5.2.1,j5.2.2.1,(j5.2.2.2.1.1,()),j5.2.2.2.2.2.1,(!decide (j5.2.2.2.1.1.data=([]:List UInt8))),()))
 else (some (j5.2.1,j5.2.2.1,(j5.2.2.2.1.1,()),j5.2.2.2.2.2.1,false,())))))
 else (bif (decide (j5.2.2.2.1.1.kind=(8:Int))) then (bif (!decide (j5.2.2.2.1.1.number=0#64)) then (some (j5.2.1,j5.2.2.1,(j5.2.2.2.1.1,()),j5.2.2.2.2.2.1,true,()))
 else (bif (decide (j5.2.2.2.1.1.kind=(7:Int))) then (bif (decide ((1#64).toNat < j5.2.2.2.1.1.number.toNat)) then (some (j5.2.1,j5.2.2.1,(j5.2.2.2.1.1,()),j5.2.2.2.2.2.1,true,()))
 else (bif (!j5.2.2.2.2.1) then (some (j5.2.1,j5.2.2.1,(j5.2.2.2.1.1,()),j5.2.2.2.2.2.1,(!decide (j5.2.2.2.1.1.data=([]:List UInt8))),()))
 else (some (j5.2.1,j5.2.2.1,(j5.2.2.2.1.1,()),j5.2.2.2.2.2.1,false,()))))
 else (bif (!j5.2.2.2.2.1) then (some (j5.2.1,j5.2.2.1,(j5.2.2.2.1.1,()),j5.2.2.2.2.2.1,(!decide (j5.2.2.2.1.1.data=([]:List UInt8))),()))
 else (some (j5.2.1,j5.2.2.1,(j5.2.2.2.1.1,()),j5.2.2.2.2.2.1,false,())))))
 else (bif (decide (j5.2.2.2.1.1.kind=(7:Int))) then (bif (decide ((1#64).toNat < j5.2.2.2.1.1.number.toNat)) then (some (j5.2.1,j5.2.2.1,(j5.2.2.2.1.1,()),j5.2.2.2.2.2.1,true,()))
 else (bif (!j5.2.2.2.2.1) then (some (j5.2.1,j5.2.2.1,(j5.2.2.2.1.1,()),j5.2.2.2.2.2.1,(!decide (j5.2.2.2.1.1.data=([]:List UInt8))),()))
 else (some (j5.2.1,j5.2.2.1,(j5.2.2.2.1.1,()),j5.2.2.2.2.2.1,false,()))))
 else (bif (!j5.2.2.2.2.1) then (some (j5.2.1,j5.2.2.1,(j5.2.2.2.1.1,()),j5.2.2.2.2.2.1,(!decide (j5.2.2.2.1.1.data=([]:List UInt8))),()))
 else (some (j5.2.1,j5.2.2.1,(j5.2.2.2.1.1,()),j5.2.2.2.2.2.1,false,())))))).bind (fun (j6:(Bool × (List UInt8) × (ApiItem × Unit) × Bool × Bool × Unit))=>(bif j6.2.2.2.2.1 then (some ((),((4:Int),())))
 else ((bif (decide ((1024:Int) < ((j6.2.2.1.1.data).length:Int))) then (some (j6.1,j6.2.1,(j6.2.2.1.1,()),true,()))
 else (bif j6.2.2.2.1 then (some (j6.1,j6.2.1,(j6.2.2.1.1,()),(decide ((512#64).toNat < j6.2.2.1.1.number.toNat)),()))
 else (some (j6.1,j6.2.1,(j6.2.2.1.1,()),false,())))).bind (fun (j7:(Bool × (List UInt8) × (ApiItem × Unit) × Bool × Unit))=>(bif j7.2.2.2.1 then (some ((),((8:Int),())))
 else ((bif (decide (j7.2.2.1.1.kind=(4:Int))) then ((Zct j7.2.2.1.1.data).bind fun r8=>(some (j7.1,j7.2.1,(j7.2.2.1.1,()),(!r8.2.1),())))
 else (some (j7.1,j7.2.1,(j7.2.2.1.1,()),false,()))).bind (fun (j9:(Bool × (List UInt8) × (ApiItem × Unit) × Bool × Unit))=>(bif j9.2.2.2.1 then (some ((),((6:Int),())))
 else ((bif j9.1 then (bif (!decide (j9.2.1=([]:List UInt8))) then ((Zcc j9.2.2.1.1).bind fun r10=>((Zcr j9.2.1 r10.2.1).bind fun r11=>(some ((!r11.2.1),()))))
 else (some (false,())))
 else (some (false,()))).bind (fun (j12:(Bool × Unit))=>(bif j12.1 then (some ((),((7:Int),())))
 else (some ((),((0:Int),()))))))))))))))))))))))))
def S_Zcd:FSpec T:=⟨[.f (.v (.agg 1)),.f (.v (.int .i64)),.f (.v (.int .i64)),.f (.v .bool),.f (.v .str)],[(.v (.int .i64))],fun x=>Zcd x.1 x.2.1 x.2.2.1 x.2.2.2.1 x.2.2.2.2.1⟩
theorem Vxs:SoundT Tryz.prog cd gdn 107 S_Zcd:=
 sndC hmix o97 (lcA [] [(2,[(1,.f (.v (.int .i64))),(2,.f (.v (.int .i64))),(3,.f (.v .bool)),(4,.f (.v .str)),(5,.ptr [(.v (.agg 1))]),(11,.f (.v .bool))],true),(3,[(1,.f (.v (.int .i64))),(2,.f (.v (.int .i64))),(3,.f (.v .bool)),(4,.f (.v .str)),(5,.ptr [(.v (.agg 1))]),(11,.f (.v .bool)),(12,.f (.v .bool))],true),(6,[(2,.f (.v (.int .i64))),(3,.f (.v .bool)),(4,.f (.v .str)),(5,.ptr [(.v (.agg 1))]),(11,.f (.v .bool)),(12,.f (.v .bool)),(32,.f (.v .bool))],true),(10,[(3,.f (.v .bool)),(4,.f (.v .str)),(5,.ptr [(.v (.agg 1))]),(12,.f (.v .bool)),(49,.f (.v .bool))],true),(12,[(3,.f (.v .bool)),(4,.f (.v .str)),(5,.ptr [(.v (.agg 1))]),(80,.f (.v .bool))],true),(14,[(3,.f (.v .bool)),(4,.f (.v .str)),(5,.ptr [(.v (.agg 1))]),(93,.f (.v .bool))],true),(16,[(103,.f (.v .bool))],true)] []) Tryz.func107 Vaa (by kernel_rfl) (by kernel_rfl) fun x=>by kernel_rfl
def c98:List (Ct T):=⟨107,none,S_Zcd,true⟩::c97
theorem o98:EnvOk Tryz.prog (mE c98):=eCons Vxs o97
def passkeyref1_walk_L0b (k_rec:(List (ApiItem)) → Int → Int → Bool → (List UInt8) → Option ((Unit) × (Int × Int × Unit))) (y0:(List (ApiItem))) (y1:Int) (y2:(ApiItem × Unit)) (y3:Int) (y4:(List UInt8)) (y5:(BitVec 64)):Option (Yfq ⊕ ((Int × Int × Unit) ⊕ (Int × Unit))):=
 (bif (decide (y5.toNat < y2.1.number.toNat)) then (bif (decide (y2.1.kind=(5:Int))) then ((bif (decide (y2.1.kind=(6:Int))) then ((k_rec y0 y3 (Qa .i64 (y1 + (1:Int))) true y4).bind fun r3=>(bif (!decide (r3.2.2.1=(0:Int))) then (((some (Qe (Qb (r3.2.1,r3.2.2.1,()))))).bind fun q=>some (Qe q))
 else ((getI y0 y3).bind fun x4=>((Zcc x4).bind fun r5=>(some (Qb (y0,y1,(y2.1,()),r3.2.1,r5.2.1,y5,())))))))
 else (some (Qb (y0,y1,(y2.1,()),y3,y4,y5,())))).bind (Qk (fun (j6:Yfq)=>((k_rec j6.1 j6.2.2.2.1 (Qa .i64 (j6.2.1 + (1:Int))) false ([]:List UInt8)).bind fun r7=>(bif (!decide (r7.2.2.1=(0:Int))) then (some (Qe (Qb (r7.2.1,r7.2.2.1,()))))
 else (some (Qb (j6.1,j6.2.1,(j6.2.2.1.1,()),r7.2.1,j6.2.2.2.2.1,(j6.2.2.2.2.2.1 + 1#64),())))))) some))
 else (bif (decide (y2.1.kind=(6:Int))) then ((bif (decide (y2.1.kind=(6:Int))) then ((k_rec y0 y3 (Qa .i64 (y1 + (1:Int))) true y4).bind fun r8=>(bif (!decide (r8.2.2.1=(0:Int))) then (((some (Qe (Qb (r8.2.1,r8.2.2.1,()))))).bind fun q=>some (Qe q))
 else ((getI y0 y3).bind fun x9=>((Zcc x9).bind fun r10=>(some (Qb (y0,y1,(y2.1,()),r8.2.1,r10.2.1,y5,())))))))
 else (some (Qb (y0,y1,(y2.1,()),y3,y4,y5,())))).bind (Qk (fun (j11:Yfq)=>((k_rec j11.1 j11.2.2.2.1 (Qa .i64 (j11.2.1 + (1:Int))) false ([]:List UInt8)).bind fun r12=>(bif (!decide (r12.2.2.1=(0:Int))) then (some (Qe (Qb (r12.2.1,r12.2.2.1,()))))
 else (some (Qb (j11.1,j11.2.1,(j11.2.2.1.1,()),r12.2.1,j11.2.2.2.2.1,(j11.2.2.2.2.2.1 + 1#64),())))))) some))
 else (some (Qe (Qe (y3,()))))))
 else (some (Qe (Qe (y3,())))))
def passkeyref1_walk_L0 (k_rec:(List (ApiItem))→Int→Int→Bool→(List UInt8)→Option ((Unit)×(Int×Int×Unit))) (y:Yfq):Option ((Int×Int×Unit)⊕(Int×Unit)):=iter (fun (y:Yfq)=>passkeyref1_walk_L0b k_rec y.1 y.2.1 y.2.2.1 y.2.2.2.1 y.2.2.2.2.1 y.2.2.2.2.2.1) rounds y
def passkeyref1_walk_R (k_rec:(List (ApiItem)) → Int → Int → Bool → (List UInt8) → Option ((Unit) × (Int × Int × Unit))) (a0:(List (ApiItem))) (a1:Int) (a2:Int) (a3:Bool) (a4:(List UInt8)):Option ((Unit) × (Int × Int × Unit)):=
 (bif (decide (((a0).length:Int) ≤ a1)) then (some ((),(a1,(1:Int),())))
 else ((getI a0 a1).bind fun x1=>((Zcd x1 a1 a2 a3 a4).bind fun r2=>(bif (!decide (r2.2.1=(0:Int))) then (some ((),(a1,r2.2.1,())))
 else ((passkeyref1_walk_L0 k_rec (a0,a2,(x1,()),(Qa .i64 (a1 + (1:Int))),([]:List UInt8),0#64,())).bind (Qk (fun (z13:(Int × Int × Unit))=>(some ((),(z13.1,z13.2.1,())))) (fun (z14:(Int × Unit))=>(some ((),(z14.1,(0:Int),()))))))))))
abbrev ps_passkeyref1_walk:List Slot:=[.f (.v (.rs 1)),.f (.v (.int .i64)),.f (.v (.int .i64)),.f (.v .bool),.f (.v .str)]
abbrev rs_passkeyref1_walk:List Fld:=[(.v (.int .i64)),(.v (.int .i64))]
def E_passkeyref1_walk (k_rec:(List (ApiItem))→Int→Int→Bool→(List UInt8)→Option ((Unit)×(Int×Int×Unit))):Env T:=⟨tab.find,cd,globs,flc,fun f ds=>match f with
  | 72=>some S_Zcc
  | 90=>some ⟨ps_passkeyref1_walk,rs_passkeyref1_walk,fun x=>k_rec x.1 x.2.1 x.2.2.1 x.2.2.2.1 x.2.2.2.2.1⟩
  | 107=>some S_Zcd
  | _=>none,fun f=>match f with
  | 72=>true
  | 90=>true
  | 107=>true
  | _=>false⟩
def A_passkeyref1_walk (k_rec:(List (ApiItem))→Int→Int→Bool→(List UInt8)→Option ((Unit)×(Int×Int×Unit))):Loc2 T:=⟨fun id=>match id with
  | 0=>some ⟨[(0,.f (.v (.rs 1))),(2,.f (.v (.int .i64))),(12,.ptr [(.v (.agg 1))]),(14,.f (.v (.int .i64))),(15,.f (.v .str)),(16,.f (.v .u64))],[(.ret,[(10,.f (.v (.int .i64))),(11,.f (.v (.int .i64)))]),(.exit 0,[(14,.f (.v (.int .i64)))])],passkeyref1_walk_L0 k_rec,[]⟩
  | _=>none,fun r=>match r with
  | 19=>some ([(0,.f (.v (.rs 1))),(2,.f (.v (.int .i64))),(12,.ptr [(.v (.agg 1))]),(14,.f (.v (.int .i64))),(15,.f (.v .str)),(16,.f (.v .u64))],false)
  | _=>none,fun r=>match r with
  | _=>false⟩
theorem Vd0 (k_rec:(List (ApiItem))→Int→Int→Bool→(List UInt8)→Option ((Unit)×(Int×Int×Unit))) (y0:(List (ApiItem))) (y1:Int) (y2:(ApiItem×Unit)) (y3:Int) (y4:(List UInt8)) (y5:(BitVec 64)):run (E_passkeyref1_walk k_rec) (A_passkeyref1_walk k_rec) (loopAt 0 (Tryz.f90.body.getD .skip)) (layC cd [(0,.f (.v (.rs 1))),(2,.f (.v (.int .i64))),(12,.ptr [(.v (.agg 1))]),(14,.f (.v (.int .i64))),(15,.f (.v .str)),(16,.f (.v .u64))] [] (y0,y1,y2,y3,y4,y5,())) (roundK cd [(0,.f (.v (.rs 1))),(2,.f (.v (.int .i64))),(12,.ptr [(.v (.agg 1))]),(14,.f (.v (.int .i64))),(15,.f (.v .str)),(16,.f (.v .u64))] [] [(.ret,[(10,.f (.v (.int .i64))),(11,.f (.v (.int .i64)))]),(.exit 0,[(14,.f (.v (.int .i64)))])])=passkeyref1_walk_L0b k_rec y0 y1 y2 y3 y4 y5:=by kernel_rfl
theorem Ve0 (k_rec:(List (ApiItem))→Int→Int→Bool→(List UInt8)→Option ((Unit)×(Int×Int×Unit))) (x:tySs T ps_passkeyref1_walk):run (E_passkeyref1_walk k_rec) (A_passkeyref1_walk k_rec) (Tryz.f90.body.getD .skip) (enterT (E_passkeyref1_walk k_rec).C ps_passkeyref1_walk x) (retK (E_passkeyref1_walk k_rec) Tryz.f90.results.toList ps_passkeyref1_walk rs_passkeyref1_walk)=passkeyref1_walk_R k_rec x.1 x.2.1 x.2.2.1 x.2.2.2.1 x.2.2.2.2.1:=by kernel_rfl
def passkeyref1_walk_n:Nat→(List (ApiItem))→Int→Int→Bool→(List UInt8)→Option ((Unit)×(Int×Int×Unit))
 | 0=>fun _ _ _ _ _=>none
 | n+1=>passkeyref1_walk_R (passkeyref1_walk_n n)
def passkeyref1_walk (a0:(List (ApiItem))) (a1:Int) (a2:Int) (a3:Bool) (a4:(List UInt8)):=passkeyref1_walk_n 12 a0 a1 a2 a3 a4
def S_passkeyref1_walk:FSpec T:=⟨ps_passkeyref1_walk,rs_passkeyref1_walk,fun x=>passkeyref1_walk x.1 x.2.1 x.2.2.1 x.2.2.2.1 x.2.2.2.2.1⟩
theorem Vch (k_rec:(List (ApiItem))→Int→Int→Bool→(List UInt8)→Option ((Unit)×(Int×Int×Unit))) (hk:SoundT Tryz.prog cd gdn 90 ⟨ps_passkeyref1_walk,rs_passkeyref1_walk,fun x=>k_rec x.1 x.2.1 x.2.2.1 x.2.2.2.1 x.2.2.2.2.1⟩):EnvOk Tryz.prog (E_passkeyref1_walk k_rec):=envOk (E:=(E_passkeyref1_walk k_rec)) cd_ok tys fl_ok fun f ds S h=>by
  dsimp only [E_passkeyref1_walk] at h
  split at h
  ·cases h; exact Vrr
  ·cases h; exact hk
  ·cases h; exact Vxs
  ·cases h
theorem Vd1 (k_rec:(List (ApiItem))→Int→Int→Bool→(List UInt8)→Option ((Unit)×(Int×Int×Unit))) (hk:SoundT Tryz.prog cd gdn 90 ⟨ps_passkeyref1_walk,rs_passkeyref1_walk,fun x=>k_rec x.1 x.2.1 x.2.2.1 x.2.2.2.1 x.2.2.2.2.1⟩):LoopOk Tryz.prog (E_passkeyref1_walk k_rec) Tryz.f90.ntmps (kqOf ps_passkeyref1_walk 0) (loopAt 0 (Tryz.f90.body.getD .skip)) ⟨[(0,.f (.v (.rs 1))),(2,.f (.v (.int .i64))),(12,.ptr [(.v (.agg 1))]),(14,.f (.v (.int .i64))),(15,.f (.v .str)),(16,.f (.v .u64))],[(.ret,[(10,.f (.v (.int .i64))),(11,.f (.v (.int .i64)))]),(.exit 0,[(14,.f (.v (.int .i64)))])],passkeyref1_walk_L0 k_rec,[]⟩:=
 Vk8 (A:=(A_passkeyref1_walk k_rec)) (done:=[]) (c0:=(Tryz.f90.body.getD .skip)) hmix (Vch k_rec hk) Vaa rounds (by kernel_rfl) (by kernel_rfl) (fun x=>Vd0 k_rec x.1 x.2.1 x.2.2.1 x.2.2.2.1 x.2.2.2.2.1 x.2.2.2.2.2.1) (fun _=>rfl)
theorem Vbc:∀ n:Nat,SoundT Tryz.prog cd gdn 90 ⟨ps_passkeyref1_walk,rs_passkeyref1_walk,fun x=>passkeyref1_walk_n n x.1 x.2.1 x.2.2.1 x.2.2.2.1 x.2.2.2.2.1⟩
 | 0=>Vjs ⟨_,Tryz.func90,by kernel_rfl,by kernel_rfl⟩
 | n+1=>Vhc (E:=E_passkeyref1_walk (passkeyref1_walk_n n)) (A:=A_passkeyref1_walk (passkeyref1_walk_n n)) (done:=[0]) (c:=(Tryz.f90.body.getD .skip)) (S:=⟨ps_passkeyref1_walk,rs_passkeyref1_walk,fun x=>passkeyref1_walk_n (n+1) x.1 x.2.1 x.2.2.1 x.2.2.2.1 x.2.2.2.2.1⟩) (fn:=Tryz.f90) hmix (Vch _ (Vbc n)) Tryz.func90 rfl (by kernel_rfl) (by kernel_rfl) (Vab rfl (Vd1 _ (Vbc n)) Vaa) (by kernel_rfl) (by kernel_rfl) (Ve0 (passkeyref1_walk_n n))
theorem Ve6:SoundT Tryz.prog cd gdn 90 S_passkeyref1_walk:=Vbc 12
def c99:List (Ct T):=⟨90,none,S_passkeyref1_walk,true⟩::c98
theorem o99:EnvOk Tryz.prog (mE c99):=eCons Ve6 o98
def Zaz (a0:(List (ApiItem))):Option ((Unit) × (Int × Unit)):=
 ((passkeyref1_walk a0 (0:Int) (0:Int) false ([]:List UInt8)).bind fun r1=>(bif (!decide (r1.2.2.1=(0:Int))) then (some ((),(r1.2.2.1,())))
 else (bif (decide (r1.2.1 < ((a0).length:Int))) then (some ((),((2:Int),())))
 else (some ((),((0:Int),()))))))
def S_Zaz:FSpec T:=⟨[.f (.v (.rs 1))],[(.v (.int .i64))],fun x=>Zaz x.1⟩
theorem Vbda:SoundT Tryz.prog cd gdn 71 S_Zaz:=
 sndC hmix o99 (lcA [] [] []) Tryz.func71 Vaa (by kernel_rfl) (by kernel_rfl) fun x=>by kernel_rfl
def c100:List (Ct T):=⟨71,none,S_Zaz,true⟩::c99
theorem o100:EnvOk Tryz.prog (mE c100):=eCons Vbda o99
abbrev Y_Zbt_L0:=((List (ApiItem))×(List (UInt8))×Int×Unit)
abbrev Z_Zbt_L0:=((List (UInt8))×Unit)
def Zbt_L0b (y0:(List (ApiItem))) (y1:(List (UInt8))) (y2:Int):Option (Y_Zbt_L0 ⊕ Z_Zbt_L0):=
 (bif (decide (y2 < ((y0).length:Int))) then ((getI y0 y2).bind fun x2=>((Zcc x2).bind fun r3=>(bif small ((y1).length + (r3.2.1:List (UInt8)).length) 1 then (some (Qb (y0,(y1 ++ r3.2.1),(Qa .i64 (y2 + (1:Int))),())))
 else none)))
 else (some (Qe (y1,()))))
def Zbt_L0 (y:Y_Zbt_L0):Option Z_Zbt_L0:=iter (fun (y:Y_Zbt_L0)=>Zbt_L0b y.1 y.2.1 y.2.2.1) rounds y
def Zbt (a0:(List (ApiItem))):Option ((Unit) × ((List (UInt8)) × Int × Unit)):=
 ((Zaz a0).bind fun r1=>(bif (!decide (r1.2.1=(0:Int))) then (some ((),([],r1.2.1,())))
 else ((Zbt_L0 (a0,[],(0:Int),())).bind (fun (z4:((List (UInt8)) × Unit))=>(some ((),(z4.1,(0:Int),())))))))
def S_Zbt:FSpec T:=⟨[.f (.v (.rs 1))],[(.own 0),(.v (.int .i64))],fun x=>Zbt x.1⟩
def s_Zbt_L0:LSpec T:=⟨[(0,.f (.v (.rs 1))),(5,.f (.own 0)),(6,.f (.v (.int .i64)))],[(.exit 0,[(5,.f (.own 0))])],Zbt_L0,[]⟩
def A_Zbt:Loc2 T:=lcA [(0,s_Zbt_L0)] [] []
theorem Vrs:LoopOk Tryz.prog (mE c100) Tryz.f49.ntmps (kqOf S_Zbt.ps 0) (loopAt 0 (bodyOf Tryz.f49)) s_Zbt_L0:=
 lpC hmix o100 A_Zbt Vaa 0 (st:=fun y=>Zbt_L0b y.1 y.2.1 y.2.2.1) (fun _=>rfl) (by kernel_rfl) (by kernel_rfl) fun x=>by kernel_rfl
theorem Vbea:SoundT Tryz.prog cd gdn 49 S_Zbt:=
 sndC hmix o100 A_Zbt Tryz.func49 (Vab rfl Vrs Vaa) (by kernel_rfl) (by kernel_rfl) fun x=>by kernel_rfl
def c101:List (Ct T):=⟨49,none,S_Zbt,false⟩::c100
theorem o101:EnvOk Tryz.prog (mE c101):=eCons Vbea o100
abbrev Y_passkeyref14_encode_L0:=((List (List ApiItem))×(List (ApiItem))×Int×Unit)
abbrev Z_passkeyref14_encode_L0:=((List (ApiItem))×Unit)
def passkeyref14_encode_L0b (y0:(List (List ApiItem))) (y1:(List (ApiItem))) (y2:Int):Option (Y_passkeyref14_encode_L0 ⊕ Z_passkeyref14_encode_L0):=
 (bif (decide (y2 < ((y0).length:Int))) then ((getI y0 y2).bind fun x2=>(bif (decide ((0:Int) < ((x2).length:Int))) then (bif decide ((0:Int) < ((y1).length:Int)) then (((y1)[0]?).bind fun x3=>(bif decide ((0:Int) < ((y1).length:Int)) then (((y1)[0]?).bind fun x4=>(let v5:List (ApiItem):=(Qm y1 0 (⟨x4.kind,(x3.number + 1#64),x4.data⟩:ApiItem))
 ((Zbi (Qc 64 y2)).bind fun r6=>(bif small ((v5).length + (([r6.2.1]:List (ApiItem)):List (ApiItem)).length) 32 then ((getI y0 y2).bind fun x7=>(bif small (((v5 ++ ([r6.2.1]:List (ApiItem)))).length + (x7:List (ApiItem)).length) 32 then (let v8:List (ApiItem):=((v5 ++ ([r6.2.1]:List (ApiItem))) ++ x7)
 (some (Qb (y0,v8,(Qa .i64 (y2 + (1:Int))),()))))
 else none))
 else none))))
 else none))
 else none)
 else (some (Qb (y0,y1,(Qa .i64 (y2 + (1:Int))),())))))
 else (some (Qe (y1,()))))
def passkeyref14_encode_L0 (y:Y_passkeyref14_encode_L0):Option Z_passkeyref14_encode_L0:=iter (fun (y:Y_passkeyref14_encode_L0)=>passkeyref14_encode_L0b y.1 y.2.1 y.2.2.1) rounds y
def passkeyref14_encode (a0:(List (List ApiItem))):Option ((Unit) × ((List (UInt8)) × Unit)):=
 (let v1:List (ApiItem):=([(⟨(6:Int),0#64,([]:List UInt8)⟩:ApiItem)]:List (ApiItem))
 ((passkeyref14_encode_L0 (a0,v1,(1:Int),())).bind (fun (z9:((List (ApiItem)) × Unit))=>((Zbt z9.1).bind fun r10=>(some ((),(r10.2.1,())))))))
def S_passkeyref14_encode:FSpec T:=⟨[.f (.v (.rs 6))],[(.own 0)],fun x=>passkeyref14_encode x.1⟩
def s_passkeyref14_encode_L0:LSpec T:=⟨[(0,.f (.v (.rs 6))),(3,.f (.own 1)),(4,.f (.v (.int .i64)))],[(.exit 0,[(3,.f (.own 1))])],passkeyref14_encode_L0,[]⟩
def A_passkeyref14_encode:Loc2 T:=lcA [(0,s_passkeyref14_encode_L0)] [] [7]
theorem Vc4:LoopOk Tryz.prog (mE c101) Tryz.f22.ntmps (kqOf S_passkeyref14_encode.ps 0) (loopAt 0 (bodyOf Tryz.f22)) s_passkeyref14_encode_L0:=
 lpC hmix o101 A_passkeyref14_encode Vaa 0 (st:=fun y=>passkeyref14_encode_L0b y.1 y.2.1 y.2.2.1) (fun _=>rfl) (by kernel_rfl) (by kernel_rfl) fun x=>by kernel_rfl
theorem Vd2:SoundT Tryz.prog cd gdn 22 S_passkeyref14_encode:=
 sndC hmix o101 A_passkeyref14_encode Tryz.func22 (Vab rfl Vc4 Vaa) (by kernel_rfl) (by kernel_rfl) fun x=>by kernel_rfl
def c102:List (Ct T):=⟨22,none,S_passkeyref14_encode,false⟩::c101
theorem o102:EnvOk Tryz.prog (mE c102):=eCons Vd2 o101
def Zai (a0:ApiReply):Option ((Unit) × ((List (UInt8)) × Int × Unit)):=
 ((Zaf a0).bind fun r1=>(bif (!decide (r1.2.1=(0:Int))) then (some ((),([],r1.2.1,())))
 else (bif (decide (a0.err=(0:Int))) then ((passkeyref14_replyFields a0).bind fun r2=>((passkeyref14_encode ([r2.2.1.a0,r2.2.1.a1,r2.2.1.a2,r2.2.1.a3,r2.2.1.a4,r2.2.1.a5,r2.2.1.a6,r2.2.1.a7,r2.2.1.a8,r2.2.1.a9,r2.2.1.a10,r2.2.1.a11,r2.2.1.a12,r2.2.1.a13,r2.2.1.a14,r2.2.1.a15,r2.2.1.a16,r2.2.1.a17]:List (List ApiItem))).bind fun r3=>(bif small ((([(Qf (Qc 8 a0.err))]:List (UInt8))).length + (r3.2.1:List (UInt8)).length) 1 then (let v4:List (UInt8):=(([(Qf (Qc 8 a0.err))]:List (UInt8)) ++ r3.2.1)
 (bif (decide ((4096:Int) < ((v4).length:Int))) then (some ((),([],(8:Int),())))
 else (some ((),(v4,(0:Int),())))))
 else none)))
 else (some ((),(([(Qf (Qc 8 a0.err))]:List (UInt8)),(0:Int),()))))))
def S_Zai:FSpec T:=⟨[.f (.v (.agg 12))],[(.own 0),(.v (.int .i64))],fun x=>Zai x.1⟩
theorem Vbfa:SoundT Tryz.prog cd gdn 8 S_Zai:=
 sndC hmix o102 (lcA [] [] []) Tryz.func8 Vaa (by kernel_rfl) (by kernel_rfl) fun x=>by kernel_rfl
def c103:List (Ct T):=⟨8,none,S_Zai,false⟩::c102
theorem o103:EnvOk Tryz.prog (mE c103):=eCons Vbfa o102
abbrev Y_Zam_L1:=(((List UInt8)×Int×(List (ApiItem))×Unit)×(ApiItem×Unit)×Int×Int×(BitVec 64)×Int×Unit)
abbrev Z_Zam_L1:=(((List UInt8)×Int×(List (ApiItem))×Unit)×(ApiItem×Unit)×Int×Int×(BitVec 64)×Unit)
def Zam_L1b (y0:((List UInt8) × Int × (List (ApiItem)) × Unit)) (y1:(ApiItem × Unit)) (y2:Int) (y3:Int) (y4:(BitVec 64)) (y5:Int):Option (Y_Zam_L1 ⊕ Z_Zam_L1):=
 (bif (decide (y5 < y3)) then (let v12:Int:=(Qa .i64 ((Qa .i64 (y0.2.1 + (1:Int))) + y5))
 ((getI y0.1 v12).bind fun x13=>(some (Qb ((y0.1,y0.2.1,y0.2.2.1,()),(y1.1,()),y2,y3,((y4 <<< 8) ||| (Qg 64 x13.toBitVec)),(Qa .i64 (y5 + (1:Int))),())))))
 else (some (Qe ((y0.1,y0.2.1,y0.2.2.1,()),(y1.1,()),y2,y3,y4,()))))
def Zam_L1 (y:Y_Zam_L1):Option Z_Zam_L1:=iter (fun (y:Y_Zam_L1)=>Zam_L1b y.1 y.2.1 y.2.2.1 y.2.2.2.1 y.2.2.2.2.1 y.2.2.2.2.2.1) rounds y
def Zam (a0:((List UInt8) × Int × (List (ApiItem)) × Unit)):Option ((((List UInt8) × Int × (List (ApiItem)) × Unit) × Unit) × (ApiItem × Int × Unit)):=
 (bif (decide (((a0.1).length:Int) ≤ a0.2.1)) then (some (((a0.1,a0.2.1,a0.2.2.1,()),()),((⟨(0:Int),0#64,([]:List UInt8)⟩:ApiItem),(1:Int),())))
 else ((getI a0.1 a0.2.1).bind fun x1=>((bif (decide (x1.toBitVec=(244:UInt8).toBitVec)) then (bif (decide (x1.toBitVec=(244:UInt8).toBitVec)) then (let v2:BitVec 64:=(Qg 64 (Qf (x1.toBitVec - (244:UInt8).toBitVec)).toBitVec)
 (((some (((a0.1,(Qa .i64 (a0.2.1 + (1:Int))),a0.2.2.1,()),()),((⟨(7:Int),v2,([]:List UInt8)⟩:ApiItem),(0:Int),())))).bind fun q=>some (Qe q)))
 else (bif (decide (x1.toBitVec=(246:UInt8).toBitVec)) then (((some (((a0.1,(Qa .i64 (a0.2.1 + (1:Int))),a0.2.2.1,()),()),((⟨(8:Int),0#64,([]:List UInt8)⟩:ApiItem),(0:Int),())))).bind fun q=>some (Qe q))
 else (some (Qb ((a0.1,a0.2.1,a0.2.2.1,()),((⟨(0:Int),0#64,([]:List UInt8)⟩:ApiItem),()),x1,())))))
 else (bif (decide (x1.toBitVec=(245:UInt8).toBitVec)) then (let v3:BitVec 64:=(Qg 64 (Qf (x1.toBitVec - (244:UInt8).toBitVec)).toBitVec)
 (((some (((a0.1,(Qa .i64 (a0.2.1 + (1:Int))),a0.2.2.1,()),()),((⟨(7:Int),v3,([]:List UInt8)⟩:ApiItem),(0:Int),())))).bind fun q=>some (Qe q)))
 else (bif (decide (x1.toBitVec=(246:UInt8).toBitVec)) then (((some (((a0.1,(Qa .i64 (a0.2.1 + (1:Int))),a0.2.2.1,()),()),((⟨(8:Int),0#64,([]:List UInt8)⟩:ApiItem),(0:Int),())))).bind fun q=>some (Qe q))
 else (some (Qb ((a0.1,a0.2.1,a0.2.2.1,()),((⟨(0:Int),0#64,([]:List UInt8)⟩:ApiItem),()),x1,())))))).bind (Qk (fun (j4:(((List UInt8) × Int × (List (ApiItem)) × Unit) × (ApiItem × Unit) × UInt8 × Unit))=>(let v5:Int:=((Qf (j4.2.2.1.toBitVec >>> 5)).toBitVec.toNat:Int)
 (let v6:UInt8:=(Qf (j4.2.2.1.toBitVec &&& (31:UInt8).toBitVec))
 (bif (decide ((5:Int) < v5)) then (some (((j4.1.1,j4.1.2.1,j4.1.2.2.1,()),()),((⟨(0:Int),0#64,([]:List UInt8)⟩:ApiItem),(2:Int),())))
 else (bif (decide ((27:Int) < (v6.toBitVec.toNat:Int))) then (some (((j4.1.1,j4.1.2.1,j4.1.2.2.1,()),()),((⟨(0:Int),0#64,([]:List UInt8)⟩:ApiItem),(2:Int),())))
 else ((bif (decide ((24:Int) ≤ (v6.toBitVec.toNat:Int))) then (let v7:BitVec 64:=(Qc 64 (Qa .i64 ((v6.toBitVec.toNat:Int) - (24:Int))))
 (let v8:Int:=(Qa .i64 ((1:Int) * 2 ^ (min v7.toNat (Qd .i64))))
 (some ((j4.1.1,j4.1.2.1,j4.1.2.2.1,()),(j4.2.1.1,()),v5,(v6.toBitVec.toNat:Int),v8,()))))
 else (some ((j4.1.1,j4.1.2.1,j4.1.2.2.1,()),(j4.2.1.1,()),v5,(v6.toBitVec.toNat:Int),(0:Int),()))).bind (fun (j9:(((List UInt8) × Int × (List (ApiItem)) × Unit) × (ApiItem × Unit) × Int × Int × Int × Unit))=>(let v10:Int:=(Qa .i64 ((Qa .i64 (((j9.1.1).length:Int) - j9.1.2.1)) - (1:Int)))
 (bif (decide (v10 < j9.2.2.2.2.1)) then (some (((j9.1.1,j9.1.2.1,j9.1.2.2.1,()),()),((⟨(0:Int),0#64,([]:List UInt8)⟩:ApiItem),(1:Int),())))
 else ((bif (decide ((0:Int) < j9.2.2.2.2.1)) then (some ((j9.1.1,j9.1.2.1,j9.1.2.2.1,()),(j9.2.1.1,()),j9.2.2.1,j9.2.2.2.2.1,0#64,()))
 else (some ((j9.1.1,j9.1.2.1,j9.1.2.2.1,()),(j9.2.1.1,()),j9.2.2.1,j9.2.2.2.2.1,(Qc 64 j9.2.2.2.1),()))).bind (fun (j11:(((List UInt8) × Int × (List (ApiItem)) × Unit) × (ApiItem × Unit) × Int × Int × (BitVec 64) × Unit))=>((Zam_L1 ((j11.1.1,j11.1.2.1,j11.1.2.2.1,()),(j11.2.1.1,()),j11.2.2.1,j11.2.2.2.1,j11.2.2.2.2.1,(0:Int),())).bind (fun (z14:(((List UInt8) × Int × (List (ApiItem)) × Unit) × (ApiItem × Unit) × Int × Int × (BitVec 64) × Unit))=>(let v15:List (BitVec 64):=([0#64,24#64,256#64,0#64,65536#64,0#64,0#64,0#64,4294967296#64]:List (BitVec 64))
 (bif (decide ((0:Int) ≤ z14.2.2.2.1) && decide (z14.2.2.2.1 < (9:Int))) then (((v15)[(z14.2.2.2.1).toNat]?).bind fun x16=>(bif (decide (z14.2.2.2.2.1.toNat < x16.toNat)) then (some (((z14.1.1,z14.1.2.1,z14.1.2.2.1,()),()),((⟨(0:Int),0#64,([]:List UInt8)⟩:ApiItem),(2:Int),())))
 else (let v17:Int:=(Qa .i64 (z14.1.2.1 + (Qa .i64 ((1:Int) + z14.2.2.2.1))))
 (let v18:List (Int):=([(1:Int),(2:Int),(3:Int),(4:Int),(5:Int),(6:Int)]:List (Int))
 (bif (decide ((0:Int) ≤ z14.2.2.1) && decide (z14.2.2.1 < (6:Int))) then (((v18)[(z14.2.2.1).toNat]?).bind fun x19=>(some (((z14.1.1,v17,z14.1.2.2.1,()),()),((⟨x19,z14.2.2.2.2.1,([]:List UInt8)⟩:ApiItem),(0:Int),()))))
 else none)))))
 else none))))))))))))))) some))))
def S_Zam:FSpec T:=⟨[.ptr [(.v .str),(.v (.int .i64)),(.own 1)]],[(.v (.agg 1)),(.v (.int .i64))],fun x=>Zam x.1⟩
def s_Zam_L1:LSpec T:=⟨[(0,.ptr [(.v .str),(.v (.int .i64)),(.own 1)]),(2,.ptr [(.v (.agg 1))]),(5,.f (.v (.int .i64))),(7,.f (.v (.int .i64))),(8,.f (.v .u64)),(9,.f (.v (.int .i64)))],[(.exit 1,[(0,.ptr [(.v .str),(.v (.int .i64)),(.own 1)]),(2,.ptr [(.v (.agg 1))]),(5,.f (.v (.int .i64))),(7,.f (.v (.int .i64))),(8,.f (.v .u64))])],Zam_L1,[]⟩
def A_Zam:Loc2 T:=lcA [(1,s_Zam_L1)] [(12,[(0,.ptr [(.v .str),(.v (.int .i64)),(.own 1)]),(2,.ptr [(.v (.agg 1))]),(4,.f (.v .u8))],false),(18,[(0,.ptr [(.v .str),(.v (.int .i64)),(.own 1)]),(2,.ptr [(.v (.agg 1))]),(5,.f (.v (.int .i64))),(6,.f (.v (.int .i64))),(7,.f (.v (.int .i64)))],true),(23,[(0,.ptr [(.v .str),(.v (.int .i64)),(.own 1)]),(2,.ptr [(.v (.agg 1))]),(5,.f (.v (.int .i64))),(7,.f (.v (.int .i64))),(8,.f (.v .u64))],true)] []
theorem Vrt:LoopOk Tryz.prog (mE c103) Tryz.f92.ntmps (kqOf S_Zam.ps 0) (loopAt 1 (bodyOf Tryz.f92)) s_Zam_L1:=
 lpC hmix o103 A_Zam Vaa 1 (st:=fun y=>Zam_L1b y.1 y.2.1 y.2.2.1 y.2.2.2.1 y.2.2.2.2.1 y.2.2.2.2.2.1) (fun _=>rfl) (by kernel_rfl) (by kernel_rfl) fun x=>by kernel_rfl
theorem Vxt:SoundT Tryz.prog cd gdn 92 S_Zam:=
 sndC hmix o103 A_Zam Tryz.func92 (Vab rfl Vrt Vaa) (by kernel_rfl) (by kernel_rfl) fun x=>by kernel_rfl
def c104:List (Ct T):=⟨92,none,S_Zam,false⟩::c103
theorem o104:EnvOk Tryz.prog (mE c104):=eCons Vxt o103
def Zan_L1b (k_rec:((List UInt8) × Int × (List (ApiItem)) × Unit) → Int → Bool → (List UInt8) → Option Ycq) (y0:((List UInt8) × Int × (List (ApiItem)) × Unit)) (y1:Int) (y2:(ApiItem × Unit)) (y3:(BitVec 64)) (y4:Bool) (y5:(List UInt8)) (y6:(BitVec 64)):Option ((((List UInt8) × Int × (List (ApiItem)) × Unit) × Int × (ApiItem × Unit) × (BitVec 64) × Bool × (List UInt8) × (BitVec 64) × Unit) ⊕ ((((List UInt8) × Int × (List (ApiItem)) × Unit) × Int × Unit) ⊕ (((List UInt8) × Int × (List (ApiItem)) × Unit) × Unit))):=
 (bif y4 then (bif (decide (y6.toNat < y3.toNat)) then (bif (decide (y2.1.kind=(6:Int))) then ((k_rec (y0.1,y0.2.1,y0.2.2.1,()) (Qa .i64 (y1 + (1:Int))) true y5).bind fun r18=>(bif (!decide (r18.2.1=(0:Int))) then (some (Qe (Qb ((r18.1.1.1,r18.1.1.2.1,r18.1.1.2.2.1,()),r18.2.1,()))))
 else (bif (decide ((0:Int) ≤ ((y0.2.2.1).length:Int)) && decide (((y0.2.2.1).length:Int) < ((r18.1.1.2.2.1).length:Int))) then (((r18.1.1.2.2.1)[(((y0.2.2.1).length:Int)).toNat]?).bind fun x19=>((Zcc x19).bind fun r20=>((k_rec (r18.1.1.1,r18.1.1.2.1,r18.1.1.2.2.1,()) (Qa .i64 (y1 + (1:Int))) false ([]:List UInt8)).bind fun r21=>(bif (!decide (r21.2.1=(0:Int))) then (some (Qe (Qb ((r21.1.1.1,r21.1.1.2.1,r21.1.1.2.2.1,()),r21.2.1,()))))
 else (some (Qb ((r21.1.1.1,r21.1.1.2.1,r21.1.1.2.2.1,()),y1,(y2.1,()),y3,y4,r20.2.1,(y6 + 1#64),())))))))
 else none)))
 else ((k_rec (y0.1,y0.2.1,y0.2.2.1,()) (Qa .i64 (y1 + (1:Int))) false ([]:List UInt8)).bind fun r22=>(bif (!decide (r22.2.1=(0:Int))) then (some (Qe (Qb ((r22.1.1.1,r22.1.1.2.1,r22.1.1.2.2.1,()),r22.2.1,()))))
 else (some (Qb ((r22.1.1.1,r22.1.1.2.1,r22.1.1.2.2.1,()),y1,(y2.1,()),y3,y4,y5,(y6 + 1#64),()))))))
 else (some (Qe (Qe ((y0.1,y0.2.1,y0.2.2.1,()),())))))
 else (some (Qe (Qe ((y0.1,y0.2.1,y0.2.2.1,()),())))))
def Zan_L1 (k_rec:((List UInt8)×Int×(List (ApiItem))×Unit)→Int→Bool→(List UInt8)→Option Ycq) (y:(((List UInt8)×Int×(List (ApiItem))×Unit)×Int×(ApiItem×Unit)×(BitVec 64)×Bool×(List UInt8)×(BitVec 64)×Unit)):Option ((((List UInt8)×Int×(List (ApiItem))×Unit)×Int×Unit)⊕(((List UInt8)×Int×(List (ApiItem))×Unit)×Unit)):=iter (fun (y:(((List UInt8)×Int×(List (ApiItem))×Unit)×Int×(ApiItem×Unit)×(BitVec 64)×Bool×(List UInt8)×(BitVec 64)×Unit))=>Zan_L1b k_rec y.1 y.2.1 y.2.2.1 y.2.2.2.1 y.2.2.2.2.1 y.2.2.2.2.2.1 y.2.2.2.2.2.2.1) rounds y
def Zan_R (k_rec:((List UInt8) × Int × (List (ApiItem)) × Unit) → Int → Bool → (List UInt8) → Option Ycq) (a0:((List UInt8) × Int × (List (ApiItem)) × Unit)) (a1:Int) (a2:Bool) (a3:(List UInt8)):Option Ycq:=
 ((Zam (a0.1,a0.2.1,a0.2.2.1,())).bind fun r1=>(bif (!decide (r1.2.2.1=(0:Int))) then (some (((r1.1.1.1,r1.1.1.2.1,r1.1.1.2.2.1,()),()),(r1.2.2.1,())))
 else ((bif (decide (r1.2.1.kind=(3:Int))) then (some ((r1.1.1.1,r1.1.1.2.1,r1.1.1.2.2.1,()),a1,a2,a3,(r1.2.1,()),r1.2.1.number,true,()))
 else (some ((r1.1.1.1,r1.1.1.2.1,r1.1.1.2.2.1,()),a1,a2,a3,(r1.2.1,()),r1.2.1.number,(decide (r1.2.1.kind=(4:Int))),()))).bind (fun (j2:(((List UInt8) × Int × (List (ApiItem)) × Unit) × Int × Bool × (List UInt8) × (ApiItem × Unit) × (BitVec 64) × Bool × Unit))=>((bif (decide (j2.2.2.2.2.1.1.kind=(5:Int))) then (some ((j2.1.1,j2.1.2.1,j2.1.2.2.1,()),j2.2.1,j2.2.2.1,j2.2.2.2.1,(j2.2.2.2.2.1.1,()),j2.2.2.2.2.2.1,j2.2.2.2.2.2.2.1,true,()))
 else (some ((j2.1.1,j2.1.2.1,j2.1.2.2.1,()),j2.2.1,j2.2.2.1,j2.2.2.2.1,(j2.2.2.2.2.1.1,()),j2.2.2.2.2.2.1,j2.2.2.2.2.2.2.1,(decide (j2.2.2.2.2.1.1.kind=(6:Int))),()))).bind (fun (j3:(((List UInt8) × Int × (List (ApiItem)) × Unit) × Int × Bool × (List UInt8) × (ApiItem × Unit) × (BitVec 64) × Bool × Bool × Unit))=>(bif (decide ((512:Int) ≤ ((j3.1.2.2.1).length:Int))) then (some (((j3.1.1,j3.1.2.1,j3.1.2.2.1,()),()),((8:Int),())))
 else ((bif j3.2.2.1 then ((Zce j3.2.2.2.2.1.1.kind).bind fun r4=>(some ((j3.1.1,j3.1.2.1,j3.1.2.2.1,()),j3.2.1,j3.2.2.1,j3.2.2.2.1,(j3.2.2.2.2.1.1,()),j3.2.2.2.2.2.1,j3.2.2.2.2.2.2.1,j3.2.2.2.2.2.2.2.1,(!r4.2.1),())))
 else (some ((j3.1.1,j3.1.2.1,j3.1.2.2.1,()),j3.2.1,j3.2.2.1,j3.2.2.2.1,(j3.2.2.2.2.1.1,()),j3.2.2.2.2.2.1,j3.2.2.2.2.2.2.1,j3.2.2.2.2.2.2.2.1,false,()))).bind (fun (j5:(((List UInt8) × Int × (List (ApiItem)) × Unit) × Int × Bool × (List UInt8) × (ApiItem × Unit) × (BitVec 64) × Bool × Bool × Bool × Unit))=>(bif j5.2.2.2.2.2.2.2.2.1 then (some (((j5.1.1,j5.1.2.1,j5.1.2.2.1,()),()),((3:Int),())))
 else (bif (decide ((8:Int) < j5.2.1)) then (some (((j5.1.1,j5.1.2.1,j5.1.2.2.1,()),()),((5:Int),())))
 else ((bif j5.2.2.2.2.2.2.1 then (bif (decide ((1024#64).toNat < j5.2.2.2.2.2.1.toNat)) then (some ((j5.1.1,j5.1.2.1,j5.1.2.2.1,()),j5.2.1,j5.2.2.1,j5.2.2.2.1,(j5.2.2.2.2.1.1,()),j5.2.2.2.2.2.1,j5.2.2.2.2.2.2.1,j5.2.2.2.2.2.2.2.1,true,()))
 else (bif j5.2.2.2.2.2.2.2.1 then (some ((j5.1.1,j5.1.2.1,j5.1.2.2.1,()),j5.2.1,j5.2.2.1,j5.2.2.2.1,(j5.2.2.2.2.1.1,()),j5.2.2.2.2.2.1,j5.2.2.2.2.2.2.1,j5.2.2.2.2.2.2.2.1,(decide ((512#64).toNat < j5.2.2.2.2.2.1.toNat)),()))
 else (some ((j5.1.1,j5.1.2.1,j5.1.2.2.1,()),j5.2.1,j5.2.2.1,j5.2.2.2.1,(j5.2.2.2.2.1.1,()),j5.2.2.2.2.2.1,j5.2.2.2.2.2.2.1,j5.2.2.2.2.2.2.2.1,false,()))))
 else (bif j5.2.2.2.2.2.2.2.1 then (some ((j5.1.1,j5.1.2.1,j5.1.2.2.1,()),j5.2.1,j5.2.2.1,j5.2.2.2.1,(j5.2.2.2.2.1.1,()),j5.2.2.2.2.2.1,j5.2.2.2.2.2.2.1,j5.2.2.2.2.2.2.2.1,(decide ((512#64).toNat < j5.2.2.2.2.2.1.toNat)),()))
 else (some ((j5.1.1,j5.1.2.1,j5.1.2.2.1,()),j5.2.1,j5.2.2.1,j5.2.2.2.1,(j5.2.2.2.2.1.1,()),j5.2.2.2.2.2.1,j5.2.2.2.2.2.2.1,j5.2.2.2.2.2.2.2.1,false,())))).bind (fun (j6:(((List UInt8) × Int × (List (ApiItem)) × Unit) × Int × Bool × (List UInt8) × (ApiItem × Unit) × (BitVec 64) × Bool × Bool × Bool × Unit))=>(bif j6.2.2.2.2.2.2.2.2.1 then (some (((j6.1.1,j6.1.2.1,j6.1.2.2.1,()),()),((8:Int),())))
 else ((bif j6.2.2.2.2.2.2.1 then (let v7:BitVec 64:=(Qc 64 (Qa .i64 (((j6.1.1).length:Int) - j6.1.2.1)))
 (some ((j6.1.1,j6.1.2.1,j6.1.2.2.1,()),j6.2.1,j6.2.2.1,j6.2.2.2.1,(j6.2.2.2.2.1.1,()),j6.2.2.2.2.2.1,j6.2.2.2.2.2.2.1,j6.2.2.2.2.2.2.2.1,(decide (v7.toNat < j6.2.2.2.2.2.1.toNat)),())))
 else (some ((j6.1.1,j6.1.2.1,j6.1.2.2.1,()),j6.2.1,j6.2.2.1,j6.2.2.2.1,(j6.2.2.2.2.1.1,()),j6.2.2.2.2.2.1,j6.2.2.2.2.2.2.1,j6.2.2.2.2.2.2.2.1,false,()))).bind (fun (j8:(((List UInt8) × Int × (List (ApiItem)) × Unit) × Int × Bool × (List UInt8) × (ApiItem × Unit) × (BitVec 64) × Bool × Bool × Bool × Unit))=>(bif j8.2.2.2.2.2.2.2.2.1 then (some (((j8.1.1,j8.1.2.1,j8.1.2.2.1,()),()),((1:Int),())))
 else ((bif j8.2.2.2.2.2.2.1 then (let v9:Int:=(Qa .i64 (j8.1.2.1 + (Qa .i64 (j8.2.2.2.2.2.1.toNat:Int))))
 (bif (decide ((0:Int) ≤ v9) && decide (v9 ≤ ((j8.1.1).length:Int))) then (bif (decide ((0:Int) ≤ j8.1.2.1) && decide (j8.1.2.1 ≤ ((v9).toNat:Int))) then (let v10:Int:=(Qa .i64 (j8.1.2.1 + (Qa .i64 (j8.2.2.2.2.2.1.toNat:Int))))
 (some ((j8.1.1,v10,j8.1.2.2.1,()),j8.2.1,j8.2.2.1,j8.2.2.2.1,((⟨j8.2.2.2.2.1.1.kind,0#64,(Ql (j8.1.2.1).toNat (List.take (v9).toNat j8.1.1))⟩:ApiItem),()),j8.2.2.2.2.2.1,j8.2.2.2.2.2.2.2.1,())))
 else none)
 else none))
 else (some ((j8.1.1,j8.1.2.1,j8.1.2.2.1,()),j8.2.1,j8.2.2.1,j8.2.2.2.1,(j8.2.2.2.2.1.1,()),j8.2.2.2.2.2.1,j8.2.2.2.2.2.2.2.1,()))).bind (fun (j11:(((List UInt8) × Int × (List (ApiItem)) × Unit) × Int × Bool × (List UInt8) × (ApiItem × Unit) × (BitVec 64) × Bool × Unit))=>((bif (decide (j11.2.2.2.2.1.1.kind=(4:Int))) then ((Zct j11.2.2.2.2.1.1.data).bind fun r12=>(some ((j11.1.1,j11.1.2.1,j11.1.2.2.1,()),j11.2.1,j11.2.2.1,j11.2.2.2.1,(j11.2.2.2.2.1.1,()),j11.2.2.2.2.2.1,j11.2.2.2.2.2.2.1,(!r12.2.1),())))
 else (some ((j11.1.1,j11.1.2.1,j11.1.2.2.1,()),j11.2.1,j11.2.2.1,j11.2.2.2.1,(j11.2.2.2.2.1.1,()),j11.2.2.2.2.2.1,j11.2.2.2.2.2.2.1,false,()))).bind (fun (j13:(((List UInt8) × Int × (List (ApiItem)) × Unit) × Int × Bool × (List UInt8) × (ApiItem × Unit) × (BitVec 64) × Bool × Bool × Unit))=>(bif j13.2.2.2.2.2.2.2.1 then (some (((j13.1.1,j13.1.2.1,j13.1.2.2.1,()),()),((6:Int),())))
 else ((bif j13.2.2.1 then (bif (!decide (j13.2.2.2.1=([]:List UInt8))) then ((Zcc j13.2.2.2.2.1.1).bind fun r14=>((Zcr j13.2.2.2.1 r14.2.1).bind fun r15=>(some ((j13.1.1,j13.1.2.1,j13.1.2.2.1,()),j13.2.1,(j13.2.2.2.2.1.1,()),j13.2.2.2.2.2.1,j13.2.2.2.2.2.2.1,(!r15.2.1),()))))
 else (some ((j13.1.1,j13.1.2.1,j13.1.2.2.1,()),j13.2.1,(j13.2.2.2.2.1.1,()),j13.2.2.2.2.2.1,j13.2.2.2.2.2.2.1,false,())))
 else (some ((j13.1.1,j13.1.2.1,j13.1.2.2.1,()),j13.2.1,(j13.2.2.2.2.1.1,()),j13.2.2.2.2.2.1,j13.2.2.2.2.2.2.1,false,()))).bind (fun (j16:(((List UInt8) × Int × (List (ApiItem)) × Unit) × Int × (ApiItem × Unit) × (BitVec 64) × Bool × Bool × Unit))=>(bif j16.2.2.2.2.2.1 then (some (((j16.1.1,j16.1.2.1,j16.1.2.2.1,()),()),((7:Int),())))
 else (bif small ((j16.1.2.2.1).length + (([j16.2.2.1.1]:List (ApiItem)):List (ApiItem)).length) 32 then (let v17:List (ApiItem):=(j16.1.2.2.1 ++ ([j16.2.2.1.1]:List (ApiItem)))
 ((Zan_L1 k_rec ((j16.1.1,j16.1.2.1,v17,()),j16.2.1,(j16.2.2.1.1,()),j16.2.2.2.1,j16.2.2.2.2.1,([]:List UInt8),0#64,())).bind (Qk (fun (z23:(((List UInt8) × Int × (List (ApiItem)) × Unit) × Int × Unit))=>(some (((z23.1.1,z23.1.2.1,z23.1.2.2.1,()),()),(z23.2.1,())))) (fun (z24:(((List UInt8) × Int × (List (ApiItem)) × Unit) × Unit))=>(some (((z24.1.1,z24.1.2.1,z24.1.2.2.1,()),()),((0:Int),())))))))
 else none))))))))))))))))))))))))))
abbrev ps_Zan:List Slot:=[.ptr [(.v .str),(.v (.int .i64)),(.own 1)],.f (.v (.int .i64)),.f (.v .bool),.f (.v .str)]
abbrev rs_Zan:List Fld:=[(.v (.int .i64))]
def E_Zan (k_rec:((List UInt8)×Int×(List (ApiItem))×Unit)→Int→Bool→(List UInt8)→Option Ycq):Env T:=⟨tab.find,cd,globs,flc,fun f ds=>match f with
  | 37=>some S_Zct
  | 72=>some S_Zcc
  | 73=>some ⟨ps_Zan,rs_Zan,fun x=>k_rec x.1 x.2.1 x.2.2.1 x.2.2.2.1⟩
  | 92=>some S_Zam
  | 93=>some S_Zce
  | 94=>some S_Zcr
  | _=>none,fun f=>match f with
  | 37=>true
  | 72=>true
  | 93=>true
  | 94=>true
  | _=>false⟩
def A_Zan (k_rec:((List UInt8)×Int×(List (ApiItem))×Unit)→Int→Bool→(List UInt8)→Option Ycq):Loc2 T:=⟨fun id=>match id with
  | 1=>some ⟨[(0,.ptr [(.v .str),(.v (.int .i64)),(.own 1)]),(1,.f (.v (.int .i64))),(9,.ptr [(.v (.agg 1))]),(11,.f (.v .u64)),(13,.f (.v .bool)),(14,.f (.v .str)),(15,.f (.v .u64))],[(.ret,[(0,.ptr [(.v .str),(.v (.int .i64)),(.own 1)]),(8,.f (.v (.int .i64)))]),(.exit 1,[(0,.ptr [(.v .str),(.v (.int .i64)),(.own 1)])])],Zan_L1 k_rec,[]⟩
  | _=>none,fun r=>match r with
  | 6=>some ([(0,.ptr [(.v .str),(.v (.int .i64)),(.own 1)]),(1,.f (.v (.int .i64))),(2,.f (.v .bool)),(3,.f (.v .str)),(9,.ptr [(.v (.agg 1))]),(11,.f (.v .u64)),(12,.f (.v .bool))],true)
  | 7=>some ([(0,.ptr [(.v .str),(.v (.int .i64)),(.own 1)]),(1,.f (.v (.int .i64))),(2,.f (.v .bool)),(3,.f (.v .str)),(9,.ptr [(.v (.agg 1))]),(11,.f (.v .u64)),(12,.f (.v .bool)),(13,.f (.v .bool))],true)
  | 10=>some ([(0,.ptr [(.v .str),(.v (.int .i64)),(.own 1)]),(1,.f (.v (.int .i64))),(2,.f (.v .bool)),(3,.f (.v .str)),(9,.ptr [(.v (.agg 1))]),(11,.f (.v .u64)),(12,.f (.v .bool)),(13,.f (.v .bool)),(52,.f (.v .bool))],true)
  | 14=>some ([(0,.ptr [(.v .str),(.v (.int .i64)),(.own 1)]),(1,.f (.v (.int .i64))),(2,.f (.v .bool)),(3,.f (.v .str)),(9,.ptr [(.v (.agg 1))]),(11,.f (.v .u64)),(12,.f (.v .bool)),(13,.f (.v .bool)),(63,.f (.v .bool))],true)
  | 16=>some ([(0,.ptr [(.v .str),(.v (.int .i64)),(.own 1)]),(1,.f (.v (.int .i64))),(2,.f (.v .bool)),(3,.f (.v .str)),(9,.ptr [(.v (.agg 1))]),(11,.f (.v .u64)),(12,.f (.v .bool)),(13,.f (.v .bool)),(76,.f (.v .bool))],true)
  | 20=>some ([(0,.ptr [(.v .str),(.v (.int .i64)),(.own 1)]),(1,.f (.v (.int .i64))),(2,.f (.v .bool)),(3,.f (.v .str)),(9,.ptr [(.v (.agg 1))]),(11,.f (.v .u64)),(13,.f (.v .bool))],true)
  | 21=>some ([(0,.ptr [(.v .str),(.v (.int .i64)),(.own 1)]),(1,.f (.v (.int .i64))),(2,.f (.v .bool)),(3,.f (.v .str)),(9,.ptr [(.v (.agg 1))]),(11,.f (.v .u64)),(13,.f (.v .bool)),(129,.f (.v .bool))],true)
  | 23=>some ([(0,.ptr [(.v .str),(.v (.int .i64)),(.own 1)]),(1,.f (.v (.int .i64))),(9,.ptr [(.v (.agg 1))]),(11,.f (.v .u64)),(13,.f (.v .bool)),(141,.f (.v .bool))],true)
  | _=>none,fun r=>match r with
  | 18=>true
  | 24=>true
  | _=>false⟩
theorem Vru (k_rec:((List UInt8)×Int×(List (ApiItem))×Unit)→Int→Bool→(List UInt8)→Option Ycq) (y0:((List UInt8)×Int×(List (ApiItem))×Unit)) (y1:Int) (y2:(ApiItem×Unit)) (y3:(BitVec 64)) (y4:Bool) (y5:(List UInt8)) (y6:(BitVec 64)):run (E_Zan k_rec) (A_Zan k_rec) (loopAt 1 (Tryz.f73.body.getD .skip)) (layC cd [(0,.ptr [(.v .str),(.v (.int .i64)),(.own 1)]),(1,.f (.v (.int .i64))),(9,.ptr [(.v (.agg 1))]),(11,.f (.v .u64)),(13,.f (.v .bool)),(14,.f (.v .str)),(15,.f (.v .u64))] [] (y0,y1,y2,y3,y4,y5,y6,())) (roundK cd [(0,.ptr [(.v .str),(.v (.int .i64)),(.own 1)]),(1,.f (.v (.int .i64))),(9,.ptr [(.v (.agg 1))]),(11,.f (.v .u64)),(13,.f (.v .bool)),(14,.f (.v .str)),(15,.f (.v .u64))] [] [(.ret,[(0,.ptr [(.v .str),(.v (.int .i64)),(.own 1)]),(8,.f (.v (.int .i64)))]),(.exit 1,[(0,.ptr [(.v .str),(.v (.int .i64)),(.own 1)])])])=Zan_L1b k_rec y0 y1 y2 y3 y4 y5 y6:=by kernel_rfl
theorem Vzc (k_rec:((List UInt8)×Int×(List (ApiItem))×Unit)→Int→Bool→(List UInt8)→Option Ycq) (x:tySs T ps_Zan):run (E_Zan k_rec) (A_Zan k_rec) (Tryz.f73.body.getD .skip) (enterT (E_Zan k_rec).C ps_Zan x) (retK (E_Zan k_rec) Tryz.f73.results.toList ps_Zan rs_Zan)=Zan_R k_rec x.1 x.2.1 x.2.2.1 x.2.2.2.1:=by kernel_rfl
def Zan_n:Nat→((List UInt8)×Int×(List (ApiItem))×Unit)→Int→Bool→(List UInt8)→Option Ycq
 | 0=>fun _ _ _ _=>none
 | n+1=>Zan_R (Zan_n n)
def Zan (a0:((List UInt8)×Int×(List (ApiItem))×Unit)) (a1:Int) (a2:Bool) (a3:(List UInt8)):=Zan_n 12 a0 a1 a2 a3
def S_Zan:FSpec T:=⟨ps_Zan,rs_Zan,fun x=>Zan x.1 x.2.1 x.2.2.1 x.2.2.2.1⟩
theorem Vrv (k_rec:((List UInt8)×Int×(List (ApiItem))×Unit)→Int→Bool→(List UInt8)→Option Ycq) (hk:SoundT Tryz.prog cd gdn 73 ⟨ps_Zan,rs_Zan,fun x=>k_rec x.1 x.2.1 x.2.2.1 x.2.2.2.1⟩):EnvOk Tryz.prog (E_Zan k_rec):=envOk (E:=(E_Zan k_rec)) cd_ok tys fl_ok fun f ds S h=>by
  dsimp only [E_Zan] at h
  split at h
  ·cases h; exact Vxw
  ·cases h; exact Vrr
  ·cases h; exact hk
  ·cases h; exact Vxt
  ·cases h; exact Vxq
  ·cases h; exact Vxr
  ·cases h
theorem Vrw (k_rec:((List UInt8)×Int×(List (ApiItem))×Unit)→Int→Bool→(List UInt8)→Option Ycq) (hk:SoundT Tryz.prog cd gdn 73 ⟨ps_Zan,rs_Zan,fun x=>k_rec x.1 x.2.1 x.2.2.1 x.2.2.2.1⟩):LoopOk Tryz.prog (E_Zan k_rec) Tryz.f73.ntmps (kqOf ps_Zan 0) (loopAt 1 (Tryz.f73.body.getD .skip)) ⟨[(0,.ptr [(.v .str),(.v (.int .i64)),(.own 1)]),(1,.f (.v (.int .i64))),(9,.ptr [(.v (.agg 1))]),(11,.f (.v .u64)),(13,.f (.v .bool)),(14,.f (.v .str)),(15,.f (.v .u64))],[(.ret,[(0,.ptr [(.v .str),(.v (.int .i64)),(.own 1)]),(8,.f (.v (.int .i64)))]),(.exit 1,[(0,.ptr [(.v .str),(.v (.int .i64)),(.own 1)])])],Zan_L1 k_rec,[]⟩:=
 Vk8 (A:=(A_Zan k_rec)) (done:=[]) (c0:=(Tryz.f73.body.getD .skip)) hmix (Vrv k_rec hk) Vaa rounds (by kernel_rfl) (by kernel_rfl) (fun x=>Vru k_rec x.1 x.2.1 x.2.2.1 x.2.2.2.1 x.2.2.2.2.1 x.2.2.2.2.2.1 x.2.2.2.2.2.2.1) (fun _=>rfl)
theorem Vna:∀ n:Nat,SoundT Tryz.prog cd gdn 73 ⟨ps_Zan,rs_Zan,fun x=>Zan_n n x.1 x.2.1 x.2.2.1 x.2.2.2.1⟩
 | 0=>Vjs ⟨_,Tryz.func73,by kernel_rfl,by kernel_rfl⟩
 | n+1=>Vhc (E:=E_Zan (Zan_n n)) (A:=A_Zan (Zan_n n)) (done:=[1]) (c:=(Tryz.f73.body.getD .skip)) (S:=⟨ps_Zan,rs_Zan,fun x=>Zan_n (n+1) x.1 x.2.1 x.2.2.1 x.2.2.2.1⟩) (fn:=Tryz.f73) hmix (Vrv _ (Vna n)) Tryz.func73 rfl (by kernel_rfl) (by kernel_rfl) (Vab rfl (Vrw _ (Vna n)) Vaa) (by kernel_rfl) (by kernel_rfl) (Vzc (Zan_n n))
theorem Vbga:SoundT Tryz.prog cd gdn 73 S_Zan:=Vna 12
def c105:List (Ct T):=⟨73,none,S_Zan,false⟩::c104
theorem o105:EnvOk Tryz.prog (mE c105):=eCons Vbga o104
def Zbs (a0:(List (UInt8))):Option ((Unit) × ((List (ApiItem)) × Int × Int × Unit)):=
 ((Zan (a0,(0:Int),[],()) (0:Int) false ([]:List UInt8)).bind fun r1=>(bif (!decide (r1.2.1=(0:Int))) then (some ((),([],(0:Int),r1.2.1,())))
 else (some ((),(r1.1.1.2.2.1,r1.1.1.2.1,(0:Int),())))))
def S_Zbs:FSpec T:=⟨[.f (.v (.rs 0))],[(.own 1),(.v (.int .i64)),(.v (.int .i64))],fun x=>Zbs x.1⟩
theorem Vbha:SoundT Tryz.prog cd gdn 50 S_Zbs:=
 sndC hmix o105 (lcA [] [] []) Tryz.func50 Vaa (by kernel_rfl) (by kernel_rfl) fun x=>by kernel_rfl
def c106:List (Ct T):=⟨50,none,S_Zbs,false⟩::c105
theorem o106:EnvOk Tryz.prog (mE c106):=eCons Vbha o105
abbrev Y_passkeyref1_Skip_L0:=((List (ApiItem))×Int×(BitVec 64)×Unit)
abbrev Z_passkeyref1_Skip_L0:=((Int×Bool×Unit)⊕(Int×Unit))
def passkeyref1_Skip_L0b (y0:(List (ApiItem))) (y1:Int) (y2:(BitVec 64)):Option (Y_passkeyref1_Skip_L0 ⊕ Z_passkeyref1_Skip_L0):=
 (bif (decide ((0#64).toNat < y2.toNat)) then (bif (decide (((y0).length:Int) ≤ y1)) then (some (Qe (Qb ((0:Int),false,()))))
 else ((getI y0 y1).bind fun x1=>(bif (decide (x1.kind=(5:Int))) then (bif (decide ((512#64).toNat < x1.number.toNat)) then (some (Qe (Qb ((0:Int),false,()))))
 else ((bif (decide (x1.kind=(5:Int))) then (some (y0,y1,((y2 - 1#64) + x1.number),(x1,()),()))
 else (some (y0,y1,(y2 - 1#64),(x1,()),()))).bind (fun (j2:((List (ApiItem)) × Int × (BitVec 64) × (ApiItem × Unit) × Unit))=>(bif (decide (j2.2.2.2.1.1.kind=(6:Int))) then (some (Qb (j2.1,(Qa .i64 (j2.2.1 + (1:Int))),(j2.2.2.1 + (2#64 * j2.2.2.2.1.1.number)),())))
 else (some (Qb (j2.1,(Qa .i64 (j2.2.1 + (1:Int))),j2.2.2.1,())))))))
 else (bif (decide (x1.kind=(6:Int))) then (bif (decide ((512#64).toNat < x1.number.toNat)) then (some (Qe (Qb ((0:Int),false,()))))
 else ((bif (decide (x1.kind=(5:Int))) then (some (y0,y1,((y2 - 1#64) + x1.number),(x1,()),()))
 else (some (y0,y1,(y2 - 1#64),(x1,()),()))).bind (fun (j3:((List (ApiItem)) × Int × (BitVec 64) × (ApiItem × Unit) × Unit))=>(bif (decide (j3.2.2.2.1.1.kind=(6:Int))) then (some (Qb (j3.1,(Qa .i64 (j3.2.1 + (1:Int))),(j3.2.2.1 + (2#64 * j3.2.2.2.1.1.number)),())))
 else (some (Qb (j3.1,(Qa .i64 (j3.2.1 + (1:Int))),j3.2.2.1,())))))))
 else ((bif (decide (x1.kind=(5:Int))) then (some (y0,y1,((y2 - 1#64) + x1.number),(x1,()),()))
 else (some (y0,y1,(y2 - 1#64),(x1,()),()))).bind (fun (j4:((List (ApiItem)) × Int × (BitVec 64) × (ApiItem × Unit) × Unit))=>(bif (decide (j4.2.2.2.1.1.kind=(6:Int))) then (some (Qb (j4.1,(Qa .i64 (j4.2.1 + (1:Int))),(j4.2.2.1 + (2#64 * j4.2.2.2.1.1.number)),())))
 else (some (Qb (j4.1,(Qa .i64 (j4.2.1 + (1:Int))),j4.2.2.1,()))))))))))
 else (some (Qe (Qe (y1,())))))
def passkeyref1_Skip_L0 (y:Y_passkeyref1_Skip_L0):Option Z_passkeyref1_Skip_L0:=iter (fun (y:Y_passkeyref1_Skip_L0)=>passkeyref1_Skip_L0b y.1 y.2.1 y.2.2.1) rounds y
def passkeyref1_Skip (a0:(List (ApiItem))) (a1:Int):Option ((Unit) × (Int × Bool × Unit)):=
 (bif (decide (a1 < (0:Int))) then (some ((),((0:Int),false,())))
 else (bif (decide (((a0).length:Int) ≤ a1)) then (some ((),((0:Int),false,())))
 else ((passkeyref1_Skip_L0 (a0,a1,1#64,())).bind (Qk (fun (z5:(Int × Bool × Unit))=>(some ((),(z5.1,z5.2.1,())))) (fun (z6:(Int × Unit))=>(some ((),(z6.1,true,()))))))))
def S_passkeyref1_Skip:FSpec T:=⟨[.f (.v (.rs 1)),.f (.v (.int .i64))],[(.v (.int .i64)),(.v .bool)],fun x=>passkeyref1_Skip x.1 x.2.1⟩
def s_passkeyref1_Skip_L0:LSpec T:=⟨[(0,.f (.v (.rs 1))),(1,.f (.v (.int .i64))),(6,.f (.v .u64))],[(.ret,[(4,.f (.v (.int .i64))),(5,.f (.v .bool))]),(.exit 0,[(1,.f (.v (.int .i64)))])],passkeyref1_Skip_L0,[]⟩
def A_passkeyref1_Skip:Loc2 T:=lcA [(0,s_passkeyref1_Skip_L0)] [(14,[(0,.f (.v (.rs 1))),(1,.f (.v (.int .i64))),(6,.f (.v .u64)),(7,.ptr [(.v (.agg 1))])],true)] []
theorem Vd3:LoopOk Tryz.prog (mE c106) Tryz.f95.ntmps (kqOf S_passkeyref1_Skip.ps 0) (loopAt 0 (bodyOf Tryz.f95)) s_passkeyref1_Skip_L0:=
 lpC hmix o106 A_passkeyref1_Skip Vaa 0 (st:=fun y=>passkeyref1_Skip_L0b y.1 y.2.1 y.2.2.1) (fun _=>rfl) (by kernel_rfl) (by kernel_rfl) fun x=>by kernel_rfl
theorem Ve7:SoundT Tryz.prog cd gdn 95 S_passkeyref1_Skip:=
 sndC hmix o106 A_passkeyref1_Skip Tryz.func95 (Vab rfl Vd3 Vaa) (by kernel_rfl) (by kernel_rfl) fun x=>by kernel_rfl
def c107:List (Ct T):=⟨95,none,S_passkeyref1_Skip,true⟩::c106
theorem o107:EnvOk Tryz.prog (mE c107):=eCons Ve7 o106
abbrev Y_Zbu_L0:=((List (ApiItem))×(BitVec 64)×Int×(BitVec 64)×Unit)
abbrev Z_Zbu_L0:=(((List (ApiItem))×Bool×Unit)⊕(Unit))
def Zbu_L0b (y0:(List (ApiItem))) (y1:(BitVec 64)) (y2:Int) (y3:(BitVec 64)):Option (Y_Zbu_L0 ⊕ Z_Zbu_L0):=
 ((getI y0 (0:Int)).bind fun x3=>(bif (decide (y3.toNat < x3.number.toNat)) then ((passkeyref1_Skip y0 y2).bind fun r4=>((passkeyref1_Skip y0 r4.2.1).bind fun r5=>((getI y0 y2).bind fun x6=>(bif (decide (x6.kind=(1:Int))) then ((getI y0 y2).bind fun x7=>(bif (decide (x7.number=y1)) then (bif (decide ((0:Int) ≤ r5.2.1) && decide (r5.2.1 ≤ ((y0).length:Int))) then (bif (decide ((0:Int) ≤ r4.2.1) && decide (r4.2.1 ≤ ((r5.2.1).toNat:Int))) then (let v8:List (ApiItem):=(Ql (r4.2.1).toNat (List.take (r5.2.1).toNat y0))
 (bif small ((v8).length) 32 then (some (Qe (Qb (v8,true,()))))
 else none))
 else none)
 else none)
 else (some (Qb (y0,y1,r5.2.1,(y3 + 1#64),())))))
 else (some (Qb (y0,y1,r5.2.1,(y3 + 1#64),())))))))
 else (some (Qe (Qe ())))))
def Zbu_L0 (y:Y_Zbu_L0):Option Z_Zbu_L0:=iter (fun (y:Y_Zbu_L0)=>Zbu_L0b y.1 y.2.1 y.2.2.1 y.2.2.2.1) rounds y
def Zbu (a0:(List (ApiItem))) (a1:(BitVec 64)):Option ((Unit) × ((List (ApiItem)) × Bool × Unit)):=
 ((Zaz a0).bind fun r1=>(bif (!decide (r1.2.1=(0:Int))) then (some ((),([],false,())))
 else ((getI a0 (0:Int)).bind fun x2=>(bif (!decide (x2.kind=(6:Int))) then (some ((),([],false,())))
 else ((Zbu_L0 (a0,a1,(1:Int),0#64,())).bind (Qk (fun (z9:((List (ApiItem)) × Bool × Unit))=>(some ((),(z9.1,z9.2.1,())))) (fun (z10:(Unit))=>(some ((),([],false,()))))))))))
def S_Zbu:FSpec T:=⟨[.f (.v (.rs 1)),.f (.v .u64)],[(.own 1),(.v .bool)],fun x=>Zbu x.1 x.2.1⟩
def s_Zbu_L0:LSpec T:=⟨[(0,.f (.v (.rs 1))),(1,.f (.v .u64)),(6,.f (.v (.int .i64))),(7,.f (.v .u64))],[(.ret,[(4,.f (.own 1)),(5,.f (.v .bool))]),(.exit 0,[])],Zbu_L0,[]⟩
def A_Zbu:Loc2 T:=lcA [(0,s_Zbu_L0)] [] []
theorem Vrx:LoopOk Tryz.prog (mE c107) Tryz.f74.ntmps (kqOf S_Zbu.ps 0) (loopAt 0 (bodyOf Tryz.f74)) s_Zbu_L0:=
 lpC hmix o107 A_Zbu Vaa 0 (st:=fun y=>Zbu_L0b y.1 y.2.1 y.2.2.1 y.2.2.2.1) (fun _=>rfl) (by kernel_rfl) (by kernel_rfl) fun x=>by kernel_rfl
theorem Vbia:SoundT Tryz.prog cd gdn 74 S_Zbu:=
 sndC hmix o107 A_Zbu Tryz.func74 (Vab rfl Vrx Vaa) (by kernel_rfl) (by kernel_rfl) fun x=>by kernel_rfl
def c108:List (Ct T):=⟨74,none,S_Zbu,false⟩::c107
theorem o108:EnvOk Tryz.prog (mE c108):=eCons Vbia o107
def Zcp (a0:(List (ApiItem))) (a1:Int):Option ((Unit) × ((BitVec 64) × (List UInt8) × Bool × Unit)):=
 ((Zbu a0 (Qc 64 a1)).bind fun r1=>(bif (!r1.2.2.1) then (some ((),(0#64,([]:List UInt8),false,())))
 else (bif decide ((0:Int) < ((r1.2.1).length:Int)) then (((r1.2.1)[0]?).bind fun x2=>(bif decide ((0:Int) < ((r1.2.1).length:Int)) then (((r1.2.1)[0]?).bind fun x3=>(some ((),(x2.number,x3.data,true,()))))
 else none))
 else none)))
def S_Zcp:FSpec T:=⟨[.f (.v (.rs 1)),.f (.v (.int .i64))],[(.v .u64),(.v .str),(.v .bool)],fun x=>Zcp x.1 x.2.1⟩
theorem Vbja:SoundT Tryz.prog cd gdn 51 S_Zcp:=
 sndC hmix o108 (lcA [] [] []) Tryz.func51 Vaa (by kernel_rfl) (by kernel_rfl) fun x=>by kernel_rfl
def c109:List (Ct T):=⟨51,none,S_Zcp,true⟩::c108
theorem o109:EnvOk Tryz.prog (mE c109):=eCons Vbja o108
abbrev Y_Zbh_L0:=((List (ApiItem))×(List (List UInt8))×Int×Unit)
abbrev Z_Zbh_L0:=((List (List UInt8))×Unit)
def Zbh_L0b (y0:(List (ApiItem))) (y1:(List (List UInt8))) (y2:Int):Option (Y_Zbh_L0 ⊕ Z_Zbh_L0):=
 (bif (decide (y2 < ((y0).length:Int))) then (bif (decide ((0:Int) ≤ y2) && decide (y2 < ((y0).length:Int))) then (((y0)[(y2).toNat]?).bind fun x2=>(bif small ((y1).length + (([x2.data]:List (List UInt8)):List (List UInt8)).length) 24 then (some (Qb (y0,(y1 ++ ([x2.data]:List (List UInt8))),(Qa .i64 (y2 + (1:Int))),())))
 else none))
 else none)
 else (some (Qe (y1,()))))
def Zbh_L0 (y:Y_Zbh_L0):Option Z_Zbh_L0:=iter (fun (y:Y_Zbh_L0)=>Zbh_L0b y.1 y.2.1 y.2.2.1) rounds y
def Zbh (a0:(List (ApiItem))) (a1:Int):Option ((Unit) × ((List (List UInt8)) × Unit)):=
 ((Zbu a0 (Qc 64 a1)).bind fun r1=>((Zbh_L0 (r1.2.1,[],(1:Int),())).bind (fun (z3:((List (List UInt8)) × Unit))=>(some ((),(z3.1,()))))))
def S_Zbh:FSpec T:=⟨[.f (.v (.rs 1)),.f (.v (.int .i64))],[(.own 2)],fun x=>Zbh x.1 x.2.1⟩
def s_Zbh_L0:LSpec T:=⟨[(5,.f (.own 1)),(7,.f (.own 2)),(8,.f (.v (.int .i64)))],[(.exit 0,[(7,.f (.own 2))])],Zbh_L0,[]⟩
def A_Zbh:Loc2 T:=lcA [(0,s_Zbh_L0)] [] []
theorem Vry:LoopOk Tryz.prog (mE c109) Tryz.f52.ntmps (kqOf S_Zbh.ps 0) (loopAt 0 (bodyOf Tryz.f52)) s_Zbh_L0:=
 lpC hmix o109 A_Zbh Vaa 0 (st:=fun y=>Zbh_L0b y.1 y.2.1 y.2.2.1) (fun _=>rfl) (by kernel_rfl) (by kernel_rfl) fun x=>by kernel_rfl
theorem Vbka:SoundT Tryz.prog cd gdn 52 S_Zbh:=
 sndC hmix o109 A_Zbh Tryz.func52 (Vab rfl Vry Vaa) (by kernel_rfl) (by kernel_rfl) fun x=>by kernel_rfl
def c110:List (Ct T):=⟨52,none,S_Zbh,false⟩::c109
theorem o110:EnvOk Tryz.prog (mE c110):=eCons Vbka o109
def Zbr (a0:(BitVec 64)):Option ((Unit) × (Int × Unit)):=
 (let v1:BitVec 64:=(bif decide ((1048576#64).toNat < (a0).toNat) then 1048576#64 else a0)
 (some ((),((Qa .i64 (v1.toNat:Int)),()))))
def S_Zbr:FSpec T:=⟨[.f (.v .u64)],[(.v (.int .i64))],fun x=>Zbr x.1⟩
theorem Vbla:SoundT Tryz.prog cd gdn 53 S_Zbr:=
 sndC hmix o110 (lcA [] [] []) Tryz.func53 Vaa (by kernel_rfl) (by kernel_rfl) fun x=>by kernel_rfl
def c111:List (Ct T):=⟨53,none,S_Zbr,true⟩::c110
theorem o111:EnvOk Tryz.prog (mE c111):=eCons Vbla o110
abbrev Y_Zay_L0:=((List (ApiItem))×(List (ApiEntry))×Int×Unit)
abbrev Z_Zay_L0:=((List (ApiEntry))×Unit)
def Zay_L0b (y0:(List (ApiItem))) (y1:(List (ApiEntry))) (y2:Int):Option (Y_Zay_L0 ⊕ Z_Zay_L0):=
 (bif (decide ((Qa .i64 (y2 + (11:Int))) ≤ ((y0).length:Int))) then (bif (decide ((0:Int) ≤ (Qa .i64 (y2 + (2:Int)))) && decide ((Qa .i64 (y2 + (2:Int))) < ((y0).length:Int))) then (((y0)[((Qa .i64 (y2 + (2:Int)))).toNat]?).bind fun x2=>(bif (decide ((0:Int) ≤ (Qa .i64 (y2 + (4:Int)))) && decide ((Qa .i64 (y2 + (4:Int))) < ((y0).length:Int))) then (((y0)[((Qa .i64 (y2 + (4:Int)))).toNat]?).bind fun x3=>(bif (decide ((0:Int) ≤ (Qa .i64 (y2 + (6:Int)))) && decide ((Qa .i64 (y2 + (6:Int))) < ((y0).length:Int))) then (((y0)[((Qa .i64 (y2 + (6:Int)))).toNat]?).bind fun x4=>(bif (decide ((0:Int) ≤ (Qa .i64 (y2 + (8:Int)))) && decide ((Qa .i64 (y2 + (8:Int))) < ((y0).length:Int))) then (((y0)[((Qa .i64 (y2 + (8:Int)))).toNat]?).bind fun x5=>(bif (decide ((0:Int) ≤ (Qa .i64 (y2 + (10:Int)))) && decide ((Qa .i64 (y2 + (10:Int))) < ((y0).length:Int))) then (((y0)[((Qa .i64 (y2 + (10:Int)))).toNat]?).bind fun x6=>((Zbr x6.number).bind fun r7=>(let v8:List (ApiEntry):=([(⟨x2.data,x3.data,x4.data,x5.data,r7.2.1⟩:ApiEntry)]:List (ApiEntry))
 (bif small ((y1).length + (v8:List (ApiEntry)).length) 80 then (some (Qb (y0,(y1 ++ v8),(Qa .i64 (y2 + (11:Int))),())))
 else none))))
 else none))
 else none))
 else none))
 else none))
 else none)
 else (some (Qe (y1,()))))
def Zay_L0 (y:Y_Zay_L0):Option Z_Zay_L0:=iter (fun (y:Y_Zay_L0)=>Zay_L0b y.1 y.2.1 y.2.2.1) rounds y
def Zay (a0:(List (ApiItem))):Option ((Unit) × ((List (ApiEntry)) × Unit)):=
 ((Zbu a0 (17#64)).bind fun r1=>((Zay_L0 (r1.2.1,[],(1:Int),())).bind (fun (z9:((List (ApiEntry)) × Unit))=>(some ((),(z9.1,()))))))
def S_Zay:FSpec T:=⟨[.f (.v (.rs 1))],[(.own 11)],fun x=>Zay x.1⟩
def s_Zay_L0:LSpec T:=⟨[(3,.f (.own 1)),(5,.f (.own 11)),(6,.f (.v (.int .i64)))],[(.exit 0,[(5,.f (.own 11))])],Zay_L0,[]⟩
def A_Zay:Loc2 T:=lcA [(0,s_Zay_L0)] [] [6]
theorem Vrz:LoopOk Tryz.prog (mE c111) Tryz.f54.ntmps (kqOf S_Zay.ps 0) (loopAt 0 (bodyOf Tryz.f54)) s_Zay_L0:=
 lpC hmix o111 A_Zay Vaa 0 (st:=fun y=>Zay_L0b y.1 y.2.1 y.2.2.1) (fun _=>rfl) (by kernel_rfl) (by kernel_rfl) fun x=>by kernel_rfl
theorem Vbma:SoundT Tryz.prog cd gdn 54 S_Zay:=
 sndC hmix o111 A_Zay Tryz.func54 (Vab rfl Vrz Vaa) (by kernel_rfl) (by kernel_rfl) fun x=>by kernel_rfl
def c112:List (Ct T):=⟨54,none,S_Zay,false⟩::c111
theorem o112:EnvOk Tryz.prog (mE c112):=eCons Vbma o111
abbrev Y_Zah_L1:=((List (UInt8))×(ApiReply×Unit)×(List (ApiItem))×(List (BitVec 64))×(List (List UInt8))×Int×Unit)
abbrev Z_Zah_L1:=((List (UInt8))×(ApiReply×Unit)×(List (ApiItem))×(List (BitVec 64))×(List (List UInt8))×Unit)
def Zah_L1b (y0:(List (UInt8))) (y1:(ApiReply × Unit)) (y2:(List (ApiItem))) (y3:(List (BitVec 64))) (y4:(List (List UInt8))) (y5:Int):Option (Y_Zah_L1 ⊕ Z_Zah_L1):=
 (bif (decide (y5 < (18:Int))) then ((Zcp y2 y5).bind fun r6=>(bif (decide ((0:Int) ≤ y5) && decide (y5 < (18:Int))) then (((y3)[(y5).toNat]?).bind fun x7=>(bif (decide ((0:Int) ≤ y5) && decide (y5 < (18:Int))) then (((y4)[(y5).toNat]?).bind fun x8=>(some (Qb (y0,(y1.1,()),y2,(Qm y3 (y5).toNat r6.2.1),(Qm y4 (y5).toNat r6.2.2.1),(Qa .i64 (y5 + (1:Int))),()))))
 else none))
 else none))
 else (some (Qe (y0,(y1.1,()),y2,y3,y4,()))))
def Zah_L1 (y:Y_Zah_L1):Option Z_Zah_L1:=iter (fun (y:Y_Zah_L1)=>Zah_L1b y.1 y.2.1 y.2.2.1 y.2.2.2.1 y.2.2.2.2.1 y.2.2.2.2.2.1) rounds y
def Zah (a0:(List (UInt8))):Option ((Unit) × (ApiReply × Int × Unit)):=
 (bif (decide (((a0).length:Int)=(0:Int))) then (some ((),((⟨(0:Int),[],[],[],(0:Int),[],([]:List UInt8),([]:List UInt8),(0:Int),0#64,[],0#64,(0:Int),(0:Int),(0:Int),false,false,[]⟩:ApiReply),(1:Int),())))
 else (bif (decide ((4096:Int) < ((a0).length:Int))) then (some ((),((⟨(0:Int),[],[],[],(0:Int),[],([]:List UInt8),([]:List UInt8),(0:Int),0#64,[],0#64,(0:Int),(0:Int),(0:Int),false,false,[]⟩:ApiReply),(8:Int),())))
 else ((getI a0 (0:Int)).bind fun x1=>(bif (decide ((42:Int) < (x1.toBitVec.toNat:Int))) then (some ((),((⟨(0:Int),[],[],[],(0:Int),[],([]:List UInt8),([]:List UInt8),(0:Int),0#64,[],0#64,(0:Int),(0:Int),(0:Int),false,false,[]⟩:ApiReply),(2:Int),())))
 else ((getI a0 (0:Int)).bind fun x2=>(bif (decide ((0:UInt8).toBitVec.toNat < x2.toBitVec.toNat)) then (bif (decide ((1:Int) < ((a0).length:Int))) then (some ((),((⟨(0:Int),[],[],[],(0:Int),[],([]:List UInt8),([]:List UInt8),(0:Int),0#64,[],0#64,(0:Int),(0:Int),(0:Int),false,false,[]⟩:ApiReply),(2:Int),())))
 else ((getI a0 (0:Int)).bind fun x3=>(bif (decide ((0:UInt8).toBitVec.toNat < x3.toBitVec.toNat)) then ((getI a0 (0:Int)).bind fun x4=>(some ((),((⟨(x4.toBitVec.toNat:Int),[],[],[],(0:Int),[],([]:List UInt8),([]:List UInt8),(0:Int),0#64,[],0#64,(0:Int),(0:Int),(0:Int),false,false,[]⟩:ApiReply),(0:Int),()))))
 else (bif decide ((1:Int) ≤ ((a0).length:Int)) then ((Zbs (Ql 1 a0)).bind fun r5=>(bif (!decide (r5.2.2.2.1=(0:Int))) then (some ((),((⟨(0:Int),[],[],[],(0:Int),[],([]:List UInt8),([]:List UInt8),(0:Int),0#64,[],0#64,(0:Int),(0:Int),(0:Int),false,false,[]⟩:ApiReply),r5.2.2.2.1,())))
 else ((Zah_L1 (a0,((⟨(0:Int),[],[],[],(0:Int),[],([]:List UInt8),([]:List UInt8),(0:Int),0#64,[],0#64,(0:Int),(0:Int),(0:Int),false,false,[]⟩:ApiReply),()),r5.2.1,([0#64,0#64,0#64,0#64,0#64,0#64,0#64,0#64,0#64,0#64,0#64,0#64,0#64,0#64,0#64,0#64,0#64,0#64]:List (BitVec 64)),([([]:List UInt8),([]:List UInt8),([]:List UInt8),([]:List UInt8),([]:List UInt8),([]:List UInt8),([]:List UInt8),([]:List UInt8),([]:List UInt8),([]:List UInt8),([]:List UInt8),([]:List UInt8),([]:List UInt8),([]:List UInt8),([]:List UInt8),([]:List UInt8),([]:List UInt8),([]:List UInt8)]:List (List UInt8)),(1:Int),())).bind (fun (z9:((List (UInt8)) × (ApiReply × Unit) × (List (ApiItem)) × (List (BitVec 64)) × (List (List UInt8)) × Unit))=>(((z9.2.2.2.2.1)[1]?).bind fun x10=>(((z9.2.2.2.2.1)[2]?).bind fun x11=>((Zbh z9.2.2.1 (3:Int)).bind fun r12=>(((z9.2.2.2.1)[4]?).bind fun x13=>((Zbr x13).bind fun r14=>(((z9.2.2.2.2.1)[5]?).bind fun x15=>(((z9.2.2.2.2.1)[6]?).bind fun x16=>(((z9.2.2.2.2.1)[7]?).bind fun x17=>(((z9.2.2.2.1)[8]?).bind fun x18=>((Zbr x18).bind fun r19=>(((z9.2.2.2.1)[9]?).bind fun x20=>(((z9.2.2.2.2.1)[10]?).bind fun x21=>(((z9.2.2.2.1)[11]?).bind fun x22=>(((z9.2.2.2.1)[12]?).bind fun x23=>((Zbr x23).bind fun r24=>(((z9.2.2.2.1)[13]?).bind fun x25=>((Zbr x25).bind fun r26=>(((z9.2.2.2.1)[14]?).bind fun x27=>((Zbr x27).bind fun r28=>(((z9.2.2.2.1)[15]?).bind fun x29=>(((z9.2.2.2.1)[16]?).bind fun x30=>((Zay z9.2.2.1).bind fun r31=>((Zai (⟨(0:Int),x10,x11,r12.2.1,r14.2.1,x15,x16,x17,r19.2.1,x20,x21,x22,r24.2.1,r26.2.1,r28.2.1,(decide (x29=1#64)),(decide (x30=1#64)),r31.2.1⟩:ApiReply)).bind fun r32=>(bif (!decide (r32.2.2.1=(0:Int))) then (some ((),((⟨(0:Int),[],[],[],(0:Int),[],([]:List UInt8),([]:List UInt8),(0:Int),0#64,[],0#64,(0:Int),(0:Int),(0:Int),false,false,[]⟩:ApiReply),(2:Int),())))
 else (bif (!decide (r32.2.1=z9.1)) then (some ((),((⟨(0:Int),[],[],[],(0:Int),[],([]:List UInt8),([]:List UInt8),(0:Int),0#64,[],0#64,(0:Int),(0:Int),(0:Int),false,false,[]⟩:ApiReply),(2:Int),())))
 else (some ((),((⟨(0:Int),x10,x11,r12.2.1,r14.2.1,x15,x16,x17,r19.2.1,x20,x21,x22,r24.2.1,r26.2.1,r28.2.1,(decide (x29=1#64)),(decide (x30=1#64)),r31.2.1⟩:ApiReply),(0:Int),()))))))))))))))))))))))))))))))))
 else none))))
 else ((getI a0 (0:Int)).bind fun x33=>(bif (decide ((0:UInt8).toBitVec.toNat < x33.toBitVec.toNat)) then ((getI a0 (0:Int)).bind fun x34=>(some ((),((⟨(x34.toBitVec.toNat:Int),[],[],[],(0:Int),[],([]:List UInt8),([]:List UInt8),(0:Int),0#64,[],0#64,(0:Int),(0:Int),(0:Int),false,false,[]⟩:ApiReply),(0:Int),()))))
 else (bif decide ((1:Int) ≤ ((a0).length:Int)) then ((Zbs (Ql 1 a0)).bind fun r35=>(bif (!decide (r35.2.2.2.1=(0:Int))) then (some ((),((⟨(0:Int),[],[],[],(0:Int),[],([]:List UInt8),([]:List UInt8),(0:Int),0#64,[],0#64,(0:Int),(0:Int),(0:Int),false,false,[]⟩:ApiReply),r35.2.2.2.1,())))
 else ((Zah_L1 (a0,((⟨(0:Int),[],[],[],(0:Int),[],([]:List UInt8),([]:List UInt8),(0:Int),0#64,[],0#64,(0:Int),(0:Int),(0:Int),false,false,[]⟩:ApiReply),()),r35.2.1,([0#64,0#64,0#64,0#64,0#64,0#64,0#64,0#64,0#64,0#64,0#64,0#64,0#64,0#64,0#64,0#64,0#64,0#64]:List (BitVec 64)),([([]:List UInt8),([]:List UInt8),([]:List UInt8),([]:List UInt8),([]:List UInt8),([]:List UInt8),([]:List UInt8),([]:List UInt8),([]:List UInt8),([]:List UInt8),([]:List UInt8),([]:List UInt8),([]:List UInt8),([]:List UInt8),([]:List UInt8),([]:List UInt8),([]:List UInt8),([]:List UInt8)]:List (List UInt8)),(1:Int),())).bind (fun (z36:((List (UInt8)) × (ApiReply × Unit) × (List (ApiItem)) × (List (BitVec 64)) × (List (List UInt8)) × Unit))=>(((z36.2.2.2.2.1)[1]?).bind fun x37=>(((z36.2.2.2.2.1)[2]?).bind fun x38=>((Zbh z36.2.2.1 (3:Int)).bind fun r39=>(((z36.2.2.2.1)[4]?).bind fun x40=>((Zbr x40).bind fun r41=>(((z36.2.2.2.2.1)[5]?).bind fun x42=>(((z36.2.2.2.2.1)[6]?).bind fun x43=>(((z36.2.2.2.2.1)[7]?).bind fun x44=>(((z36.2.2.2.1)[8]?).bind fun x45=>((Zbr x45).bind fun r46=>(((z36.2.2.2.1)[9]?).bind fun x47=>(((z36.2.2.2.2.1)[10]?).bind fun x48=>(((z36.2.2.2.1)[11]?).bind fun x49=>(((z36.2.2.2.1)[12]?).bind fun x50=>((Zbr x50).bind fun r51=>(((z36.2.2.2.1)[13]?).bind fun x52=>((Zbr x52).bind fun r53=>(((z36.2.2.2.1)[14]?).bind fun x54=>((Zbr x54).bind fun r55=>(((z36.2.2.2.1)[15]?).bind fun x56=>(((z36.2.2.2.1)[16]?).bind fun x57=>((Zay z36.2.2.1).bind fun r58=>((Zai (⟨(0:Int),x37,x38,r39.2.1,r41.2.1,x42,x43,x44,r46.2.1,x47,x48,x49,r51.2.1,r53.2.1,r55.2.1,(decide (x56=1#64)),(decide (x57=1#64)),r58.2.1⟩:ApiReply)).bind fun r59=>(bif (!decide (r59.2.2.1=(0:Int))) then (some ((),((⟨(0:Int),[],[],[],(0:Int),[],([]:List UInt8),([]:List UInt8),(0:Int),0#64,[],0#64,(0:Int),(0:Int),(0:Int),false,false,[]⟩:ApiReply),(2:Int),())))
 else (bif (!decide (r59.2.1=z36.1)) then (some ((),((⟨(0:Int),[],[],[],(0:Int),[],([]:List UInt8),([]:List UInt8),(0:Int),0#64,[],0#64,(0:Int),(0:Int),(0:Int),false,false,[]⟩:ApiReply),(2:Int),())))
 else (some ((),((⟨(0:Int),x37,x38,r39.2.1,r41.2.1,x42,x43,x44,r46.2.1,x47,x48,x49,r51.2.1,r53.2.1,r55.2.1,(decide (x56=1#64)),(decide (x57=1#64)),r58.2.1⟩:ApiReply),(0:Int),()))))))))))))))))))))))))))))))))
 else none)))))))))
def S_Zah:FSpec T:=⟨[.f (.v (.rs 0))],[(.v (.agg 12)),(.v (.int .i64))],fun x=>Zah x.1⟩
def s_Zah_L1:LSpec T:=⟨[(0,.f (.v (.rs 0))),(2,.ptr [(.v (.agg 12))]),(4,.f (.own 1)),(7,.lar 10),(8,.lar 14),(9,.f (.v (.int .i64)))],[(.exit 1,[(0,.f (.v (.rs 0))),(2,.ptr [(.v (.agg 12))]),(4,.f (.own 1)),(7,.lar 10),(8,.lar 14)])],Zah_L1,[]⟩
def A_Zah:Loc2 T:=lcA [(1,s_Zah_L1)] [] [18]
theorem Vr0:LoopOk Tryz.prog (mE c112) Tryz.f23.ntmps (kqOf S_Zah.ps 0) (loopAt 1 (bodyOf Tryz.f23)) s_Zah_L1:=
 lpC hmix o112 A_Zah Vaa 1 (st:=fun y=>Zah_L1b y.1 y.2.1 y.2.2.1 y.2.2.2.1 y.2.2.2.2.1 y.2.2.2.2.2.1) (fun _=>rfl) (by kernel_rfl) (by kernel_rfl) fun x=>by kernel_rfl
theorem Vbna:SoundT Tryz.prog cd gdn 23 S_Zah:=
 sndC hmix o112 A_Zah Tryz.func23 (Vab rfl Vr0 Vaa) (by kernel_rfl) (by kernel_rfl) fun x=>by kernel_rfl
def c113:List (Ct T):=⟨23,none,S_Zah,false⟩::c112
theorem o113:EnvOk Tryz.prog (mE c113):=eCons Vbna o112
def Zaw (a0:(List (UInt8))):Option ((Unit) × (Bool × Unit)):=
 ((Zba a0).bind fun r1=>((Zah a0).bind fun r2=>(bif (decide (r1.2.2.1=r2.2.2.1)) then ((Zap r1.2.1 r2.2.1).bind fun r3=>(some ((),(r3.2.1,()))))
 else (some ((),(false,()))))))
def S_Zaw:FSpec T:=⟨[.f (.v (.rs 0))],[(.v .bool)],fun x=>Zaw x.1⟩
theorem Vboa:SoundT Tryz.prog cd gdn 9 S_Zaw:=
 sndC hmix o113 (lcA [] [] []) Tryz.func9 Vaa (by kernel_rfl) (by kernel_rfl) fun x=>by kernel_rfl
def c114:List (Ct T):=⟨9,none,S_Zaw,true⟩::c113
theorem o114:EnvOk Tryz.prog (mE c114):=eCons Vboa o113
def Zae (a0:(List (UInt8))) (a1:Int) (a2:Int) (a3:Int) (a4:UInt8):Option ((Unit) × (Bool × Unit)):=
 (bif (decide ((600:Int) < ((a0).length:Int))) then ((Zbp).bind fun r1=>(some ((),(r1.2.1,()))))
 else (let v2:Int:=(Qa .i64 ((Qc (Qd .i64) a1 &&& Qc (Qd .i64) (16777215:Int)).toNat:Int))
 (let v3:Int:=(Qa .i64 ((Qc (Qd .i64) a2 &&& Qc (Qd .i64) (1048575:Int)).toNat:Int))
 ((Zbq v2 v3).bind fun r4=>((Zai r4.2.1).bind fun r5=>((bif (decide ((0:Int) < ((r5.2.1).length:Int))) then (let v6:Int:=(Qa .i64 ((Qc (Qd .i64) a3 &&& Qc (Qd .i64) (65535:Int)).toNat:Int))
 (bif decide (((r5.2.1).length:Int)=0) then none
 else (bif (decide ((0:Int) ≤ (Qi v6 ((r5.2.1).length:Int))) && decide ((Qi v6 ((r5.2.1).length:Int)) < ((r5.2.1).length:Int))) then (((r5.2.1)[((Qi v6 ((r5.2.1).length:Int))).toNat]?).bind fun x7=>(bif (decide ((0:Int) ≤ (Qi v6 ((r5.2.1).length:Int))) && decide ((Qi v6 ((r5.2.1).length:Int)) < ((r5.2.1).length:Int))) then (((r5.2.1)[((Qi v6 ((r5.2.1).length:Int))).toNat]?).bind fun x8=>(let v9:List (UInt8):=(Qm r5.2.1 ((Qi v6 ((r5.2.1).length:Int))).toNat (Qf (x7.toBitVec ^^^ a4.toBitVec)))
 (some (a0,a4,v9,()))))
 else none))
 else none)))
 else (some (a0,a4,r5.2.1,()))).bind (fun (j10:((List (UInt8)) × UInt8 × (List (UInt8)) × Unit))=>((Zaw j10.1).bind fun r11=>(bif r11.2.1 then ((Zaw j10.2.2.1).bind fun r12=>(bif r12.2.1 then (bif small ((j10.2.2.1).length + (([j10.2.1]:List (UInt8)):List (UInt8)).length) 1 then (let v13:List (UInt8):=(j10.2.2.1 ++ ([j10.2.1]:List (UInt8)))
 ((Zaw v13).bind fun r14=>(bif r14.2.1 then ((Zaw ([j10.2.1]:List (UInt8))).bind fun r15=>(bif r15.2.1 then ((Zbp).bind fun r16=>(some ((),(r16.2.1,()))))
 else (some ((),(false,())))))
 else (some ((),(false,()))))))
 else none)
 else (some ((),(false,())))))
 else (some ((),(false,()))))))))))))
def S_Zae:FSpec T:=⟨[.f (.v (.rs 0)),.f (.v (.int .i64)),.f (.v (.int .i64)),.f (.v (.int .i64)),.f (.v .u8)],[(.v .bool)],fun x=>Zae x.1 x.2.1 x.2.2.1 x.2.2.2.1 x.2.2.2.2.1⟩
theorem Vbpa:SoundT Tryz.prog cd gdn 4 S_Zae:=
 sndC hmix o114 (lcA [] [(6,[(0,.f (.v (.rs 0))),(4,.f (.v .u8)),(11,.f (.own 0))],true)] []) Tryz.func4 Vaa (by kernel_rfl) (by kernel_rfl) fun x=>by kernel_rfl
def MessageAnswers_dom (a0:(List (UInt8))) (a1:Int) (a2:Int) (a3:Int) (a4:UInt8):Prop:=ArgD cd [(.rs 0),(.int .i64),(.int .i64),(.int .i64),.u8] (a0,a1,a2,a3,a4,())
end Go.Proofs.YthoblablopmhfaaGreatDoor
