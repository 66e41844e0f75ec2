/- cbor: items read from bytes. No condition. -/
import Derived.Test.YtjedfmknnkimmaaDoorCborE
set_option linter.unusedVariables false
set_option linter.unusedSimpArgs false
set_option maxRecDepth 100000
namespace Go.Proofs.YtjedfmknnkimmaaDoor
open Go Go.Abs
def bev : BitVec 64 → List UInt8 → BitVec 64
  | n, [] => n
  | n, c :: r => bev ((n <<< 8) ||| (BitVec.setWidth 64 c.toBitVec)) r
def sho (n : BitVec 64) : Nat := bif decide (n.toNat < 24) then 0 else bif decide (n.toNat < 256) then 1 else bif decide (n.toNat < 65536) then 2 else bif decide (n.toNat < 4294967296) then 4 else 8
def isB (c : UInt8) : Bool := decide (c = 244) || decide (c = 245)
def hdB : List UInt8 → Int × Int × BitVec 64 × List UInt8
  | [] => (1, 0, 0#64, [])
  | c :: r => bif isB c then (0, 7, BitVec.ofNat 64 (c.toNat - 244), r) else bif decide (c = 246) then (0, 8, 0#64, r) else bif decide (5 < c.toNat / 32) || decide (27 < c.toNat % 32) then (2, 0, 0#64, []) else bif decide (c.toNat % 32 < 24) then (0, ((c.toNat / 32 : Nat) : Int) + 1, BitVec.ofNat 64 (c.toNat % 32), r) else bif decide (r.length < 2 ^ (c.toNat % 32 - 24)) then (1, 0, 0#64, []) else bif decide (sho (bev 0#64 (r.take (2 ^ (c.toNat % 32 - 24)))) < 2 ^ (c.toNat % 32 - 24)) then (2, 0, 0#64, []) else (0, ((c.toNat / 32 : Nat) : Int) + 1, bev 0#64 (r.take (2 ^ (c.toNat % 32 - 24))), r.drop (2 ^ (c.toNat % 32 - 24)))
def hdc (n : BitVec 64) : UInt8 := bif decide (n.toNat < 24) then byt n else bif decide (n.toNat < 256) then 24 else bif decide (n.toNat < 65536) then 25 else bif decide (n.toNat < 4294967296) then 26 else 27
end Go.Proofs.YtjedfmknnkimmaaDoor
