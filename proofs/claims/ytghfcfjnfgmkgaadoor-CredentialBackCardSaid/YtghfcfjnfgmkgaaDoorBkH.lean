/- Out of the texts of the other seat of this chapter: what the law CredentialBack needs. Written by a program. -/
import Derived.Test.YtghfcfjnfgmkgaaDoorFns
import Derived.Test.YtghfcfjnfgmkgaaDoorLib8
set_option linter.unusedVariables false
set_option linter.unusedSimpArgs false
set_option maxRecDepth 100000
namespace Go.Proofs.YtghfcfjnfgmkgaaDoor
open Go Go.Abs
namespace Sip
def rot (x:BitVec 64) (n:Nat):BitVec 64:=(x <<< n) ||| (x >>> (64 - n))
def sr (v:DigestState):DigestState:=
  ⟨rot (v.v0 + v.v1) 32 + (rot v.v3 16 ^^^ (v.v2 + v.v3)),rot (rot v.v1 13 ^^^ (v.v0 + v.v1)) 17 ^^^ ((v.v2 + v.v3) + (rot v.v1 13 ^^^ (v.v0 + v.v1))),rot ((v.v2 + v.v3) + (rot v.v1 13 ^^^ (v.v0 + v.v1))) 32,
    rot (rot v.v3 16 ^^^ (v.v2 + v.v3)) 21 ^^^ (rot (v.v0 + v.v1) 32 + (rot v.v3 16 ^^^ (v.v2 + v.v3)))⟩
theorem rounds2 (s:DigestState):Zal (s,()) 2=some (((sr (sr s),()),()),()):=by kernel_rfl
theorem rounds4 (s:DigestState):Zal (s,()) 4=some (((sr (sr (sr (sr s))),()),()),()):=by kernel_rfl
def ab (s:DigestState) (m:BitVec 64):DigestState:=
  let t:=sr (sr ⟨s.v0,s.v1,s.v2,s.v3 ^^^ m⟩)
  ⟨t.v0 ^^^ m,t.v1,t.v2,t.v3⟩
theorem absorb_ok (s:DigestState) (m:BitVec 64):Zak (s,()) m=some (((ab s m,()),()),()):=by
  unfold Zak
  rw [rounds2]
  rfl
def W (c:UInt8):BitVec 64:=BitVec.setWidth 64 c.toBitVec
def litk:List UInt8 → Nat → BitVec 64
  | [],_=>0#64
  | c :: r,k=>(W c <<< (8 * k)) ||| litk r (k + 1)
theorem little_ok (l:List UInt8) (hl:l.length < 1000000000):Zbt l=some ((),litk l 0,()):=by
  unfold Zbt Zbt_L0
  rw [iter_fun (fun s=>s.2.1=l ∧ s.2.2.1=(l.length:Int) ∧ 0 ≤ s.2.2.2.1 ∧ s.2.2.2.1 ≤ (l.length:Int)) (fun s=>((l.length:Int) - s.2.2.2.1).toNat) (fun s=>(s.1 ||| litk (s.2.1.drop s.2.2.2.1.toNat) s.2.2.2.1.toNat,()))]
  · simp
  · rintro ⟨m,y1,n,i,u⟩ ⟨h1,h2,h3,h4⟩
    dsimp only at *
    subst h1; subst h2
    simp only [Zbt_L0b]
    by_cases hc:i < y1.length
    · left
      have e:y1.drop i.toNat=ati y1 i :: y1.drop (i.toNat + 1):=by
        have:i.toNat < y1.length:=by omega
        rw [List.drop_eq_getElem_cons this]
        simp [ati,this]
      rw [getI_some h3 hc,wrap_id (n:=8 * i) (by omega) (by omega),wrap_id (n:=i + 1) (by omega) (by omega)]
      simp only [hc,decide_true,cond_true,Option.bind_some,show (0:Int) ≤ 8 * i by omega]
      refine ⟨_,rfl,⟨rfl,rfl,by dsimp only; omega,by dsimp only; omega⟩,by dsimp only; omega,?_⟩
      dsimp only
      rw [e,show (i + 1).toNat=i.toNat + 1 by omega]
      simp only [litk,W,show (8 * i).toNat=8 * i.toNat by omega,BitVec.or_assoc]
    · right
      have:i=y1.length:=by omega
      simp only [hc,decide_false,cond_false]
      simp [this,litk]
  · exact ⟨rfl,rfl,by simp,by simp⟩
  · rw [rounds_eq]; dsimp only; omega
def blocks:Nat → List UInt8 → DigestState → DigestState
  | 0,_,s=>s
  | k + 1,d,s=>blocks k (d.drop 8) (ab s (litk (d.take 8) 0))
def fin4 (s:DigestState):BitVec 64:=
  let t:=sr (sr (sr (sr ⟨s.v0,s.v1,s.v2 ^^^ 255#64,s.v3⟩)))
  ((t.v0 ^^^ t.v1) ^^^ t.v2) ^^^ t.v3
def lastW (d:List UInt8) (n:Nat):BitVec 64:=litk d 0 ||| ((BitVec.ofInt 64 (n:Int)) <<< 56)
def s0 (k0 k1:BitVec 64):DigestState:=⟨k0 ^^^ 8317987319222330741#64,k1 ^^^ 7237128888997146477#64,k0 ^^^ 7816392313619706465#64,k1 ^^^ 8387220255154660723#64⟩
def sip (k0 k1:BitVec 64) (b:List UInt8):BitVec 64:=fin4 (ab (blocks (b.length / 8) b (s0 k0 k1)) (lastW (b.drop (8 * (b.length / 8))) b.length))
theorem sum_L0 (b:List UInt8) (s:DigestState) (hl:b.length < 1000000000) (n:Int) (hn:n=(b.length / 8:Nat)) :
    Zcm_L0 (b,(s,()),n,n,0,())=some (b,(blocks (b.length / 8) b s,()),n,()):=by
  unfold Zcm_L0
  rw [iter_fun (fun q=>q.1=b ∧ q.2.2.1=n ∧ q.2.2.2.1=n ∧ 0 ≤ q.2.2.2.2.1 ∧ q.2.2.2.2.1 ≤ n) (fun q=>(n - q.2.2.2.2.1).toNat) (fun q=>(q.1,(blocks (n - q.2.2.2.2.1).toNat (q.1.drop (8 * q.2.2.2.2.1.toNat)) q.2.1.1,()),q.2.2.1,()))]
  · show some (b,(blocks (n - 0).toNat (b.drop (8 * (0:Int).toNat)) s,()),n,())=_
    rw [show (n - 0).toNat=b.length / 8 by omega]
    rfl
  · rintro ⟨y0,⟨s,u⟩,n1,n2,i,u2⟩ ⟨h1,h2,h3,h4,h5⟩
    dsimp only at *
    subst h1; subst h2; subst h3
    simp only [Zcm_L0b]
    by_cases hc:i < n2
    · left
      rw [wrap_id (n:=8 * i) (by omega) (by omega),wrap_id (n:=8 * i + 8) (by omega) (by omega),wrap_id (n:=i + 1) (by omega) (by omega)]
      simp only [hc,decide_true,cond_true,Option.bind_some,show (0:Int) ≤ 8 * i + 8 by omega,show 8 * i + 8 ≤ (y0.length:Int) by omega,show (0:Int) ≤ 8 * i by omega,show 8 * i ≤ ((8 * i + 8).toNat:Int) by omega,Bool.and_self]
      have e:List.drop (8 * i).toNat (List.take (8 * i + 8).toNat y0)=List.take 8 (List.drop (8 * i.toNat) y0):=by
        rw [show (8 * i + 8).toNat=8 * i.toNat + 8 by omega,show (8 * i).toNat=8 * i.toNat by omega,List.drop_take]
        congr 1
        omega
      rw [e,little_ok _ (by simp; omega)]
      simp only [Option.bind_some,absorb_ok]
      refine ⟨_,rfl,⟨rfl,rfl,rfl,by dsimp only; omega,by dsimp only; omega⟩,by dsimp only; omega,?_⟩
      dsimp only
      rw [show (n2 - i).toNat=(n2 - (i + 1)).toNat + 1 by omega]
      simp only [blocks,List.drop_drop]
      rw [show 8 * (i + 1).toNat=8 * i.toNat + 8 by omega]
    · right
      have:(n2 - i).toNat=0:=by omega
      simp only [hc,decide_false,cond_false,this,blocks]
  · exact ⟨rfl,rfl,rfl,by simp,by dsimp only; omega⟩
  · rw [rounds_eq]; dsimp only; omega
theorem sum_ok (k0 k1:BitVec 64) (b:List UInt8) (hl:b.length < 1000000000):Zcm k0 k1 b=some ((),sip k0 k1 b,()):=by
  unfold Zcm
  have hn:IntKind.wrap .i64 (Int.tdiv (b.length:Int) 8)=(b.length / 8:Nat):=by
    have:Int.tdiv (b.length:Int) 8=((b.length / 8:Nat):Int):=rfl
    rw [this,wrap_id (by omega) (by omega)]
  rw [hn,show (⟨(k0 ^^^ 8317987319222330741#64),(k1 ^^^ 7237128888997146477#64),(k0 ^^^ 7816392313619706465#64),(k1 ^^^ 8387220255154660723#64)⟩:DigestState)=s0 k0 k1 from rfl,sum_L0 b (s0 k0 k1) hl _ rfl]
  simp only [Option.bind_some]
  rw [wrap_id (n:=8 * ((b.length / 8:Nat):Int)) (by omega) (by omega)]
  simp only [show (0:Int) ≤ 8 * ((b.length / 8:Nat):Int) by omega,show 8 * ((b.length / 8:Nat):Int) ≤ (b.length:Int) by omega,decide_true,Bool.and_self,cond_true]
  rw [show (8 * ((b.length / 8:Nat):Int)).toNat=8 * (b.length / 8) by omega,little_ok _ (by simp; omega)]
  simp only [Option.bind_some]
  rw [absorb_ok]
  simp only [Option.bind_some]
  rw [rounds4]
  rfl
end Sip
end Go.Proofs.YtghfcfjnfgmkgaaDoor
