/- Part of this proof. -/
import Derived.Test.YteppebbmnojapaaGreatDoorL08
set_option maxRecDepth 100000
set_option maxHeartbeats 8000000
namespace Pg
open Cp
def rest(id kind:Nat)(b:List UInt8):List UInt8:=be 4 id++(be 1 kind++(be 1 0++(be 2 b.length++([0,0,0,0]++(b++List.replicate (240-b.length) 0)))))
theorem yN(id kind:Nat)(b:List UInt8)(h:b.length<=240):(rest id kind b).length=252:=by
 unfold rest
 simp only[List.length_append,au,List.length_cons,List.length_nil,List.length_replicate]
 omega
def page(id kind:Nat)(b:List UInt8):List UInt8:=be 4 (Cc.sum (rest id kind b))++rest id kind b
theorem yO(id kind:Nat)(b:List UInt8)(h:b.length<=240):(page id kind b).length=256:=by
 unfold page;rw[List.length_append,au,yN id kind b h]
end Pg
namespace Go.Proofs.YteppebbmnojapaaGreatDoor
open Go.RowKit
theorem fZ(a b:List UInt8):(⟨a.toArray⟩:ByteArray)++⟨b.toArray⟩=⟨(a++b).toArray⟩:=by
 apply ByteArray.ext;simp
theorem oK(k:Nat)(n:Int):(Cp.jl k n).length<=k:=by
 unfold Cp.jl;split<;>simp[Cp.au]
theorem GU(n:Int)(w:World):Calls Tryz.prog 79 #[.int .i64 4, .int .i64 n] w fun e w'=>(∃ (S:List UInt8) (E:Int),e= .returned (.tuple #[.string ⟨S.toArray⟩, .int .i64 E])/\S.length<=4/\Hid (S=Cp.jl 4 n/\E=Cp.uT 4 n))/\Below w.heap.size w w':=
 (VA n w).mono fun _ _ ⟨he,hb⟩=>⟨⟨_,_,he,oK 4 n,⟨rfl,rfl⟩⟩,hb⟩
theorem YQ(n:Int)(w:World):Calls Tryz.prog 79 #[.int .i64 2, .int .i64 n] w fun e w'=>(∃ (S:List UInt8) (E:Int),e= .returned (.tuple #[.string ⟨S.toArray⟩, .int .i64 E])/\S.length<=2/\Hid (S=Cp.jl 2 n/\E=Cp.uT 2 n))/\Below w.heap.size w w':=
 (Vy n w).mono fun _ _ ⟨he,hb⟩=>⟨⟨_,_,he,oK 2 n,⟨rfl,rfl⟩⟩,hb⟩
def bS(next:Int)(l:List Run)(k:Nat):List UInt8:=Cp.jl 4 next++Cp.jl 2 l.length++(l.take k).flatMap (fun r=>Cp.jl 4 r.1++Cp.jl 4 r.2)
def bE(next:Int)(l:List Run)(k:Nat):Int:=if Cp.fits 4 next&&(l.take k).all Cp.jQ then 0 else 1
theorem PD(next:Int)(l:List Run)(k:Nat)(hk:k<l.length):bS next l (k+1)=bS next l k++(Cp.jl 4 l[k].1++Cp.jl 4 l[k].2):=by
 unfold bS;rw[List.take_succ_eq_append_getElem hk,List.flatMap_append];simp
theorem YR(next:Int)(l:List Run)(k:Nat)(hk:k<l.length):bE next l (k+1)=if Cp.jQ l[k]then bE next l k else 1:=by
 unfold bE;rw[List.take_succ_eq_append_getElem hk,List.all_append]
 rw[show [l[k]].all Cp.jQ=Cp.jQ l[k]by simp, <-Bool.and_assoc]
 generalize (Cp.fits 4 next&&(l.take k).all Cp.jQ)=x
 generalize Cp.jQ l[k]=y
 cases x<;>cases y<;>rfl
theorem abj(next:Int)(l:List Run)(k:Nat):(bS next l k).length<=6+8*k:=by
 induction k with
 |zero=>unfold bS;have:=oK 4 next;have:=oK 2 l.length;simp;omega
 |succ k ih=>
  by_cases hk:k<l.length
  ·rw[PD next l k hk];have:=oK 4 l[k].1;have:=oK 4 l[k].2;simp;omega
  ·have e:bS next l (k+1)=bS next l k:=by unfold bS;rw[List.take_of_length_le (by omega),List.take_of_length_le (by omega)]
   rw[e];omega
theorem Rh(l:List Run)(h:l.all Cp.jQ=true):l.flatMap (fun r=>Cp.jl 4 r.1++Cp.jl 4 r.2)=l.flatMap Cp.eU:=by
 induction l with
 |nil=>rfl
 |cons r l ih=>
  rw[List.all_cons,Bool.and_eq_true]at h
  rw[List.flatMap_cons,List.flatMap_cons,ih h.2]
  have h1:=h.1
  unfold Cp.jQ at h1
  rw[Bool.and_eq_true,Bool.and_eq_true]at h1
  rw[Cp.jl,if_pos h1.1.1,Cp.jl,if_pos h1.1.2]
  rfl
theorem YS(next:Int)(l:List Run)(hl:l.length<=29):(bE next l l.length=0/\Cp.body next l=some (bS next l l.length))\/(bE next l l.length=1/\Cp.body next l=none):=by
 unfold bE Cp.body bS
 rw[List.take_of_length_le (Nat.le_refl _)]
 have h29:decide (l.length<=29)=true:=by simpa using hl
 rw[h29,Bool.and_true]
 have hf:Cp.fits 2 (l.length:Int)=true:=by unfold Cp.fits;simp;omega
 by_cases h:(Cp.fits 4 next&&l.all Cp.jQ)=true
 ·rw[if_pos h,if_pos h]
  rw[Bool.and_eq_true]at h
  refine .inl ⟨rfl, ?_⟩
  rw[Cp.jl,if_pos h.1,Cp.jl,if_pos hf,Rh l h.2]
  simp
 ·rw[if_neg h,if_neg h]
  exact .inr ⟨rfl,rfl⟩
def yP(o:Option (List UInt8)):Value:=match o with
 |some s=> .tuple #[.string ⟨s.toArray⟩, .int .i64 0]
 |none=> .tuple #[.string ⟨#[]⟩, .int .i64 1]
theorem Jg(next:Int)(A:Option Addr)(c:Nat)(l:List Run)(w:World)(hr:RS w w.heap.size A l)(hl:l.length<=1000000):
  Calls Tryz.prog 94 #[.int .i64 next, .slice A l.length c] w fun e w'=>e= .returned (yP (Cp.body next l))/\Below w.heap.size w w':=by
 by_cases h29:l.length<=29
 ·have hfin:=YS next l h29
  have HF:=Lib.hid hfin
  clear hfin
  go_enter Tryz.func94,Tryz.ntmps94
  go_wp2_with fail
  refine(GU next _).mono ?_
  rintro e w1 ⟨⟨S1,E1,rfl,hs1,HS1⟩,hb1⟩
  go_wp2_with fail
  refine(YQ (l.length:Int) _).mono ?_
  rintro e w2 ⟨⟨S2,E2,rfl,hs2,HS2⟩,hb2⟩
  have hbw:Below w.heap.size w w2:=hb1.trans (hb2.mono hb1.size)
  go_wp2
  go_loopw [6,7,35] (fun s e i wr=>∃k:Nat,k<=l.length/\i= .int .i64 k/\s= .string ⟨(bS next l k).toArray⟩/\e= .int .i64 (bE next l k)/\Below w.heap.size w wr) (fun _ _ i _=>l.length-(intOf i).toNat)
  case atStart=>exact⟨0,by omega,rfl,by rw[fZ,HS1.out.1,HS2.out.1];unfold bS;simp,by rw[HS1.out.2];unfold bE Cp.uT;simp,hbw⟩
  case round=>
   obtain⟨k,hk,rfl,rfl,rfl,hb⟩:=hrel
   by_cases hlt:k<l.length
   ·obtain⟨b1,o1,rfl,_,g0,g1⟩:=(hr.below hb).at_ hlt
    have hsl:=abj next l k
    have hss:=PD next l k hlt
    have hes:=YR next l k hlt
    have HSS:=Lib.hid hss
    have HES:=Lib.hid hes
    clear hss hes
    generalize l[k]=y at*
    obtain⟨a,b⟩:=y
    simp only at*
    generalize hS:bS next l k=S at*
    generalize hE:bE next l k=E at*
    clear hS hE
    go_wp2_with fail
    refine(GU a _).mono ?_
    rintro e w3 ⟨⟨S3,E3,rfl,hs3,HS3⟩,hb3⟩
    have c1:w3.cell? ⟨wr.heap.size,1,none⟩=some (.int .i64 b):=(hb3.cell (by simp)).trans ((Blk.new wr _ _).cell 1)
    go_wp2_with fail
    refine(GU b _).mono ?_
    rintro e w4 ⟨⟨S4,E4,rfl,hs4,HS4⟩,hb4⟩
    have c2:w4.cell? ⟨wr.heap.size,1,none⟩=some (.int .i64 b):=(hb4.cell (by have:=hb3.size;simp at this;simp;omega)).trans c1
    have c3:w4.cell? ⟨wr.heap.size,0,none⟩=some (.int .i64 a):=(hb4.cell (by have:=hb3.size;simp at this;simp;omega)).trans ((hb3.cell (by simp)).trans ((Blk.new wr _ _).cell 0))
    have hbb:Below w.heap.size w w4:=((hb.alloc hb.size _).trans (hb3.mono (by have:=hb.size;simp;omega))).trans (hb4.mono (by have:=hb.size;have:=hb3.size;simp at this;omega))
    clear c1
    have hk:Cp.jQ (a,b)=(decide (E3=0)&&decide (E4=0)&&decide (a<=b)):=by
     rw[HS3.out.2,HS4.out.2];unfold Cp.jQ Cp.uT;simp
    have hok:=Lib.hid hk
    clear hk
    have he3:E3=0\/E3=1:=by rw[HS3.out.2];unfold Cp.uT;split<;>simp
    have he4:E4=0\/E4=1:=by rw[HS4.out.2];unfold Cp.uT;split<;>simp
    rcases he3 with rfl | rfl
    ·rcases he4 with rfl | rfl
     ·by_cases hab:a<=b
      ·go_wp2
       go_roundw
       case rel=>exact⟨k+1,by omega,by go_num,by rw[fZ,fZ,HSS.out,HS3.out.1,HS4.out.1],by rw[HES.out,hok.out,decide_eq_true hab];simp,hbb⟩
       case measure=>simp[intOf];omega
      ·go_wp2
       go_roundw
       case rel=>exact⟨k+1,by omega,by go_num,by rw[fZ,fZ,HSS.out,HS3.out.1,HS4.out.1],by rw[HES.out,hok.out,decide_eq_false (Int.not_le.2 hab)];simp,hbb⟩
       case measure=>simp[intOf];omega
     ·go_wp2
      go_roundw
      case rel=>exact⟨k+1,by omega,by go_num,by rw[fZ,fZ,HSS.out,HS3.out.1,HS4.out.1],by rw[HES.out,hok.out];simp,hbb⟩
      case measure=>simp[intOf];omega
    ·go_wp2
     go_roundw
     case rel=>exact⟨k+1,by omega,by go_num,by rw[fZ,fZ,HSS.out,HS3.out.1,HS4.out.1],by rw[HES.out,hok.out];simp,hbb⟩
     case measure=>simp[intOf];omega
   ·obtain rfl:k=l.length:=by omega
    rcases HF.out with⟨he,hs⟩ | ⟨he,hs⟩
    ·rw[he]
     have H1:=Lib.hid he
     have H2:=Lib.hid hs
     clear he hs
     generalize bS next l l.length=S at*
     go_wp2
     go_ret2
     exact⟨by rw[H2.out];rfl,hb⟩
    ·rw[he]
     have H1:=Lib.hid he
     have H2:=Lib.hid hs
     clear he hs
     generalize bS next l l.length=S at*
     go_wp2
     go_ret2
     exact⟨by rw[H2.out];rfl,hb⟩
 ·have hn:Cp.body next l=none:=by unfold Cp.body;rw[if_neg];simp;omega
  have H2:=Lib.hid hn
  clear hn
  go_enter Tryz.func94,Tryz.ntmps94
  go_wp2
  go_ret2
  exact⟨by rw[H2.out];rfl,Below.refl _ _⟩
end Go.Proofs.YteppebbmnojapaaGreatDoor
