/- Part of this proof. -/
import Derived.RangeFuncNested
import Derived.RangeFuncBound
import Derived.RangeFuncCalls
import Derived.RangeFuncLeaves
import Derived.Shelf.Abstract
import Derived.Shelf.RegionOpen
import Derived.OwnWalkIn
import Derived.TacticsInMore
import Derived.LoopNIn
import Derived.LoopIn
import Derived.Test.YteppebbmnojapaaGreatDoorL04
import Derived.Test.YteppebbmnojapaaGreatDoorL05
set_option maxRecDepth 100000
set_option maxHeartbeats 8000000
namespace Go.Proofs.YteppebbmnojapaaGreatDoor
open Go.RowKit Go.Shelf
theorem uP(l:List Run):∀u∈bT l,u.oneCell'=true:=zL l
theorem U9(n:Nat)(w:World)(hn:n<=4000000):Calls Tryz.prog 221 #[.slice none 0 0, .int .i64 n] w (gW [] w):=by
 obtain⟨i0,hi,hz0,hz1,hz2⟩:=qC
 by_cases h0:n=0
 ·subst h0
  refine Calls.mono (Any8.slices_Grow_room Tryz.growRun none 0 0 0 w (by omega) (by omega) (by omega) (by omega)) ?_
  rintro e w' ⟨rfl,hw⟩
  subst hw
  exact⟨_,rfl,Own.nil_ _ _,Below.refl _ _⟩
 ·refine Calls.mono (Any8.slices_Grow_grow Tryz.growRun i0 _ hi hz0 (by omega) none 0 0 n [] w (by omega) (by omega) (by rw[hz2];omega) (by omega) (by simp) (fun _=>rfl) (fun a h=>by cases h)) ?_
  rintro e w' ⟨rfl,rfl⟩
  refine⟨_,rfl, ?_,((Below.refl _ _).drew).alloc (Nat.le_refl _) _⟩
  refine World.ownsRow_made (base:=w.heap.size) (e:=64) (size:=2) w.drew _ _ (Nat.le_refl _) (grownCap_le_maxLen w _ _ _ (by unfold maxLen;omega)) ?_
  rw[Array.size_append,Array.size_append,size_zeroCells,size_zeroCells]
  have h:=grownCap_ge w (0+n) 0 64
  have e1:(Value.agg #[Value.int IntKind.i64 0,Value.int IntKind.i64 0]).cells.size=2:=rfl
  have e2:Tryz.growRun_ren.t 25=64:=rfl
  rw[e1,e2]
  simp only[Nat.zero_add]at h ⊢
  simp
  omega
theorem IV(g:Nat)(A1 A2:Option Addr)(k1 k2:Nat)(l1 l2:List Run)(w:World)(hB:Blk w g 47 #[.slice A1 l1.length k1, .slice A2 l2.length k2])(h1:RS w w.heap.size A1 l1)(h2:RS w w.heap.size A2 l2)(hl1:l1.length<=1000000)(hl2:l2.length<=1000000):
  Calls Tryz.prog 160 #[.slice (some ⟨g,0,none⟩) 2 2] w (gW (l1++l2) w):=by
 obtain⟨o,ho⟩:∃o,o=l1++l2:=⟨_,rfl⟩
 rw[<-ho]
 have HO:=Lib.hid ho
 clear ho
 have c0:w.cell? ⟨g,0,none⟩=some (.slice A1 l1.length k1):=hB.cell 0
 have c1:w.cell? ⟨g,1,none⟩=some (.slice A2 l2.length k2):=hB.cell 1
 have hgl:=hB.lt
 go_enter Tryz.func160,Tryz.ntmps160
 go_wp2
 go_loop [3,5,11] (fun s x i=>(i= .int .i64 0/\s= .int .i64 0)\/(i= .int .i64 1/\s= .int .i64 (l1.length:Int))\/(i= .int .i64 2/\s= .int .i64 ((l1.length:Int)+l2.length))) (fun _ _ i=>2-(intOf i).toNat)
 case atStart=>exact .inl ⟨rfl,rfl⟩
 case round=>
  rcases hrel with⟨rfl,rfl⟩ | ⟨rfl,rfl⟩ | ⟨rfl,rfl⟩
  ·go_wp2
   exact⟨.inr (.inl ⟨rfl,by go_num⟩),by simp[intOf]⟩
  ·go_wp2
   exact⟨.inr (.inr ⟨rfl,rfl⟩),by simp[intOf]⟩
  ·have hgr:=U9 (l1.length+l2.length) w (by omega)
   have e:((l1.length+l2.length:Nat):Int)=(l1.length:Int)+l2.length:=by omega
   rw[e]at hgr
   have HG:=Lib.hid hgr
   clear hgr e
   go_wp2_with fail
   refine HG.out.mono ?_
   rintro e w2 ⟨v,rfl,ho2,hb2⟩
   have d0:w2.cell? ⟨g,0,none⟩=some (.slice A1 l1.length k1):=(hb2.cell hgl).trans c0
   have d1:w2.cell? ⟨g,1,none⟩=some (.slice A2 l2.length k2):=(hb2.cell hgl).trans c1
   have r1:=(h1.below hb2).more hb2.size
   have r2:=(h2.below hb2).more hb2.size
   clear c0 c1
   go_wp2
   go_loopw [6,8,27] (fun v x i wr=>Below w.heap.size w2 wr/\((i= .int .i64 0/\Own wr w.heap.size v [])\/(i= .int .i64 1/\Own wr w.heap.size v l1)\/(i= .int .i64 2/\Own wr w.heap.size v (l1++l2)))) (fun _ _ i _=>2-(intOf i).toNat)
   case atStart=>exact⟨Below.refl _ _, .inl ⟨rfl,ho2⟩⟩
   case round=>
    obtain⟨hbw,hc⟩:=hrel
    have hzz:w.heap.size<=wr.heap.size:=Nat.le_trans hb2.size hbw.size
    have e0:wr.cell? ⟨g,0,none⟩=some (.slice A1 l1.length k1):=(hbw.cell hgl).trans d0
    have e1:wr.cell? ⟨g,1,none⟩=some (.slice A2 l2.length k2):=(hbw.cell hgl).trans d1
    have s1:RS wr wr.heap.size A1 l1:=(h1.below (hb2.trans hbw)).more hzz
    have s2:RS wr wr.heap.size A2 l2:=(h2.below (hb2.trans hbw)).more hzz
    rcases hc with⟨rfl,hown⟩ | ⟨rfl,hown⟩ | ⟨rfl,hown⟩
    ·have hown2:wr.ownsRow w.heap.size 64 2 u6 0 []:=hown
     go_wp2_with (at_builtin;refine gQ rfl (.tmp 31) (.tmp 32) 47 rfl qC Tryz.underlying47 rfl (by decide) rfl hown2 rfl s1 (uP _) (by unfold maxLen;omega) (by omega) hzz ?_;intro v' w3 hown' hgrow hbel)
     go_roundw
     case rel=>
      refine⟨hbw.trans hbel, .inr (.inl ⟨rfl, ?_⟩)⟩
      unfold Own;simpa using hown'
     case measure=>simp[intOf]
    ·have hown2:wr.ownsRow w.heap.size 64 2 u6 l1.length (bT l1):=hown
     go_wp2_with (at_builtin;refine gQ rfl (.tmp 31) (.tmp 32) 47 rfl qC Tryz.underlying47 rfl (by decide) rfl hown2 rfl s2 (uP _) (by unfold maxLen;omega) (by omega) hzz ?_;intro v' w3 hown' hgrow hbel)
     go_roundw
     case rel=>
      refine⟨hbw.trans hbel, .inr (.inr ⟨rfl, ?_⟩)⟩
      unfold Own;rw[ku,List.length_append];exact hown'
     case measure=>simp[intOf]
    ·go_wp2
     go_ret
     exact⟨_,rfl,by rw[HO.out];exact hown,hb2.trans hbw⟩
theorem clone_any(A:Option Addr)(c:Nat)(l:List Run)(w:World)(hv:A=none->l.length=0/\c=0)(hr:RS w w.heap.size A l)(hl:l.length<=1000000):Calls Tryz.prog 154 #[.slice A l.length c] w (gW l w):=by
 have hn:=fun W a n c=>Lib.run_eql_slice_nil (P:=Tryz.prog) W 47 64 a n c 0 0 Tryz.underlying47
 rcases A with _ | a
 ·obtain⟨h0,rfl⟩:=hv rfl
  have hl0:l= []:=List.eq_nil_of_length_eq_zero h0
  subst hl0
  clear hv h0
  go_enter Tryz.func154,Tryz.ntmps154
  go_wp2
  go_ret
  exact⟨_,rfl,Own.nil_ _ _,Below.refl _ _⟩
 ·have hr2:Reads (w.alloc (.cells #[] 64)) w.heap.size 2 (some a) l.length (bT l):=Reads.alloc hr (Nat.le_refl _) _
  have hown:=World.ownsRow_lit (base:=w.heap.size) (e:=64) (size:=2) w #[] 0 (Nat.le_refl _) (by decide) rfl
  clear hv
  go_enter Tryz.func154,Tryz.ntmps154
  go_wp2_with (at_builtin;refine gQ rfl (.tmp 5) (.tmp 6) 47 rfl qC Tryz.underlying47 rfl (by decide) rfl hown rfl hr2 (uP _) (by unfold maxLen;omega) (by omega) (by simp) ?_;intro v' w3 hown' hgrow hbel)
  go_ret
  exact⟨_,rfl,by unfold Own;simpa using hown',((Below.refl _ _).alloc (Nat.le_refl _) _).trans hbel⟩
theorem gW.open_{o:List Run}{w w':World}{e:Ending}(h:gW o w e w'):∃A c,e= .returned (.slice A o.length c)/\Own w' w.heap.size (.slice A o.length c) o/\RS w' w'.heap.size A o/\Below w.heap.size w w':=by
 obtain⟨v,rfl,ho,hb⟩:=h
 obtain⟨A,c,rfl⟩:=ho.form
 exact⟨A,c,rfl,ho,ho.rs,hb⟩
theorem sF(A1 A2:Option Addr)(k1 k2:Nat)(l1 l2:List Run)(w:World)(h1:RS w w.heap.size A1 l1)(h2:RS w w.heap.size A2 l2)(hl1:l1.length<=400000)(hl2:l2.length<=400000):
  Calls Tryz.prog 84 #[.slice A1 l1.length k1, .slice A2 l2.length k2] w (gW (Rp.union l1 l2) w):=by
 have hc:=fun(W:World)=>IV W.heap.size A1 A2 k1 k2 l1 l2 (W.alloc (.cells #[.slice A1 l1.length k1, .slice A2 l2.length k2] 47)) (Blk.new W _ _)
 have hn:=fun A c W h=>kH A c (l1++l2) W h (by simp;omega)
 have e:Rp.norm (l1++l2)=Rp.union l1 l2:=rfl
 rw[e]at hn
 generalize Rp.union l1 l2=o at*
 generalize l1++l2=q at*
 have HC:=fun W a b c d=>Lib.hid (hc W a b c d)
 have HN:=fun A c W h=>Lib.hid (hn A c W h)
 clear hc hn e
 have r1:=(h1.below ((Below.refl _ w).alloc (Nat.le_refl _) (.cells #[.slice A1 l1.length k1, .slice A2 l2.length k2] 47))).more (Nat.le_succ _)
 have r2:=(h2.below ((Below.refl _ w).alloc (Nat.le_refl _) (.cells #[.slice A1 l1.length k1, .slice A2 l2.length k2] 47))).more (Nat.le_succ _)
 go_enter Tryz.func84,Tryz.ntmps84
 go_wp2_with fail
 refine(HC w (by simpa using r1) (by simpa using r2) (by omega) (by omega)).out.mono ?_
 intro e w1 he
 obtain⟨A3,c3,rfl,ho3,r3,b3⟩:=he.open_
 clear he
 go_wp2_with fail
 refine(HN _ _ _ r3).out.mono ?_
 intro e w2 he
 obtain⟨A4,c4,rfl,ho4,r4,b4⟩:=he.open_
 clear he
 go_wp2
 go_ret
 have hz:=b3.size
 simp at hz
 exact⟨_,rfl,ho4.lower (by omega),(((Below.refl _ w).alloc (Nat.le_refl _) _).trans (b3.mono (by simp))).trans (b4.mono (by omega))⟩
end Go.Proofs.YteppebbmnojapaaGreatDoor
namespace Go.Proofs.YteppebbmnojapaaGreatDoor
open Go.RowKit
theorem xK(a b:List Run):(Rp.union a b).length<=a.length+b.length:=by
 have:=bC (a++b);unfold Rp.union;simpa using this
theorem aX(a:List Run):(Rp.rest a).length<=a.length+1:=by
 have:=Rp.U7 a;have:=bC a;omega
theorem Va(a b:List Run):(Rp.meet a b).length<=a.length+b.length+3:=by
 have h1:=aX (Rp.union (Rp.rest a) (Rp.rest b));have h2:=xK (Rp.rest a) (Rp.rest b);have h3:=aX a;have h4:=aX b
 unfold Rp.meet;omega
theorem QN(a b:List Run):(Rp.minus a b).length<=a.length+b.length+4:=by
 have h1:=Va a (Rp.rest b);have h2:=aX b
 unfold Rp.minus;omega
theorem ak{P:Program}{f:FuncId}{args:Array Value}{w:World}{R:Ending->World->Prop}(h:Calls P f args w R):Hid (Calls P f args w R):=h
theorem oD(A1 A2:Option Addr)(k1 k2:Nat)(l1 l2:List Run)(w:World)(h1:RS w w.heap.size A1 l1)(h2:RS w w.heap.size A2 l2)(hl1:l1.length<=100000)(hl2:l2.length<=100000):
  Calls Tryz.prog 61 #[.slice A1 l1.length k1, .slice A2 l2.length k2] w (gW (Rp.meet l1 l2) w):=by
 have q1:=aX l1
 have q2:=aX l2
 have q3:=xK (Rp.rest l1) (Rp.rest l2)
 have c1:=fun W h=>ak (vZ A1 k1 l1 W h (by omega))
 have c2:=fun W h=>ak (vZ A2 k2 l2 W h (by omega))
 have c3:=fun A B a b W h h'=>ak (sF A B a b (Rp.rest l1) (Rp.rest l2) W h h' (by omega) (by omega))
 have c4:=fun A a W h=>ak (vZ A a (Rp.union (Rp.rest l1) (Rp.rest l2)) W h (by omega))
 have e:Rp.rest (Rp.union (Rp.rest l1) (Rp.rest l2))=Rp.meet l1 l2:=rfl
 rw[e]at c4
 clear q1 q2 q3 e
 generalize Rp.meet l1 l2=o at*
 generalize Rp.union (Rp.rest l1) (Rp.rest l2)=u at*
 generalize Rp.rest l1=s1 at*
 generalize Rp.rest l2=s2 at*
 go_enter Tryz.func61,Tryz.ntmps61
 go_wp2_with fail
 refine(c1 _ h1).out.mono ?_
 intro e w1 he
 obtain⟨B1,x1,rfl,_,r1,b1⟩:=he.open_
 clear he
 have h2':RS w1 w1.heap.size A2 l2:=(h2.below b1).more b1.size
 go_wp2_with fail
 refine(c2 _ h2').out.mono ?_
 intro e w2 he
 obtain⟨B2,x2,rfl,_,r2,b2⟩:=he.open_
 clear he
 have r1':RS w2 w2.heap.size B1 s1:=(r1.below b2).more b2.size
 go_wp2_with fail
 refine(c3 _ _ _ _ _ r1' r2).out.mono ?_
 intro e w3 he
 obtain⟨B3,x3,rfl,_,r3,b3⟩:=he.open_
 clear he
 go_wp2_with fail
 refine(c4 _ _ _ r3).out.mono ?_
 intro e w4 he
 obtain⟨B4,x4,rfl,o4,r4,b4⟩:=he.open_
 clear he
 go_wp2
 go_ret
 have z1:=b1.size
 have z2:=b2.size
 have z3:=b3.size
 exact⟨_,rfl,o4.lower (by omega),((b1.trans (b2.mono z1)).trans (b3.mono (by omega))).trans (b4.mono (by omega))⟩
theorem sH(A1 A2:Option Addr)(k1 k2:Nat)(l1 l2:List Run)(w:World)(h1:RS w w.heap.size A1 l1)(h2:RS w w.heap.size A2 l2)(hl1:l1.length<=90000)(hl2:l2.length<=90000):
  Calls Tryz.prog 32 #[.slice A1 l1.length k1, .slice A2 l2.length k2] w (gW (Rp.minus l1 l2) w):=by
 have q2:=aX l2
 have c2:=fun W h=>ak (vZ A2 k2 l2 W h (by omega))
 have c3:=fun A B a b W h h'=>ak (oD A B a b l1 (Rp.rest l2) W h h' (by omega) (by omega))
 have e:Rp.meet l1 (Rp.rest l2)=Rp.minus l1 l2:=rfl
 rw[e]at c3
 clear q2 e
 generalize Rp.minus l1 l2=o at*
 generalize Rp.rest l2=s2 at*
 go_enter Tryz.func32,Tryz.ntmps32
 go_wp2_with fail
 refine(c2 _ h2).out.mono ?_
 intro e w2 he
 obtain⟨B2,x2,rfl,_,r2,b2⟩:=he.open_
 clear he
 have r1':RS w2 w2.heap.size A1 l1:=(h1.below b2).more b2.size
 go_wp2_with fail
 refine(c3 _ _ _ _ _ r1' r2).out.mono ?_
 intro e w3 he
 obtain⟨B3,x3,rfl,o3,r3,b3⟩:=he.open_
 clear he
 go_wp2
 go_ret
 have z2:=b2.size
 exact⟨_,rfl,o3.lower z2,b2.trans (b3.mono z2)⟩
theorem RS.single(W:World)(a b:Int)(te:TypeId):RS (W.alloc (.cells #[.int .i64 a, .int .i64 b] te)) (W.alloc (.cells #[.int .i64 a, .int .i64 b] te)).heap.size (some ⟨W.heap.size,0,none⟩) [(a,b)]:=by
 refine⟨by simp[bT,encR],fun _=>⟨_,rfl,by simp,fun j u hu=> ?_⟩⟩
 rw[Addr.add_lit,Nat.zero_add,(Blk.new W te _).cell j]
 simpa[bT,encR]using hu
theorem add_any(A:Option Addr)(k:Nat)(l:List Run)(n:Int)(w:World)(h:RS w w.heap.size A l)(hl:l.length<=90000):
  Calls Tryz.prog 31 #[.slice A l.length k, .int .i64 n] w (gW (Rp.union l [(n,n)]) w):=by
 have c3:=fun W h=>ak (sF A (some ⟨W.heap.size,0,none⟩) k 1 l [(n,n)] _ h (RS.single W n n 64) (by omega) (by simp))
 change ∀W:World,RS (W.alloc (.cells #[.int .i64 n, .int .i64 n] 64)) _ A l->Hid (Calls Tryz.prog 84 #[.slice A l.length k, .slice (some ⟨W.heap.size,0,none⟩) 1 1] _ _)at c3
 generalize Rp.union l [(n,n)]=o at*
 have r1:RS (w.alloc (.cells #[.int .i64 n, .int .i64 n] 64)) (w.alloc (.cells #[.int .i64 n, .int .i64 n] 64)).heap.size A l:=(h.below ((Below.refl _ w).alloc (Nat.le_refl _) _)).more (by simp)
 go_enter Tryz.func31,Tryz.ntmps31
 go_wp2_with fail
 refine(c3 w r1).out.mono ?_
 intro e w3 he
 obtain⟨B3,x3,rfl,o3,r3,b3⟩:=he.open_
 clear he
 go_wp2
 go_ret
 exact⟨_,rfl,o3.lower (by simp),((Below.refl _ w).alloc (Nat.le_refl _) _).trans (b3.mono (by simp))⟩
theorem MN(A:Option Addr)(k:Nat)(l:List Run)(n:Int)(w:World)(h:RS w w.heap.size A l)(hl:l.length<=90000):
  Calls Tryz.prog 83 #[.slice A l.length k, .int .i64 n] w (gW (Rp.minus l [(n,n)]) w):=by
 have c3:=fun W h=>ak (sH A (some ⟨W.heap.size,0,none⟩) k 1 l [(n,n)] _ h (RS.single W n n 64) (by omega) (by simp))
 change ∀W:World,RS (W.alloc (.cells #[.int .i64 n, .int .i64 n] 64)) _ A l->Hid (Calls Tryz.prog 32 #[.slice A l.length k, .slice (some ⟨W.heap.size,0,none⟩) 1 1] _ _)at c3
 generalize Rp.minus l [(n,n)]=o at*
 have r1:RS (w.alloc (.cells #[.int .i64 n, .int .i64 n] 64)) (w.alloc (.cells #[.int .i64 n, .int .i64 n] 64)).heap.size A l:=(h.below ((Below.refl _ w).alloc (Nat.le_refl _) _)).more (by simp)
 go_enter Tryz.func83,Tryz.ntmps83
 go_wp2_with fail
 refine(c3 w r1).out.mono ?_
 intro e w3 he
 obtain⟨B3,x3,rfl,o3,r3,b3⟩:=he.open_
 clear he
 go_wp2
 go_ret
 exact⟨_,rfl,o3.lower (by simp),((Below.refl _ w).alloc (Nat.le_refl _) _).trans (b3.mono (by simp))⟩
def inB(n:Int)(r:Run):Bool:=decide (r.1<=n)&&decide (n<=r.2)
theorem Vb(r:Run)(g:Nat)(n:Int)(w:World)(hg:Blk w g 3 #[.int .i64 n]):Calls Tryz.prog 153 #[.agg #[.int .i64 r.1, .int .i64 r.2], .pointer (some ⟨g,0,none⟩)] w fun e w'=>e= .returned (.bool (inB n r))/\Below w.heap.size w w':=by
 have hl:=hg.lt
 have hc:w.cell? ⟨g,0,none⟩=some (.int .i64 n):=hg.cell 0
 obtain⟨a,b⟩:=r
 unfold inB
 simp only
 by_cases h1:a<=n
 ·go_enter Tryz.func153,Tryz.ntmps153
  go_wp2
  go_ret
  exact⟨by rw[decide_eq_true h1];simp,(Below.refl _ _).alloc (Nat.le_refl _) _⟩
 ·go_enter Tryz.func153,Tryz.ntmps153
  go_wp2
  go_ret
  exact⟨by rw[decide_eq_false (by omega:¬a<=n)];simp,(Below.refl _ _).alloc (Nat.le_refl _) _⟩
def abd(l:List Run)(n:Int)(w:World)(e:Ending)(w':World):Prop:=∃j:Int,e= .returned (.int .i64 j)/\decide (0<=j)=l.any (inB n)/\Below w.heap.size w w'
theorem QO(A:Option Addr)(k:Nat)(l:List Run)(g:Nat)(n:Int)(w:World)(h:RS w w.heap.size A l)(hl:l.length<=1000000)(hg:Blk w g 3 #[.int .i64 n]):
  Calls Tryz.prog 215 #[.slice A l.length k, .func (.func 153) #[] #[.pointer (some ⟨g,0,none⟩)]] w (abd l n w):=by
 have hgl:=hg.lt
 go_enter Tryz.func215,Tryz.ntmps215
 go_wp2
 go_loopw [5,8] (fun x i wr=>∃k:Nat,k<=l.length/\i= .int .i64 k/\(∀j (hj:j<l.length),j<k->inB n l[j]=false)/\Below w.heap.size w wr) (fun _ i _=>l.length-(intOf i).toNat)
 case atStart=>exact⟨0,by omega,rfl,fun j hj h=>absurd h (by omega),Below.refl _ _⟩
 case round=>
  obtain⟨i,hi,rfl,hno,hb⟩:=hrel
  have HNO:=Lib.hid hno
  clear hno
  by_cases hlt:i<l.length
  ·obtain⟨b1,o1,rfl,_,g0,g1⟩:=(h.below hb).at_ hlt
   have hc:=ak (Vb l[i] g n wr (hg.below hb hgl))
   obtain⟨y,hy⟩:∃y,y=l[i]:=⟨_,rfl⟩
   rw[<-hy]at hc g0 g1
   have HY:=Lib.hid hy
   clear hy
   by_cases hin:inB n y=true
   ·rw[hin]at hc
    have HIN:=Lib.hid hin
    clear hin
    go_wp2_with (go_at_call 153;refine hc.out.mono ?_;rintro e w1 ⟨rfl,hb1⟩)
    go_ret
    refine⟨_,rfl, ?_,hb.trans (hb1.mono hb.size)⟩
    have:l.any (inB n)=true:=List.any_eq_true.2 ⟨l[i],List.getElem_mem hlt,by rw[<-HY.out];exact HIN.out⟩
    rw[this];simp
   ·have hin':inB n y=false:=by simpa using hin
    rw[hin']at hc
    have HIN:=Lib.hid hin'
    clear hin hin'
    go_wp2_with (go_at_call 153;refine hc.out.mono ?_;rintro e w1 ⟨rfl,hb1⟩)
    go_roundw
    case rel=>
     refine⟨i+1,by omega,by go_num,fun j hj hji=> ?_,hb.trans (hb1.mono hb.size)⟩
     by_cases hj2:j<i
     ·exact HNO.out j hj hj2
     ·obtain rfl:j=i:=by omega
      rw[<-HY.out];exact HIN.out
    case measure=>simp[intOf];omega
  ·obtain rfl:i=l.length:=by omega
   go_wp2
   go_ret
   refine⟨_,rfl, ?_,hb⟩
   have:l.any (inB n)=false:=by
    rw[List.any_eq_false]
    intro x hx
    obtain⟨j,hj,rfl⟩:=List.getElem_of_mem hx
    rw[HNO.out j hj hj];simp
   rw[this];simp
theorem Gy(A:Option Addr)(k:Nat)(l:List Run)(g:Nat)(n:Int)(w:World)(h:RS w w.heap.size A l)(hl:l.length<=1000000)(hg:Blk w g 3 #[.int .i64 n]):
  Calls Tryz.prog 152 #[.slice A l.length k, .func (.func 153) #[] #[.pointer (some ⟨g,0,none⟩)]] w fun e w'=>e= .returned (.bool (l.any (inB n)))/\Below w.heap.size w w':=by
 have hc:=ak (QO A k l g n w h hl hg)
 generalize hq:l.any (inB n)=q
 have HQ:=Lib.hid hq
 clear hq
 go_enter Tryz.func152,Tryz.ntmps152
 go_wp2_with fail
 refine hc.out.mono ?_
 rintro e w1 ⟨j,rfl,hj,hb⟩
 have HJ:=Lib.hid hj
 clear hj
 go_wp2
 go_ret
 exact⟨by rw[<-HQ.out, <-HJ.out];rfl,hb⟩
theorem Pq(A:Option Addr)(k:Nat)(l:List Run)(n:Int)(w:World)(h:RS w w.heap.size A l)(hl:l.length<=1000000):Calls Tryz.prog 76 #[.slice A l.length k, .int .i64 n] w fun e w'=>e= .returned (.bool (Rp.has l n))/\Below w.heap.size w w':=by
 have hc:=fun h=>ak (Gy A k l w.heap.size n (w.alloc (.cells #[.int .i64 n] 3)) h hl (Blk.new w _ _))
 have hh:RS (w.alloc (.cells #[.int .i64 n] 3)) (w.alloc (.cells #[.int .i64 n] 3)).heap.size A l:=(h.below ((Below.refl _ w).alloc (Nat.le_refl _) _)).more (by simp)
 have he:Rp.has l n=(decide (0<=n)&&decide (n<=4294967295)&&l.any (inB n)):=rfl
 rw[he]
 clear he
 generalize l.any (inB n)=q at*
 by_cases h0:0<=n
 ·by_cases h1:n<=4294967295
  ·go_enter Tryz.func76,Tryz.ntmps76
   go_wp2_with fail
   refine(hc hh).out.mono ?_
   rintro e w1 ⟨rfl,hb⟩
   go_wp2
   go_ret
   exact⟨by rw[decide_eq_true h0,decide_eq_true h1];simp,((Below.refl _ w).alloc (Nat.le_refl _) _).trans (hb.mono (by simp))⟩
  ·go_enter Tryz.func76,Tryz.ntmps76
   go_wp2
   go_ret
   exact⟨by rw[decide_eq_false (by omega:¬n<=4294967295)];simp,(Below.refl _ _).alloc (Nat.le_refl _) _⟩
 ·go_enter Tryz.func76,Tryz.ntmps76
  go_wp2
  go_ret
  exact⟨by rw[decide_eq_false (by omega:¬0<=n)];simp,(Below.refl _ _).alloc (Nat.le_refl _) _⟩
theorem sJ:∀ (l:List Run) (lo:Int),0<=lo->Rp.Canon lo l->∀y∈l,0<=y.1/\y.1<=y.2/\y.2<=4294967295
 | [],_,_,_,_,hy=>by cases hy
 |r::l,lo,hlo,h,y,hy=>by
  obtain⟨h1,h2,h3,h4⟩:=h
  unfold Rp.Most at h3
  rcases List.mem_cons.1 hy with rfl | hy
  ·omega
  ·exact sJ l _ (by omega) h4 y hy
end Go.Proofs.YteppebbmnojapaaGreatDoor
namespace Go.Proofs.YteppebbmnojapaaGreatDoor
open Go.RowKit Go.Shelf
attribute [local go_sem] Oper.semAt_some
def CK(B:Nat)(W W':World):Prop:=∀k o,B<=k->W.heap[k]? =some o->o.isCells=true->W'.heap[k]? =some o
theorem CK.refl(B:Nat)(W:World):CK B W W:=fun _ _ _ h _=>h
theorem CK.trans{B:Nat}{W1 W2 W3:World}(h:CK B W1 W2)(k:CK B W2 W3):CK B W1 W3:=fun i o hi ho hc=>k i o hi (h i o hi ho hc) hc
theorem CK.alloc(B:Nat)(W:World)(o:Obj):CK B W (W.alloc o):=fun i _ _ ho _=>(Below.heap_alloc W o i (Array.getElem?_eq_some_iff.1 ho).1).trans ho
theorem CK.cell{B:Nat}{W W':World}(h:CK B W W'){p:Addr}{v:Value}(hp:B<=p.block)(hc:W.cell? p=some v):W'.cell? p=some v:=by
 unfold World.cell? at*
 cases ho:W.heap[p.block]? with
 |none=>rw[ho]at hc;simp at hc
 |some o=>
  rw[ho]at hc
  cases o<;>simp at hc
  rename_i c e f
  rw[h _ _ hp ho rfl]
  simp[hc]
theorem abe{w:World}{base:Nat}{p:Addr}{n c:Nat}{l:List Run}(h:Own w base (.slice (some p) n c) l):base<=p.block:=by
 rcases h.2 with⟨e,_⟩ | ⟨g,cap,cur,e,hg,_⟩
 ·cases e
 ·injection e with e1;injection e1 with e1;subst e1;exact hg
def KpA(n₀ B:Nat)(W W':World):Prop:=Below n₀ W W'/\CK B W W'
theorem adf{n₀ B:Nat}{W1 W2 W3:World}(h:KpA n₀ B W1 W2)(k:KpA n₀ B W2 W3):KpA n₀ B W1 W3:=⟨h.1.trans k.1,h.2.trans k.2⟩
theorem adg{n₀ B:Nat}{w:World}(hn:n₀<=w.heap.size)(W:World)(l:Nat)(o o':Obj)(hl:w.heap.size<=l)(h:W.heap[l]? =some o)(hc:o.isCells=false)(hw:o.isWalk=false):KpA n₀ B W (W.putObj l o'):=
 ⟨belowK_b hn W l o o' hl h hc hw,fun i o2 _ ho2 hc2=>by
  have hne:l≠i:=fun e=>by subst e;rw[h]at ho2;injection ho2 with e;subst e;rw[hc]at hc2;cases hc2
  simp[World.putObj,hne,ho2]⟩
def tX(r:Run)(j:Nat):List Int:=(List.range j).map (fun i:Nat=>r.1+(i:Int))
theorem QS(r:Run)(j:Nat):tX r (j+1)=tX r j++ [r.1+(j:Int)]:=by simp[tX,List.range_succ]
theorem IW(r:Run)(j:Nat):(tX r j).length=j:=by simp[tX]
def cnt(r:Run):Nat:=(r.2-r.1+1).toNat
def evs(l:List Run):List Int:=l.flatMap (fun r=>tX r (cnt r))
theorem IX(l:List Run)(k:Nat)(hk:k<l.length):evs (l.take (k+1))=evs (l.take k)++tX l[k] (cnt l[k]):=by
 unfold evs
 rw[List.take_succ_eq_append_getElem hk,List.flatMap_append];simp
theorem MO(l:List Run)(k:Nat):evs (l.take k) <+: evs l:=by
 refine⟨evs (l.drop k), ?_⟩
 unfold evs
 rw[<-List.flatMap_append,List.take_append_drop]
theorem IY(r:Run){i j:Nat}(h:i<=j):tX r i <+: tX r j:=by
 obtain⟨d,rfl⟩:=Nat.exists_eq_add_of_le h
 refine⟨(List.range d).map (fun x:Nat=>r.1+((i+x:Nat):Int)), ?_⟩
 unfold tX
 rw[List.range_add,List.map_append,List.map_map];rfl
theorem abf(l:List Run)(k:Nat)(hk:k<l.length)(j:Nat)(hj:j<=cnt l[k]):evs (l.take k)++tX l[k] j <+: evs l:=by
 have h1:evs (l.take k)++tX l[k] j <+: evs (l.take (k+1)):=by
  rw[IX l k hk]
  exact List.prefix_append_right_inj _ |>.2 (IY _ hj)
 exact h1.trans (MO l (k+1))
theorem all1_in(l Bn n₀ B c:Nat)(A:Option Addr)(rs:List Run)(hl:rs.length<=1000000)(J Jx:List Int->World->Prop)
  (W:World) (hn:n₀<=B) (hBW:B<=W.heap.size) (hJ:AbidesFrom W.heap.size J)
  (hY:∀pre x W1,J pre W1->pre.length<(evs (Rp.norm rs)).length->YieldAt Fence.wide 0 Tryz.prog l #[.int .i64 x] W1 fun e W'=>
   (e= .returned (.bool true)/\J (pre++ [x]) W'/\KpA n₀ B W1 W')\/(e= .returned (.bool false)/\Jx (pre++ [x]) W'))
  (hBn:W.cell? ⟨Bn,0,none⟩=some (.slice A rs.length c)) (hr:RS W W.heap.size A rs) (h0:J [] W):
  CallsIn Fence.wide 1 Tryz.prog 220 #[.func (.yield l) #[] #[], .pointer (some ⟨Bn,0,none⟩)] W fun e W'=>(∃v,e= .returned v)/\
   ((∃ys,ys=evs (Rp.norm rs)/\J ys W')\/(∃pre,pre <+: evs (Rp.norm rs)/\Jx pre W')):=by
 have hc:=kH A c rs W hr hl
 have hnl:=bC rs
 have hin:=sJ _ 0 (Int.le_refl _) (Rp.dw rs).1
 generalize Rp.norm rs=s at*
 have hle:=hn
 refine callsIn_of_wp Tryz.func220 rfl trivial ?_ rfl
 simp only[Tryz.ntmps220,List.size_toArray,List.length_cons,List.length_nil,Nat.reduceAdd,Nat.reduceSub,Array.replicate_succ,Array.replicate_zero,List.push_toArray,List.append_toArray,List.nil_append,List.cons_append]
 gi_wp2_with (refine⟨trivial, ?_⟩;gi_at_call 33;refine(callsIn_wide.2 hc).mono ?_;intro e w1 he;obtain⟨A1,c1,rfl,ho1,r1,b1⟩:=he.open_)
 gi_loopw [9] (fun i wr=>∃k:Nat,k<=s.length/\i= .int .i64 k/\J (evs (s.take k)) wr/\CK B w1 wr/\B<=wr.heap.size) (fun i _=>s.length-(intOf i).toNat)
 case atStart=>exact⟨0,Nat.zero_le _,rfl,hJ _ _ _ _ h0 (fV b1 none) (by simp),CK.refl _ _,by have:=b1.size;omega⟩
 case round=>
  obtain⟨k,hk,rfl,hJs,hnx,hsz⟩:=hrel
  by_cases hlt:k<s.length
  ·obtain⟨b2,o2,rfl,hb2,g0,g1⟩:=r1.at_ hlt
   have hb3:B<=b2:=Nat.le_trans hBW (abe ho1)
   have f0:=hnx.cell (p:=⟨b2,_,none⟩) hb3 g0
   have f1:=hnx.cell (p:=⟨b2,_,none⟩) hb3 g1
   have hev:=abf s k hlt
   have hsu:=IX s k hlt
   have hy:=hin _ (List.getElem_mem hlt)
   have hcn:cnt s[k]=(s[k].2-s[k].1+1).toNat:=rfl
   generalize evs (s.take k)=P at*
   generalize s[k]=y at*
   obtain⟨a,b⟩:=y
   simp only at hy g0 g1 f0 f1 hcn
   generalize cnt (a,b)=N at*
   gi_wp2
   have hJ1:=hJ _ _ _ _ hJs (World.grownBy_alloc wr (.cells #[.int .i64 a, .int .i64 b] 64) none) (by simp)
   have hv0:(wr.alloc (.cells #[.int .i64 a, .int .i64 b] 64)).cell? ⟨wr.heap.size,1,none⟩=some (.int .i64 b):=(Blk.new wr 64 #[.int .i64 a, .int .i64 b]).cell 1
   have hk1:=CK.alloc B wr (.cells #[.int .i64 a, .int .i64 b] 64)
   have hs1:B<=(wr.alloc (.cells #[.int .i64 a, .int .i64 b] 64)).heap.size:=by simp;omega
   generalize wr.alloc (.cells #[.int .i64 a, .int .i64 b] 64)=wa at*
   generalize wr.heap.size=q at*
   gi_loopw [5] (fun i wr2=>∃j:Nat,j<=N/\i= .int .i64 (a+j)/\J (P++tX (a,b) j) wr2/\CK B wa wr2/\B<=wr2.heap.size) (fun i _=>(b+1-intOf i).toNat)
   case atStart=>exact⟨0,Nat.zero_le _,by simp,by simpa[tX]using hJ1,CK.refl _ _,hs1⟩
   case round=>
    obtain⟨j,hj,rfl,hJ2,hk2,hs2⟩:=hrel
    have g3:=hk2.cell (p:=⟨q,1,none⟩) hsz hv0
    by_cases hjl:j<N
    ·have hlt2:(P++tX (a,b) j).length<(evs s).length:=by
      have:=(hev (j+1) (by omega)).length_le
      rw[List.length_append,IW]at this ⊢
      omega
     obtain⟨fn,tmps,assign,body,hyl,hR⟩:=hY _ (a+j) _ hJ2 hlt2
     rw[List.append_assoc, <-QS (a,b) j]at hR
     gi_wp2
     refine hR.mono ?_
     rintro e W3 (⟨rfl,hJ3,hk3⟩ | ⟨rfl,hJx3⟩)
     ·gi_wp2
      go_roundw
      case rel=>exact⟨j+1,by omega,by go_num,hJ3,hk2.trans hk3.2,by have:=hk3.1.size;omega⟩
      case measure=>simp[intOf];omega
     ·gi_wp2
      refine bodyPost_ret (results_none rfl _ _ _) rfl ?_
      exact⟨⟨_,rfl⟩, .inr ⟨_,hev (j+1) (by omega),hJx3⟩⟩
    ·obtain rfl:j=N:=by omega
     gi_wp2
     go_roundw
     case rel=>exact⟨k+1,by omega,by go_num,by rw[hsu];exact hJ2,hnx.trans (hk1.trans hk2),hs2⟩
     case measure=>simp[intOf];omega
  ·obtain rfl:k=s.length:=by omega
   gi_wp2
   go_end0
   rw[List.take_of_length_le (Nat.le_refl _)]at hJs
   exact⟨⟨_,rfl⟩, .inl ⟨_,rfl,hJs⟩⟩
theorem all_stops(Bn n₀ c:Nat)(A:Option Addr)(rs:List Run)(hl:rs.length<=1000000)(w:World)(hn:n₀<=w.heap.size)(hBlt:Bn<w.heap.size)
  (hBn:w.cell? ⟨Bn,0,none⟩=some (.slice A rs.length c)) (hr:RS w w.heap.size A rs):
  SeqStopsK Fence.wide 1 Tryz.prog 220 #[.pointer (some ⟨Bn,0,none⟩)] (fun x:Int=> #[Value.int .i64 x]) (KpA n₀ w.heap.size) (fun ys=>ys=evs (Rp.norm rs)) (fun pre=>pre <+: evs (Rp.norm rs)) (evs (Rp.norm rs)).length w:=
 fun l J Jx W hW hJ _ hY h0=>all1_in l Bn n₀ w.heap.size c A rs hl J Jx W hn hW.size hJ hY ((hW.cell (p:=⟨Bn,0,none⟩) hBlt).trans hBn) ((hr.below hW).more hW.size) h0
theorem YK(A:Option Addr)(n c:Nat)(w:World):
  Calls Tryz.prog 159 #[.slice A n c] w fun e w'=>e= .returned (.func (.func 220) #[] #[.pointer (some ⟨w.heap.size,0,none⟩)])/\w'=w.alloc (.cells #[.slice A n c] 47):=by
 go_enter Tryz.func159,Tryz.ntmps159
 go_wp2
 go_ret
 exact⟨rfl,rfl⟩
theorem cell_new_l(W:World)(v:Value)(t:TypeId):(W.alloc (.cells #[v] t)).cell? ⟨W.heap.size,0,none⟩=some v/\(W.alloc (.cells #[v] t)).frozen? ⟨W.heap.size,0,none⟩=false:=
 ⟨(Blk.new W t #[v]).cell 0,(Blk.new W t #[v]).frozen 0⟩
theorem cell_alloc_l{W:World}{a:Addr}{v:Value}(o:Obj)(h:W.cell? a=some v):(W.alloc o).cell? a=some v:=cell_kept h (World.grownBy_alloc W o none) (fun r e=>by cases e)
theorem frozen_alloc_l{W:World}{a:Addr}{v:Value}(o:Obj)(h:W.cell? a=some v)(hf:W.frozen? a=false):(W.alloc o).frozen? a=false:=(frozen_kept h (World.grownBy_alloc W o none) (fun r e=>by cases e)).trans hf
def pY(l:List Run):Option Int:=(evs (Rp.norm l)).head?
theorem cell_far{W:World}{a b:Addr}(h:a.block≠b.block)(v:Value):(W.setCell b v).cell? a=W.cell? a:=by
 unfold World.cell?
 rw[Below.heap_setCell _ _ _ _ h]
def mF(o:Option Int)(w:World)(e:Ending)(w':World):Prop:=(match o with | none=>e= .returned (.tuple #[.int .i64 0, .bool false]) | some x=>e= .returned (.tuple #[.int .i64 x, .bool true]))/\Below w.heap.size w w'
theorem mF.none_{o:Option Int}{w w':World}(h:o=none)(hb:Below w.heap.size w w'):mF o w (.returned (.tuple #[.int .i64 0, .bool false])) w':=by subst h;exact⟨rfl,hb⟩
theorem mF.some_{o:Option Int}{x:Int}{w w':World}(h:o=some x)(hb:Below w.heap.size w w'):mF o w (.returned (.tuple #[.int .i64 x, .bool true])) w':=by subst h;exact⟨rfl,hb⟩
theorem first_any(A:Option Addr)(c:Nat)(rs:List Run)(hl:rs.length<=1000000)(w:World)(hr:RS w w.heap.size A rs):
  Calls Tryz.prog 82 #[.slice A rs.length c] w (mF (pY rs) w):=by
 refine(callsIn_wide (n:=2)).1 ?_
 refine callsIn_of_wp_marks Tryz.func82 rfl trivial ?_ rfl
 simp only[Tryz.ntmps82,List.size_toArray,List.length_cons,List.length_nil,Nat.reduceAdd,Nat.reduceSub,Array.replicate_succ,Array.replicate_zero,List.push_toArray,List.append_toArray,List.nil_append,List.cons_append]
 gi_wp2_with (refine⟨trivial, ?_⟩;gi_at_call 159;refine(callsIn_wide.2 (YK A rs.length c _)).mono ?_;rintro e w' ⟨rfl,rfl⟩)
 have c0:=cell_new_l w (.int .i64 0) 3
 have c1:=cell_new_l (w.alloc (.cells #[.int .i64 0] 3)) (.bool false) 4
 have c2:=cell_new_l ((w.alloc (.cells #[.int .i64 0] 3)).alloc (.cells #[.bool false] 4)) (.slice A rs.length c) 47
 simp only[World.size_alloc]at c1 c2
 have hB0:Below w.heap.size w (((w.alloc (.cells #[.int .i64 0] 3)).alloc (.cells #[.bool false] 4)).alloc (.cells #[.slice A rs.length c] 47)):=(((Below.refl _ w).alloc (Nat.le_refl _) _).alloc (by simp) _).alloc (by simp;omega) _
 refine wpIn_rangeFunc_ownF rfl (by decide) (gf:=220) (lb:= #[.pointer (some ⟨w.heap.size+1+1,0,none⟩)]) rfl trivial (enters_of Tryz.func220 (by kernel_rfl) rfl)
  (all_stops (w.heap.size+1+1) w.heap.size c A rs hl _ (by simp;omega) (by simp) c2.1 ((hr.below hB0).more hB0.size)) adf (adg (by simp;omega)) (Below.refl _ _) (fun _=>rfl)
  (fun pre W=>(pre= []/\W.cell? ⟨w.heap.size,0,none⟩=some (.int .i64 0)/\W.frozen? ⟨w.heap.size,0,none⟩=false/\W.cell? ⟨w.heap.size+1,0,none⟩=some (.bool false)/\W.frozen? ⟨w.heap.size+1,0,none⟩=false)/\Below w.heap.size w W)
  (fun k pre W=>(k= .ret/\∃x,pre= [x]/\W.cell? ⟨w.heap.size,0,none⟩=some (.int .i64 x)/\W.cell? ⟨w.heap.size+1,0,none⟩=some (.bool true))/\Below w.heap.size w W)
  (OwnFrom.and (Own.from (fun s A B row hs hg hr=>⟨hs.1,cell_kept hs.2.1 hg hr,(frozen_kept hs.2.1 hg hr).trans hs.2.2.1,cell_kept hs.2.2.2.1 hg hr,(frozen_kept hs.2.2.2.1 hg hr).trans hs.2.2.2.2⟩) _) (ownFrom_below (Nat.le_refl _) (by simp;omega)))
  (fun k=>OwnFrom.and (Own.from (fun s A B row hs hg hr=>by obtain⟨h1,x,h2,h3,h4⟩:=hs;exact⟨h1,x,h2,cell_kept h3 hg hr,cell_kept h4 hg hr⟩) _) (ownFrom_below (Nat.le_refl _) (by simp;omega)))
  ⟨⟨rfl,cell_alloc_l _ (cell_alloc_l _ c0.1),frozen_alloc_l _ (cell_alloc_l _ c0.1) (frozen_alloc_l _ c0.1 c0.2),cell_alloc_l _ c1.1,frozen_alloc_l _ c1.1 c1.2⟩,hB0⟩
  (fun x=> { tmps:= #[.slice A rs.length c,undef, .pointer (some ⟨w.heap.size,0,none⟩), .pointer (some ⟨w.heap.size+1,0,none⟩), .int .i64 x, .slice A rs.length c, .func (.func 220) #[] #[.pointer (some ⟨w.heap.size+1+1,0,none⟩)], .int .i64 x,undef],defers:= [] }) ?assign ?body ?done ?stop
 case assign=>
  intro l x W K hK
  gi_wp2
  exact hK
 case body=>
  rintro l pre x W ⟨⟨rfl,hc0,hf0,hc1,hf1⟩,hB⟩ _
  gi_wp2
  have hB1:=hB.setCell (p:=⟨w.heap.size,0,none⟩) (Nat.le_refl _) (.int .i64 x)
  exact⟨(KeepsOthers.setCell _ _ _).trans (KeepsOthers.setCell _ _ _),⟨rfl,x,rfl,(cell_far (by simp) _).trans (World.cell?_setCell_same' _ _ _ (by rw[hc0];rfl)),World.cell?_setCell_same' _ _ _ (by rw[cell_far (by simp) _,hc1];rfl)⟩,hB1.setCell (p:=⟨w.heap.size+1,0,none⟩) (by simp) _⟩
 case done=>
  rintro D ys W hD hS ⟨⟨rfl,hc0,hf0,hc1,hf1⟩,hB⟩ hK
  gi_wp2
  have hK1:=(KeepsOthers.setCell W ⟨w.heap.size,0,none⟩ (.int .i64 0)).same D _ hK rfl
  have hB1:=hB.setCell (p:=⟨w.heap.size,0,none⟩) (Nat.le_refl _) (.int .i64 0)
  have e0:=World.cell?_setCell_same' W ⟨w.heap.size,0,none⟩ (.int .i64 0) (by rw[hc0];rfl)
  have e1:(W.setCell ⟨w.heap.size,0,none⟩ (.int .i64 0)).cell? ⟨w.heap.size+1,0,none⟩=some (.bool false):=(cell_far (by simp) _).trans hc1
  generalize W.setCell ⟨w.heap.size,0,none⟩ (.int .i64 0)=W1 at*
  have hK2:=(KeepsOthers.setCell W1 ⟨w.heap.size+1,0,none⟩ (.bool false)).same D _ hK1 rfl
  have hB2:=hB1.setCell (p:=⟨w.heap.size+1,0,none⟩) (by simp) (.bool false)
  have d0:(W1.setCell ⟨w.heap.size+1,0,none⟩ (.bool false)).cell? ⟨w.heap.size,0,none⟩=some (.int .i64 0):=(cell_far (by simp) _).trans e0
  have d1:=World.cell?_setCell_same' W1 ⟨w.heap.size+1,0,none⟩ (.bool false) (by rw[e1];rfl)
  generalize W1.setCell ⟨w.heap.size+1,0,none⟩ (.bool false)=W2 at*
  refine⟨by simp, .inl ⟨_,_,rfl,run_takeDeferred hK2, ?_⟩⟩
  have h0:=cell_kept d0 (grownBy_putObj' _ D (.deferred none)) (fun r e=>by cases e;exact⟨_,hK2,rfl⟩)
  have h1:=cell_kept d1 (grownBy_putObj' _ D (.deferred none)) (fun r e=>by cases e;exact⟨_,hK2,rfl⟩)
  refine⟨.tuple #[.int .i64 0, .bool false], ?_,mF.none_ (by unfold pY;rw[<-hS];rfl) (hB2.trans (belowK_b (w:=w) (Nat.le_refl _) _ D _ _ (by simp at hD;omega) hK2 rfl rfl))⟩
  simp[results,Tryz.f82,go_sem,h0,h1]
 case stop=>
  rintro D k pre W hD hpre ⟨⟨rfl,x,rfl,hc0,hc1⟩,hB⟩ hK
  gi_wp2
  refine⟨by simp, .inl ⟨_,_,rfl,run_takeDeferred hK, ?_⟩⟩
  have h0:=cell_kept hc0 (grownBy_putObj' _ D (.deferred none)) (fun r e=>by cases e;exact⟨_,hK,rfl⟩)
  have h1:=cell_kept hc1 (grownBy_putObj' _ D (.deferred none)) (fun r e=>by cases e;exact⟨_,hK,rfl⟩)
  refine⟨.tuple #[.int .i64 x, .bool true], ?_,mF.some_ (by obtain⟨t,ht⟩:=hpre;unfold pY;rw[<-ht];rfl) (hB.trans (belowK_b (w:=w) (Nat.le_refl _) W D _ _ (by simp at hD;omega) hK rfl rfl))⟩
  simp[results,Tryz.f82,go_sem,h0,h1]
end Go.Proofs.YteppebbmnojapaaGreatDoor
