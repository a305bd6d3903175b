/- Part of this proof. -/
import Derived.Test.YtadnmegdbllaoaaGreatDoorK908
import Derived.Test.YtadnmegdbllaoaaGreatDoorK909
set_option maxRecDepth 100000
set_option maxHeartbeats 8000000
open Array renaming size_append->ahd
open Go.KeepsOthers renaming setCell->ahk
open Go.RowKit.Below renaming refl->aai
open Go.Value renaming int->acS
open Go.World renaming cell?_setCell_same'->ag7,grownBy_alloc->agW
open List renaming cons_append->agZ,flatMap_append->agt,length_append->aag,length_cons->acH,length_nil->adh,nil_append->ajX
namespace Go.Proofs.YtadnmegdbllaoaaGreatDoor
open Go.RowKit Go.Shelf Tryz
theorem Kr(l:List Run):∀u∈iH l,u.oneCell'=true:=IK l
theorem aej(n:Nat)(w:World)(hn:n<=4000000):Calls prog 154 #[.slice none 0 0, .int .i64 n] w (oQ [] w):=by
 obtain⟨i0,hi,iR,gI,yj⟩:=Hq;by_cases h0:n=0
 ·subst h0;refine Calls.mono (Any8.slices_Grow_room Tryz.growRun none 0 0 0 w ak ak ak ak) ?_;rintro e w' ⟨rfl,hw⟩;subst hw;exact⟨_,rfl,Own.nil_ _ _,aU⟩
 ·refine Calls.mono (Any8.slices_Grow_grow Tryz.growRun i0 _ hi iR ak none 0 0 n [] w ak ak (by rw[yj];omega) ak aH (λ_=>rfl) (λa h=>by cases h)) ?_;rintro e w' ⟨rfl,rfl⟩;refine⟨_,rfl, ?_,(aU.drew).alloc aK _⟩;refine World.ownsRow_made (base:=w.heap.size) (e:=102) (size:=2) w.drew _ _ aK (grownCap_le_maxLen w _ _ _ (by unfold maxLen;omega)) ?_;rw[ahd,ahd,size_zeroCells,size_zeroCells];have h:=grownCap_ge w (0+n) 0 102;have e1:(Value.agg #[acS IntKind.i64 0,acS IntKind.i64 0]).cells.size=2:=rfl;have e2:Tryz.growRun_ren.t 25=102:=rfl;rw[e1,e2];simp only[Nat.zero_add]at h ⊢;simp;omega
theorem TV(g:Nat)(A1 A2:Option Addr)(k1 k2:Nat)(l1 l2:List Run)(w:World)(hB:aO w g 100 #[.slice A1 l1.length k1, .slice A2 l2.length k2])(h1:RS w w.heap.size A1 l1)(h2:RS w w.heap.size A2 l2)(E5:l1.length<=1000000)(MF:l2.length<=1000000):
  Calls prog 119 #[.slice (some ⟨g,0,none⟩) 2 2] w (oQ (l1++l2) w):=by
 obtain⟨o,ho⟩:=aJ (l1++l2);rw[<-ho];have HO:=ah ho;clear ho;have c0:w.cell? ⟨g,0,none⟩=some (.slice A1 l1.length k1):=hB.cell 0;have c1:w.cell? ⟨g,1,none⟩=some (.slice A2 l2.length k2):=hB.cell 1;have BP:=hB.lt;go_enter func119,ntmps119
 go_wp2
 go_loop [3,5,11] (λs x i=>(i= .int .i64 0/\s= .int .i64 0)\/(i= .int .i64 1/\s= .int .i64 (l1.length:Int))\/(i= .int .i64 2/\s= .int .i64 ((l1.length:Int)+l2.length))) (λ_ _ i=>2-(intOf i).toNat)
 case atStart=>exact .inl ⟨rfl,rfl⟩
 case round=>
  rcases hrel with⟨rfl,rfl⟩ | ⟨rfl,rfl⟩ | ⟨rfl,rfl⟩
  ·go_wp2;exact⟨.inr (.inl ⟨rfl,by go_num⟩),by simp[intOf]⟩
  ·go_wp2;exact⟨.inr (.inr ⟨rfl,rfl⟩),by simp[intOf]⟩
  ·have Vw:=aej (l1.length+l2.length) w ak;have e:((l1.length+l2.length:Nat):Int)=(l1.length:Int)+l2.length:=by omega
   rw[e]at Vw;have HG:=ah Vw;clear Vw e;go_wp2_with fail
   refine HG.out.mono ?_;rintro e w2 ⟨v,rfl,Ij,bK⟩;have d0:w2.cell? ⟨g,0,none⟩=some (.slice A1 l1.length k1):=(bK.cell BP).trans c0;have d1:w2.cell? ⟨g,1,none⟩=some (.slice A2 l2.length k2):=(bK.cell BP).trans c1;have r1:=(h1.below bK).more bK.size;have r2:=(h2.below bK).more bK.size;clear c0 c1;go_wp2
   go_loopw [6,8,27] (λv x i wr=>Below w.heap.size w2 wr/\((i= .int .i64 0/\Own wr w.heap.size v [])\/(i= .int .i64 1/\Own wr w.heap.size v l1)\/(i= .int .i64 2/\Own wr w.heap.size v (l1++l2)))) (λ_ _ i _=>2-(intOf i).toNat)
   case atStart=>exact⟨aU, .inl ⟨rfl,Ij⟩⟩
   case round=>
    obtain⟨fJ,hc⟩:=hrel;have Bz:w.heap.size<=wr.heap.size:=Nat.le_trans bK.size fJ.size;have e0:wr.cell? ⟨g,0,none⟩=some (.slice A1 l1.length k1):=(fJ.cell BP).trans d0;have e1:wr.cell? ⟨g,1,none⟩=some (.slice A2 l2.length k2):=(fJ.cell BP).trans d1;have s1:RS wr wr.heap.size A1 l1:=(h1.below (bK.trans fJ)).more Bz;have s2:RS wr wr.heap.size A2 l2:=(h2.below (bK.trans fJ)).more Bz;rcases hc with⟨rfl,dh⟩ | ⟨rfl,dh⟩ | ⟨rfl,dh⟩
    ·have rP:wr.ownsRow w.heap.size 102 2 u6 0 []:=dh;go_wp2_with (at_builtin;refine lJ rfl (.tmp 31) (.tmp 32) 100 rfl Hq underlying100 rfl ay rfl rP rfl s1 (Kr _) (by unfold maxLen;omega) ak Bz ?_;intro v' w3 eG jT iT)
     go_roundw
     case rel=>
      refine⟨fJ.trans iT, .inr (.inl ⟨rfl, ?_⟩)⟩;unfold Own;simpa using eG
     case measure=>simp[intOf]
    ·have rP:wr.ownsRow w.heap.size 102 2 u6 l1.length (iH l1):=dh;go_wp2_with (at_builtin;refine lJ rfl (.tmp 31) (.tmp 32) 100 rfl Hq underlying100 rfl ay rfl rP rfl s2 (Kr _) (by unfold maxLen;omega) ak Bz ?_;intro v' w3 eG jT iT)
     go_roundw
     case rel=>
      refine⟨fJ.trans iT, .inr (.inr ⟨rfl, ?_⟩)⟩;unfold Own;rw[qN,aag];exact eG
     case measure=>simp[intOf]
    ·go_wp2;go_ret;exact⟨_,rfl,by rw[HO.out];exact dh,bK.trans fJ⟩
theorem oQ.open_{o:List Run}{w w':World}{e:Ending}(h:oQ o w e w'):∃A c,e= .returned (.slice A o.length c)/\Own w' w.heap.size (.slice A o.length c) o/\RS w' w'.heap.size A o/\Below w.heap.size w w':=by
 obtain⟨v,rfl,ho,hb⟩:=h;obtain⟨A,c,rfl⟩:=ho.form;exact⟨A,c,rfl,ho,ho.rs,hb⟩
theorem OZ(A1 A2:Option Addr)(k1 k2:Nat)(l1 l2:List Run)(w:World)(h1:RS w w.heap.size A1 l1)(h2:RS w w.heap.size A2 l2)(E5:l1.length<=400000)(MF:l2.length<=400000):
  Calls prog 85 #[.slice A1 l1.length k1, .slice A2 l2.length k2] w (oQ (Rp.union l1 l2) w):=by
 have hc:=fun(W:World)=>TV W.heap.size A1 A2 k1 k2 l1 l2 (W.alloc (.cells #[.slice A1 l1.length k1, .slice A2 l2.length k2] 100)) (aO.new W _ _);have hn:=λA c W h=>Kq A c (l1++l2) W h (by simp;omega);have e:Rp.norm (l1++l2)=Rp.union l1 l2:=rfl;rw[e]at hn;generalize Rp.union l1 l2=o at*;generalize l1++l2=q at*;have HC:=λW a b c d=>ah (hc W a b c d);have HN:=λA c W h=>ah (hn A c W h);clear hc hn e;have r1:=(h1.below ((aai _ w).alloc aK (.cells #[.slice A1 l1.length k1, .slice A2 l2.length k2] 100))).more (Nat.le_succ _);have r2:=(h2.below ((aai _ w).alloc aK (.cells #[.slice A1 l1.length k1, .slice A2 l2.length k2] 100))).more (Nat.le_succ _);go_enter func85,ntmps85
 go_wp2_with fail
 refine(HC w (by simpa using r1) (by simpa using r2) ak ak).out.mono ?_;intro e w1 he;obtain⟨A3,c3,rfl,ho3,r3,b3⟩:=he.open_;clear he;go_wp2_with fail
 refine(HN _ _ _ r3).out.mono ?_;intro e w2 he;obtain⟨A4,c4,rfl,ho4,r4,b4⟩:=he.open_;clear he;go_wp2;go_ret;have hz:=b3.size;simp at hz;exact⟨_,rfl,ho4.lower ak,(((aai _ w).alloc aK _).trans (b3.mono aH)).trans (b4.mono ak)⟩
end Go.Proofs.YtadnmegdbllaoaaGreatDoor
namespace Go.Proofs.YtadnmegdbllaoaaGreatDoor
open Go.RowKit Tryz
theorem aaZ(a b:List Run):(Rp.union a b).length<=a.length+b.length:=by
 have:=D6 (a++b);unfold Rp.union;simpa using this
theorem FQ(a:List Run):(Rp.rest a).length<=a.length+1:=by
 have:=Rp.adZ a;have:=D6 a;omega
theorem TW(A1 A2:Option Addr)(k1 k2:Nat)(l1 l2:List Run)(w:World)(h1:RS w w.heap.size A1 l1)(h2:RS w w.heap.size A2 l2)(E5:l1.length<=100000)(MF:l2.length<=100000):
  Calls prog 58 #[.slice A1 l1.length k1, .slice A2 l2.length k2] w (oQ (Rp.meet l1 l2) w):=by
 have q1:=FQ l1;have q2:=FQ l2;have q3:=aaZ (Rp.rest l1) (Rp.rest l2);have c1:=λW h=>aS (D7 A1 k1 l1 W h ak);have c2:=λW h=>aS (D7 A2 k2 l2 W h ak);have c3:=λA B a b W h h'=>aS (OZ A B a b (Rp.rest l1) (Rp.rest l2) W h h' ak ak);have c4:=λA a W h=>aS (D7 A a (Rp.union (Rp.rest l1) (Rp.rest l2)) W h ak);have e:Rp.rest (Rp.union (Rp.rest l1) (Rp.rest l2))=Rp.meet l1 l2:=rfl;rw[e]at c4;clear q1 q2 q3 e;generalize Rp.meet l1 l2=o at*;generalize Rp.union (Rp.rest l1) (Rp.rest l2)=u at*;generalize Rp.rest l1=s1 at*;generalize Rp.rest l2=s2 at*;go_enter func58,ntmps58
 go_wp2_with fail
 refine(c1 _ h1).out.mono ?_;intro e w1 he;obtain⟨B1,x1,rfl,_,r1,b1⟩:=he.open_;clear he;have Na:RS w1 w1.heap.size A2 l2:=(h2.below b1).more b1.size;go_wp2_with fail
 refine(c2 _ Na).out.mono ?_;intro e w2 he;obtain⟨B2,x2,rfl,_,r2,b2⟩:=he.open_;clear he;have r1':RS w2 w2.heap.size B1 s1:=(r1.below b2).more b2.size;go_wp2_with fail
 refine(c3 _ _ _ _ _ r1' r2).out.mono ?_;intro e w3 he;obtain⟨B3,x3,rfl,_,r3,b3⟩:=he.open_;clear he;go_wp2_with fail
 refine(c4 _ _ _ r3).out.mono ?_;intro e w4 he;obtain⟨B4,x4,rfl,o4,r4,b4⟩:=he.open_;clear he;go_wp2;go_ret;have z1:=b1.size;have z2:=b2.size;have z3:=b3.size;exact⟨_,rfl,o4.lower ak,((b1.trans (b2.mono z1)).trans (b3.mono ak)).trans (b4.mono ak)⟩
theorem aa0(A1 A2:Option Addr)(k1 k2:Nat)(l1 l2:List Run)(w:World)(h1:RS w w.heap.size A1 l1)(h2:RS w w.heap.size A2 l2)(E5:l1.length<=90000)(MF:l2.length<=90000):
  Calls prog 249 #[.slice A1 l1.length k1, .slice A2 l2.length k2] w (oQ (Rp.minus l1 l2) w):=by
 have q2:=FQ l2;have c2:=λW h=>aS (D7 A2 k2 l2 W h ak);have c3:=λA B a b W h h'=>aS (TW A B a b l1 (Rp.rest l2) W h h' ak ak);have e:Rp.meet l1 (Rp.rest l2)=Rp.minus l1 l2:=rfl;rw[e]at c3;clear q2 e;generalize Rp.minus l1 l2=o at*;generalize Rp.rest l2=s2 at*;go_enter func249,ntmps249
 go_wp2_with fail
 refine(c2 _ h2).out.mono ?_;intro e w2 he;obtain⟨B2,x2,rfl,_,r2,b2⟩:=he.open_;clear he;have r1':RS w2 w2.heap.size A1 l1:=(h1.below b2).more b2.size;go_wp2_with fail
 refine(c3 _ _ _ _ _ r1' r2).out.mono ?_;intro e w3 he;obtain⟨B3,x3,rfl,o3,r3,b3⟩:=he.open_;clear he;go_wp2;go_ret;have z2:=b2.size;exact⟨_,rfl,o3.lower z2,b2.trans (b3.mono z2)⟩
theorem RS.single(W:World)(a b:Int)(te:TypeId):RS (W.alloc (.cells #[.int .i64 a, .int .i64 b] te)) (W.alloc (.cells #[.int .i64 a, .int .i64 b] te)).heap.size (some ⟨W.heap.size,0,none⟩) [(a,b)]:=by
 refine⟨by simp[iH,encR],λ_=>⟨_,rfl,by simp,λj u hu=> ?_⟩⟩;rw[Addr.add_lit,Nat.zero_add,(aO.new W te _).cell j];simpa[iH,encR]using hu
theorem add_any(A:Option Addr)(k:Nat)(l:List Run)(n:Int)(w:World)(h:RS w w.heap.size A l)(hl:l.length<=90000):
  Calls prog 208 #[.slice A l.length k, .int .i64 n] w (oQ (Rp.union l [(n,n)]) w):=by
 have c3:=λW h=>aS (OZ A (some ⟨W.heap.size,0,none⟩) k 1 l [(n,n)] _ h (RS.single W n n 102) ak aH);change ∀W:World,RS (W.alloc (.cells #[.int .i64 n, .int .i64 n] 102)) _ A l->Hid (Calls prog 85 #[.slice A l.length k, .slice (some ⟨W.heap.size,0,none⟩) 1 1] _ _)at c3;generalize Rp.union l [(n,n)]=o at*;have r1:RS (w.alloc (.cells #[.int .i64 n, .int .i64 n] 102)) (w.alloc (.cells #[.int .i64 n, .int .i64 n] 102)).heap.size A l:=(h.below ((aai _ w).alloc aK _)).more aH;go_enter func208,ntmps208
 go_wp2_with fail
 refine(c3 w r1).out.mono ?_;intro e w3 he;obtain⟨B3,x3,rfl,o3,r3,b3⟩:=he.open_;clear he;go_wp2;go_ret;exact⟨_,rfl,o3.lower aH,((aai _ w).alloc aK _).trans (b3.mono aH)⟩
theorem Xr(A:Option Addr)(k:Nat)(l:List Run)(n:Int)(w:World)(h:RS w w.heap.size A l)(hl:l.length<=90000):
  Calls prog 234 #[.slice A l.length k, .int .i64 n] w (oQ (Rp.minus l [(n,n)]) w):=by
 have c3:=λW h=>aS (aa0 A (some ⟨W.heap.size,0,none⟩) k 1 l [(n,n)] _ h (RS.single W n n 102) ak aH);change ∀W:World,RS (W.alloc (.cells #[.int .i64 n, .int .i64 n] 102)) _ A l->Hid (Calls prog 249 #[.slice A l.length k, .slice (some ⟨W.heap.size,0,none⟩) 1 1] _ _)at c3;generalize Rp.minus l [(n,n)]=o at*;have r1:RS (w.alloc (.cells #[.int .i64 n, .int .i64 n] 102)) (w.alloc (.cells #[.int .i64 n, .int .i64 n] 102)).heap.size A l:=(h.below ((aai _ w).alloc aK _)).more aH;go_enter func234,ntmps234
 go_wp2_with fail
 refine(c3 w r1).out.mono ?_;intro e w3 he;obtain⟨B3,x3,rfl,o3,r3,b3⟩:=he.open_;clear he;go_wp2;go_ret;exact⟨_,rfl,o3.lower aH,((aai _ w).alloc aK _).trans (b3.mono aH)⟩
theorem FT:∀ (l:List Run) (lo:Int),0<=lo->Rp.Canon lo l->∀y∈l,0<=y.1/\y.1<=y.2/\y.2<=4294967295
 | [],_,_,_,_,hy=>by cases hy
 |r::l,lo,zX,h,y,hy=>by
  obtain⟨h1,h2,h3,h4⟩:=h;unfold Rp.Most at h3;rcases List.mem_cons.1 hy with rfl | hy
  ·omega
  ·exact FT l _ ak h4 y hy
end Go.Proofs.YtadnmegdbllaoaaGreatDoor
namespace Go.Proofs.YtadnmegdbllaoaaGreatDoor
open Go.RowKit Go.Shelf Tryz
attribute [local go_sem] Oper.semAt_some
def CK(B:Nat)(W W':World):Prop:=∀k o,B<=k->W.heap[k]? =some o->o.isCells=true->W'.heap[k]? =some o
theorem CK.refl(B:Nat)(W:World):CK B W W:=λ_ _ _ h _=>h
theorem CK.trans{B:Nat}{W1 W2 W3:World}(h:CK B W1 W2)(k:CK B W2 W3):CK B W1 W3:=λi o hi ho hc=>k i o hi (h i o hi ho hc) hc
theorem CK.alloc(B:Nat)(W:World)(o:Obj):CK B W (W.alloc o):=λi _ _ ho _=>(Below.heap_alloc W o i (Array.getElem?_eq_some_iff.1 ho).1).trans ho
theorem CK.cell{B:Nat}{W W':World}(h:CK B W W'){p:Addr}{v:Value}(hp:B<=p.block)(hc:W.cell? p=some v):W'.cell? p=some v:=by
 unfold World.cell? at*
 cases ho:W.heap[p.block]? with
 |none=>rw[ho]at hc;simp at hc
 |some o=>
  rw[ho]at hc
  cases o<;>simp at hc
  rename_i c e f;rw[h _ _ hp ho rfl];simp[hc]
theorem al6{w:World}{base:Nat}{p:Addr}{n c:Nat}{l:List Run}(h:Own w base (.slice (some p) n c) l):base<=p.block:=by
 rcases h.2 with⟨e,_⟩ | ⟨g,cap,cur,e,hg,_⟩
 ·cases e
 ·injection e with e1;injection e1 with e1;subst e1;exact hg
def KpA(n₀ B:Nat)(W W':World):Prop:=Below n₀ W W'/\CK B W W'
theorem ap9{n₀ B:Nat}{W1 W2 W3:World}(h:KpA n₀ B W1 W2)(k:KpA n₀ B W2 W3):KpA n₀ B W1 W3:=⟨h.1.trans k.1,h.2.trans k.2⟩
theorem aqa{n₀ B:Nat}{w:World}(hn:n₀<=w.heap.size)(W:World)(l:Nat)(o o':Obj)(hl:w.heap.size<=l)(h:W.heap[l]? =some o)(hc:o.isCells=false)(hw:o.isWalk=false):KpA n₀ B W (W.putObj l o'):=
 ⟨belowK_b hn W l o o' hl h hc hw,λi o2 _ Ij Dy=>by
  have dL:l≠i:=λe=>by subst e;rw[h]at Ij;injection Ij with e;subst e;rw[hc]at Dy;cases Dy
  simp[World.putObj,dL,Ij]⟩
def Bl(r:Run)(j:Nat):List Int:=(List.range j).map (λi:Nat=>r.1+(i:Int))
theorem aa1(r:Run)(j:Nat):Bl r (j+1)=Bl r j++ [r.1+(j:Int)]:=by simp[Bl,List.range_succ]
theorem TY(r:Run)(j:Nat):(Bl r j).length=j:=by simp[Bl]
def cnt(r:Run):Nat:=(r.2-r.1+1).toNat
def evs(l:List Run):List Int:=l.flatMap (λr=>Bl r (cnt r))
theorem Ua(l:List Run)(k:Nat)(hk:k<l.length):evs (l.take (k+1))=evs (l.take k)++Bl l[k] (cnt l[k]):=by
 unfold evs;rw[List.take_succ_eq_append_getElem hk,agt];simp
theorem Xt(l:List Run)(k:Nat):evs (l.take k) <+: evs l:=by
 refine⟨evs (l.drop k), ?_⟩;unfold evs;rw[<-agt,List.take_append_drop]
theorem Ub(r:Run){i j:Nat}(h:i<=j):Bl r i <+: Bl r j:=by
 obtain⟨d,rfl⟩:=Nat.exists_eq_add_of_le h;refine⟨(List.range d).map (λx:Nat=>r.1+((i+x:Nat):Int)), ?_⟩;unfold Bl;rw[List.range_add,List.map_append,List.map_map];rfl
theorem al7(l:List Run)(k:Nat)(hk:k<l.length)(j:Nat)(hj:j<=cnt l[k]):evs (l.take k)++Bl l[k] j <+: evs l:=by
 have h1:evs (l.take k)++Bl l[k] j <+: evs (l.take (k+1)):=by
  rw[Ua l k hk];exact List.prefix_append_right_inj _ |>.2 (Ub _ hj)
 exact h1.trans (Xt l (k+1))
theorem all1_in(l Bn n₀ B c:Nat)(A:Option Addr)(rs:List Run)(hl:rs.length<=1000000)(J Jx:List Int->World->Prop)
  (W:World) (hn:n₀<=B) (E8:B<=W.heap.size) (hJ:AbidesFrom W.heap.size J)
  (hY:∀pre x W1,J pre W1->pre.length<(evs (Rp.norm rs)).length->YieldAt Fence.wide 0 prog l #[.int .i64 x] W1 λe W'=>
   (e= .returned (.bool true)/\J (pre++ [x]) W'/\KpA n₀ B W1 W')\/(e= .returned (.bool false)/\Jx (pre++ [x]) W'))
  (iM:W.cell? ⟨Bn,0,none⟩=some (.slice A rs.length c)) (hr:RS W W.heap.size A rs) (h0:J [] W):
  CallsIn Fence.wide 1 prog 255 #[.func (.yield l) #[] #[], .pointer (some ⟨Bn,0,none⟩)] W λe W'=>(∃v,e= .returned v)/\
   ((∃ys,ys=evs (Rp.norm rs)/\J ys W')\/(∃pre,pre <+: evs (Rp.norm rs)/\Jx pre W')):=by
 have hc:=Kq A c rs W hr hl;have Dx:=D6 rs;have pW:=FT _ 0 (Int.le_refl _) (Rp.xH rs).1;generalize Rp.norm rs=s at*;have hle:=hn;refine callsIn_of_wp func255 rfl trivial ?_ rfl;simp only[ntmps255,List.size_toArray,acH,adh,Nat.reduceAdd,Nat.reduceSub,Array.replicate_succ,Array.replicate_zero,List.push_toArray,List.append_toArray,ajX,agZ]
 gi_wp2_with (refine⟨trivial, ?_⟩;gi_at_call 118;refine(callsIn_wide.2 hc).mono ?_;intro e w1 he;obtain⟨A1,c1,rfl,ho1,r1,b1⟩:=he.open_)
 gi_loopw [9] (λi wr=>∃k:Nat,k<=s.length/\i= .int .i64 k/\J (evs (s.take k)) wr/\CK B w1 wr/\B<=wr.heap.size) (λi _=>s.length-(intOf i).toNat)
 case atStart=>exact⟨0,Nat.zero_le _,rfl,hJ _ _ _ _ h0 (kR b1 none) aH,CK.refl _ _,by have:=b1.size;omega⟩
 case round=>
  obtain⟨k,hk,rfl,hJs,ZI,fG⟩:=hrel;by_cases hlt:k<s.length
  ·obtain⟨b2,o2,rfl,bK,g0,g1⟩:=r1.at_ hlt;have dJ:B<=b2:=Nat.le_trans E8 (al6 ho1);have f0:=ZI.cell (p:=⟨b2,_,none⟩) dJ g0;have f1:=ZI.cell (p:=⟨b2,_,none⟩) dJ g1;have hev:=al7 s k hlt;have hsu:=Ua s k hlt;have hy:=pW _ (List.getElem_mem hlt);have Gv:cnt s[k]=(s[k].2-s[k].1+1).toNat:=rfl;generalize evs (s.take k)=P at*;generalize s[k]=y at*;obtain⟨a,b⟩:=y;simp only at hy g0 g1 f0 f1 Gv;generalize cnt (a,b)=N at*
   gi_wp2
   have hJ1:=hJ _ _ _ _ hJs (agW wr (.cells #[.int .i64 a, .int .i64 b] 102) none) aH;have hv0:(wr.alloc (.cells #[.int .i64 a, .int .i64 b] 102)).cell? ⟨wr.heap.size,1,none⟩=some (.int .i64 b):=(aO.new wr 102 #[.int .i64 a, .int .i64 b]).cell 1;have vg:=CK.alloc B wr (.cells #[.int .i64 a, .int .i64 b] 102);have jr:B<=(wr.alloc (.cells #[.int .i64 a, .int .i64 b] 102)).heap.size:=by simp;omega
   generalize wr.alloc (.cells #[.int .i64 a, .int .i64 b] 102)=wa at*;generalize wr.heap.size=q at*
   gi_loopw [5] (λi wr2=>∃j:Nat,j<=N/\i= .int .i64 (a+j)/\J (P++Bl (a,b) j) wr2/\CK B wa wr2/\B<=wr2.heap.size) (λi _=>(b+1-intOf i).toNat)
   case atStart=>exact⟨0,Nat.zero_le _,by simp,by simpa[Bl]using hJ1,CK.refl _ _,jr⟩
   case round=>
    obtain⟨j,hj,rfl,hJ2,sV,mW⟩:=hrel;have g3:=sV.cell (p:=⟨q,1,none⟩) fG hv0;by_cases hjl:j<N
    ·have yt:(P++Bl (a,b) j).length<(evs s).length:=by
      have:=(hev (j+1) ak).length_le;rw[aag,TY]at this ⊢;omega
     obtain⟨fn,tmps,assign,body,hyl,hR⟩:=hY _ (a+j) _ hJ2 yt;rw[List.append_assoc, <-aa1 (a,b) j]at hR
     gi_wp2
     refine hR.mono ?_;rintro e W3 (⟨rfl,hJ3,PY⟩ | ⟨rfl,axI⟩)
     ·gi_wp2
      go_roundw
      case rel=>exact⟨j+1,by omega,by go_num,hJ3,sV.trans PY.2,by have:=PY.1.size;omega⟩
      case measure=>simp[intOf];omega
     ·gi_wp2
      refine bodyPost_ret (results_none rfl _ _ _) rfl ?_;exact⟨⟨_,rfl⟩, .inr ⟨_,hev (j+1) ak,axI⟩⟩
    ·obtain rfl:j=N:=by omega
     gi_wp2
     go_roundw
     case rel=>exact⟨k+1,by omega,by go_num,by rw[hsu];exact hJ2,ZI.trans (vg.trans sV),mW⟩
     case measure=>simp[intOf];omega
  ·obtain rfl:k=s.length:=by omega
   gi_wp2
   go_end0
   rw[List.take_of_length_le aK]at hJs;exact⟨⟨_,rfl⟩, .inl ⟨_,rfl,hJs⟩⟩
theorem all_stops(Bn n₀ c:Nat)(A:Option Addr)(rs:List Run)(hl:rs.length<=1000000)(w:World)(hn:n₀<=w.heap.size)(axJ:Bn<w.heap.size)
  (iM:w.cell? ⟨Bn,0,none⟩=some (.slice A rs.length c)) (hr:RS w w.heap.size A rs):
  SeqStopsK Fence.wide 1 prog 255 #[.pointer (some ⟨Bn,0,none⟩)] (λx:Int=> #[acS .i64 x]) (KpA n₀ w.heap.size) (λys=>ys=evs (Rp.norm rs)) (λpre=>pre <+: evs (Rp.norm rs)) (evs (Rp.norm rs)).length w:=
 λl J Jx W hW hJ _ hY h0=>all1_in l Bn n₀ w.heap.size c A rs hl J Jx W hn hW.size hJ hY ((hW.cell (p:=⟨Bn,0,none⟩) axJ).trans iM) ((hr.below hW).more hW.size) h0
theorem ahW(A:Option Addr)(n c:Nat)(w:World):
  Calls prog 248 #[.slice A n c] w λe w'=>e= .returned (.func (.func 255) #[] #[.pointer (some ⟨w.heap.size,0,none⟩)])/\w'=w.alloc (.cells #[.slice A n c] 100):=by
 go_enter func248,ntmps248
 go_wp2;go_ret;exact⟨rfl,rfl⟩
theorem cell_new_l(W:World)(v:Value)(t:TypeId):(W.alloc (.cells #[v] t)).cell? ⟨W.heap.size,0,none⟩=some v/\(W.alloc (.cells #[v] t)).frozen? ⟨W.heap.size,0,none⟩=false:=
 ⟨(aO.new W t #[v]).cell 0,(aO.new W t #[v]).frozen 0⟩
theorem cell_alloc_l{W:World}{a:Addr}{v:Value}(o:Obj)(h:W.cell? a=some v):(W.alloc o).cell? a=some v:=cell_kept h (agW W o none) (λr e=>by cases e)
theorem frozen_alloc_l{W:World}{a:Addr}{v:Value}(o:Obj)(h:W.cell? a=some v)(hf:W.frozen? a=false):(W.alloc o).frozen? a=false:=(frozen_kept h (agW W o none) (λr e=>by cases e)).trans hf
def xO(l:List Run):Option Int:=(evs (Rp.norm l)).head?
theorem cell_far{W:World}{a b:Addr}(h:a.block≠b.block)(v:Value):(W.setCell b v).cell? a=W.cell? a:=by
 unfold World.cell?;rw[Below.heap_setCell _ _ _ _ h]
def tK(o:Option Int)(w:World)(e:Ending)(w':World):Prop:=(match o with | none=>e= .returned (.tuple #[.int .i64 0, .bool false]) | some x=>e= .returned (.tuple #[.int .i64 x, .bool true]))/\Below w.heap.size w w'
theorem tK.none_{o:Option Int}{w w':World}(h:o=none)(hb:Below w.heap.size w w'):tK o w (.returned (.tuple #[.int .i64 0, .bool false])) w':=by subst h;exact⟨rfl,hb⟩
theorem tK.some_{o:Option Int}{x:Int}{w w':World}(h:o=some x)(hb:Below w.heap.size w w'):tK o w (.returned (.tuple #[.int .i64 x, .bool true])) w':=by subst h;exact⟨rfl,hb⟩
theorem first_any(A:Option Addr)(c:Nat)(rs:List Run)(hl:rs.length<=1000000)(w:World)(hr:RS w w.heap.size A rs):
  Calls prog 233 #[.slice A rs.length c] w (tK (xO rs) w):=by
 refine(callsIn_wide (n:=2)).1 ?_;refine callsIn_of_wp_marks func233 rfl trivial ?_ rfl;simp only[ntmps233,List.size_toArray,acH,adh,Nat.reduceAdd,Nat.reduceSub,Array.replicate_succ,Array.replicate_zero,List.push_toArray,List.append_toArray,ajX,agZ]
 gi_wp2_with (refine⟨trivial, ?_⟩;gi_at_call 248;refine(callsIn_wide.2 (ahW A rs.length c _)).mono ?_;rintro e w' ⟨rfl,rfl⟩)
 have c0:=cell_new_l w (.int .i64 0) 3;have c1:=cell_new_l (w.alloc (.cells #[.int .i64 0] 3)) (.bool false) 4;have c2:=cell_new_l ((w.alloc (.cells #[.int .i64 0] 3)).alloc (.cells #[.bool false] 4)) (.slice A rs.length c) 100;simp only[World.size_alloc]at c1 c2;have hB0:Below w.heap.size w (((w.alloc (.cells #[.int .i64 0] 3)).alloc (.cells #[.bool false] 4)).alloc (.cells #[.slice A rs.length c] 100)):=(((aai _ w).alloc aK _).alloc aH _).alloc (by simp;omega) _
 refine wpIn_rangeFunc_ownF rfl ay (gf:=255) (lb:= #[.pointer (some ⟨w.heap.size+1+1,0,none⟩)]) rfl trivial (enters_of func255 aV rfl)
  (all_stops (w.heap.size+1+1) w.heap.size c A rs hl _ (by simp;omega) aH c2.1 ((hr.below hB0).more hB0.size)) ap9 (aqa (by simp;omega)) aU (λ_=>rfl)
  (λpre W=>(pre= []/\W.cell? ⟨w.heap.size,0,none⟩=some (.int .i64 0)/\W.frozen? ⟨w.heap.size,0,none⟩=false/\W.cell? ⟨w.heap.size+1,0,none⟩=some (.bool false)/\W.frozen? ⟨w.heap.size+1,0,none⟩=false)/\Below w.heap.size w W)
  (λk pre W=>(k= .ret/\∃x,pre= [x]/\W.cell? ⟨w.heap.size,0,none⟩=some (.int .i64 x)/\W.cell? ⟨w.heap.size+1,0,none⟩=some (.bool true))/\Below w.heap.size w W)
  (OwnFrom.and (Own.from (λs A B row hs hg hr=>⟨hs.1,cell_kept hs.2.1 hg hr,(frozen_kept hs.2.1 hg hr).trans hs.2.2.1,cell_kept hs.2.2.2.1 hg hr,(frozen_kept hs.2.2.2.1 hg hr).trans hs.2.2.2.2⟩) _) (ownFrom_below aK (by simp;omega)))
  (λk=>OwnFrom.and (Own.from (λs A B row hs hg hr=>by obtain⟨h1,x,h2,h3,h4⟩:=hs;exact⟨h1,x,h2,cell_kept h3 hg hr,cell_kept h4 hg hr⟩) _) (ownFrom_below aK (by simp;omega)))
  ⟨⟨rfl,cell_alloc_l _ (cell_alloc_l _ c0.1),frozen_alloc_l _ (cell_alloc_l _ c0.1) (frozen_alloc_l _ c0.1 c0.2),cell_alloc_l _ c1.1,frozen_alloc_l _ c1.1 c1.2⟩,hB0⟩
  (λx=> { tmps:= #[.slice A rs.length c,undef, .pointer (some ⟨w.heap.size,0,none⟩), .pointer (some ⟨w.heap.size+1,0,none⟩), .int .i64 x, .slice A rs.length c, .func (.func 255) #[] #[.pointer (some ⟨w.heap.size+1+1,0,none⟩)], .int .i64 x,undef],defers:= [] }) ?assign ?body ?done ?stop
 case assign=>
  intro l x W K hK
  gi_wp2
  exact hK
 case body=>
  rintro l pre x W ⟨⟨rfl,V7,Ry,ZO,eH⟩,hB⟩ _
  gi_wp2
  have iq:=hB.setCell (p:=⟨w.heap.size,0,none⟩) aK (.int .i64 x);exact⟨(ahk _ _ _).trans (ahk _ _ _),⟨rfl,x,rfl,(cell_far aH _).trans (ag7 _ _ _ (by rw[V7];rfl)),ag7 _ _ _ (by rw[cell_far aH _,ZO];rfl)⟩,iq.setCell (p:=⟨w.heap.size+1,0,none⟩) aH _⟩
 case done=>
  rintro D ys W hD hS ⟨⟨rfl,V7,Ry,ZO,eH⟩,hB⟩ hK
  gi_wp2
  have hK1:=(ahk W ⟨w.heap.size,0,none⟩ (.int .i64 0)).same D _ hK rfl;have iq:=hB.setCell (p:=⟨w.heap.size,0,none⟩) aK (.int .i64 0);have e0:=ag7 W ⟨w.heap.size,0,none⟩ (.int .i64 0) (by rw[V7];rfl);have e1:(W.setCell ⟨w.heap.size,0,none⟩ (.int .i64 0)).cell? ⟨w.heap.size+1,0,none⟩=some (.bool false):=(cell_far aH _).trans ZO;generalize W.setCell ⟨w.heap.size,0,none⟩ (.int .i64 0)=W1 at*;have hK2:=(ahk W1 ⟨w.heap.size+1,0,none⟩ (.bool false)).same D _ hK1 rfl;have jV:=iq.setCell (p:=⟨w.heap.size+1,0,none⟩) aH (.bool false);have d0:(W1.setCell ⟨w.heap.size+1,0,none⟩ (.bool false)).cell? ⟨w.heap.size,0,none⟩=some (.int .i64 0):=(cell_far aH _).trans e0;have d1:=ag7 W1 ⟨w.heap.size+1,0,none⟩ (.bool false) (by rw[e1];rfl);generalize W1.setCell ⟨w.heap.size+1,0,none⟩ (.bool false)=W2 at*;refine⟨by simp, .inl ⟨_,_,rfl,run_takeDeferred hK2, ?_⟩⟩;have h0:=cell_kept d0 (grownBy_putObj' _ D (.deferred none)) (λr e=>by cases e;exact⟨_,hK2,rfl⟩);have h1:=cell_kept d1 (grownBy_putObj' _ D (.deferred none)) (λr e=>by cases e;exact⟨_,hK2,rfl⟩);refine⟨.tuple #[.int .i64 0, .bool false], ?_,tK.none_ (by unfold xO;rw[<-hS];rfl) (jV.trans (belowK_b (w:=w) aK _ D _ _ (by simp at hD;omega) hK2 rfl rfl))⟩;simp[results,Tryz.f233,go_sem,h0,h1]
 case stop=>
  rintro D k pre W hD EJ ⟨⟨rfl,x,rfl,V7,ZO⟩,hB⟩ hK
  gi_wp2
  refine⟨by simp, .inl ⟨_,_,rfl,run_takeDeferred hK, ?_⟩⟩;have h0:=cell_kept V7 (grownBy_putObj' _ D (.deferred none)) (λr e=>by cases e;exact⟨_,hK,rfl⟩);have h1:=cell_kept ZO (grownBy_putObj' _ D (.deferred none)) (λr e=>by cases e;exact⟨_,hK,rfl⟩);refine⟨.tuple #[.int .i64 x, .bool true], ?_,tK.some_ (by obtain⟨t,ht⟩:=EJ;unfold xO;rw[<-ht];rfl) (hB.trans (belowK_b (w:=w) aK W D _ _ (by simp at hD;omega) hK rfl rfl))⟩;simp[results,Tryz.f233,go_sem,h0,h1]
end Go.Proofs.YtadnmegdbllaoaaGreatDoor
