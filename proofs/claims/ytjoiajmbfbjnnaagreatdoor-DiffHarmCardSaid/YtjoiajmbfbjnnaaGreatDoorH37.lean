/- Part of this proof. -/
import Derived.Test.YtjoiajmbfbjnnaaGreatDoorH36
set_option maxRecDepth 100000
set_option maxHeartbeats 8000000
namespace Go.Proofs.YtjoiajmbfbjnnaaGreatDoor
open Go.RowKit Go.Shelf
def off(s:Bool):Nat:=if s then 2 else 0
theorem node_kl{n:Nd.Node}(h:Nd.fits n=true):n.kids.length<=n.keys.length+1:=by
 obtain⟨hr,_⟩:=Tp.fits_iff.1 h
 unfold Nd.right at hr
 cases hl:n.leaf with
 |true=>
  rw[hl,if_pos rfl,Bool.and_eq_true,decide_eq_true_eq]at hr
  omega
 |false=>
  rw[hl,if_neg (by simp)]at hr
  simp only[Bool.and_eq_true,decide_eq_true_eq]at hr
  omega
def PairS(tv:Value)(s:Bool)(w:World)(g base:Nat)(a c:List It)(out:List Dl):Prop:=match s with
 |false=>PairT tv w g base a c out
 |true=>PairT tv w g base c a out
theorem FrT.row{α:Type}{E:Enc α}{ty:TypeId}{v:Value}{l:List α}{base:Nat}{w w':World}(hl:LO E ty w base v l)(h:Fr (fun k=>v.ownBlock=some k) w w')(ht:ty=180\/ty=255\/ty=92):FrT base w w':=h.more fun k hk=>by
 rcases hl.2 with⟨e,_⟩ | ⟨g',cap,cur,e,hb,hh,_⟩
 ·rw[e]at hk;cases hk
 ·rw[e]at hk;injection hk with hk;subst hk;exact⟨hb,ty,_,hh,ht⟩
theorem PairT.fr{tv:Value}{w w':World}{g base:Nat}{a b:List It}{out:List Dl}{S:Nat->Prop}(h:PairT tv w g base a b out)(hf:Fr S w w')(hS:∀k,S k->k<base)(hg:base<=g):PairT tv w' g base a b out:=by
 obtain⟨va,vb,vo,h0,h1,h2,h3,h4⟩:=h
 exact⟨va,vb,vo,h0,hf.blk h1 (fun q=>by have:=hS g q;omega),LO.fr' h2 hf hS,LO.fr' h3 hf hS,LO.fr' h4 hf hS⟩
section
variable {tv:Value}{s:Bool}{w w':World}{g base o:Nat}{a c:List It}{out:List Dl}
theorem PairS.facts(h:PairS tv s w g base a c out)(ho:o=off s):∃va,w.cell? ⟨g,o+1,none⟩=some va/\w.cell? ⟨g,o,none⟩=some tv/\w.frozen? ⟨g,o+1,none⟩=false/\g<w.heap.size/\SideT w base va a/\va.ownBlock≠some g:=by
 subst ho
 cases s with
 |false=>
  obtain⟨va,vb,vo,h0,h1,h2,h3,h4⟩:=(show PairT tv w g base a c out from h)
  exact⟨va,h1.cell 1,h1.cell 0,h1.frozen 1,h1.lt,h2,own_blk_ne h2 h1 (by decide)⟩
 |true=>
  obtain⟨va,vb,vo,h0,h1,h2,h3,h4⟩:=(show PairT tv w g base c a out from h)
  exact⟨vb,h1.cell 3,h1.cell 2,h1.frozen 3,h1.lt,h3,own_blk_ne h3 h1 (by decide)⟩
theorem PairS.below(h:PairS tv s w g base a c out)(hb:Below w.heap.size w w'):PairS tv s w' g base a c out:=by
 cases s with
 |false=>exact PairT.below (show PairT tv w g base a c out from h) hb
 |true=>exact PairT.below (show PairT tv w g base c a out from h) hb
theorem PairS.fr{S:Nat->Prop}(h:PairS tv s w g base a c out)(hf:Fr S w w')(hS:∀k,S k->k<base)(hg:base<=g):PairS tv s w' g base a c out:=by
 cases s with
 |false=>exact PairT.fr (show PairT tv w g base a c out from h) hf hS hg
 |true=>exact PairT.fr (show PairT tv w g base c a out from h) hf hS hg
theorem PairS.put{va v':Value}{a':List It}(h:PairS tv s w g base a c out)(ho:o=off s)(hc:w.cell? ⟨g,o+1,none⟩=some va)(hf:Fr (fun k=>va.ownBlock=some k) w w')(hl:SideT w' base v' a')(hob:v'.ownBlock=va.ownBlock\/∃b,v'.ownBlock=some b/\w.heap.size<=b):
  PairS tv s (w'.setCell ⟨g,o+1,none⟩ v') g base a' c out/\(base<=g->FrT base w (w'.setCell ⟨g,o+1,none⟩ v')):=by
 subst ho
 cases s with
 |false=>
  obtain⟨va',vb,vo,h0,h1,h2,h3,h4⟩:=(show PairT tv w g base a c out from h)
  obtain rfl:va'=va:=by
   have e:w.cell? ⟨g,1,none⟩=some va':=h1.cell 1
   exact Option.some.inj (e.symm.trans hc)
  have hne:va'.ownBlock≠some g:=own_blk_ne h2 h1 (by decide)
  have h1':=hf.blk h1 hne
  have h3':=LO.frB h3 hf fun r hr e=>h0 r e hr
  have h4':=LO.frB h4 hf fun r hr e=>own_neq h2 h4 (by decide) e hr
  refine⟨⟨v',vb,vo,fun r hr e=> ?_,h1'.set_ 1 v',LO.set_ hl h1' (by decide),LO.set_ h3' h1' (by decide),LO.set_ h4' h1' (by decide)⟩,fun hg=>(FrT.row h2 hf (.inr (.inl rfl))).trans (FrT.set_ h1' hg (.inl rfl) 1 v')⟩
  rcases hob with q | ⟨b,q,hb⟩
  ·rw[q]at hr;exact h0 r hr e
  ·rw[q]at hr;cases hr
   have:=(World.ownsRow.lt h3 r e).2
   omega
 |true=>
  obtain⟨vb,va',vo,h0,h1,h3,h2,h4⟩:=(show PairT tv w g base c a out from h)
  obtain rfl:va'=va:=by
   have e:w.cell? ⟨g,3,none⟩=some va':=h1.cell 3
   exact Option.some.inj (e.symm.trans hc)
  have hne:va'.ownBlock≠some g:=own_blk_ne h2 h1 (by decide)
  have h1':=hf.blk h1 hne
  have h3':=LO.frB h3 hf fun r hr e=>h0 r hr e
  have h4':=LO.frB h4 hf fun r hr e=>own_neq h2 h4 (by decide) e hr
  refine⟨⟨vb,v',vo,fun r hr e=> ?_,h1'.set_ 3 v',LO.set_ h3' h1' (by decide),LO.set_ hl h1' (by decide),LO.set_ h4' h1' (by decide)⟩,fun hg=>(FrT.row h2 hf (.inr (.inl rfl))).trans (FrT.set_ h1' hg (.inl rfl) 3 v')⟩
  rcases hob with q | ⟨b,q,hb⟩
  ·rw[q]at e;exact h0 r hr e
  ·rw[q]at e;cases e
   have:=(World.ownsRow.lt h3 r hr).2
   omega
end
section
variable {a:Act}{o:Oper}{x y z:Operand}{w:World}{ad:Addr}{v:Value}{R:Value->World->Prop}
theorem op_fasd1{b k:Nat}(ho:o.op= .fieldAddr 177 x 1)(hx:a.eval x= .pointer (some ⟨b,k,none⟩)):(execOp a.eval o).run Tryz.prog w= .ok (.value (.pointer (some ⟨b,k+1,none⟩))) w:=by
 unfold execOp
 simp only[ho,hx]
 simp[go_sem]
theorem op_fait1{b:Nat}(ho:o.op= .fieldAddr 255 x 1)(hx:a.eval x= .pointer (some ⟨b,0,none⟩)):(execOp a.eval o).run Tryz.prog w= .ok (.value (.pointer (some ⟨b,1,none⟩))) w:=by
 unfold execOp
 simp only[ho,hx]
 simp[go_sem]
theorem op_fae1{b off:Nat}(ho:o.op= .fieldAddr 34 x 1)(hx:a.eval x= .pointer (some ⟨b,off,none⟩)):(execOp a.eval o).run Tryz.prog w= .ok (.value (.pointer (some ⟨b,off+1,none⟩))) w:=by
 unfold execOp
 simp only[ho,hx]
 simp[go_sem]
theorem op_ld_its(ho:o.op= .load 175 x)(hx:a.eval x= .pointer (some ad))(hc:w.cell? ad=some v):(execOp a.eval o).run Tryz.prog w= .ok (.value v) w:=by
 unfold execOp
 simp only[ho,hx]
 simp[go_sem,hc]
theorem op_bd_it{x0 x1 x2:Operand}{i j:Int}{s:ByteArray}(ho:o.op= .build 255 #[(0,x0),(1,x1),(2,x2)])(h0:a.eval x0= .int .i64 i)(h1:a.eval x1= .int .i64 j)(h2:a.eval x2= .string s):(execOp a.eval o).run Tryz.prog w= .ok (.value (.agg #[.int .i64 i, .int .i64 j, .string s, .string ⟨#[]⟩])) w:=by
 unfold execOp
 simp only[ho,List.map_toArray,List.map_cons,List.map_nil,h0,h1,h2]
 simp[go_sem]
theorem op_bd_it2{x0 x1:Operand}{s u:ByteArray}(ho:o.op= .build 255 #[(2,x0),(3,x1)])(h0:a.eval x0= .string s)(h1:a.eval x1= .string u):(execOp a.eval o).run Tryz.prog w= .ok (.value (.agg #[.int .i64 0, .int .i64 0, .string s, .string u])) w:=by
 unfold execOp
 simp only[ho,List.map_toArray,List.map_cons,List.map_nil,h0,h1]
 simp[go_sem]
theorem op_bs_it{i j:Int}{s u:ByteArray}(ho:o.op= .buildSlice 175 1 #[(0,x)])(h0:a.eval x= .agg #[.int .i64 i, .int .i64 j, .string s, .string u]):(execOp a.eval o).run Tryz.prog w= .ok (.value (.slice (some ⟨w.heap.size,0,none⟩) 1 1)) (w.alloc (.cells #[.int .i64 i, .int .i64 j, .string s, .string u] 255)):=by
 unfold execOp
 simp only[ho,List.map_toArray,List.map_cons,List.map_nil,h0]
 simp[go_sem]
theorem op_st_its{A:Option Addr}{n c:Nat}{u:Value}(ho:o.op= .store 175 x y)(hx:a.eval x= .pointer (some ad))(hy:a.eval y= .slice A n c)(hc:w.cell? ad=some u)(hf:w.frozen? ad=false):(execOp a.eval o).run Tryz.prog w= .ok .skip (w.setCell ad (.slice A n c)):=by
 unfold execOp
 simp only[ho,hx,hy]
 simp[go_sem,hc,hf]
end
theorem Fr.go2{S S':Nat->Prop}{w w1 w2:World}(h:Fr S w w1)(h':Fr S' w1 w2)(hS:∀k,S' k->S k\/w.heap.size<=k):Fr S w w2:=
 ⟨h'.os.trans h.os,h'.tape.trans h.tape,h'.output.trans h.output,Nat.le_trans h.size h'.size,fun k hk a=>(h'.block k (Nat.lt_of_lt_of_le hk h.size) (fun e=>by rcases hS k e with q | q;exact a q;omega)).trans (h.block k hk a)⟩
structure OpS(tv:Value)(s:Bool)(g base o bx gi:Nat)(x:It)(items c:List It)(out:List Dl)(w5 W:World):Prop where
 pr:PairS tv s W g base items c out
 bxB:Blk W bx 255 #[.int .i64 x.pg, .int .i64 (x.d:Nat), .string x.key, .string x.val]
 own:∀va,W.cell? ⟨g,o+1,none⟩=some va->∀k,va.ownBlock=some k->k=gi\/w5.heap.size<=k
 bxl:bx<w5.heap.size/\bx≠gi/\bx≠g
 fr:Fr (fun k=>k=g\/k=gi) w5 W
 frT:FrT base w5 W
theorem OpS.ne{tv va:Value}{s:Bool}{g base o bx gi:Nat}{x:It}{items c:List It}{out:List Dl}{w5 W:World}(h:OpS tv s g base o bx gi x items c out w5 W)(hc:W.cell? ⟨g,o+1,none⟩=some va):va.ownBlock≠some bx:=fun e=>by
 have h1:=h.bxl
 rcases h.own va hc bx e with q | q
 ·exact h1.2.1 q
 ·omega
theorem OpS.push{tv va v':Value}{s:Bool}{g base o bx gi:Nat}{x y:It}{items c:List It}{out:List Dl}{w5 W W':World}(h:OpS tv s g base o bx gi x items c out w5 W)(ho:o=off s)(hg:base<=g)(hc:W.cell? ⟨g,o+1,none⟩=some va)(hf:Fr (fun k=>va.ownBlock=some k) W W')(hl:LO itE 255 W' base v' (items.reverse++ [y]))(hob:v'.ownBlock=va.ownBlock\/∃b,v'.ownBlock=some b/\W.heap.size<=b):
  OpS tv s g base o bx gi x (y::items) c out w5 (W'.setCell ⟨g,o+1,none⟩ v'):=by
 have hne:=h.ne hc
 obtain⟨h1,h2,h3,h4,h5,h6⟩:=h
 have hl':SideT W' base v' (y::items):=by unfold SideT;rw[List.reverse_cons];exact hl
 obtain⟨p1,p2⟩:=h1.put ho hc hf hl' hob
 obtain⟨va0,f1,_,_,hlt,_,f6⟩:=h1.facts ho
 rw[hc]at f1;cases f1
 have hw:W'.cell? ⟨g,o+1,none⟩=some va:=(hf.cell (p:=⟨g,o+1,none⟩) hlt f6).trans hc
 refine⟨p1,(hf.blk h2 hne).far h4.2.2 _,fun u hu k hk=> ?_,h4,h5.go2 ((hf.more fun k=>Or.inl).trans (Fr.set_ (S:=fun k=>va.ownBlock=some k\/k=g) (.inr rfl) v')) (fun k a=> ?_),h6.trans (p2 hg)⟩
 ·rw[World.cell?_setCell_same' W' ⟨g,o+1,none⟩ v' (by rw[hw];rfl)]at hu
  cases hu
  rcases hob with q | ⟨b,q,hb⟩
  ·exact h3 va hc k (q ▸ hk)
  ·rw[q]at hk;cases hk
   have:=h5.size
   exact .inr (by omega)
 ·rcases a with a | rfl
  ·exact(h3 va hc k a).imp_left .inr
  ·exact .inl (.inl rfl)
def FrA(S:Nat->Prop)(base:Nat)(w w':World):Prop:=Fr (fun k=>S k\/TyS base w k) w w'
section
variable {S:Nat->Prop}{base:Nat}{w w' w'':World}
theorem FrA.of(h:Fr S w w'):FrA S base w w':=h.more fun _=> .inl
theorem FrA.ofT(h:FrT base w w'):FrA S base w w':=Fr.more h fun _=> .inr
theorem FrA.trans(h:FrA S base w w')(h':FrA S base w' w''):FrA S base w w'':=
 ⟨h'.os.trans h.os,h'.tape.trans h.tape,h'.output.trans h.output,Nat.le_trans h.size h'.size,fun k hk a=>by
  have e:=h.block k hk a
  rw[h'.block k (Nat.lt_of_lt_of_le hk h.size) (fun b=>a (b.imp_right fun⟨b1,ty,cs,b2,b3⟩=>⟨b1,ty,cs,e.symm.trans b2,b3⟩)),e]⟩
theorem FrT.blk{k:Nat}{ty:TypeId}{cs:Array Value}(h:FrT base w w')(hB:Blk w k ty cs)(h1:ty≠180/\ty≠255/\ty≠92):Blk w' k ty cs:=Fr.blk h hB fun⟨_,ty',cs',b2,b3⟩=>by
 have e:=hB.symm.trans b2
 injection e with e
 injection e with _ e
 subst e
 rcases b3 with b3 | b3 | b3
 ·exact h1.1 b3
 ·exact h1.2.1 b3
 ·exact h1.2.2 b3
theorem LO.frT{α:Type}{E:Enc α}{ty:TypeId}{b:Nat}{v:Value}{l:List α}(hl:LO E ty w b v l)(h:FrT base w w')(h1:ty≠180/\ty≠255/\ty≠92):LO E ty w' b v l:=by
 obtain⟨q1,q2⟩:=hl
 refine⟨q1, ?_⟩
 rcases q2 with q2 | ⟨k,cap,cur,e1,e2,e3,e4⟩
 ·exact .inl q2
 ·exact .inr ⟨k,cap,cur,e1,e2,h.blk e3 h1,e4⟩
variable {B t:Nat}{room:Int}{disk:Tp.Disk}{TM:Nat->Tp.Pst->World->Prop}
theorem Mach.upT(M:Mach S B t room disk TM){r:Nat}{σ:Tp.Pst}(h:TM r σ w)(hf:FrT base w w')(hB:B<=base):TM r σ w':=M.up h hf fun k ⟨hb,ty,cs,hB2,ht⟩=>⟨Nat.le_trans hB hb,fun o ho=>by
 have e:=ho.symm.trans hB2
 injection e with e
 subst e
 rcases ht with rfl | rfl | rfl<;>exact⟨fun cs' e=>(by injection e with _ e;cases e),fun cs' e=>(by injection e with _ e;cases e),fun cs' e=>(by injection e with _ e;cases e),fun cs' e=>(by injection e with _ e;cases e),fun _ _ e=>(by cases e)⟩⟩
end
theorem opn_some{v:Int->Option Nd.Node}{x:It}{a:List It}{n:Nd.Node}(hd:x.d<24)(hv:v x.pg=some n):Td.opn v x a=some (Td.its n x++a):=by
 unfold Td.opn;rw[if_neg (by omega),hv]
theorem opn_none{v:Int->Option Nd.Node}{x:It}{a:List It}(hv:v x.pg=none):Td.opn v x a=none:=by
 unfold Td.opn;rw[hv];split<;>rfl
def OwnO(S:Nat->Prop)(g os:Nat)(w:World)(k:Nat):Prop:=S k\/k=g\/∃va,w.cell? ⟨g,os+1,none⟩=some va/\va.ownBlock=some k
def DOEnd(tv:Value)(s:Bool)(g os base:Nat)(ol:Option (List It))(c:List It)(out:List Dl)(TM:Nat->Tp.Pst->World->Prop)(r:Nat)(σ:Tp.Pst)(S:Nat->Prop)(w:World)(e:Ending)(w':World):Prop:=
 ((∃L,ol=some L/\e= .returned (.int .i64 0)/\PairS tv s w' g base L c out)\/(ol=none/\e= .returned (.int .i64 3)))/\TM r σ w'/\Fr (OwnO S g os w) w w'
section
variable {S:Nat->Prop}{B t:Nat}{room:Int}{disk:Tp.Disk}{TM:Nat->Tp.Pst->World->Prop}{bad:Int->Prop}
theorem dopen_any(M:Mach S B t room disk TM)(hbad:BadGet S t TM bad)(g os base:Nat)(s:Bool)(hos:os=off s)(r:Nat)(σ:Tp.Pst)(x:It)(a c:List It)(out:List Dl)(hok:Td.ItOk (σ.view disk) bad x)(hx0:x.pg≠0)(w:World)(h:TM (r+2) σ w)(hP:PairS (.pointer (some ⟨t,0,none⟩)) s w g base (x::a) c out)(hB:B<=base)(hg:base<=g)(ha:a.length<=100000):
  Calls Tryz.prog 170 #[.pointer (some ⟨g,os,none⟩)] w (DOEnd (.pointer (some ⟨t,0,none⟩)) s g os base (Td.opn (σ.view disk) x a) c out TM r σ S w):=by
 obtain⟨_,hd,hvw⟩:=hok hx0
 obtain⟨va,hgi,f2,f3,f4,f5,f6⟩:=hP.facts hos
 obtain⟨gi,ci0,rfl,hgi1,hgi2,hcl,⟨i0,i1,i2,i3⟩,hs⟩:=f5.cons
 have hTop:=Lib.hid (dtop_cons g os gi a.length ci0 x w f4 hgi2 (by omega) hgi i0 i1 i2 i3)
 have hLd:=Lib.hid (fun W h hgl hc=>dload_any M hbad g os r σ x hvw hd W h (Nat.le_trans hB hg) hgl hc)
 have HFIT:Hid (∀n,σ.view disk x.pg=some n->Nd.fits n=true):=Lib.hid fun n hv=>(M.ht h hv).1
 have HOW:Hid (∀k,(S k\/k=g\/k=gi)->OwnO S g os w k):=Lib.hid fun k hk=>by
  rcases hk with hk | hk | rfl
  ·exact .inl hk
  ·exact .inr (.inl hk)
  ·exact .inr (.inr ⟨_,hgi,rfl⟩)
 have HD:=Lib.hid hd
 have HM:=Lib.hid M
 have HH:=Lib.hid h
 have HP:=Lib.hid hP
 have HOS:=Lib.hid hos
 have HGB:=Lib.hid hg
 have HGI:=Lib.hid hgi2
 have HCL:=Lib.hid hcl
 have HBB:=Lib.hid hB
 obtain⟨ol,hol⟩:∃ol,ol=Td.opn (σ.view disk) x a:=⟨_,rfl⟩
 rw[<-hol]
 have HOL:=Lib.hid hol
 have HS:Hid (∀k,S k->k<base):=Lib.hid fun k hk=>Nat.lt_of_lt_of_le (M.low k hk) hB
 clear f5 i0 i1 i2 i3 hs M h hP hgi1 hcl f6 hgi2 hg hB hos hol hvw hbad hok hx0
 go_enter Tryz.func170,Tryz.ntmps170
 go_wp2_with fail
 refine hTop.out.mono ?_
 rintro e w1 ⟨rfl,b1⟩
 have hbA:Below w.heap.size w (w1.alloc (.cells #[.int .i64 x.pg, .int .i64 (x.d:Nat), .string x.key, .string x.val] 255)):=b1.alloc b1.size _
 have hBx:=Blk.new w1 255 #[.int .i64 x.pg, .int .i64 (x.d:Nat), .string x.key, .string x.val]
 have HPA:=Lib.hid (HP.out.below hbA)
 have HMA:=Lib.hid (HM.out.below HH.out hbA)
 have c2:=(hbA.cell (p:=⟨g,os,none⟩) f4).trans f2
 have hgA:=Nat.lt_of_lt_of_le f4 hbA.size
 have HFA:Hid (Fr (fun k=>S k\/k=g\/k=gi) w (w1.alloc (.cells #[.int .i64 x.pg, .int .i64 (x.d:Nat), .string x.key, .string x.val] 255))):=Lib.hid (.of_below hbA)
 have HZ1:Hid (w.heap.size<=w1.heap.size):=Lib.hid b1.size
 have hG4:=Lib.hid f4
 have HBX:=Lib.hid hBx
 have hxl:=hBx.lt
 have x0:=hBx.cell 0
 have x1:=hBx.cell 1
 have x2:=hBx.cell 2
 have x3:=hBx.cell 3
 have HF1:=Lib.hid ((hbA.cell (p:=⟨g,os+1,none⟩) f4).trans hgi)
 clear hTop hBx b1 hbA hgi f2 f3 HH HP f4
 go_wp2_with fail
 refine(hLd.out _ HMA.out hgA c2).mono ?_
 rintro e w3 hle
 have hnS:∀ {k},base<=k->¬S k:=fun {k} hk q=>by have:=HS.out k q;omega
 rcases hle with⟨n,hv,v,rfl,hnf,ht3,hf3⟩ | ⟨hv,rfl,ht3,hf3⟩
 rotate_left
 ·have hB3:Below w3.heap.size w3 (w3.alloc (.cells #[.bool false, .slice none 0 0, .slice none 0 0, .slice none 0 0] 32)):=(Below.refl _ w3).alloc (Nat.le_refl _) _
  have HE:Hid (DOEnd (.pointer (some ⟨t,0,none⟩)) s g os base ol c out TM r σ S w (.returned (.int .i64 3)) (w3.alloc (.cells #[.bool false, .slice none 0 0, .slice none 0 0, .slice none 0 0] 32))):=Lib.hid ⟨.inr ⟨by rw[HOL.out,opn_none hv],rfl⟩,HM.out.below ht3 hB3,((HFA.out.trans (hf3.more fun _=> .inl)).trans (.of_below hB3)).more HOW.out⟩
  clear ht3 hf3 hnS hB3 hv
  go_wp2
  go_ret
  exact HE.out
 have hfit:=HFIT.out n hv
 have hNB:=fits_nb hfit
 have HNE:=Lib.hid hNB.e
 have HNI:=Lib.hid hNB.i
 have HNK:=Lib.hid (node_kl hfit)
 have HL:Hid (ol=some (Td.its n x++a)):=Lib.hid (by rw[HOL.out,opn_some HD.out hv])
 clear hfit hNB hv HFIT HOL
 obtain⟨Ae,ce,Ai,ci,Ay,cy,rfl,le,li,lk⟩:=hnf
 unfold nodeV
 have hB3:Below w3.heap.size w3 (w3.alloc (.cells #[.bool n.leaf, .slice Ae n.ents.length ce, .slice Ai n.kids.length ci, .slice Ay n.keys.length cy] 32)):=(Below.refl _ w3).alloc (Nat.le_refl _) _
 have hbw:base<=w1.heap.size:=Nat.le_trans HGB.out (Nat.le_trans (Nat.le_of_lt hG4.out) HZ1.out)
 have HP5:=Lib.hid ((HPA.out.fr hf3 HS.out HGB.out).below hB3)
 have HM5:=Lib.hid (HM.out.below ht3 hB3)
 have hBx5:=(hf3.blk HBX.out (hnS hbw)).alloc (.cells #[.bool n.leaf, .slice Ae n.ents.length ce, .slice Ai n.kids.length ci, .slice Ay n.keys.length cy] 32)
 have hBn5:=Blk.new w3 32 #[.bool n.leaf, .slice Ae n.ents.length ce, .slice Ai n.kids.length ci, .slice Ay n.keys.length cy]
 have f15:=(hB3.cell (p:=⟨g,os+1,none⟩) (Nat.lt_of_lt_of_le hgA hf3.size)).trans ((hf3.cell (p:=⟨g,os+1,none⟩) hgA (hnS HGB.out)).trans HF1.out)
 have HFB:=Lib.hid ((HFA.out.trans (hf3.more fun _=> .inl)).trans (.of_below hB3))
 obtain⟨va5,q1,q2,q3,q4,q5,q6⟩:=HP5.out.facts HOS.out
 rw[f15]at q1;cases q1
 obtain⟨gi',ci',he,_,_,_,_,hs⟩:=q5.cons
 cases he
 have hPut:=HP5.out.put HOS.out f15 (Fr.refl _) hs (.inl rfl)
 have hPop:=Lib.hid (pop_any g os gi a.length ci0 _ (by omega) HCL.out f15 q3)
 have hnx0:w1.heap.size≠g:=by have:=hG4.out;have:=HZ1.out;omega
 have hnx1:w1.heap.size≠gi:=by have:=HGI.out;have:=HZ1.out;omega
 have hxz:w1.heap.size<(w3.alloc (.cells #[.bool n.leaf, .slice Ae n.ents.length ce, .slice Ai n.kids.length ci, .slice Ay n.keys.length cy] 32)).heap.size:=hBx5.lt
 have HOP:Hid (OpS (.pointer (some ⟨t,0,none⟩)) s g base os w1.heap.size gi x a c out ((w3.alloc (.cells #[.bool n.leaf, .slice Ae n.ents.length ce, .slice Ai n.kids.length ci, .slice Ay n.keys.length cy] 32)).setCell ⟨g,os+1,none⟩ (.slice (some ⟨gi,0,none⟩) a.length ci0)).drew ((w3.alloc (.cells #[.bool n.leaf, .slice Ae n.ents.length ce, .slice Ai n.kids.length ci, .slice Ay n.keys.length cy] 32)).setCell ⟨g,os+1,none⟩ (.slice (some ⟨gi,0,none⟩) a.length ci0)).drew):=Lib.hid
  ⟨hPut.1.below (Below.refl _ _).drew,(hBx5.far hnx0 _).drew,fun u hu k hk=>by
   change (World.setCell _ ⟨g,os+1,none⟩ _).cell? ⟨g,os+1,none⟩=some u at hu
   rw[World.cell?_setCell_same' _ ⟨g,os+1,none⟩ (.slice (some ⟨gi,0,none⟩) a.length ci0) (by rw[f15];rfl)]at hu
   cases hu
   cases hk
   exact .inl rfl,⟨by simpa[World.setCell]using hxz,hnx1,hnx0⟩,Fr.refl _,Fr.refl _⟩
 have HFT:Hid (FrT base (w3.alloc (.cells #[.bool n.leaf, .slice Ae n.ents.length ce, .slice Ai n.kids.length ci, .slice Ay n.keys.length cy] 32)) ((w3.alloc (.cells #[.bool n.leaf, .slice Ae n.ents.length ce, .slice Ai n.kids.length ci, .slice Ay n.keys.length cy] 32)).setCell ⟨g,os+1,none⟩ (.slice (some ⟨gi,0,none⟩) a.length ci0)).drew):=Lib.hid ((hPut.2 HGB.out).trans (.of_below (Below.refl _ _).drew))
 have HF6:Hid (Fr (fun k=>S k\/k=g\/k=gi) w ((w3.alloc (.cells #[.bool n.leaf, .slice Ae n.ents.length ce, .slice Ai n.kids.length ci, .slice Ay n.keys.length cy] 32)).setCell ⟨g,os+1,none⟩ (.slice (some ⟨gi,0,none⟩) a.length ci0)).drew):=Lib.hid ((HFB.out.trans (Fr.set_ (S:=fun k=>S k\/k=g\/k=gi) (.inr (.inl rfl)) _)).trans (.of_below (Below.refl _ _).drew))
 have HM6:=Lib.hid (HM.out.upT HM5.out HFT.out HBB.out)
 have HLE:=Lib.hid (LO.frT (LO.below le hB3) HFT.out (by decide))
 have HLI:=Lib.hid (LO.frT (LO.below li hB3) HFT.out (by decide))
 have HLK:=Lib.hid (LO.frT (LO.below lk hB3) HFT.out (by decide))
 have HBN:=Lib.hid (HFT.out.blk hBn5 (by decide))
 clear hnS hbw hPut hs q2 q3 q4 q5 q6 hBx5 hBn5 hB3 le li lk hf3 ht3 HFB HM5 HP5 f15 x0 x1 x2 x3 HBX HPA HMA HF1 c2 hxl hLd hnx0 hnx1 hxz HFT HFA
 go_wp2_with fail
 refine hPop.out.mono ?_
 rintro e w6 ⟨rfl,hw6⟩
 rw[<-hw6]at HOP HF6 HM6 HLE HLI HLK HBN
 have n2:=HBN.out.cell 2
 have nl:=HBN.out.lt
 have hwk:IntKind.i64.wrap ((n.kids.length:Int)-1)=(n.kids.length:Int)-1:=IntWalk.i64_in _ (by have:=HNI.out;omega)
 have hwe:IntKind.i64.wrap ((n.ents.length:Int)-1)=(n.ents.length:Int)-1:=IntWalk.i64_in _ (by have:=HNE.out;omega)
 clear hw6 hPop HGI HZ1 HCL hG4 hgA
 generalize w1.heap.size=bx at*
 generalize w3.heap.size=bn at*
 go_wp2
 go_loopg [7,8] (n.kids.length+1) (fun gas s7 s8 wr=>∃k:Nat,s7= .int .i64 ((k:Int)-1)/\k<=n.kids.length/\k<=gas/\Hid (OpS (.pointer (some ⟨t,0,none⟩)) s g base os bx gi x ((Td.kidsFrom (x.d+1) n.kids n.keys x.key).drop k++a) c out w6 wr))
 case atStart=>exact⟨n.kids.length,rfl,Nat.le_refl _,Nat.le_succ _,by rw[List.drop_eq_nil_of_le (Nat.le_of_eq (Td.kidsFrom_len _ _ _ _))];exact HOP⟩
 case round=>
  clear HOP n2 nl hwk
  obtain⟨k,rfl,hkl,hkg,HO⟩:=hrel
  have hNi:=HNI.out
  have nB:=HO.out.frT.blk HBN.out (by decide)
  have nl:=nB.lt
  by_cases hk0:k=0
  ·subst hk0
   obtain⟨i,hi⟩:∃i:Int,i=((0:Nat):Int)-1:=⟨_,rfl⟩
   rw[<-hi]
   have hi0:¬0<=i:=by omega
   obtain⟨w7,rfl⟩:∃W,W=wr:=⟨_,rfl⟩
   obtain⟨it0,hit0⟩:∃z,z=(Td.kidsFrom (x.d+1) n.kids n.keys x.key).drop 0++a:=⟨_,rfl⟩
   rw[<-hit0]at HO
   have HI0:=Lib.hid hit0
   have hil0:it0.length<=200000:=by rw[hit0,List.length_append,List.length_drop,Td.kidsFrom_len];omega
   have n1:=nB.cell 1
   clear hi hit0 nB hkl hkg
   go_wp2
   go_loopg [9] (n.ents.length+1) (fun gas s9 wr=>∃k:Nat,s9= .int .i64 ((k:Int)-1)/\k<=n.ents.length/\k<=gas/\Hid (OpS (.pointer (some ⟨t,0,none⟩)) s g base os bx gi x ((n.ents.map Td.itEnt).drop k++it0) c out w6 wr))
   case atStart=>exact⟨n.ents.length,rfl,Nat.le_refl _,Nat.le_succ _,by rw[List.drop_eq_nil_of_le (Nat.le_of_eq (List.length_map _))];exact HO⟩
   case round=>
    clear HO n1 nl hwe hi0
    obtain⟨k,rfl,hkl,hkg,HO⟩:=hrel
    have hNe:=HNE.out
    have nB:=HO.out.frT.blk HBN.out (by decide)
    have nl:=nB.lt
    by_cases hk0:k=0
    ·subst hk0
     obtain⟨i,hi⟩:∃i:Int,i=((0:Nat):Int)-1:=⟨_,rfl⟩
     rw[<-hi]
     have hi0:¬0<=i:=by omega
     have HE:Hid (DOEnd (.pointer (some ⟨t,0,none⟩)) s g os base ol c out TM r σ S w (.returned (.int .i64 0)) wr):=Lib.hid ⟨.inl ⟨_,HL.out,rfl,by
      have h1:=HO.out.pr
      rw[HI0.out,List.drop_zero,List.drop_zero, <-List.append_assoc]at h1
      exact h1⟩,HM.out.upT HM6.out HO.out.frT HBB.out,(HF6.out.trans (HO.out.fr.more fun k a=> .inr a)).more HOW.out⟩
     clear hi nB hkl hkg HO
     go_wp2
     go_ret
     exact HE.out
    ·obtain⟨k,rfl⟩:∃k',k=k'+1:=⟨k-1,by omega⟩
     rw[show((k+1:Nat):Int)-1=(k:Int)by omega]
     have hk0i:(0:Int)<=(k:Int):=by omega
     have hk:k<n.ents.length:=by omega
     have hwk1:IntKind.i64.wrap ((k:Int)-1)=(k:Int)-1:=IntWalk.i64_in _ (by omega)
     have HDR:Hid ((n.ents.map Td.itEnt).drop k++it0=Td.itEnt n.ents[k]::((n.ents.map Td.itEnt).drop (k+1)++it0)):=Lib.hid (by
      rw[List.drop_eq_getElem_cons (by rw[List.length_map];exact hk),List.getElem_map,List.cons_append])
     have hlen:((n.ents.map Td.itEnt).drop (k+1)++it0).reverse.length<=400000:=by
      rw[List.length_reverse,List.length_append,List.length_drop,List.length_map];omega
     obtain⟨va,gc,_,gf,hgl,hLO,hgn⟩:=HO.out.pr.facts HOS.out
     have hne:=HO.out.ne gc
     obtain⟨items,hits⟩:∃z,z=(n.ents.map Td.itEnt).drop (k+1)++it0:=⟨_,rfl⟩
     rw[<-hits]at HO HDR hlen hLO
     have hlen2:=hlen
     obtain⟨Av,cv,hva⟩:=LO.form hLO
     subst hva
     obtain⟨nv,hnv⟩:∃z,z=items.reverse.length:=⟨_,rfl⟩
     rw[<-hnv]at gc hLO hgn hne
     rw[<-hnv]at hlen
     have hnv2:items.reverse.length+1=nv+1:=by rw[hnv]
     obtain⟨o1,ho1⟩:∃z,z=(Value.slice Av nv cv).ownBlock:=⟨_,rfl⟩
     rw[<-ho1]at hgn hne
     have HO1:=Lib.hid ho1
     have HLO:Hid (LO itE 255 wr base (.slice Av nv cv) items.reverse):=Lib.hid hLO
     have HOWN:Hid (∀k,o1=some k->base<=k/\k<wr.heap.size):=Lib.hid fun k e=>World.ownsRow.lt hLO k (ho1 ▸ e)
     have leW:=LO.frT HLE.out HO.out.frT (by decide)
     obtain⟨bi,oi,rfl,hbi,c1',c2'⟩:=(LO.sv leW).ls.ent hk
     have n2':=nB.cell 1
     have hbnn:¬o1=some bn:=fun e=>own_blk_ne hLO nB (by decide) (ho1 ▸ e)
     have hbin:¬o1=some bi:=fun e=>own_neq hLO leW (by decide) (ho1 ▸ e) rfl
     obtain⟨y,hy⟩:∃z,z=Td.itEnt n.ents[k]:=⟨_,rfl⟩
     rw[<-hy]at HDR
     generalize n.ents[k]=ye at*
     obtain⟨y1,y2⟩:=ye
     simp only at c1' c2'
     subst hy
     clear hits hnv ho1 leW nB hLO hkl
     go_wp2
     refine wp_region_last2 (base:=wr.heap.size) 22 (fun u=>⟨#[_,_,_,_,_,_,_,_,_,_,_,_,_,_,_,_,_,_,_,_,_,_,_,_,_,_,_,_,_,_,_,_,_,_,_,_,_,_,_,_,_,_,_,_,_,_,_,_,_,_,_,_,_,_,_,_,_,_,_,_,_,_,_,_,_,_,_,_,_,_,_,u 0,u 1,u 2,u 3,u 4,u 5,u 6,u 7,u 8,u 9,u 10,u 11,u 12,u 13,u 14,u 15,u 16,u 17,u 18,u 19,u 20,u 21],_⟩)
      [Is.eq _ (.pointer (some ⟨g,os,none⟩)),Is.eq _ (.pointer (some ⟨g,os,none⟩)),Is.eq _ (.pointer (some ⟨g,os,none⟩)),Is.eq _ (.pointer (some ⟨g,os+1,none⟩)),Is.eq _ (.slice Av nv cv),Is.eq _ (.pointer (some ⟨bn,1,none⟩)),Is.eq _ (.slice (some ⟨bi,oi,none⟩) n.ents.length ce),Is.eq _ (.int .i64 (k:Nat)),Is.eq _ (.pointer (some ⟨bi,oi+k*2,none⟩)),Is.eq _ (.pointer (some ⟨bi,oi+k*2,none⟩)),Is.eq _ (.string y1),Is.eq _ (.pointer (some ⟨bn,1,none⟩)),Is.eq _ (.slice (some ⟨bi,oi,none⟩) n.ents.length ce),Is.eq _ (.int .i64 (k:Nat)),Is.eq _ (.pointer (some ⟨bi,oi+k*2,none⟩)),Is.eq _ (.pointer (some ⟨bi,oi+k*2+1,none⟩)),Is.eq _ (.string y2),Is.eq _ (.agg #[.int .i64 0, .int .i64 0, .string y1, .string y2]),Is.blk _ 255 1 #[.int .i64 0, .int .i64 0, .string y1, .string y2],Is.app _ itE 255 base o1 (items.reverse++ [(Td.itEnt (y1,y2))]),Is.eq _ (.pointer (some ⟨g,os,none⟩)),Is.eq _ (.pointer (some ⟨g,os+1,none⟩))]
      (by kernel_rfl) rfl (by kernel_rfl) (by kernel_rfl) (by kernel_rfl) o1.toList (by cases o1<;>rfl) (Nat.le_refl _) ?_ (by cases o1<;>simp) ⟨fun i=>(#[u71,u72,u73,u74,u75,u76,u77,u78,u79,u80,u81,u82,u83,u84,u85,u86,u87,u88,u89,u90,u91,u92]:Array Value).getD i undef,rfl⟩ ?_ ?_
     ·intro k hk;exact(HOWN.out k (by simpa using hk)).2
     ·intro i o hi7 ho u W hf hold hdep
      have hnL:∀k,k∈o1.toList->o1=some k:=fun k hk=>by simpa using hk
      have hf1:Fr (fun k=>o1=some k) wr W:=hf.more hnL
      have gW:=(hf1.cell (p:=⟨g,os+1,none⟩) hgl hgn).trans gc
      have n2:=(hf1.cell (p:=⟨bn,1,none⟩) nl hbnn).trans n2'
      have k1:=(hf1.cell (p:=⟨bi,oi+k*2,none⟩) hbi hbin).trans c1'
      have k2:=(hf1.cell (p:=⟨bi,oi+k*2+1,none⟩) hbi hbin).trans c2'
      have hsz:=hf.size
      match i,ho with
      |0,ho=>
       obtain rfl:=Option.some.inj ho
       exact Does.val (op_mv rfl rfl) ⟨rfl,rfl,Fr.refl _⟩
      |1,ho=>
       obtain rfl:=Option.some.inj ho
       exact Does.val (op_mv rfl rfl) ⟨rfl,rfl,Fr.refl _⟩
      |2,ho=>
       obtain rfl:=Option.some.inj ho
       exact Does.val (op_nilc rfl (hdep 1 rfl)) ⟨rfl,rfl,Fr.refl _⟩
      |3,ho=>
       obtain rfl:=Option.some.inj ho
       exact Does.val (op_fasd1 rfl (hdep 2 rfl)) ⟨rfl,rfl,Fr.refl _⟩
      |4,ho=>
       obtain rfl:=Option.some.inj ho
       exact Does.val (op_ld_its rfl (hdep 3 rfl) gW) ⟨rfl,rfl,Fr.refl _⟩
      |5,ho=>
       obtain rfl:=Option.some.inj ho
       exact Does.val (op_fan1 rfl rfl) ⟨rfl,rfl,Fr.refl _⟩
      |6,ho=>
       obtain rfl:=Option.some.inj ho
       exact Does.val (op_ld_ents rfl (hdep 5 rfl) n2) ⟨rfl,rfl,Fr.refl _⟩
      |7,ho=>
       obtain rfl:=Option.some.inj ho
       exact Does.val (op_mv rfl rfl) ⟨rfl,rfl,Fr.refl _⟩
      |8,ho=>
       obtain rfl:=Option.some.inj ho
       exact Does.val (op_ia_ents rfl (hdep 6 rfl) (hdep 7 rfl) hk) ⟨rfl,rfl,Fr.refl _⟩
      |9,ho=>
       obtain rfl:=Option.some.inj ho
       exact Does.val (op_fae rfl (hdep 8 rfl)) ⟨rfl,rfl,Fr.refl _⟩
      |10,ho=>
       obtain rfl:=Option.some.inj ho
       exact Does.val (op_ldstr rfl (hdep 9 rfl) k1) ⟨rfl,rfl,Fr.refl _⟩
      |11,ho=>
       obtain rfl:=Option.some.inj ho
       exact Does.val (op_fan1 rfl rfl) ⟨rfl,rfl,Fr.refl _⟩
      |12,ho=>
       obtain rfl:=Option.some.inj ho
       exact Does.val (op_ld_ents rfl (hdep 11 rfl) n2) ⟨rfl,rfl,Fr.refl _⟩
      |13,ho=>
       obtain rfl:=Option.some.inj ho
       exact Does.val (op_mv rfl rfl) ⟨rfl,rfl,Fr.refl _⟩
      |14,ho=>
       obtain rfl:=Option.some.inj ho
       exact Does.val (op_ia_ents rfl (hdep 12 rfl) (hdep 13 rfl) hk) ⟨rfl,rfl,Fr.refl _⟩
      |15,ho=>
       obtain rfl:=Option.some.inj ho
       exact Does.val (op_fae1 rfl (hdep 14 rfl)) ⟨rfl,rfl,Fr.refl _⟩
      |16,ho=>
       obtain rfl:=Option.some.inj ho
       exact Does.val (op_ldstr rfl (hdep 15 rfl) k2) ⟨rfl,rfl,Fr.refl _⟩
      |17,ho=>
       obtain rfl:=Option.some.inj ho
       exact Does.val (op_bd_it2 rfl (hdep 10 rfl) (hdep 16 rfl)) ⟨rfl,rfl,Fr.refl _⟩
      |18,ho=>
       obtain rfl:=Option.some.inj ho
       exact Does.val (op_bs_it rfl (hdep 17 rfl)) ⟨rfl,⟨W.heap.size,hsz,rfl,Blk.new _ _ _⟩, .of_below ((Below.refl _ _).alloc (Nat.le_refl _) _)⟩
      |19,ho=>
       obtain rfl:=Option.some.inj ho
       obtain⟨b,hb0,hb1,hb2⟩:=hdep 18 rfl
       have hownW:LO itE 255 W base (.slice Av nv cv) items.reverse:=LO.held HLO.out (fun g hg=>hold g (HO1.out.trans hg))
       refine does_appn (s:=(Td.itEnt (y1,y2))) rfl eiItem Tryz.underlying175 rfl rfl (hdep 4 rfl) hownW hb1 hb2 (by unfold maxLen;omega) (by omega) (by have:=HGB.out;omega) ?_
       intro v' w' h1 h2 h3
       refine⟨rfl,⟨h1,h1.form, ?_⟩, ?_⟩
       ·rcases h3 with h3 | ⟨g,h3,h4⟩
        ·exact .inl (h3.trans HO1.out.symm)
        ·exact .inr ⟨g,h3,by omega⟩
       ·rw[<-HO1.out]at h2;exact Fr.of_grown h2
      |20,ho=>
       obtain rfl:=Option.some.inj ho
       exact Does.val (op_nilc rfl (hdep 0 rfl)) ⟨rfl,rfl,Fr.refl _⟩
      |21,ho=>
       obtain rfl:=Option.some.inj ho
       exact Does.val (op_fasd1 rfl (hdep 20 rfl)) ⟨rfl,rfl,Fr.refl _⟩
      |n+22,ho=>omega
     intro o ho u W hf hall
     obtain rfl:=Option.some.inj ho
     have hf1:Fr (fun k=>o1=some k) wr W:=hf.more fun k hk=>by simpa using hk
     obtain⟨hL5,⟨A',c',e5⟩,hob⟩:=hall 19 (by decide)
     have gW:=(hf1.cell (p:=⟨g,os+1,none⟩) hgl hgn).trans gc
     have fW:=(hf1.frz (p:=⟨g,os+1,none⟩) hgl hgn).trans gf
     refine Does.skip (op_st_its rfl (hall 21 (by decide)) e5 gW fW) ?_
     rw[e5]at hL5 hob
     have HN:=Lib.hid (HO.out.push (y:=(Td.itEnt (y1,y2))) HOS.out HGB.out gc (HO1.out ▸ hf1) hL5 (by rw[<-HO1.out];exact hob))
     rw[show(items.reverse++ [(Td.itEnt (y1,y2))]).length=items.length+1 by simp]at HN
     clear hL5 hob e5 gW fW hall hf hf1
     go_wp2
     go_roundg k
     case measure=>omega
     case rel=>exact⟨k,by go_num,by omega,Nat.le_refl _,by rw[HDR.out];exact HN⟩
  ·obtain⟨k,rfl⟩:∃k',k=k'+1:=⟨k-1,by omega⟩
   rw[show((k+1:Nat):Int)-1=(k:Int)by omega]
   have hk0i:(0:Int)<=(k:Int):=by omega
   have hk:k<n.kids.length:=by omega
   have hwd:IntKind.i64.wrap ((x.d:Int)+1)=((x.d+1:Nat):Int):=(IntWalk.i64_in _ (by omega)).trans (by omega)
   have hdrop:=Td.kidsFrom_drop (x.d+1) n.kids n.keys x.key k hk
   obtain⟨low,hlow⟩:∃z,z=Td.lowAt n.keys x.key k:=⟨_,rfl⟩
   have HLOW:=Lib.hid hlow
   rw[<-hlow]at hdrop
   have hlen:((Td.kidsFrom (x.d+1) n.kids n.keys x.key).drop (k+1)++a).reverse.length<=400000:=by
    rw[List.length_reverse,List.length_append,List.length_drop,Td.kidsFrom_len];omega
   have HDR:Hid ((Td.kidsFrom (x.d+1) n.kids n.keys x.key).drop k++a=⟨n.kids[k],x.d+1,low,En.nil⟩::((Td.kidsFrom (x.d+1) n.kids n.keys x.key).drop (k+1)++a)):=Lib.hid (by rw[hdrop,List.cons_append])
   obtain⟨va,gc,_,gf,hgl,hLO,hgn⟩:=HO.out.pr.facts HOS.out
   have hne:=HO.out.ne gc
   obtain⟨items,hits⟩:∃z,z=(Td.kidsFrom (x.d+1) n.kids n.keys x.key).drop (k+1)++a:=⟨_,rfl⟩
   rw[<-hits]at HO HDR hlen hLO
   have hlen2:=hlen
   obtain⟨Av,cv,hva⟩:=LO.form hLO
   subst hva
   obtain⟨nv,hnv⟩:∃z,z=items.reverse.length:=⟨_,rfl⟩
   rw[<-hnv]at gc hLO hgn hne
   rw[<-hnv]at hlen
   obtain⟨o1,ho1⟩:∃z,z=(Value.slice Av nv cv).ownBlock:=⟨_,rfl⟩
   rw[<-ho1]at hgn hne
   have hnv2:items.reverse.length+1=nv+1:=by rw[hnv]
   have HO1:=Lib.hid ho1
   have HLO:Hid (LO itE 255 wr base (.slice Av nv cv) items.reverse):=Lib.hid hLO
   have HOWN:Hid (∀k,o1=some k->base<=k/\k<wr.heap.size):=Lib.hid fun k e=>World.ownsRow.lt hLO k (ho1 ▸ e)
   have liW:=LO.frT HLI.out HO.out.frT (by decide)
   have lkW:=LO.frT HLK.out HO.out.frT (by decide)
   have HKS:=Lib.hid (LO.sv lkW).ls
   obtain⟨bi,oi,rfl,hbi,kc'⟩:=(LO.sv liW).ls.int hk
   have n2':=nB.cell 2
   have n3:=nB.cell 3
   have x2:=HO.out.bxB.cell 2
   have x1':=HO.out.bxB.cell 1
   have hxl:=HO.out.bxB.lt
   have hbnn:¬o1=some bn:=fun e=>own_blk_ne hLO nB (by decide) (ho1 ▸ e)
   have hbin:¬o1=some bi:=fun e=>own_neq hLO liW (by decide) (ho1 ▸ e) rfl
   generalize n.kids[k]=kid at*
   obtain⟨y,hy⟩:∃z:It,z=⟨kid,x.d+1,low,En.nil⟩:=⟨_,rfl⟩
   rw[<-hy]at HDR
   subst hy
   clear hits hnv ho1 liW lkW nB hLO hdrop hlow
   go_upto_if 37 with fail
   go_cut [8]from 30 to 62 (fun v8 wx=>v8= .string low/\wr=wx)
   case first=>
    by_cases hz:k=0
    ·subst hz
     have e:low=x.key:=by rw[HLOW.out];rfl
     subst e
     go_wp2
     go_meet
     exact⟨rfl,rfl⟩
    ·have hzi:(0:Int)<(k:Nat):=by omega
     have hkk:k-1<n.keys.length:=by have:=HNK.out;omega
     obtain⟨bk,ok,hax,hbk,q0⟩:=HKS.out.key hkk
     have q1:wr.cell? ⟨bk,ok+(k-1),none⟩=some (.string low):=by
      rw[q0,HLOW.out]
      unfold Td.lowAt
      rw[if_neg hz,List.getD_eq_getElem?_getD,List.getElem?_eq_getElem hkk]
      rfl
     rw[hax]at n3
     have hwm:IntKind.i64.wrap ((k:Int)-1)=((k-1:Nat):Int):=(IntWalk.i64_in _ (by omega)).trans (by omega)
     have hkki:((k-1:Nat):Int)<(n.keys.length:Nat):=by omega
     clear hax q0 hz
     go_wp2
     go_meet
     exact⟨rfl,rfl⟩
   case rest=>
    obtain⟨rfl,rfl⟩:=hcut
    have hwk1:IntKind.i64.wrap ((k:Int)-1)=(k:Int)-1:=IntWalk.i64_in _ (by omega)
    clear n3 x2
    go_wp2
    refine wp_region_last2 (base:=wr.heap.size) 19 (fun u=>⟨#[_,_,_,_,_,_,_,_,_,_,_,_,_,_,_,_,_,_,_,_,_,_,_,_,_,_,_,_,_,_,_,_,_,_,_,_,_,_,_,_,_,_,_,_,u 0,u 1,u 2,u 3,u 4,u 5,u 6,u 7,u 8,u 9,u 10,u 11,u 12,u 13,u 14,u 15,u 16,u 17,u 18,_,_,_,_,_,_,_,_,_,_,_,_,_,_,_,_,_,_,_,_,_,_,_,_,_,_,_,_,_,_],_⟩)
     [Is.eq _ (.pointer (some ⟨g,os,none⟩)),Is.eq _ (.pointer (some ⟨g,os,none⟩)),Is.eq _ (.pointer (some ⟨g,os,none⟩)),Is.eq _ (.pointer (some ⟨g,os+1,none⟩)),Is.eq _ (.slice Av nv cv),Is.eq _ (.pointer (some ⟨bn,2,none⟩)),Is.eq _ (.slice (some ⟨bi,oi,none⟩) n.kids.length ci),Is.eq _ (.int .i64 (k:Nat)),Is.eq _ (.pointer (some ⟨bi,oi+k,none⟩)),Is.eq _ (.int .i64 kid),Is.eq _ (.pointer (some ⟨bx,1,none⟩)),Is.eq _ (.int .i64 (x.d:Nat)),Is.eq _ (.int .i64 ((x.d+1:Nat):Int)),Is.eq _ (.string low),Is.eq _ (.agg #[.int .i64 kid, .int .i64 ((x.d+1:Nat):Int), .string low, .string ⟨#[]⟩]),Is.blk _ 255 1 #[.int .i64 kid, .int .i64 ((x.d+1:Nat):Int), .string low, .string ⟨#[]⟩],Is.app _ itE 255 base o1 (items.reverse++ [(⟨kid,x.d+1,low,En.nil⟩:It)]),Is.eq _ (.pointer (some ⟨g,os,none⟩)),Is.eq _ (.pointer (some ⟨g,os+1,none⟩))]
     (by kernel_rfl) rfl (by kernel_rfl) (by kernel_rfl) (by kernel_rfl) o1.toList (by cases o1<;>rfl) (Nat.le_refl _) ?_ (by cases o1<;>simp) ⟨fun i=>(#[u44,u45,u46,u47,u48,u49,u50,u51,u52,u53,u54,u55,u56,u57,u58,u59,u60,u61,u62]:Array Value).getD i undef,rfl⟩ ?_ ?_
    ·intro k hk;exact(HOWN.out k (by simpa using hk)).2
    ·intro i o hi7 ho u W hf hold hdep
     have hnL:∀k,k∈o1.toList->o1=some k:=fun k hk=>by simpa using hk
     have hf1:Fr (fun k=>o1=some k) wr W:=hf.more hnL
     have gW:=(hf1.cell (p:=⟨g,os+1,none⟩) hgl hgn).trans gc
     have n2:=(hf1.cell (p:=⟨bn,2,none⟩) nl hbnn).trans n2'
     have kc:=(hf1.cell (p:=⟨bi,oi+k,none⟩) hbi hbin).trans kc'
     have x1:=(hf1.cell (p:=⟨bx,1,none⟩) hxl hne).trans x1'
     have hsz:=hf.size
     match i,ho with
     |0,ho=>
      obtain rfl:=Option.some.inj ho
      exact Does.val (op_mv rfl rfl) ⟨rfl,rfl,Fr.refl _⟩
     |1,ho=>
      obtain rfl:=Option.some.inj ho
      exact Does.val (op_mv rfl rfl) ⟨rfl,rfl,Fr.refl _⟩
     |2,ho=>
      obtain rfl:=Option.some.inj ho
      exact Does.val (op_nilc rfl (hdep 1 rfl)) ⟨rfl,rfl,Fr.refl _⟩
     |3,ho=>
      obtain rfl:=Option.some.inj ho
      exact Does.val (op_fasd1 rfl (hdep 2 rfl)) ⟨rfl,rfl,Fr.refl _⟩
     |4,ho=>
      obtain rfl:=Option.some.inj ho
      exact Does.val (op_ld_its rfl (hdep 3 rfl) gW) ⟨rfl,rfl,Fr.refl _⟩
     |5,ho=>
      obtain rfl:=Option.some.inj ho
      exact Does.val (op_fan2 rfl rfl) ⟨rfl,rfl,Fr.refl _⟩
     |6,ho=>
      obtain rfl:=Option.some.inj ho
      exact Does.val (op_ld_ints rfl (hdep 5 rfl) n2) ⟨rfl,rfl,Fr.refl _⟩
     |7,ho=>
      obtain rfl:=Option.some.inj ho
      exact Does.val (op_mv rfl rfl) ⟨rfl,rfl,Fr.refl _⟩
     |8,ho=>
      obtain rfl:=Option.some.inj ho
      exact Does.val (op_ia_ints rfl (hdep 6 rfl) (hdep 7 rfl) hk) ⟨rfl,rfl,Fr.refl _⟩
     |9,ho=>
      obtain rfl:=Option.some.inj ho
      exact Does.val (op_ldint rfl (hdep 8 rfl) kc) ⟨rfl,rfl,Fr.refl _⟩
     |10,ho=>
      obtain rfl:=Option.some.inj ho
      exact Does.val (op_fait1 rfl rfl) ⟨rfl,rfl,Fr.refl _⟩
     |11,ho=>
      obtain rfl:=Option.some.inj ho
      exact Does.val (op_ldint rfl (hdep 10 rfl) x1) ⟨rfl,rfl,Fr.refl _⟩
     |12,ho=>
      obtain rfl:=Option.some.inj ho
      refine Does.val (op_add rfl (hdep 11 rfl) rfl) ⟨?_, ?_,Fr.refl _⟩<;>rw[hwd]<;>rfl
     |13,ho=>
      obtain rfl:=Option.some.inj ho
      exact Does.val (op_mv rfl rfl) ⟨rfl,rfl,Fr.refl _⟩
     |14,ho=>
      obtain rfl:=Option.some.inj ho
      exact Does.val (op_bd_it rfl (hdep 9 rfl) (hdep 12 rfl) (hdep 13 rfl)) ⟨rfl,rfl,Fr.refl _⟩
     |15,ho=>
      obtain rfl:=Option.some.inj ho
      exact Does.val (op_bs_it rfl (hdep 14 rfl)) ⟨rfl,⟨W.heap.size,hsz,rfl,Blk.new _ _ _⟩, .of_below ((Below.refl _ _).alloc (Nat.le_refl _) _)⟩
     |16,ho=>
      obtain rfl:=Option.some.inj ho
      obtain⟨b,hb0,hb1,hb2⟩:=hdep 15 rfl
      have hownW:LO itE 255 W base (.slice Av nv cv) items.reverse:=LO.held HLO.out (fun g hg=>hold g (HO1.out.trans hg))
      refine does_appn (s:=(⟨kid,x.d+1,low,En.nil⟩:It)) rfl eiItem Tryz.underlying175 rfl rfl (hdep 4 rfl) hownW hb1 hb2 (by unfold maxLen;omega) (by omega) (by have:=HGB.out;omega) ?_
      intro v' w' h1 h2 h3
      refine⟨rfl,⟨h1,h1.form, ?_⟩, ?_⟩
      ·rcases h3 with h3 | ⟨g,h3,h4⟩
       ·exact .inl (h3.trans HO1.out.symm)
       ·exact .inr ⟨g,h3,by omega⟩
      ·rw[<-HO1.out]at h2;exact Fr.of_grown h2
     |17,ho=>
      obtain rfl:=Option.some.inj ho
      exact Does.val (op_nilc rfl (hdep 0 rfl)) ⟨rfl,rfl,Fr.refl _⟩
     |18,ho=>
      obtain rfl:=Option.some.inj ho
      exact Does.val (op_fasd1 rfl (hdep 17 rfl)) ⟨rfl,rfl,Fr.refl _⟩
     |n+19,ho=>omega
    intro o ho u W hf hall
    obtain rfl:=Option.some.inj ho
    have hf1:Fr (fun k=>o1=some k) wr W:=hf.more fun k hk=>by simpa using hk
    obtain⟨hL5,⟨A',c',e5⟩,hob⟩:=hall 16 (by decide)
    have gW:=(hf1.cell (p:=⟨g,os+1,none⟩) hgl hgn).trans gc
    have fW:=(hf1.frz (p:=⟨g,os+1,none⟩) hgl hgn).trans gf
    refine Does.skip (op_st_its rfl (hall 18 (by decide)) e5 gW fW) ?_
    rw[e5]at hL5 hob
    have HN:=Lib.hid (HO.out.push (y:=(⟨kid,x.d+1,low,En.nil⟩:It)) HOS.out HGB.out gc (HO1.out ▸ hf1) hL5 (by rw[<-HO1.out];exact hob))
    rw[show(items.reverse++ [(⟨kid,x.d+1,low,En.nil⟩:It)]).length=items.length+1 by simp]at HN
    clear hL5 hob e5 gW fW hall hf hf1
    go_wp2
    go_roundg k
    case measure=>omega
    case rel=>exact⟨k,by go_num,by omega,Nat.le_refl _,by rw[HDR.out];exact HN⟩
end
section
variable {S:Nat->Prop}{B t:Nat}{room:Int}{disk:Tp.Disk}{TM:Nat->Tp.Pst->World->Prop}{bad:Int->Prop}
def DsEnd(tv:Value)(g base:Nat)(TM:Nat->Tp.Pst->World->Prop)(r:Nat)(σ:Tp.Pst)(S:Nat->Prop)(res:Option (Option Td.St))(out:List Dl)(w:World)(e:Ending)(w':World):Prop:=
 TM r σ w'/\FrA S base w w'/\((res=none/\e= .returned (.tuple #[.bool true, .int .i64 3]))\/(res=some none/\e= .returned (.tuple #[.bool false, .int .i64 0])/\PairT tv w' g base [] [] out)\/
  ∃a b o,res=some (some (a,b,o))/\e= .returned (.tuple #[.bool true, .int .i64 0])/\PairT tv w' g base a b o)
theorem PairT.two{tv:Value}{w:World}{g base:Nat}{a b:List It}{out:List Dl}(h:PairT tv w g base a b out):∃va vb,w.cell? ⟨g,1,none⟩=some va/\w.cell? ⟨g,3,none⟩=some vb/\(∀k,va.ownBlock=some k->k<w.heap.size)/\(∀k,vb.ownBlock=some k->k<w.heap.size):=by
 obtain⟨va,vb,vo,h0,h1,h2,h3,h4⟩:=h
 exact⟨va,vb,h1.cell 1,h1.cell 3,fun k hk=>(World.ownsRow.lt h2 k hk).2,fun k hk=>(World.ownsRow.lt h3 k hk).2⟩
theorem PairT.sa{tv:Value}{w:World}{g base:Nat}{a b:List It}{out:List Dl}(h:PairT tv w g base a b out):PairS tv false w g base a b out:=h
theorem PairT.sb{tv:Value}{w:World}{g base:Nat}{a b:List It}{out:List Dl}(h:PairT tv w g base a b out):PairS tv true w g base b a out:=h
theorem PairS.frA{tv:Value}{s:Bool}{w w':World}{g base o:Nat}{a c:List It}{out:List Dl}{S:Nat->Prop}(h:PairS tv s w g base a c out)(ho:o=off s)(hg:base<=g)(hf:Fr (OwnO S g o w) w w'):FrA S base w w':=Fr.more hf fun k hk=>by
 rcases hk with hk | rfl | ⟨va,h1,h2⟩
 ·exact .inl hk
 ·cases s with
  |false=>obtain⟨_,_,_,_,q,_⟩:=(show PairT tv w k base a c out from h);exact .inr ⟨hg,_,_,q, .inl rfl⟩
  |true=>obtain⟨_,_,_,_,q,_⟩:=(show PairT tv w k base c a out from h);exact .inr ⟨hg,_,_,q, .inl rfl⟩
 ·obtain⟨va',f1,_,_,_,f5,_⟩:=h.facts ho
  rw[h1]at f1;cases f1
  obtain⟨cs,hcs⟩:=own_obj f5 h2
  exact .inr ⟨(World.ownsRow.lt f5 k h2).1,_,_,hcs, .inr (.inl rfl)⟩
theorem dstep_00(M:Mach S B t room disk TM)(g base:Nat)(r:Nat)(σ:Tp.Pst)(out:List Dl)(w:World)(h:TM (r+4) σ w)(hP:PairT (.pointer (some ⟨t,0,none⟩)) w g base [] [] out)(hB:B<=base)(hg:base<=g):
  Calls Tryz.prog 105 #[.pointer (some ⟨g,0,none⟩)] w (DsEnd (.pointer (some ⟨t,0,none⟩)) g base TM r σ S (Td.stepD (σ.view disk) [] [] out) out w):=by
 have hTa:=Lib.hid (dtop_a0 hP)
 have hTb:=Lib.hid (fun W (hP:PairT (.pointer (some ⟨t,0,none⟩)) W g base [] [] out)=>dtop_b0 hP)
 obtain⟨va,vb,hca,hcb,hoa,hob⟩:=hP.two
 have hgl:=hP.lt
 have HM:=Lib.hid M
 have HBB:=Lib.hid hB
 have HGB:=Lib.hid hg
 have HP:=Lib.hid hP
 have HH:=Lib.hid h
 clear hP h M hB
 go_enter Tryz.func105,Tryz.ntmps105
 go_wp2_with fail
 refine hTa.out.mono ?_
 rintro e w1 ⟨rfl,b1⟩
 have hbA:Below w.heap.size w (w1.alloc (.cells #[.int .i64 0, .int .i64 0, .string ⟨#[]⟩, .string ⟨#[]⟩] 255)):=b1.alloc b1.size _
 have hBx:=Blk.new w1 255 #[.int .i64 0, .int .i64 0, .string ⟨#[]⟩, .string ⟨#[]⟩]
 have hq1:w.heap.size<=w1.heap.size:=b1.size
 clear hTa b1
 go_wp2_with fail
 generalize hw:w1.alloc (.cells #[.int .i64 0, .int .i64 0, .string ⟨#[]⟩, .string ⟨#[]⟩] 255)=w2 at*
 generalize hq:w1.heap.size=q at*
 clear hw hq
 refine(hTb.out _ (HP.out.below hbA)).mono ?_
 rintro e w3 ⟨rfl,b3⟩
 have hbB:Below w.heap.size w (w3.alloc (.cells #[.int .i64 0, .int .i64 0, .string ⟨#[]⟩, .string ⟨#[]⟩] 255)):=(hbA.trans (b3.mono hbA.size)).alloc (by have:=b3.size;have:=hbA.size;omega) _
 have hBx3:=(hBx.below b3 hBx.lt).alloc (.cells #[.int .i64 0, .int .i64 0, .string ⟨#[]⟩, .string ⟨#[]⟩] 255)
 have hBy:=Blk.new w3 255 #[.int .i64 0, .int .i64 0, .string ⟨#[]⟩, .string ⟨#[]⟩]
 have hq3:w.heap.size<=w3.heap.size:=by have:=b3.size;have:=hbA.size;omega
 have HP5:=Lib.hid (HP.out.below hbB)
 have HM5:=Lib.hid (HM.out.below HH.out hbB)
 have HFA:Hid (FrA S base w (w3.alloc (.cells #[.int .i64 0, .int .i64 0, .string ⟨#[]⟩, .string ⟨#[]⟩] 255))):=Lib.hid (FrA.of (.of_below hbB))
 have HCA:=Lib.hid ((hbB.cell (p:=⟨g,1,none⟩) hgl).trans hca)
 have HCB:=Lib.hid ((hbB.cell (p:=⟨g,3,none⟩) hgl).trans hcb)
 have HOA:Hid (∀k,va.ownBlock=some k->k<q/\k<w3.heap.size):=Lib.hid fun k hk=>by have:=hoa k hk;omega
 have HOB:Hid (∀k,vb.ownBlock=some k->k<q/\k<w3.heap.size):=Lib.hid fun k hk=>by have:=hob k hk;omega
 have HQG:Hid (g<q/\g<w3.heap.size):=Lib.hid (by omega)
 have HBX:=Lib.hid hBx3
 have HBY:=Lib.hid hBy
 have hltx:=hBx3.lt
 have hlty:=hBy.lt
 have x0:(w3.alloc (.cells #[.int .i64 0, .int .i64 0, .string ⟨#[]⟩, .string ⟨#[]⟩] 255)).cell? ⟨q,0,none⟩=some (.int .i64 0):=hBx3.cell 0
 have x1:(w3.alloc (.cells #[.int .i64 0, .int .i64 0, .string ⟨#[]⟩, .string ⟨#[]⟩] 255)).cell? ⟨q,1,none⟩=some (.int .i64 0):=hBx3.cell 1
 have x2:(w3.alloc (.cells #[.int .i64 0, .int .i64 0, .string ⟨#[]⟩, .string ⟨#[]⟩] 255)).cell? ⟨q,2,none⟩=some (.string ⟨#[]⟩):=hBx3.cell 2
 have x3:(w3.alloc (.cells #[.int .i64 0, .int .i64 0, .string ⟨#[]⟩, .string ⟨#[]⟩] 255)).cell? ⟨q,3,none⟩=some (.string ⟨#[]⟩):=hBx3.cell 3
 have y0:(w3.alloc (.cells #[.int .i64 0, .int .i64 0, .string ⟨#[]⟩, .string ⟨#[]⟩] 255)).cell? ⟨w3.heap.size,0,none⟩=some (.int .i64 0):=hBy.cell 0
 have y1:(w3.alloc (.cells #[.int .i64 0, .int .i64 0, .string ⟨#[]⟩, .string ⟨#[]⟩] 255)).cell? ⟨w3.heap.size,1,none⟩=some (.int .i64 0):=hBy.cell 1
 have y2:(w3.alloc (.cells #[.int .i64 0, .int .i64 0, .string ⟨#[]⟩, .string ⟨#[]⟩] 255)).cell? ⟨w3.heap.size,2,none⟩=some (.string ⟨#[]⟩):=hBy.cell 2
 have y3:(w3.alloc (.cells #[.int .i64 0, .int .i64 0, .string ⟨#[]⟩, .string ⟨#[]⟩] 255)).cell? ⟨w3.heap.size,3,none⟩=some (.string ⟨#[]⟩):=hBy.cell 3
 clear hTb hBx hBx3 hBy b3 hbA hbB hca hcb hoa hob hq1 hq3 hgl HP HH
 have HE:Hid (DsEnd (.pointer (some ⟨t,0,none⟩)) g base TM r σ S (Td.stepD (σ.view disk) [] [] out) out w (.returned (.tuple #[.bool false, .int .i64 0])) _):=Lib.hid ⟨HM.out.less HM5.out (by omega),HFA.out, .inr (.inl ⟨rfl,rfl,HP5.out⟩)⟩
 clear HP5 HM5 HFA HCA HCB HOA HOB HQG HBX HBY HM HBB HGB
 go_wp2
 go_ret2
 exact HE.out
theorem dstep_x0(M:Mach S B t room disk TM)(hbad:BadGet S t TM bad)(g base:Nat)(r:Nat)(σ:Tp.Pst)(x:It)(a:List It)(out:List Dl)(w:World)(h:TM (r+4) σ w)(hP:PairT (.pointer (some ⟨t,0,none⟩)) w g base (x::a) [] out)(hB:B<=base)(hg:base<=g)(ox:Td.ItOk (σ.view disk) bad x)(ha:a.length<=100000)(ho:out.length<=100000):
  Calls Tryz.prog 105 #[.pointer (some ⟨g,0,none⟩)] w (DsEnd (.pointer (some ⟨t,0,none⟩)) g base TM r σ S (Td.stepD (σ.view disk) (x::a) [] out) out w):=by
 have hTa:=Lib.hid (dtop_a hP (by omega))
 have hTb:=Lib.hid (fun W (hP:PairT (.pointer (some ⟨t,0,none⟩)) W g base (x::a) [] out)=>dtop_b0 hP)
 obtain⟨va,vb,hca,hcb,hoa,hob⟩:=hP.two
 have hgl:=hP.lt
 have HM:=Lib.hid M
 have HBB:=Lib.hid hB
 have HGB:=Lib.hid hg
 have HP:=Lib.hid hP
 have HH:=Lib.hid h
 clear hP h M hB
 go_enter Tryz.func105,Tryz.ntmps105
 go_wp2_with fail
 refine hTa.out.mono ?_
 rintro e w1 ⟨rfl,b1⟩
 have hbA:Below w.heap.size w (w1.alloc (.cells #[.int .i64 x.pg, .int .i64 (x.d:Nat), .string x.key, .string x.val] 255)):=b1.alloc b1.size _
 have hBx:=Blk.new w1 255 #[.int .i64 x.pg, .int .i64 (x.d:Nat), .string x.key, .string x.val]
 have hq1:w.heap.size<=w1.heap.size:=b1.size
 clear hTa b1
 go_wp2_with fail
 generalize hw:w1.alloc (.cells #[.int .i64 x.pg, .int .i64 (x.d:Nat), .string x.key, .string x.val] 255)=w2 at*
 generalize hq:w1.heap.size=q at*
 clear hw hq
 refine(hTb.out _ (HP.out.below hbA)).mono ?_
 rintro e w3 ⟨rfl,b3⟩
 have hbB:Below w.heap.size w (w3.alloc (.cells #[.int .i64 0, .int .i64 0, .string ⟨#[]⟩, .string ⟨#[]⟩] 255)):=(hbA.trans (b3.mono hbA.size)).alloc (by have:=b3.size;have:=hbA.size;omega) _
 have hBx3:=(hBx.below b3 hBx.lt).alloc (.cells #[.int .i64 0, .int .i64 0, .string ⟨#[]⟩, .string ⟨#[]⟩] 255)
 have hBy:=Blk.new w3 255 #[.int .i64 0, .int .i64 0, .string ⟨#[]⟩, .string ⟨#[]⟩]
 have hq3:w.heap.size<=w3.heap.size:=by have:=b3.size;have:=hbA.size;omega
 have HP5:=Lib.hid (HP.out.below hbB)
 have HM5:=Lib.hid (HM.out.below HH.out hbB)
 have HFA:Hid (FrA S base w (w3.alloc (.cells #[.int .i64 0, .int .i64 0, .string ⟨#[]⟩, .string ⟨#[]⟩] 255))):=Lib.hid (FrA.of (.of_below hbB))
 have HCA:=Lib.hid ((hbB.cell (p:=⟨g,1,none⟩) hgl).trans hca)
 have HCB:=Lib.hid ((hbB.cell (p:=⟨g,3,none⟩) hgl).trans hcb)
 have HOA:Hid (∀k,va.ownBlock=some k->k<q/\k<w3.heap.size):=Lib.hid fun k hk=>by have:=hoa k hk;omega
 have HOB:Hid (∀k,vb.ownBlock=some k->k<q/\k<w3.heap.size):=Lib.hid fun k hk=>by have:=hob k hk;omega
 have HQG:Hid (g<q/\g<w3.heap.size):=Lib.hid (by omega)
 have HBX:=Lib.hid hBx3
 have HBY:=Lib.hid hBy
 have hltx:=hBx3.lt
 have hlty:=hBy.lt
 have x0:(w3.alloc (.cells #[.int .i64 0, .int .i64 0, .string ⟨#[]⟩, .string ⟨#[]⟩] 255)).cell? ⟨q,0,none⟩=some (.int .i64 x.pg):=hBx3.cell 0
 have x1:(w3.alloc (.cells #[.int .i64 0, .int .i64 0, .string ⟨#[]⟩, .string ⟨#[]⟩] 255)).cell? ⟨q,1,none⟩=some (.int .i64 (x.d:Nat)):=hBx3.cell 1
 have x2:(w3.alloc (.cells #[.int .i64 0, .int .i64 0, .string ⟨#[]⟩, .string ⟨#[]⟩] 255)).cell? ⟨q,2,none⟩=some (.string x.key):=hBx3.cell 2
 have x3:(w3.alloc (.cells #[.int .i64 0, .int .i64 0, .string ⟨#[]⟩, .string ⟨#[]⟩] 255)).cell? ⟨q,3,none⟩=some (.string x.val):=hBx3.cell 3
 have y0:(w3.alloc (.cells #[.int .i64 0, .int .i64 0, .string ⟨#[]⟩, .string ⟨#[]⟩] 255)).cell? ⟨w3.heap.size,0,none⟩=some (.int .i64 0):=hBy.cell 0
 have y1:(w3.alloc (.cells #[.int .i64 0, .int .i64 0, .string ⟨#[]⟩, .string ⟨#[]⟩] 255)).cell? ⟨w3.heap.size,1,none⟩=some (.int .i64 0):=hBy.cell 1
 have y2:(w3.alloc (.cells #[.int .i64 0, .int .i64 0, .string ⟨#[]⟩, .string ⟨#[]⟩] 255)).cell? ⟨w3.heap.size,2,none⟩=some (.string ⟨#[]⟩):=hBy.cell 2
 have y3:(w3.alloc (.cells #[.int .i64 0, .int .i64 0, .string ⟨#[]⟩, .string ⟨#[]⟩] 255)).cell? ⟨w3.heap.size,3,none⟩=some (.string ⟨#[]⟩):=hBy.cell 3
 clear hTb hBx hBx3 hBy b3 hbA hbB hca hcb hoa hob hq1 hq3 hgl HP HH
 by_cases hx:x.pg=0
 ·have HX:=Lib.hid hx
  rw[hx]at x0
  clear hx
  have HR:Hid (Td.stepD (σ.view disk) (x::a) [] out=some (some (a, [],out++ [En.dOld (Td.x2 x)]))):=Lib.hid (by rw[Td.step_x0,if_pos HX.out])
  have hC:=Lib.hid (donly_a (.pointer (some ⟨t,0,none⟩)) g base x a [] out _ HP5.out HGB.out ha ho)
  go_wp2_with fail
  refine hC.out.mono ?_
  rintro e w4 ⟨rfl,hP4,f4⟩
  have HE:Hid (DsEnd (.pointer (some ⟨t,0,none⟩)) g base TM r σ S (Td.stepD (σ.view disk) (x::a) [] out) out w (.returned (.tuple #[.bool true, .int .i64 0])) w4):=Lib.hid ⟨HM.out.less (HM.out.upT HM5.out f4 HBB.out) (by omega),HFA.out.trans (.ofT f4), .inr (.inr ⟨_,_,_,HR.out,rfl,hP4⟩)⟩
  clear hP4 f4 hC HR
  clear HP5 HM5 HFA HCA HCB HOA HOB HQG HBX HBY HM HBB HGB
  go_wp2
  go_ret2
  exact HE.out
 ·have hxp:0<x.pg:=(ox hx).1
  have hxe:(x.pg==0)=false:=by simpa using hx
  have hxn:(x.pg != 0)=true:=by simpa using hx
  have hO:=Lib.hid (dopen_any HM.out hbad g 0 base false rfl (r+2) σ x a [] out ox (by omega) _ (HM.out.less HM5.out (by omega)) HP5.out.sa HBB.out HGB.out ha)
  go_wp2_with fail
  refine hO.out.mono ?_
  rintro e w4 ⟨hz,ht4,hf4⟩
  have bx4:=hf4.blk HBX.out (fun e=>by
   have h1:=HQG.out
   rcases e with e | e | ⟨u,e1,e2⟩
   ·have:=HM.out.low _ e;have:=HBB.out;have:=HGB.out;omega
   ·omega
   ·rw[HCA.out]at e1;cases e1
    have:=(HOA.out _ e2).1;omega)
  have by4:=hf4.blk HBY.out (fun e=>by
   have h1:=HQG.out
   rcases e with e | e | ⟨u,e1,e2⟩
   ·have:=HM.out.low _ e;have:=HBB.out;have:=HGB.out;omega
   ·omega
   ·rw[HCA.out]at e1;cases e1
    have:=(HOA.out _ e2).2;omega)
  have lx4:=bx4.lt
  have ly4:=by4.lt
  have x0':w4.cell? ⟨q,0,none⟩=some (.int .i64 x.pg):=bx4.cell 0
  have x1':w4.cell? ⟨q,1,none⟩=some (.int .i64 (x.d:Nat)):=bx4.cell 1
  have HF4:=Lib.hid (HFA.out.trans (PairS.frA HP5.out.sa rfl HGB.out hf4))
  have HT4:=Lib.hid ht4
  clear hO ht4 hf4 bx4 by4
  rcases hz with⟨L,hL,rfl,hP4⟩ | ⟨hL,rfl⟩
  ·have HE:Hid (DsEnd (.pointer (some ⟨t,0,none⟩)) g base TM r σ S (Td.stepD (σ.view disk) (x::a) [] out) out w (.returned (.tuple #[.bool true, .int .i64 0])) w4):=Lib.hid ⟨HM.out.less HT4.out (by omega),HF4.out, .inr (.inr ⟨_,_,_,by rw[Td.step_x0,if_neg hx];rw[hL];try rfl,rfl,hP4⟩)⟩
   clear hP4 hL HT4 HF4
   clear HP5 HM5 HFA HCA HCB HOA HOB HQG HBX HBY
   go_wp2
   go_ret2
   exact HE.out
  ·have HE:Hid (DsEnd (.pointer (some ⟨t,0,none⟩)) g base TM r σ S (Td.stepD (σ.view disk) (x::a) [] out) out w (.returned (.tuple #[.bool true, .int .i64 3])) w4):=Lib.hid ⟨HM.out.less HT4.out (by omega),HF4.out, .inl ⟨by rw[Td.step_x0,if_neg hx];rw[hL];try rfl,rfl⟩⟩
   clear hL HT4 HF4
   clear HP5 HM5 HFA HCA HCB HOA HOB HQG HBX HBY
   go_wp2
   go_ret2
   exact HE.out
theorem dstep_0y(M:Mach S B t room disk TM)(hbad:BadGet S t TM bad)(g base:Nat)(r:Nat)(σ:Tp.Pst)(y:It)(b:List It)(out:List Dl)(w:World)(h:TM (r+4) σ w)(hP:PairT (.pointer (some ⟨t,0,none⟩)) w g base [] (y::b) out)(hB:B<=base)(hg:base<=g)(oy:Td.ItOk (σ.view disk) bad y)(hb:b.length<=100000)(ho:out.length<=100000):
  Calls Tryz.prog 105 #[.pointer (some ⟨g,0,none⟩)] w (DsEnd (.pointer (some ⟨t,0,none⟩)) g base TM r σ S (Td.stepD (σ.view disk) [] (y::b) out) out w):=by
 have hTa:=Lib.hid (dtop_a0 hP)
 have hTb:=Lib.hid (fun W (hP:PairT (.pointer (some ⟨t,0,none⟩)) W g base [] (y::b) out)=>dtop_b hP (by omega))
 obtain⟨va,vb,hca,hcb,hoa,hob⟩:=hP.two
 have hgl:=hP.lt
 have HM:=Lib.hid M
 have HBB:=Lib.hid hB
 have HGB:=Lib.hid hg
 have HP:=Lib.hid hP
 have HH:=Lib.hid h
 clear hP h M hB
 go_enter Tryz.func105,Tryz.ntmps105
 go_wp2_with fail
 refine hTa.out.mono ?_
 rintro e w1 ⟨rfl,b1⟩
 have hbA:Below w.heap.size w (w1.alloc (.cells #[.int .i64 0, .int .i64 0, .string ⟨#[]⟩, .string ⟨#[]⟩] 255)):=b1.alloc b1.size _
 have hBx:=Blk.new w1 255 #[.int .i64 0, .int .i64 0, .string ⟨#[]⟩, .string ⟨#[]⟩]
 have hq1:w.heap.size<=w1.heap.size:=b1.size
 clear hTa b1
 go_wp2_with fail
 generalize hw:w1.alloc (.cells #[.int .i64 0, .int .i64 0, .string ⟨#[]⟩, .string ⟨#[]⟩] 255)=w2 at*
 generalize hq:w1.heap.size=q at*
 clear hw hq
 refine(hTb.out _ (HP.out.below hbA)).mono ?_
 rintro e w3 ⟨rfl,b3⟩
 have hbB:Below w.heap.size w (w3.alloc (.cells #[.int .i64 y.pg, .int .i64 (y.d:Nat), .string y.key, .string y.val] 255)):=(hbA.trans (b3.mono hbA.size)).alloc (by have:=b3.size;have:=hbA.size;omega) _
 have hBx3:=(hBx.below b3 hBx.lt).alloc (.cells #[.int .i64 y.pg, .int .i64 (y.d:Nat), .string y.key, .string y.val] 255)
 have hBy:=Blk.new w3 255 #[.int .i64 y.pg, .int .i64 (y.d:Nat), .string y.key, .string y.val]
 have hq3:w.heap.size<=w3.heap.size:=by have:=b3.size;have:=hbA.size;omega
 have HP5:=Lib.hid (HP.out.below hbB)
 have HM5:=Lib.hid (HM.out.below HH.out hbB)
 have HFA:Hid (FrA S base w (w3.alloc (.cells #[.int .i64 y.pg, .int .i64 (y.d:Nat), .string y.key, .string y.val] 255))):=Lib.hid (FrA.of (.of_below hbB))
 have HCA:=Lib.hid ((hbB.cell (p:=⟨g,1,none⟩) hgl).trans hca)
 have HCB:=Lib.hid ((hbB.cell (p:=⟨g,3,none⟩) hgl).trans hcb)
 have HOA:Hid (∀k,va.ownBlock=some k->k<q/\k<w3.heap.size):=Lib.hid fun k hk=>by have:=hoa k hk;omega
 have HOB:Hid (∀k,vb.ownBlock=some k->k<q/\k<w3.heap.size):=Lib.hid fun k hk=>by have:=hob k hk;omega
 have HQG:Hid (g<q/\g<w3.heap.size):=Lib.hid (by omega)
 have HBX:=Lib.hid hBx3
 have HBY:=Lib.hid hBy
 have hltx:=hBx3.lt
 have hlty:=hBy.lt
 have x0:(w3.alloc (.cells #[.int .i64 y.pg, .int .i64 (y.d:Nat), .string y.key, .string y.val] 255)).cell? ⟨q,0,none⟩=some (.int .i64 0):=hBx3.cell 0
 have x1:(w3.alloc (.cells #[.int .i64 y.pg, .int .i64 (y.d:Nat), .string y.key, .string y.val] 255)).cell? ⟨q,1,none⟩=some (.int .i64 0):=hBx3.cell 1
 have x2:(w3.alloc (.cells #[.int .i64 y.pg, .int .i64 (y.d:Nat), .string y.key, .string y.val] 255)).cell? ⟨q,2,none⟩=some (.string ⟨#[]⟩):=hBx3.cell 2
 have x3:(w3.alloc (.cells #[.int .i64 y.pg, .int .i64 (y.d:Nat), .string y.key, .string y.val] 255)).cell? ⟨q,3,none⟩=some (.string ⟨#[]⟩):=hBx3.cell 3
 have y0:(w3.alloc (.cells #[.int .i64 y.pg, .int .i64 (y.d:Nat), .string y.key, .string y.val] 255)).cell? ⟨w3.heap.size,0,none⟩=some (.int .i64 y.pg):=hBy.cell 0
 have y1:(w3.alloc (.cells #[.int .i64 y.pg, .int .i64 (y.d:Nat), .string y.key, .string y.val] 255)).cell? ⟨w3.heap.size,1,none⟩=some (.int .i64 (y.d:Nat)):=hBy.cell 1
 have y2:(w3.alloc (.cells #[.int .i64 y.pg, .int .i64 (y.d:Nat), .string y.key, .string y.val] 255)).cell? ⟨w3.heap.size,2,none⟩=some (.string y.key):=hBy.cell 2
 have y3:(w3.alloc (.cells #[.int .i64 y.pg, .int .i64 (y.d:Nat), .string y.key, .string y.val] 255)).cell? ⟨w3.heap.size,3,none⟩=some (.string y.val):=hBy.cell 3
 clear hTb hBx hBx3 hBy b3 hbA hbB hca hcb hoa hob hq1 hq3 hgl HP HH
 by_cases hy:y.pg=0
 ·have HY:=Lib.hid hy
  have y0z:(w3.alloc (.cells #[.int .i64 y.pg, .int .i64 (y.d:Nat), .string y.key, .string y.val] 255)).cell? ⟨w3.heap.size,0,none⟩=some (.int .i64 0):=by rw[y0,hy]
  clear y0 hy
  have HR:Hid (Td.stepD (σ.view disk) [] (y::b) out=some (some ([],b,out++ [En.dNew (Td.x2 y)]))):=Lib.hid (by rw[Td.step_0y,if_pos HY.out])
  have hC:=Lib.hid (donly_b (.pointer (some ⟨t,0,none⟩)) g base y [] b out _ HP5.out HGB.out hb ho)
  go_wp2_with fail
  refine hC.out.mono ?_
  rintro e w4 ⟨rfl,hP4,f4⟩
  have HE:Hid (DsEnd (.pointer (some ⟨t,0,none⟩)) g base TM r σ S (Td.stepD (σ.view disk) [] (y::b) out) out w (.returned (.tuple #[.bool true, .int .i64 0])) w4):=Lib.hid ⟨HM.out.less (HM.out.upT HM5.out f4 HBB.out) (by omega),HFA.out.trans (.ofT f4), .inr (.inr ⟨_,_,_,HR.out,rfl,hP4⟩)⟩
  clear hP4 f4 hC HR
  clear HP5 HM5 HFA HCA HCB HOA HOB HQG HBX HBY HM HBB HGB
  go_wp2
  go_ret2
  exact HE.out
 ·have hyp:0<y.pg:=(oy hy).1
  have hye:(y.pg==0)=false:=by simpa using hy
  have hyn:(y.pg != 0)=true:=by simpa using hy
  have hO:=Lib.hid (dopen_any HM.out hbad g 2 base true rfl (r+2) σ y b [] out oy (by omega) _ (HM.out.less HM5.out (by omega)) HP5.out.sb HBB.out HGB.out hb)
  go_wp2_with fail
  refine hO.out.mono ?_
  rintro e w4 ⟨hz,ht4,hf4⟩
  have HF4:=Lib.hid (HFA.out.trans (PairS.frA HP5.out.sb rfl HGB.out hf4))
  have HT4:=Lib.hid ht4
  clear hO ht4 hf4
  rcases hz with⟨L,hL,rfl,hP4⟩ | ⟨hL,rfl⟩
  ·have HE:Hid (DsEnd (.pointer (some ⟨t,0,none⟩)) g base TM r σ S (Td.stepD (σ.view disk) [] (y::b) out) out w (.returned (.tuple #[.bool true, .int .i64 0])) w4):=Lib.hid ⟨HM.out.less HT4.out (by omega),HF4.out, .inr (.inr ⟨_,_,_,by rw[Td.step_0y,if_neg hy];rw[hL];try rfl,rfl,hP4⟩)⟩
   clear hP4 hL HT4 HF4
   clear HP5 HM5 HFA HCA HCB HOA HOB HQG HBX HBY
   go_wp2
   go_ret2
   exact HE.out
  ·have HE:Hid (DsEnd (.pointer (some ⟨t,0,none⟩)) g base TM r σ S (Td.stepD (σ.view disk) [] (y::b) out) out w (.returned (.tuple #[.bool true, .int .i64 3])) w4):=Lib.hid ⟨HM.out.less HT4.out (by omega),HF4.out, .inl ⟨by rw[Td.step_0y,if_neg hy];rw[hL];try rfl,rfl⟩⟩
   clear hL HT4 HF4
   clear HP5 HM5 HFA HCA HCB HOA HOB HQG HBX HBY
   go_wp2
   go_ret2
   exact HE.out
theorem dstep_xy(M:Mach S B t room disk TM)(hbad:BadGet S t TM bad)(g base:Nat)(r:Nat)(σ:Tp.Pst)(x:It)(a:List It)(y:It)(b:List It)(out:List Dl)(w:World)(h:TM (r+4) σ w)(hP:PairT (.pointer (some ⟨t,0,none⟩)) w g base (x::a) (y::b) out)(hB:B<=base)(hg:base<=g)(ox:Td.ItOk (σ.view disk) bad x)(ha:a.length<=100000)(oy:Td.ItOk (σ.view disk) bad y)(hb:b.length<=100000)(ho:out.length<=100000):
  Calls Tryz.prog 105 #[.pointer (some ⟨g,0,none⟩)] w (DsEnd (.pointer (some ⟨t,0,none⟩)) g base TM r σ S (Td.stepD (σ.view disk) (x::a) (y::b) out) out w):=by
 have hTa:=Lib.hid (dtop_a hP (by omega))
 have hTb:=Lib.hid (fun W (hP:PairT (.pointer (some ⟨t,0,none⟩)) W g base (x::a) (y::b) out)=>dtop_b hP (by omega))
 obtain⟨va,vb,hca,hcb,hoa,hob⟩:=hP.two
 have hgl:=hP.lt
 have HM:=Lib.hid M
 have HBB:=Lib.hid hB
 have HGB:=Lib.hid hg
 have HP:=Lib.hid hP
 have HH:=Lib.hid h
 clear hP h M hB
 go_enter Tryz.func105,Tryz.ntmps105
 go_wp2_with fail
 refine hTa.out.mono ?_
 rintro e w1 ⟨rfl,b1⟩
 have hbA:Below w.heap.size w (w1.alloc (.cells #[.int .i64 x.pg, .int .i64 (x.d:Nat), .string x.key, .string x.val] 255)):=b1.alloc b1.size _
 have hBx:=Blk.new w1 255 #[.int .i64 x.pg, .int .i64 (x.d:Nat), .string x.key, .string x.val]
 have hq1:w.heap.size<=w1.heap.size:=b1.size
 clear hTa b1
 go_wp2_with fail
 generalize hw:w1.alloc (.cells #[.int .i64 x.pg, .int .i64 (x.d:Nat), .string x.key, .string x.val] 255)=w2 at*
 generalize hq:w1.heap.size=q at*
 clear hw hq
 refine(hTb.out _ (HP.out.below hbA)).mono ?_
 rintro e w3 ⟨rfl,b3⟩
 have hbB:Below w.heap.size w (w3.alloc (.cells #[.int .i64 y.pg, .int .i64 (y.d:Nat), .string y.key, .string y.val] 255)):=(hbA.trans (b3.mono hbA.size)).alloc (by have:=b3.size;have:=hbA.size;omega) _
 have hBx3:=(hBx.below b3 hBx.lt).alloc (.cells #[.int .i64 y.pg, .int .i64 (y.d:Nat), .string y.key, .string y.val] 255)
 have hBy:=Blk.new w3 255 #[.int .i64 y.pg, .int .i64 (y.d:Nat), .string y.key, .string y.val]
 have hq3:w.heap.size<=w3.heap.size:=by have:=b3.size;have:=hbA.size;omega
 have HP5:=Lib.hid (HP.out.below hbB)
 have HM5:=Lib.hid (HM.out.below HH.out hbB)
 have HFA:Hid (FrA S base w (w3.alloc (.cells #[.int .i64 y.pg, .int .i64 (y.d:Nat), .string y.key, .string y.val] 255))):=Lib.hid (FrA.of (.of_below hbB))
 have HCA:=Lib.hid ((hbB.cell (p:=⟨g,1,none⟩) hgl).trans hca)
 have HCB:=Lib.hid ((hbB.cell (p:=⟨g,3,none⟩) hgl).trans hcb)
 have HOA:Hid (∀k,va.ownBlock=some k->k<q/\k<w3.heap.size):=Lib.hid fun k hk=>by have:=hoa k hk;omega
 have HOB:Hid (∀k,vb.ownBlock=some k->k<q/\k<w3.heap.size):=Lib.hid fun k hk=>by have:=hob k hk;omega
 have HQG:Hid (g<q/\g<w3.heap.size):=Lib.hid (by omega)
 have HBX:=Lib.hid hBx3
 have HBY:=Lib.hid hBy
 have hltx:=hBx3.lt
 have hlty:=hBy.lt
 have x0:(w3.alloc (.cells #[.int .i64 y.pg, .int .i64 (y.d:Nat), .string y.key, .string y.val] 255)).cell? ⟨q,0,none⟩=some (.int .i64 x.pg):=hBx3.cell 0
 have x1:(w3.alloc (.cells #[.int .i64 y.pg, .int .i64 (y.d:Nat), .string y.key, .string y.val] 255)).cell? ⟨q,1,none⟩=some (.int .i64 (x.d:Nat)):=hBx3.cell 1
 have x2:(w3.alloc (.cells #[.int .i64 y.pg, .int .i64 (y.d:Nat), .string y.key, .string y.val] 255)).cell? ⟨q,2,none⟩=some (.string x.key):=hBx3.cell 2
 have x3:(w3.alloc (.cells #[.int .i64 y.pg, .int .i64 (y.d:Nat), .string y.key, .string y.val] 255)).cell? ⟨q,3,none⟩=some (.string x.val):=hBx3.cell 3
 have y0:(w3.alloc (.cells #[.int .i64 y.pg, .int .i64 (y.d:Nat), .string y.key, .string y.val] 255)).cell? ⟨w3.heap.size,0,none⟩=some (.int .i64 y.pg):=hBy.cell 0
 have y1:(w3.alloc (.cells #[.int .i64 y.pg, .int .i64 (y.d:Nat), .string y.key, .string y.val] 255)).cell? ⟨w3.heap.size,1,none⟩=some (.int .i64 (y.d:Nat)):=hBy.cell 1
 have y2:(w3.alloc (.cells #[.int .i64 y.pg, .int .i64 (y.d:Nat), .string y.key, .string y.val] 255)).cell? ⟨w3.heap.size,2,none⟩=some (.string y.key):=hBy.cell 2
 have y3:(w3.alloc (.cells #[.int .i64 y.pg, .int .i64 (y.d:Nat), .string y.key, .string y.val] 255)).cell? ⟨w3.heap.size,3,none⟩=some (.string y.val):=hBy.cell 3
 clear hTb hBx hBx3 hBy b3 hbA hbB hca hcb hoa hob hq1 hq3 hgl HP HH
 by_cases hx:x.pg=0
 ·have HX:=Lib.hid hx
  rw[hx]at x0
  clear hx
  cases h1:En.lt x.key y.key with
  |true=>
   have hL:Op.bytesLess x.key.toList y.key.toList=true:=h1
   have HR:Hid (Td.stepD (σ.view disk) (x::a) (y::b) out=some (some (a,(y::b),out++ [En.dOld (Td.x2 x)]))):=Lib.hid (by rw[Td.step_xy,if_neg (fun h=>h.1 HX.out),if_pos ⟨HX.out,h1⟩])
   have hC:=Lib.hid (donly_a (.pointer (some ⟨t,0,none⟩)) g base x a (y::b) out _ HP5.out HGB.out ha ho)
   go_wp2_with fail
   refine hC.out.mono ?_
   rintro e w4 ⟨rfl,hP4,f4⟩
   have HE:Hid (DsEnd (.pointer (some ⟨t,0,none⟩)) g base TM r σ S (Td.stepD (σ.view disk) (x::a) (y::b) out) out w (.returned (.tuple #[.bool true, .int .i64 0])) w4):=Lib.hid ⟨HM.out.less (HM.out.upT HM5.out f4 HBB.out) (by omega),HFA.out.trans (.ofT f4), .inr (.inr ⟨_,_,_,HR.out,rfl,hP4⟩)⟩
   clear hP4 f4 hC HR
   clear HP5 HM5 HFA HCA HCB HOA HOB HQG HBX HBY HM HBB HGB
   go_wp2
   go_ret2
   exact HE.out
  |false=>
   have hL:Op.bytesLess x.key.toList y.key.toList=false:=h1
   by_cases hy:y.pg=0
   ·have HY:=Lib.hid hy
    have y0z:(w3.alloc (.cells #[.int .i64 y.pg, .int .i64 (y.d:Nat), .string y.key, .string y.val] 255)).cell? ⟨w3.heap.size,0,none⟩=some (.int .i64 0):=by rw[y0,hy]
    clear y0 hy
    cases h2:En.lt y.key x.key with
    |true=>
     have hG:Op.bytesLess y.key.toList x.key.toList=true:=h2
     have HR:Hid (Td.stepD (σ.view disk) (x::a) (y::b) out=some (some ((x::a),b,out++ [En.dNew (Td.x2 y)]))):=Lib.hid (by rw[Td.step_xy,if_neg (fun h=>h.1 HX.out),if_neg (fun h=>by rw[h1]at h;cases h.2),if_pos ⟨HY.out,h2⟩])
     have hC:=Lib.hid (donly_b (.pointer (some ⟨t,0,none⟩)) g base y (x::a) b out _ HP5.out HGB.out hb ho)
     go_wp2_with fail
     refine hC.out.mono ?_
     rintro e w4 ⟨rfl,hP4,f4⟩
     have HE:Hid (DsEnd (.pointer (some ⟨t,0,none⟩)) g base TM r σ S (Td.stepD (σ.view disk) (x::a) (y::b) out) out w (.returned (.tuple #[.bool true, .int .i64 0])) w4):=Lib.hid ⟨HM.out.less (HM.out.upT HM5.out f4 HBB.out) (by omega),HFA.out.trans (.ofT f4), .inr (.inr ⟨_,_,_,HR.out,rfl,hP4⟩)⟩
     clear hP4 f4 hC HR
     clear HP5 HM5 HFA HCA HCB HOA HOB HQG HBX HBY HM HBB HGB
     go_wp2
     go_ret2
     exact HE.out
    |false=>
     have hG:Op.bytesLess y.key.toList x.key.toList=false:=h2
     have HR:Hid (Td.stepD (σ.view disk) (x::a) (y::b) out=some (some (a,b,out++En.dBoth (Td.x2 x) (Td.x2 y)))):=Lib.hid (by rw[Td.step_xy,if_neg (fun h=>h.1 HX.out),if_neg (fun h=>by rw[h1]at h;cases h.2),if_neg (fun h=>by rw[h2]at h;cases h.2),if_neg (fun h=>h.1 HX.out),if_neg (fun h=>h HY.out)])
     have hC:=Lib.hid (dboth_any (.pointer (some ⟨t,0,none⟩)) g base 0 0 x y a b out _ HP5.out HGB.out ha hb ho)
     go_wp2_with fail
     refine hC.out.mono ?_
     rintro e w4 ⟨rfl,hP4,f4⟩
     have HE:Hid (DsEnd (.pointer (some ⟨t,0,none⟩)) g base TM r σ S (Td.stepD (σ.view disk) (x::a) (y::b) out) out w (.returned (.tuple #[.bool true, .int .i64 0])) w4):=Lib.hid ⟨HM.out.less (HM.out.upT HM5.out f4 HBB.out) (by omega),HFA.out.trans (.ofT f4), .inr (.inr ⟨_,_,_,HR.out,rfl,hP4⟩)⟩
     clear hP4 f4 hC HR
     clear HP5 HM5 HFA HCA HCB HOA HOB HQG HBX HBY HM HBB HGB
     go_wp2
     go_ret2
     exact HE.out
   ·have hyp:0<y.pg:=(oy hy).1
    have hye:(y.pg==0)=false:=by simpa using hy
    have hyn:(y.pg != 0)=true:=by simpa using hy
    have hO:=Lib.hid (dopen_any HM.out hbad g 2 base true rfl (r+2) σ y b (x::a) out oy (by omega) _ (HM.out.less HM5.out (by omega)) HP5.out.sb HBB.out HGB.out hb)
    go_wp2_with fail
    refine hO.out.mono ?_
    rintro e w4 ⟨hz,ht4,hf4⟩
    have HF4:=Lib.hid (HFA.out.trans (PairS.frA HP5.out.sb rfl HGB.out hf4))
    have HT4:=Lib.hid ht4
    clear hO ht4 hf4
    rcases hz with⟨L,hL,rfl,hP4⟩ | ⟨hL,rfl⟩
    ·have HE:Hid (DsEnd (.pointer (some ⟨t,0,none⟩)) g base TM r σ S (Td.stepD (σ.view disk) (x::a) (y::b) out) out w (.returned (.tuple #[.bool true, .int .i64 0])) w4):=Lib.hid ⟨HM.out.less HT4.out (by omega),HF4.out, .inr (.inr ⟨_,_,_,by rw[Td.step_xy,if_neg (fun h=>h.1 HX.out),if_neg (fun h=>by rw[h1]at h;cases h.2),if_neg (fun h=>hy h.1),if_neg (fun h=>h.1 HX.out),if_pos hy];rw[hL];try rfl,rfl,hP4⟩)⟩
     clear hP4 hL HT4 HF4
     clear HP5 HM5 HFA HCA HCB HOA HOB HQG HBX HBY
     go_wp2
     go_ret2
     exact HE.out
    ·have HE:Hid (DsEnd (.pointer (some ⟨t,0,none⟩)) g base TM r σ S (Td.stepD (σ.view disk) (x::a) (y::b) out) out w (.returned (.tuple #[.bool true, .int .i64 3])) w4):=Lib.hid ⟨HM.out.less HT4.out (by omega),HF4.out, .inl ⟨by rw[Td.step_xy,if_neg (fun h=>h.1 HX.out),if_neg (fun h=>by rw[h1]at h;cases h.2),if_neg (fun h=>hy h.1),if_neg (fun h=>h.1 HX.out),if_pos hy];rw[hL];try rfl,rfl⟩⟩
     clear hL HT4 HF4
     clear HP5 HM5 HFA HCA HCB HOA HOB HQG HBX HBY
     go_wp2
     go_ret2
     exact HE.out
 ·have hxp:0<x.pg:=(ox hx).1
  have hxe:(x.pg==0)=false:=by simpa using hx
  have hxn:(x.pg != 0)=true:=by simpa using hx
  by_cases hy:y.pg=0
  ·have HY:=Lib.hid hy
   have y0z:(w3.alloc (.cells #[.int .i64 y.pg, .int .i64 (y.d:Nat), .string y.key, .string y.val] 255)).cell? ⟨w3.heap.size,0,none⟩=some (.int .i64 0):=by rw[y0,hy]
   clear y0 hy
   cases h2:En.lt y.key x.key with
   |true=>
    have hG:Op.bytesLess y.key.toList x.key.toList=true:=h2
    have HR:Hid (Td.stepD (σ.view disk) (x::a) (y::b) out=some (some ((x::a),b,out++ [En.dNew (Td.x2 y)]))):=Lib.hid (by rw[Td.step_xy,if_neg (fun h=>hx (h.2.trans HY.out)),if_neg (fun h=>hx h.1),if_pos ⟨HY.out,h2⟩])
    have hC:=Lib.hid (donly_b (.pointer (some ⟨t,0,none⟩)) g base y (x::a) b out _ HP5.out HGB.out hb ho)
    go_wp2_with fail
    refine hC.out.mono ?_
    rintro e w4 ⟨rfl,hP4,f4⟩
    have HE:Hid (DsEnd (.pointer (some ⟨t,0,none⟩)) g base TM r σ S (Td.stepD (σ.view disk) (x::a) (y::b) out) out w (.returned (.tuple #[.bool true, .int .i64 0])) w4):=Lib.hid ⟨HM.out.less (HM.out.upT HM5.out f4 HBB.out) (by omega),HFA.out.trans (.ofT f4), .inr (.inr ⟨_,_,_,HR.out,rfl,hP4⟩)⟩
    clear hP4 f4 hC HR
    clear HP5 HM5 HFA HCA HCB HOA HOB HQG HBX HBY HM HBB HGB
    go_wp2
    go_ret2
    exact HE.out
   |false=>
    have hG:Op.bytesLess y.key.toList x.key.toList=false:=h2
    have hO:=Lib.hid (dopen_any HM.out hbad g 0 base false rfl (r+2) σ x a (y::b) out ox (by omega) _ (HM.out.less HM5.out (by omega)) HP5.out.sa HBB.out HGB.out ha)
    go_wp2_with fail
    refine hO.out.mono ?_
    rintro e w4 ⟨hz,ht4,hf4⟩
    have bx4:=hf4.blk HBX.out (fun e=>by
     have h1:=HQG.out
     rcases e with e | e | ⟨u,e1,e2⟩
     ·have:=HM.out.low _ e;have:=HBB.out;have:=HGB.out;omega
     ·omega
     ·rw[HCA.out]at e1;cases e1
      have:=(HOA.out _ e2).1;omega)
    have by4:=hf4.blk HBY.out (fun e=>by
     have h1:=HQG.out
     rcases e with e | e | ⟨u,e1,e2⟩
     ·have:=HM.out.low _ e;have:=HBB.out;have:=HGB.out;omega
     ·omega
     ·rw[HCA.out]at e1;cases e1
      have:=(HOA.out _ e2).2;omega)
    have lx4:=bx4.lt
    have ly4:=by4.lt
    have x0':w4.cell? ⟨q,0,none⟩=some (.int .i64 x.pg):=bx4.cell 0
    have x1':w4.cell? ⟨q,1,none⟩=some (.int .i64 (x.d:Nat)):=bx4.cell 1
    have y0':w4.cell? ⟨w3.heap.size,0,none⟩=some (.int .i64 y.pg):=by4.cell 0
    have y1':w4.cell? ⟨w3.heap.size,1,none⟩=some (.int .i64 (y.d:Nat)):=by4.cell 1
    rw[HY.out]at y0'
    have HF4:=Lib.hid (HFA.out.trans (PairS.frA HP5.out.sa rfl HGB.out hf4))
    have HT4:=Lib.hid ht4
    clear hO ht4 hf4 bx4 by4
    rcases hz with⟨L,hL,rfl,hP4⟩ | ⟨hL,rfl⟩
    ·have HE:Hid (DsEnd (.pointer (some ⟨t,0,none⟩)) g base TM r σ S (Td.stepD (σ.view disk) (x::a) (y::b) out) out w (.returned (.tuple #[.bool true, .int .i64 0])) w4):=Lib.hid ⟨HM.out.less HT4.out (by omega),HF4.out, .inr (.inr ⟨_,_,_,by rw[Td.step_xy,if_neg (fun h=>hx (h.2.trans HY.out)),if_neg (fun h=>hx h.1),if_neg (fun h=>by rw[h2]at h;cases h.2),if_pos ⟨hx, .inl HY.out⟩];rw[hL];simp only;rw[if_neg (fun h=>h.1 HY.out)],rfl,hP4⟩)⟩
     clear hP4 hL HT4 HF4
     clear HP5 HM5 HFA HCA HCB HOA HOB HQG HBX HBY
     go_wp2
     go_ret2
     exact HE.out
    ·have HE:Hid (DsEnd (.pointer (some ⟨t,0,none⟩)) g base TM r σ S (Td.stepD (σ.view disk) (x::a) (y::b) out) out w (.returned (.tuple #[.bool true, .int .i64 3])) w4):=Lib.hid ⟨HM.out.less HT4.out (by omega),HF4.out, .inl ⟨by rw[Td.step_xy,if_neg (fun h=>hx (h.2.trans HY.out)),if_neg (fun h=>hx h.1),if_neg (fun h=>by rw[h2]at h;cases h.2),if_pos ⟨hx, .inl HY.out⟩];rw[hL];try rfl,rfl⟩⟩
     clear hL HT4 HF4
     clear HP5 HM5 HFA HCA HCB HOA HOB HQG HBX HBY
     go_wp2
     go_ret2
     exact HE.out
  ·have hyp:0<y.pg:=(oy hy).1
   have hye:(y.pg==0)=false:=by simpa using hy
   have hyn:(y.pg != 0)=true:=by simpa using hy
   by_cases he:x.pg=y.pg
   ·have heq:(x.pg==y.pg)=true:=by simpa using he
    have HR:Hid (Td.stepD (σ.view disk) (x::a) (y::b) out=some (some (a,b,out))):=Lib.hid (by rw[Td.step_xy,if_pos ⟨hx,he⟩])
    have hPa:=Lib.hid (dpop_a HP5.out (by omega))
    have hPb:=Lib.hid (fun W (hP:PairT (.pointer (some ⟨t,0,none⟩)) W g base a (y::b) out)=>dpop_b hP (by omega))
    go_wp2_with fail
    refine hPa.out.mono ?_
    rintro e w4 ⟨rfl,hP4,_,f4⟩
    have HP4:=Lib.hid hP4
    have HF4:=Lib.hid (f4 HGB.out)
    have hg4:=hP4.lt
    clear hP4 f4 hPa
    go_wp2_with fail
    refine(hPb.out _ HP4.out).mono ?_
    rintro e w6 ⟨rfl,hP6,_,f6⟩
    have HE:Hid (DsEnd (.pointer (some ⟨t,0,none⟩)) g base TM r σ S (Td.stepD (σ.view disk) (x::a) (y::b) out) out w (.returned (.tuple #[.bool true, .int .i64 0])) w6):=Lib.hid ⟨HM.out.less (HM.out.upT HM5.out (HF4.out.trans (f6 HGB.out)) HBB.out) (by omega),HFA.out.trans (.ofT (HF4.out.trans (f6 HGB.out))), .inr (.inr ⟨_,_,_,HR.out,rfl,hP6⟩)⟩
    clear hP6 f6 hPb HR HP4 HF4
    clear HP5 HM5 HFA HCA HCB HOA HOB HQG HBX HBY HM HBB HGB
    go_wp2
    go_ret2
    exact HE.out
   ·have hne:(x.pg==y.pg)=false:=by simpa using he
    by_cases hd:x.d=y.d
    ·have hdi:(x.d:Int)<=(y.d:Int):=by omega
     have hdq:((x.d:Int)==(y.d:Int))=true:=by rw[hd];simp
     have hO:=Lib.hid (dopen_any HM.out hbad g 0 base false rfl (r+2) σ x a (y::b) out ox (by omega) _ (HM.out.less HM5.out (by omega)) HP5.out.sa HBB.out HGB.out ha)
     go_wp2_with fail
     refine hO.out.mono ?_
     rintro e w4 ⟨hz,ht4,hf4⟩
     have bx4:=hf4.blk HBX.out (fun e=>by
      have h1:=HQG.out
      rcases e with e | e | ⟨u,e1,e2⟩
      ·have:=HM.out.low _ e;have:=HBB.out;have:=HGB.out;omega
      ·omega
      ·rw[HCA.out]at e1;cases e1
       have:=(HOA.out _ e2).1;omega)
     have by4:=hf4.blk HBY.out (fun e=>by
      have h1:=HQG.out
      rcases e with e | e | ⟨u,e1,e2⟩
      ·have:=HM.out.low _ e;have:=HBB.out;have:=HGB.out;omega
      ·omega
      ·rw[HCA.out]at e1;cases e1
       have:=(HOA.out _ e2).2;omega)
     have lx4:=bx4.lt
     have ly4:=by4.lt
     have x0':w4.cell? ⟨q,0,none⟩=some (.int .i64 x.pg):=bx4.cell 0
     have x1':w4.cell? ⟨q,1,none⟩=some (.int .i64 (x.d:Nat)):=bx4.cell 1
     have y0':w4.cell? ⟨w3.heap.size,0,none⟩=some (.int .i64 y.pg):=by4.cell 0
     have y1':w4.cell? ⟨w3.heap.size,1,none⟩=some (.int .i64 (y.d:Nat)):=by4.cell 1
     have HF4:=Lib.hid (HFA.out.trans (PairS.frA HP5.out.sa rfl HGB.out hf4))
     have HT4:=Lib.hid ht4
     clear hO ht4 hf4 bx4 by4
     rcases hz with⟨L,hL,rfl,hP4⟩ | ⟨hL,rfl⟩
     ·have HP6:=Lib.hid (show PairS (.pointer (some ⟨t,0,none⟩)) true w4 g base (y::b) L out from hP4)
      have hO:=Lib.hid (dopen_any HM.out hbad g 2 base true rfl r σ y b L out oy (by omega) _ HT4.out HP6.out HBB.out HGB.out hb)
      have hg4:g<w4.heap.size:=hP4.lt
      clear hP4
      go_wp2_with fail
      refine hO.out.mono ?_
      rintro e w6 ⟨hz,ht6,hf6⟩
      have HF6:=Lib.hid (HF4.out.trans (PairS.frA HP6.out rfl HGB.out hf6))
      have HT6:=Lib.hid ht6
      clear hO ht6 hf6 HF4 HT4
      rcases hz with⟨L',hL',rfl,hP6⟩ | ⟨hL',rfl⟩
      ·have HE:Hid (DsEnd (.pointer (some ⟨t,0,none⟩)) g base TM r σ S (Td.stepD (σ.view disk) (x::a) (y::b) out) out w (.returned (.tuple #[.bool true, .int .i64 0])) w6):=Lib.hid ⟨HM.out.less HT6.out (by omega),HF6.out, .inr (.inr ⟨_,_,_,by rw[Td.step_xy,if_neg (fun h=>he h.2),if_neg (fun h=>hx h.1),if_neg (fun h=>hy h.1),if_pos ⟨hx, .inr (by omega)⟩,hL];simp only;rw[if_pos ⟨hy,hd⟩,hL'];rfl,rfl,hP6⟩)⟩
       clear hP6 hL' HT6 HF6
       clear HP5 HM5 HFA HCA HCB HOA HOB HQG HBX HBY HP6
       go_wp2
       go_ret2
       exact HE.out
      ·have HE:Hid (DsEnd (.pointer (some ⟨t,0,none⟩)) g base TM r σ S (Td.stepD (σ.view disk) (x::a) (y::b) out) out w (.returned (.tuple #[.bool true, .int .i64 3])) w6):=Lib.hid ⟨HM.out.less HT6.out (by omega),HF6.out, .inl ⟨by rw[Td.step_xy,if_neg (fun h=>he h.2),if_neg (fun h=>hx h.1),if_neg (fun h=>hy h.1),if_pos ⟨hx, .inr (by omega)⟩,hL];simp only;rw[if_pos ⟨hy,hd⟩,hL'];rfl,rfl⟩⟩
       clear hL' HT6 HF6
       clear HP5 HM5 HFA HCA HCB HOA HOB HQG HBX HBY HP6
       go_wp2
       go_ret2
       exact HE.out
     ·have HE:Hid (DsEnd (.pointer (some ⟨t,0,none⟩)) g base TM r σ S (Td.stepD (σ.view disk) (x::a) (y::b) out) out w (.returned (.tuple #[.bool true, .int .i64 3])) w4):=Lib.hid ⟨HM.out.less HT4.out (by omega),HF4.out, .inl ⟨by rw[Td.step_xy,if_neg (fun h=>he h.2),if_neg (fun h=>hx h.1),if_neg (fun h=>hy h.1),if_pos ⟨hx, .inr (by omega)⟩];rw[hL];try rfl,rfl⟩⟩
      clear hL HT4 HF4
      clear HP5 HM5 HFA HCA HCB HOA HOB HQG HBX HBY
      go_wp2
      go_ret2
      exact HE.out
    ·have hdq:((x.d:Int)==(y.d:Int))=false:=beq_eq_false_iff_ne.2 (by omega)
     by_cases hlt:x.d<y.d
     ·have hdi:(x.d:Int)<=(y.d:Int):=by omega
      have hO:=Lib.hid (dopen_any HM.out hbad g 0 base false rfl (r+2) σ x a (y::b) out ox (by omega) _ (HM.out.less HM5.out (by omega)) HP5.out.sa HBB.out HGB.out ha)
      go_wp2_with fail
      refine hO.out.mono ?_
      rintro e w4 ⟨hz,ht4,hf4⟩
      have bx4:=hf4.blk HBX.out (fun e=>by
       have h1:=HQG.out
       rcases e with e | e | ⟨u,e1,e2⟩
       ·have:=HM.out.low _ e;have:=HBB.out;have:=HGB.out;omega
       ·omega
       ·rw[HCA.out]at e1;cases e1
        have:=(HOA.out _ e2).1;omega)
      have by4:=hf4.blk HBY.out (fun e=>by
       have h1:=HQG.out
       rcases e with e | e | ⟨u,e1,e2⟩
       ·have:=HM.out.low _ e;have:=HBB.out;have:=HGB.out;omega
       ·omega
       ·rw[HCA.out]at e1;cases e1
        have:=(HOA.out _ e2).2;omega)
      have lx4:=bx4.lt
      have ly4:=by4.lt
      have x0':w4.cell? ⟨q,0,none⟩=some (.int .i64 x.pg):=bx4.cell 0
      have x1':w4.cell? ⟨q,1,none⟩=some (.int .i64 (x.d:Nat)):=bx4.cell 1
      have y0':w4.cell? ⟨w3.heap.size,0,none⟩=some (.int .i64 y.pg):=by4.cell 0
      have y1':w4.cell? ⟨w3.heap.size,1,none⟩=some (.int .i64 (y.d:Nat)):=by4.cell 1
      have HF4:=Lib.hid (HFA.out.trans (PairS.frA HP5.out.sa rfl HGB.out hf4))
      have HT4:=Lib.hid ht4
      clear hO ht4 hf4 bx4 by4
      rcases hz with⟨L,hL,rfl,hP4⟩ | ⟨hL,rfl⟩
      ·have HE:Hid (DsEnd (.pointer (some ⟨t,0,none⟩)) g base TM r σ S (Td.stepD (σ.view disk) (x::a) (y::b) out) out w (.returned (.tuple #[.bool true, .int .i64 0])) w4):=Lib.hid ⟨HM.out.less HT4.out (by omega),HF4.out, .inr (.inr ⟨_,_,_,by rw[Td.step_xy,if_neg (fun h=>he h.2),if_neg (fun h=>hx h.1),if_neg (fun h=>hy h.1),if_pos ⟨hx, .inr (by omega)⟩];rw[hL];simp only;rw[if_neg (fun h=>by omega)],rfl,hP4⟩)⟩
       clear hP4 hL HT4 HF4
       clear HP5 HM5 HFA HCA HCB HOA HOB HQG HBX HBY
       go_wp2
       go_ret2
       exact HE.out
      ·have HE:Hid (DsEnd (.pointer (some ⟨t,0,none⟩)) g base TM r σ S (Td.stepD (σ.view disk) (x::a) (y::b) out) out w (.returned (.tuple #[.bool true, .int .i64 3])) w4):=Lib.hid ⟨HM.out.less HT4.out (by omega),HF4.out, .inl ⟨by rw[Td.step_xy,if_neg (fun h=>he h.2),if_neg (fun h=>hx h.1),if_neg (fun h=>hy h.1),if_pos ⟨hx, .inr (by omega)⟩];rw[hL];try rfl,rfl⟩⟩
       clear hL HT4 HF4
       clear HP5 HM5 HFA HCA HCB HOA HOB HQG HBX HBY
       go_wp2
       go_ret2
       exact HE.out
     ·have hdi:¬ (x.d:Int)<=(y.d:Int):=by omega
      have hO:=Lib.hid (dopen_any HM.out hbad g 2 base true rfl (r+2) σ y b (x::a) out oy (by omega) _ (HM.out.less HM5.out (by omega)) HP5.out.sb HBB.out HGB.out hb)
      go_wp2_with fail
      refine hO.out.mono ?_
      rintro e w4 ⟨hz,ht4,hf4⟩
      have HF4:=Lib.hid (HFA.out.trans (PairS.frA HP5.out.sb rfl HGB.out hf4))
      have HT4:=Lib.hid ht4
      clear hO ht4 hf4
      rcases hz with⟨L,hL,rfl,hP4⟩ | ⟨hL,rfl⟩
      ·have HE:Hid (DsEnd (.pointer (some ⟨t,0,none⟩)) g base TM r σ S (Td.stepD (σ.view disk) (x::a) (y::b) out) out w (.returned (.tuple #[.bool true, .int .i64 0])) w4):=Lib.hid ⟨HM.out.less HT4.out (by omega),HF4.out, .inr (.inr ⟨_,_,_,by rw[Td.step_xy,if_neg (fun h=>he h.2),if_neg (fun h=>hx h.1),if_neg (fun h=>hy h.1),if_neg (fun h=>by rcases h.2 with q | q;exact hy q;omega),if_pos hy];rw[hL];try rfl,rfl,hP4⟩)⟩
       clear hP4 hL HT4 HF4
       clear HP5 HM5 HFA HCA HCB HOA HOB HQG HBX HBY
       go_wp2
       go_ret2
       exact HE.out
      ·have HE:Hid (DsEnd (.pointer (some ⟨t,0,none⟩)) g base TM r σ S (Td.stepD (σ.view disk) (x::a) (y::b) out) out w (.returned (.tuple #[.bool true, .int .i64 3])) w4):=Lib.hid ⟨HM.out.less HT4.out (by omega),HF4.out, .inl ⟨by rw[Td.step_xy,if_neg (fun h=>he h.2),if_neg (fun h=>hx h.1),if_neg (fun h=>hy h.1),if_neg (fun h=>by rcases h.2 with q | q;exact hy q;omega),if_pos hy];rw[hL];try rfl,rfl⟩⟩
       clear hL HT4 HF4
       clear HP5 HM5 HFA HCA HCB HOA HOB HQG HBX HBY
       go_wp2
       go_ret2
       exact HE.out
theorem dstep_any(M:Mach S B t room disk TM)(hbad:BadGet S t TM bad)(g base:Nat)(r:Nat)(σ:Tp.Pst)(a b:List It)(out:List Dl)(w:World)(h:TM (r+4) σ w)(hP:PairT (.pointer (some ⟨t,0,none⟩)) w g base a b out)(hB:B<=base)(hg:base<=g)(oa:∀x l,a=x::l->Td.ItOk (σ.view disk) bad x)(ob:∀x l,b=x::l->Td.ItOk (σ.view disk) bad x)(ha:a.length<=100000)(hb:b.length<=100000)(ho:out.length<=100000):
  Calls Tryz.prog 105 #[.pointer (some ⟨g,0,none⟩)] w (DsEnd (.pointer (some ⟨t,0,none⟩)) g base TM r σ S (Td.stepD (σ.view disk) a b out) out w):=by
 cases a with
 |nil=>
  cases b with
  |nil=>exact dstep_00 M g base r σ out w h hP hB hg
  |cons y b=>exact dstep_0y M hbad g base r σ y b out w h hP hB hg (ob _ _ rfl) (by simp at hb;omega) ho
 |cons x a=>
  cases b with
  |nil=>exact dstep_x0 M hbad g base r σ x a out w h hP hB hg (oa _ _ rfl) (by simp at ha;omega) ho
  |cons y b=>exact dstep_xy M hbad g base r σ x a y b out w h hP hB hg (oa _ _ rfl) (by simp at ha;omega) (ob _ _ rfl) (by simp at hb;omega) ho
end
theorem LO.oneE{α:Type}{E:Enc α}{ty:TypeId}{w:World}{g base:Nat}{s:α}{cs:Array Value}(hen:cs.toList=E.enc s)(hB:Blk w g ty cs)(hb:base<=g):LO E ty w base (.slice (some ⟨g,0,none⟩) 1 1) [s]:=by
 have hl:cs.size=E.size:=by rw[<-E.len s, <-hen];simp
 refine⟨?_, .inr ⟨g,1,cs,rfl,hb,hB, ?_⟩⟩
 ·rw[E.cells_length]
 ·rw[E.cells_one]
  refine⟨Nat.le_refl _,by unfold maxLen;omega,by rw[hl,Nat.one_mul], ?_⟩
  show cs.toList.take (1*E.size)=E.enc s
  rw[hen,Nat.one_mul,List.take_of_length_le (by rw[E.len];exact Nat.le_refl _)]
def BgEnd(tv:Value)(root:Int)(w:World)(e:Ending)(w':World):Prop:=∃A n c,e= .returned (.agg #[tv, .slice A n c])/\SideT w' w.heap.size (.slice A n c) (Td.rootIt root)/\Below w.heap.size w w'
theorem begin_any(t:Nat)(root:Int)(w:World):Calls Tryz.prog 104 #[.pointer (some ⟨t,0,none⟩), .int .i64 root] w (BgEnd (.pointer (some ⟨t,0,none⟩)) root w):=by
 go_enter Tryz.func104,Tryz.ntmps104
 by_cases h0:root=0
 ·have HE:=Lib.hid h0
  subst h0
  go_wp2
  have hB:=(Blk.new w 177 #[.pointer (some ⟨t,0,none⟩), .slice none 0 0]).alloc (.cells #[.pointer (some ⟨t,0,none⟩), .slice none 0 0] 177)
  have c0:=hB.cell 0
  have c1:=hB.cell 1
  refine bodyPost_ret (v:= .agg #[.pointer (some ⟨t,0,none⟩), .slice none 0 0]) (by simp[results,Tryz.results104,go_sem,c0,c1]) rfl ?_
  exact⟨none,0,0,rfl,by unfold SideT Td.rootIt;exact LO.nil_ _ _,((Below.refl _ _).alloc (Nat.le_refl _) _).alloc (by simp) _⟩
 ·have hne:(root != 0)=true:=by simpa using h0
  have HE:=Lib.hid h0
  go_wp2
  have hB:=((Blk.new w 177 #[.pointer (some ⟨t,0,none⟩), .slice (some ⟨w.heap.size+1+1,0,none⟩) 1 1]).alloc (.cells #[.pointer (some ⟨t,0,none⟩), .slice (some ⟨w.heap.size+1+1,0,none⟩) 1 1] 177)).alloc (.cells #[.int .i64 root, .int .i64 0, .string ⟨#[]⟩, .string ⟨#[]⟩] 255)
  have hI:=Blk.new ((w.alloc (.cells #[.pointer (some ⟨t,0,none⟩), .slice (some ⟨w.heap.size+1+1,0,none⟩) 1 1] 177)).alloc (.cells #[.pointer (some ⟨t,0,none⟩), .slice (some ⟨w.heap.size+1+1,0,none⟩) 1 1] 177)) 255 #[.int .i64 root, .int .i64 0, .string ⟨#[]⟩, .string ⟨#[]⟩]
  simp only[World.size_alloc]at hI
  have c0:=hB.cell 0
  have c1:=hB.cell 1
  refine bodyPost_ret (v:= .agg #[.pointer (some ⟨t,0,none⟩), .slice (some ⟨w.heap.size+1+1,0,none⟩) 1 1]) (by simp[results,Tryz.results104,go_sem,c0,c1]) rfl ?_
  refine⟨_,1,1,rfl, ?_,(((Below.refl _ _).alloc (Nat.le_refl _) _).alloc (by simp) _).alloc (by simp;omega) _⟩
  unfold SideT Td.rootIt
  rw[if_neg h0]
  exact LO.oneE (s:=(⟨root,0,En.nil,En.nil⟩:It)) rfl hI (by omega)
section
variable {S:Nat->Prop}{B t:Nat}{room:Int}{disk:Tp.Disk}{TM:Nat->Tp.Pst->World->Prop}{bad:Int->Prop}
def DfEnd(S:Nat->Prop)(TM:Nat->Tp.Pst->World->Prop)(r:Nat)(σ:Tp.Pst)(bad:Int->Prop)(W:List Dl)(w:World)(e:Ending)(w':World):Prop:=
 ((∃A c,e= .returned (.tuple #[.slice A W.length c, .int .i64 0])/\LO dlE 92 w' w.heap.size (.slice A W.length c) W)\/(e= .returned (.tuple #[.slice none 0 0, .int .i64 3])/\∃i,bad i))/\TM r σ w'/\Fr S w w'
theorem diff_any(M:Mach S B t room disk TM)(hbad:BadGet S t TM bad)(v:Int->Option Nd.Node)(ra rb:Int)(r m:Nat)(σ:Tp.Pst)(hv:∀i,σ.view disk i=v i\/(σ.view disk i=none/\bad i))(W:List Dl)(hR:Td.Run v W (Td.rootIt ra) (Td.rootIt rb) [] m)(hm:m<=100000)(hW:W.length<=100000)(w:World)(h:TM (r+4*(m+1)) σ w):
  Calls Tryz.prog 45 #[.pointer (some ⟨t,0,none⟩), .int .i64 ra, .int .i64 rb] w (DfEnd S TM r σ bad W w):=by
 have hBa:=Lib.hid (begin_any t ra w)
 have hBb:=Lib.hid (fun W=>begin_any t rb W)
 have hsz:=M.size h
 have HM:=Lib.hid M
 have HH:=Lib.hid h
 have HR:=Lib.hid hR
 have HS:Hid (∀k,S k->k<w.heap.size):=Lib.hid fun k hk=>Nat.lt_of_lt_of_le (M.low k hk) hsz
 clear h hR M
 go_enter Tryz.func45,Tryz.ntmps45
 go_wp2_with fail
 refine hBa.out.mono ?_
 rintro e w1 ⟨A1,n1,c1,rfl,s1,b1⟩
 have S1:=Lib.hid s1
 have B1:=Lib.hid b1
 clear s1 b1 hBa
 go_wp2_with fail
 refine(hBb.out _).mono ?_
 rintro e w2 ⟨A2,n2,c2,rfl,s2,b2⟩
 have hP:PairT (.pointer (some ⟨t,0,none⟩)) (w2.alloc (.cells #[.pointer (some ⟨t,0,none⟩), .slice A1 n1 c1, .pointer (some ⟨t,0,none⟩), .slice A2 n2 c2, .slice none 0 0] 180)) w2.heap.size w.heap.size (Td.rootIt ra) (Td.rootIt rb) []:=by
  have hb:=(Below.refl w2.heap.size w2).alloc (Nat.le_refl _) (.cells #[.pointer (some ⟨t,0,none⟩), .slice A1 n1 c1, .pointer (some ⟨t,0,none⟩), .slice A2 n2 c2, .slice none 0 0] 180)
  refine⟨_,_,_,fun r e1 e2=> ?_,Blk.new w2 _ _,LO.below (LO.below S1.out b2) hb,LO.below (LO.lower s2 B1.out.size) hb,LO.nil_ _ _⟩
  have h1:=(World.ownsRow.lt S1.out r e1).2
  have h2:=(World.ownsRow.lt s2 r e2).1
  omega
 have hb3:Below w.heap.size w (w2.alloc (.cells #[.pointer (some ⟨t,0,none⟩), .slice A1 n1 c1, .pointer (some ⟨t,0,none⟩), .slice A2 n2 c2, .slice none 0 0] 180)):=(B1.out.trans (b2.mono B1.out.size)).alloc (by have:=b2.size;have:=B1.out.size;omega) _
 have HP:=Lib.hid hP
 have HF:Hid (FrA S w.heap.size w (w2.alloc (.cells #[.pointer (some ⟨t,0,none⟩), .slice A1 n1 c1, .pointer (some ⟨t,0,none⟩), .slice A2 n2 c2, .slice none 0 0] 180))):=Lib.hid (FrA.of (.of_below hb3))
 have HT:=Lib.hid (HM.out.below HH.out hb3)
 have HG:Hid (w.heap.size<=w2.heap.size):=Lib.hid (by have:=b2.size;have:=B1.out.size;omega)
 clear hP hb3 s2 b2 S1 B1 HH hBb
 go_wp2
 generalize (w2.alloc (.cells #[.pointer (some ⟨t,0,none⟩), .slice A1 n1 c1, .pointer (some ⟨t,0,none⟩), .slice A2 n2 c2, .slice none 0 0] 180))=w3 at*
 generalize w2.heap.size=g at*
 go_loopg [9,10] (m+1) (fun gas s9 s10 wr=>∃ (a b:List It) (out:List Dl) (m':Nat),m'+1<=gas/\m'<=m/\Hid (Td.Run v W a b out m')/\Hid (PairT (.pointer (some ⟨t,0,none⟩)) wr g w.heap.size a b out)/\Hid (TM (r+4*(m'+1)) σ wr)/\Hid (FrA S w.heap.size w wr))
 case atStart=>exact⟨_,_, [],m,Nat.le_refl _,Nat.le_refl _,HR,HP,HT,HF⟩
 case round=>
  clear HR HP HT HF
  obtain⟨a,b,out,m',hgas,hmm,HR,HP,HT,HF⟩:=hrel
  obtain⟨la,lb,lo⟩:=HR.out.len
  have hO:=Lib.hid (dstep_any (S:=S) HM.out hbad g w.heap.size (r+4*m') σ a b out wr (HM.out.less HT.out (by omega)) HP.out hsz HG.out (fun x l e=>by have q:=HR.out;rw[e]at q;exact q.oka hv) (fun x l e=>by have q:=HR.out;rw[e]at q;exact q.okb hv) (by omega) (by omega) (by omega))
  have hls:=HR.out.less hv
  have hlt:=HP.out.lt
  go_wp2_with fail
  refine hO.out.mono ?_
  rintro e w4 ⟨ht4,hf4,hz⟩
  have HT4:=Lib.hid ht4
  have HF4:=Lib.hid (HF.out.trans hf4)
  have HST:Hid (Td.stepD (σ.view disk) a b out=none->∃i,bad i):=Lib.hid fun he=>by
   rcases HR.out.step with⟨_,_,_,h⟩ | ⟨_,_,_,_,h,_⟩
   ·by_cases hx:∃i,bad i
    ·exact hx
    ·have e:σ.view disk=v:=funext fun i=>(hv i).resolve_right fun q=>hx ⟨i,q.2⟩
     rw[e,h]at he;cases he
   ·by_cases hx:∃i,bad i
    ·exact hx
    ·have e:σ.view disk=v:=funext fun i=>(hv i).resolve_right fun q=>hx ⟨i,q.2⟩
     rw[e,h]at he;cases he
  have HOLD:Hid (∀W',FrA S w.heap.size w W'->Fr S w W'):=Lib.hid fun W' h=>Fr.old h fun k hk=>hk.imp_right fun q=>q.1
  clear hO ht4 hf4 HF
  rcases hz with⟨hz,rfl⟩ | ⟨hz,rfl,hP4⟩ | ⟨a',b',out',hz,rfl,hP4⟩
  ·have HE:Hid (DfEnd S TM r σ bad W w (.returned (.tuple #[.slice none 0 0, .int .i64 3])) w4):=Lib.hid ⟨.inr ⟨rfl,HST.out hz⟩,HM.out.less HT4.out (by omega),HOLD.out _ HF4.out⟩
   clear hz hls HP HR HT HT4 HF4 HST HOLD hgas
   go_wp2
   go_ret2
   exact HE.out
  ·have hoW:out=W:=by
    rcases hls with h | ⟨_,_,h,_⟩ | ⟨_,_,_,_,h,_⟩
    ·rw[h]at hz;cases hz
    ·exact h
    ·rw[h]at hz;cases hz
   subst hoW
   obtain⟨va,vb,vo,h0,h1,h2,h3,h4⟩:=hP4
   obtain⟨Ao,co,rfl⟩:=h4.form
   have hc4:w4.cell? ⟨g,4,none⟩=some (.slice Ao out.length co):=h1.cell 4
   have hlt4:=h1.lt
   have HE:Hid (DfEnd S TM r σ bad out w (.returned (.tuple #[.slice Ao out.length co, .int .i64 0])) w4):=Lib.hid ⟨.inl ⟨_,_,rfl,h4⟩,HM.out.less HT4.out (by omega),HOLD.out _ HF4.out⟩
   clear hz hls HP HR HT HT4 HF4 HST HOLD hgas h0 h1 h2 h3 h4
   go_wp2
   go_ret2
   exact HE.out
  ·obtain⟨m2,hR2,hm2⟩:∃m2,Td.Run v W a' b' out' m2/\m2<m':=by
    rcases hls with h | ⟨_,_,_,h⟩ | ⟨a2,b2,o2,m2,h,h2,h3⟩
    ·rw[h]at hz;cases hz
    ·rw[h]at hz;cases hz
    ·rw[h]at hz
     cases hz
     exact⟨m2,h2,h3⟩
   have HP4:=Lib.hid hP4
   have HR2:=Lib.hid hR2
   have HT5:=Lib.hid (HM.out.less (r':=r+4*(m2+1)) HT4.out (by omega))
   clear hz hls HP HR HT HT4 HST HOLD hP4 hR2
   go_wp2
   go_roundg m'
   case measure=>omega
   case rel=>exact⟨a',b',out',m2,by omega,by omega,HR2,HP4,HT5,HF4⟩
end
end Go.Proofs.YtjoiajmbfbjnnaaGreatDoor
namespace Go.Proofs.YtjoiajmbfbjnnaaGreatDoor
open Go.RowKit Go.Shelf Go.Maps
section
variable {w0 W W':World}{f0 d0 n N r t:Nat}{disk:Tp.Disk}{P P' root:Int}{es:List Ent}{tok:Nat}{ids:List Int}
structure Stg(w0:World)(f0 d0 n N r:Nat)(disk:Tp.Disk)(P:Int)(W:World):Prop where
 ex:∃F:FFile,F.f=f0/\F.d=d0/\F.k+1000<maxLen/\FReady F n disk N r W/\w0.heap.size<=F.B
 low:LowD disk [] P
 p:2<=P/\P<=n
 below:Below w0.heap.size w0 W
structure Beg(w0:World)(f0 d0 n N r t:Nat)(disk:Tp.Disk)(P:Int)(W:World):Prop where
 ex:∃ (F:FFile) (B m:Nat),F.f=f0/\F.d=d0/\F.k+1000<maxLen/\FOn F n disk N/\TMd F B t m n (Rp.minus [(2,P-1)] []) disk r (Tp.start [] P) W/\F.d<B/\w0.heap.size<=m/\w0.heap.size<=F.B
 tl:w0.heap.size<=t
 low:LowD disk [] P
 p:2<=P/\P<=n
 below:Below w0.heap.size w0 W
structure Grn(w0:World)(f0 d0 n N r t:Nat)(disk:Tp.Disk)(P P' root:Int)(es:List Ent)(tok:Nat)(W:World):Prop where
 ex:∃ (F:FFile) (a:TAd) (σ:Tp.Pst) (ids:List Int),F.f=f0/\F.d=d0/\F.k+1000<maxLen/\w0.heap.size<=F.B/\FOn F n disk N/\a.t=t/\FSt F n a (Rp.minus [(2,P-1)] []) disk root σ ids es tok r W/\σ.pages=P'/\∀x,FU F a x->w0.heap.size<=x
 low:LowD disk [] P
 below:Below w0.heap.size w0 W
theorem stg_new(h:Stg w0 f0 d0 n N r disk P W)(hN:N<1000000):
  Calls Tryz.prog 20 #[.pointer (some ⟨f0,0,none⟩), .slice none 0 0, .int .i64 P] W fun e w'=>∃t,e= .returned (.pointer (some ⟨t,0,none⟩))/\Beg w0 f0 d0 n N r t disk P w'/\Below W.heap.size W w':=by
 obtain⟨⟨F,rfl,rfl,hk,hr,hB⟩,hl,hp,hb⟩:=h
 refine(fr_begin hr hN none 0 [] P P (by unfold pagesN;omega) RS.nil_ (Nat.zero_le _) hl).mono ?_
 rintro e w' ⟨t,m,rfl,hM,⟨q1,q2,q3⟩,b⟩
 exact⟨t,rfl,⟨⟨F,_,m,rfl,rfl,hk,hr.on,hM,q3,Nat.le_trans hb.size q2,hB⟩,Nat.le_trans hb.size q1,hl,hp,hb.trans (b.mono hb.size)⟩,b⟩
def GwEnd(w0:World)(f0 d0 n N r t:Nat)(disk:Tp.Disk)(P:Int)(D T K bm:Nat)(es:List Ent)(W:World)(e:Ending)(w':World):Prop:=
 ∃ (root P':Int) (tok:Nat) (A:Option Addr) (c:Nat),e= .returned (.tuple #[.int .i64 root, .slice A es.length c, .bool true])/\Grn w0 f0 d0 n N r t disk P P' root es tok w'/\tok<=T+K/\P'<=P+D/\LO entE 34 w' bm (.slice A es.length c) es/\KeepL W w'
theorem beg_grown(K D T bm:Nat)(h:Beg w0 f0 d0 n N (288*K+r) t disk P W)(hn:n<=16384)(hv:Tp.VerAt disk root es tok ids)(htl:tok<=T)(Am:Option Addr)(cm:Nat)(A:Option Addr)(c:Nat)(l:List Ent)(hm:LO entE 34 W bm (.slice Am es.length cm) es)(hbm:bm<=W.heap.size)(hl:LS entE w0 w0.heap.size A l)(hK:l.length<=K)(hel:es.length<=T)(hTK:T+K<=1000)(hD:6*(T+K)+90<=5*D)(hPD:P+D<=n):
  Calls Tryz.prog 44 #[.pointer (some ⟨t,0,none⟩), .int .i64 root, .slice Am es.length cm, .slice A l.length c] W (GwEnd w0 f0 d0 n N r t disk P D T K bm (grE es l) W):=by
 obtain⟨⟨F,B,m,e1,e2,e3,e4,e5,e6,e7,e8⟩,h1,h2,h3,h4⟩:=h
 have hdt:=e5.base
 have hdB:F.B<=F.d:=by
  obtain⟨R,_,_,hA⟩:=e5.file
  exact hA.disk.le.1
 refine(grown_any K Am cm es A c l w0 W e5 e6 hv htl (fun x y h=>by obtain⟨cc,c1,c2⟩:=e4.c;exact(c2 x y h).2.1) hn h2 ⟨h1,e7,by omega⟩ h4 hm hbm hl hK hel hTK hD h3.1 hPD).mono ?_
 rintro e w' ⟨a,root',σ,ids',tok',A',c',rfl,q1,q2,q3,q4,q5,q6,q7,q8,q9⟩
 exact⟨root',_,tok',A',c',rfl,⟨⟨F,a,σ,ids',e1,e2,e3,e8,e4,q1,q3,rfl,q7⟩,h2,q9⟩,q4,q5,q6,q8⟩
theorem Grn.right(h:Grn w0 f0 d0 n N r t disk P P' root es tok W):En.right es=true/\es.length<=tok:=by
 obtain⟨⟨F,a,σ,ids,_,_,_,_,_,_,h1,_⟩,_⟩:=h
 exact⟨h1.rt.right,h1.rt.len⟩
structure FlE(w0:World)(f0 d0 n N r t:Nat)(disk:Tp.Disk)(P' root:Int)(es:List Ent)(tok:Nat)(W:World)(disk':Tp.Disk)(W':World):Prop where
 stg:Stg w0 f0 d0 n (N+600) r disk' P' W'
 ver:∃ids,Tp.VerAt disk' root es tok ids
 old:∀ (root':Int) (es':List Ent) (tok':Nat) (ids':List Int),Tp.VerAt disk root' es' tok' ids'->Tp.VerAt disk' root' es' tok' ids'
 keep:KeepL W W'
 pages:Calls Tryz.prog 30 #[.pointer (some ⟨t,0,none⟩)] W' fun e w'=>e= .returned (.int .i64 P')/\w'=W'
theorem grn_flush(h:Grn w0 f0 d0 n N r t disk P P' root es tok W)(hN:N+2000<90000)(ht:tok<=480)(hP:P'<=n):
  Calls Tryz.prog 28 #[.pointer (some ⟨t,0,none⟩)] W fun e w'=>e= .returned (.int .i64 0)/\∃disk',FlE w0 f0 d0 n N r t disk P' root es tok W disk' w':=by
 obtain⟨⟨F,a,σ,ids,e1,e2,e3,e4,e5,rfl,hst,rfl,hF⟩,hl,hb⟩:=h
 have m2:=hst.rt.few
 have m3:=hst.mineLen
 have hpg:=hst.ap.pg
 refine(fst_flush2 (N:=N) hst e5 hN e3 (by omega)).mono ?_
 rintro e w' ⟨rfl,F',disk',hfl⟩
 obtain⟨f1,f2,f3,f4⟩:=hfl.same
 refine⟨rfl,disk',⟨⟨F',by rw[f2,e1],by rw[f3,e2],by rw[f4];decide,⟨?_,hfl.ready.file,hfl.ready.ht,hfl.ready.b0,hfl.ready.bw⟩,by rw[f1];exact e4⟩,hfl.low.nofree,⟨hpg.1,hP⟩,hb.trans (hfl.below.mono e4)⟩,⟨ids,hfl.ver⟩,hfl.old,hfl.keepL, ?_⟩
 ·obtain⟨q1,q2,q3,q4⟩:=hfl.ready.on
  exact⟨q1,q2,⟨q3.1,by omega⟩,by omega⟩
 ·obtain⟨R,_,_,hA⟩:=hfl.ready.file
  obtain⟨m,k,D,hx⟩:=hfl.tx.txn hA (by obtain⟨cc,c1,c2⟩:=hfl.ready.on.c;exact c1.ok.size)
  exact tpages_any a.t m F'.f n k σ.free σ.pages D w' hx
theorem ver_few{v:Int->Option Nd.Node}(h:Tp.VerAt v root es tok ids):5*ids.length<=6*tok+5/\es.length<=tok/\En.Srt es:=by
 rcases h with⟨_,rfl,rfl⟩ | ⟨hh,s,rfl,rfl,rfl,h1,h2,h3,h4⟩
 ·exact⟨by simp,by simp,List.Pairwise.nil⟩
 ·have q1:=Tp.root_lev h2
  have q2:=Tp.es_le_tok _ _ _ _ h2
  exact⟨by omega,by omega,((En.right_iff _).1 ((Tp.tr_good _ _).srt h2)).2⟩
theorem stg_start{B0:Nat}(hn:n<=16384)(h2:2<=n)(h:FAt W B0 f0 d0 0 (fresh n))(hT:HT W)(hB0:w0.heap.size<=B0)(h0:0<w0.heap.size)(hBW:B0<=W.heap.size)(hb:Below w0.heap.size w0 W)(hr:r<=900000000000):Stg w0 f0 d0 n 0 r noDisk 2 W:=by
 obtain⟨F,hFB,rfl,rfl,hFk,hA,hON⟩:=file_start hn h
 exact⟨⟨F,rfl,rfl,by rw[hFk];decide,⟨hON,⟨0,Int.le_refl _,by omega,hA⟩,hT,by omega,by rw[hFB];exact hBW⟩,by rw[hFB];exact hB0⟩,fun id x hx=>by(cases hx),⟨Int.le_refl _,by omega⟩,hb⟩
end
end Go.Proofs.YtjoiajmbfbjnnaaGreatDoor
