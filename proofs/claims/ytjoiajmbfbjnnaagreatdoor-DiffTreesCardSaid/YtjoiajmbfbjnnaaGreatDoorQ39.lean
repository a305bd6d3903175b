/- Part of this proof. -/
import Derived.Lib.SliceRun
import Derived.Test.YtjoiajmbfbjnnaaGreatDoorQ37
set_option maxRecDepth 100000
set_option maxHeartbeats 8000000
namespace Go.Proofs.YtjoiajmbfbjnnaaGreatDoor
open Go.RowKit Go.Shelf
def delD(fr tt:ByteArray)(d:Dl):Bool:=En.lt d.key fr||(!tt.toList.isEmpty&& !En.lt d.key tt)
theorem btw_fn(bf bt:Nat)(fr tt:ByteArray)(d:Dl)(w:World)(h1:w.cell? ⟨bf,0,none⟩=some (.string fr))(h2:w.cell? ⟨bt,0,none⟩=some (.string tt))(l1:bf<w.heap.size)(l2:bt<w.heap.size):
  Calls Tryz.prog 110 #[.agg #[.string d.key, .string d.old, .string d.new, .bool d.was, .bool d.is], .pointer (some ⟨bf,0,none⟩), .pointer (some ⟨bt,0,none⟩)] w fun e w'=>e= .returned (.bool (delD fr tt d))/\Below w.heap.size w w':=by
 have hb:=(Below.refl w.heap.size w).alloc (Nat.le_refl _) (.cells #[.string d.key, .string d.old, .string d.new, .bool d.was, .bool d.is] 92)
 have HB:=Lib.hid hb
 clear hb
 cases ha:En.lt d.key fr with
 |true=>
  have hq:delD fr tt d=true:=by unfold delD;rw[ha];rfl
  have hA:Op.bytesLess d.key.toList fr.toList=true:=ha
  rw[hq]
  clear ha hq
  go_enter Tryz.func110,Tryz.ntmps110
  go_wp2
  go_ret
  exact⟨rfl,HB.out⟩
 |false=>
  have hA:Op.bytesLess d.key.toList fr.toList=false:=ha
  by_cases hto:tt.toList= []
  ·have hq:delD fr tt d=false:=by unfold delD;rw[ha,hto];rfl
   rw[hq]
   clear ha hq
   go_enter Tryz.func110,Tryz.ntmps110
   go_wp2
   go_ret
   exact⟨rfl,HB.out⟩
  ·have hte:tt.toList.isEmpty=false:=by simpa using hto
   have hq:delD fr tt d= !En.lt d.key tt:=by unfold delD;rw[ha,hte];rfl
   rw[hq]
   cases hb:En.lt d.key tt with
   |true=>
    have hBt:Op.bytesLess d.key.toList tt.toList=true:=hb
    clear ha hq hb
    go_enter Tryz.func110,Tryz.ntmps110
    go_wp2
    go_ret
    exact⟨rfl,HB.out⟩
   |false=>
    have hBt:Op.bytesLess d.key.toList tt.toList=false:=hb
    clear ha hq hb
    go_enter Tryz.func110,Tryz.ntmps110
    go_wp2
    go_ret
    exact⟨rfl,HB.out⟩
def idxF(p:Dl->Bool):List Dl->Nat->Int
 | [],_=> -1
 |x::r,i=>if p x then(i:Int)else idxF p r (i+1)
theorem idx_any(bf bt:Nat)(fr tt:ByteArray)(A:Option Addr)(c:Nat)(l:List Dl)(w:World)(h1:w.cell? ⟨bf,0,none⟩=some (.string fr))(h2:w.cell? ⟨bt,0,none⟩=some (.string tt))(l1:bf<w.heap.size)(l2:bt<w.heap.size)(hr:LS dlE w w.heap.size A l)(hl:l.length<=100000):
  Calls Tryz.prog 172 #[.slice A l.length c, .func (.func 110) #[] #[.pointer (some ⟨bf,0,none⟩), .pointer (some ⟨bt,0,none⟩)]] w fun e w'=>e= .returned (.int .i64 (idxF (delD fr tt) l 0))/\Below w.heap.size w w':=by
 obtain⟨Z,hZ⟩:∃z,z=idxF (delD fr tt) l 0:=⟨_,rfl⟩
 rw[<-hZ]
 have HZ:=Lib.hid hZ
 have HR:=Lib.hid hr
 have HF:=Lib.hid (fun d W (hb:Below w.heap.size w W)=>btw_fn bf bt fr tt d W ((hb.cell (p:=⟨bf,0,none⟩) l1).trans h1) ((hb.cell (p:=⟨bt,0,none⟩) l2).trans h2) (Nat.lt_of_lt_of_le l1 hb.size) (Nat.lt_of_lt_of_le l2 hb.size))
 clear hZ hr h1 h2
 go_enter Tryz.func172,Tryz.ntmps172
 go_wp2
 go_loopg [5,8] l.length (fun gg _ s8 wr=>∃k:Nat,s8= .int .i64 (k:Nat)/\k<=l.length/\l.length-k<=gg/\Hid (idxF (delD fr tt) (l.drop k) k=Z)/\Below w.heap.size w wr)
 case atStart=>exact⟨0,rfl,Nat.zero_le _,by omega,Lib.hid HZ.out.symm,Below.refl _ _⟩
 case round=>
  obtain⟨k,rfl,hkl,hkg,HI,hbe⟩:=hrel
  have hwk:IntKind.i64.wrap ((k:Int)+1)=(k:Int)+1:=IntWalk.i64_in _ (by omega)
  by_cases hk:k<l.length
  ·have hki:(k:Int)<(l.length:Nat):=by omega
   obtain⟨b1,o1,rfl,hq1,g0,g1,g2,g3,g4⟩:=(HR.out.below hbe).dl hk
   have hq2:b1<wr.heap.size:=Nat.lt_of_lt_of_le hq1 hbe.size
   have hst:=HI.out
   rw[List.drop_eq_getElem_cons hk,idxF]at hst
   have hC:=Lib.hid (HF.out l[k] wr hbe)
   have HBE:=Lib.hid hbe
   generalize l[k]=x at*
   cases hp:delD fr tt x with
   |true=>
    rw[hp]at hC hst
    rw[if_pos rfl]at hst
    subst hst
    clear hp HI hbe
    go_wp2_with fail
    refine hC.out.mono ?_
    rintro e w1 ⟨rfl,b1⟩
    have HE:=Lib.hid (HBE.out.trans (b1.mono HBE.out.size))
    clear b1 hC
    go_wp2
    go_ret
    exact⟨rfl,HE.out⟩
   |false=>
    rw[hp]at hC hst
    rw[if_neg (by simp)]at hst
    have HST:=Lib.hid hst
    clear hp HI hbe hst
    go_wp2_with fail
    refine hC.out.mono ?_
    rintro e w1 ⟨rfl,b1⟩
    have hbe:=HBE.out.trans (b1.mono HBE.out.size)
    clear b1 hC HBE
    go_wp2
    go_roundg (l.length-(k+1))
    case measure=>omega
    case rel=>exact⟨k+1,by go_num,by omega,Nat.le_refl _,HST,hbe⟩
  ·obtain rfl:k=l.length:=by omega
   have hki:¬ (l.length:Int)<(l.length:Nat):=by omega
   have hst:=HI.out
   rw[List.drop_length,idxF]at hst
   subst hst
   clear HI
   go_wp2
   go_ret
   exact⟨rfl,hbe⟩
theorem dl_set(l:List Dl)(i:Nat)(d:Dl):(((((dlE.cells l).set (i*5) (.string d.key)).set (i*5+1) (.string d.old)).set (i*5+2) (.string d.new)).set (i*5+3) (.bool d.was)).set (i*5+4) (.bool d.is)=dlE.cells (l.set i d):=by
 induction l generalizing i with
 |nil=>simp[Enc.cells]
 |cons x l ih=>
  rw[dlE.cells_cons]
  have e:dlE.enc x= [.string x.key, .string x.old, .string x.new, .bool x.was, .bool x.is]:=rfl
  rw[e]
  cases i with
  |zero=>simp[Enc.cells_cons,dlE]
  |succ i=>
   have h:=ih i
   rw[show(i+1)*5=i*5+1+1+1+1+1 by omega]
   rw[show i*5+1+1+1+1+1+2=i*5+2+1+1+1+1+1 by omega,show i*5+1+1+1+1+1+3=i*5+3+1+1+1+1+1 by omega,show i*5+1+1+1+1+1+4=i*5+4+1+1+1+1+1 by omega,show i*5+1+1+1+1+1+1=i*5+1+1+1+1+1+1 from rfl]
   simp only[List.cons_append,List.nil_append,List.set_cons_succ,h]
   rw[dlE.cells_cons];rfl
theorem take_set_{α:Type}(l:List α)(i n:Nat)(v:α):(l.set i v).take n=(l.take n).set i v:=by
 rw[List.take_set]
theorem LO.setD{w:World}{base g n c i:Nat}{R:List Dl}(h:LO dlE 92 w base (.slice (some ⟨g,0,none⟩) n c) R)(hn:R.length=n)(hi:i<n)(d:Dl):
  LO dlE 92 (((((w.setCell ⟨g,i*5,none⟩ (.string d.key)).setCell ⟨g,i*5+1,none⟩ (.string d.old)).setCell ⟨g,i*5+2,none⟩ (.string d.new)).setCell ⟨g,i*5+3,none⟩ (.bool d.was)).setCell ⟨g,i*5+4,none⟩ (.bool d.is)) base (.slice (some ⟨g,0,none⟩) n c) (R.set i d):=by
 rcases h.2 with⟨e,_⟩ | ⟨g',cap,cur,e,hb,hh,q1,q2,q3,q4⟩
 ·cases e
 ·cases e
  have hB:Blk w g 92 cur:=hh
  have h5:=((((hB.set_ (i*5) (.string d.key)).set_ (i*5+1) (.string d.old)).set_ (i*5+2) (.string d.new)).set_ (i*5+3) (.bool d.was)).set_ (i*5+4) (.bool d.is)
  refine⟨by rw[dlE.cells_length], .inr ⟨g,c,_,by rw[List.length_set],hb,h5, ?_,q2,by simpa using q3, ?_⟩⟩
  ·rw[List.length_set];exact q1
  ·rw[List.length_set, <-dl_set, <-q4]
   simp only[Array.toList_setIfInBounds,take_set_]
theorem LO.cutD{w:World}{base g n c i:Nat}{R:List Dl}(h:LO dlE 92 w base (.slice (some ⟨g,0,none⟩) n c) R)(hn:R.length=n)(hi:i<=n)(vs:List Value):LO dlE 92 (w.setCells g (i*5) vs) base (.slice (some ⟨g,0,none⟩) i c) (R.take i):=by
 rcases h.2 with⟨e,_⟩ | ⟨g',cap,cur,e,hb,hh,q1,q2,q3,q4⟩
 ·cases e
 ·cases e
  have key:∀ (vs:List Value) (o:Nat) (W:World) (cs:Array Value),Blk W g 92 cs->∃cs',Blk (W.setCells g o vs) g 92 cs'/\cs'.size=cs.size/\cs'.toList.take o=cs.toList.take o:=by
   intro vs
   induction vs with
   |nil=>exact fun o W cs h=>⟨cs,h,rfl,rfl⟩
   |cons v r ih=>
    intro o W cs h
    obtain⟨cs',k1,k2,k3⟩:=ih (o+1) _ _ (h.set_ o v)
    refine⟨cs',k1,by rw[k2];simp, ?_⟩
    have e:(cs'.toList.take (o+1)).take o=((cs.setIfInBounds o v).toList.take (o+1)).take o:=by rw[k3]
    rw[List.take_take,List.take_take,Nat.min_eq_left (Nat.le_succ o)]at e
    rw[e,Array.toList_setIfInBounds,take_set_,List.set_eq_of_length_le (by simp;omega)]
  obtain⟨cs',k1,k2,k3⟩:=key vs (i*5) w cur hh
  have hl:(R.take i).length=i:=by rw[List.length_take,hn];omega
  refine⟨by rw[dlE.cells_length], .inr ⟨g,c,cs',by rw[hl],hb,k1,by rw[hl];omega,q2,by rw[k2];exact q3, ?_⟩⟩
  rw[hl]
  show cs'.toList.take (i*5)=_
  rw[k3, <-dlE.cells_take, <-q4,List.take_take,hn]
  show _=cur.toList.take (min (i*5) (R.length*5))
  rw[Nat.min_eq_left (Nat.mul_le_mul_right 5 hi)]
theorem run_clearD(w:World)(b o n c:Nat)(hn:0<n)(hc:∀j,j<n*5->(w.cell? ⟨b,o+j,none⟩).isSome=true)(hf:∀j,j<n*5->w.frozen? ⟨b,o+j,none⟩=false):
  ∃vs,vs.length=n*5/\∀ty,(Builtin.clear_ #[78] ty #[.slice (some ⟨b,o,none⟩) n c]).run Tryz.prog w= .ok (.tuple #[]) (w.setCells b o vs):=by
 have hzl:(Builtin.zeroCells (Value.agg #[.string ⟨#[]⟩, .string ⟨#[]⟩, .string ⟨#[]⟩, .bool false, .bool false]).cells n).toList.length=n*5:=by simp[Builtin.zeroCells,Value.cells]
 have h1:∀v∈(Builtin.zeroCells (Value.agg #[.string ⟨#[]⟩, .string ⟨#[]⟩, .string ⟨#[]⟩, .bool false, .bool false]).cells n).toList,v.oneCell'=true:=by
  intro v hv
  simp only[Builtin.zeroCells,Value.cells,Array.toList_map,List.mem_map]at hv
  obtain⟨k,_,rfl⟩:=hv
  have hk:k % 5<5:=Nat.mod_lt _ (by decide)
  show(#[Value.string ⟨#[]⟩, .string ⟨#[]⟩, .string ⟨#[]⟩, .bool false, .bool false][k % 5]!).oneCell'=true
  generalize k % 5=r at hk
  match r,hk with
  |0,_=>rfl
  |1,_=>rfl
  |2,_=>rfl
  |3,_=>rfl
  |4,_=>rfl
 have hst:=run_storeCells_cells (P:=Tryz.prog) b o _ 0 w (by simpa[hzl]using hc) (by simpa[hzl]using hf) h1
 simp only[Nat.add_zero]at hst
 refine⟨_,hzl,fun ty=> ?_⟩
 obtain⟨m,rfl⟩:∃m,n=m+1:=⟨n-1,by omega⟩
 simp[Builtin.clear_,run_underlying Tryz.underlying78,hst]
theorem size_dls(W:World):(sizeOf (Tryz.prog.elem 78)).run Tryz.prog W= .ok 5 W:=by kernel_rfl
theorem und_dls:Tryz.prog.underlying 78=some (.slice (Tryz.prog.elem 78)):=by kernel_rfl
theorem cutd_from(g n c i:Nat)(hi:i<n)(hc:n<=c)(W:World):(Instr.slice 78 (.slice (some ⟨g,0,none⟩) n c) (some (.int .i64 i)) none none).run Tryz.prog W= .ok (.slice (some ⟨g,i*5,none⟩) (n-i) (c-i)) W:=by
 rw[run_slice_l W 78 (some ⟨g,0,none⟩) n c und_dls .i64 (i:Int) (by omega) (by omega),size_dls]
 simp only[Result.andThen_ok,sliced,Int.toNat_natCast]
 rw[if_neg (by omega)]
 simp[Addr.add_lit]
theorem cutd_to(A:Option Addr)(n c i:Nat)(hi:i<=c)(W:World):(Instr.slice 78 (.slice A n c) none (some (.int .i64 i)) none).run Tryz.prog W= .ok (.slice A i c) W:=by
 rw[run_slice_h W 78 A n c und_dls .i64 (i:Int) (by omega) (by omega),size_dls]
 simp only[Result.andThen_ok,sliced,Int.toNat_natCast,Nat.zero_mul,Nat.sub_zero]
 have e:(if c=0 then A else A.map (·.add 0))=A:=by
  split
  ·rfl
  ·cases A<;>rfl
 rw[e]
theorem idxF_spec(p:Dl->Bool):∀ (l:List Dl) (i:Nat),(idxF p l i= -1/\∀x∈l,p x=false)\/∃k,∃h:k<l.length,idxF p l i=((i+k:Nat):Int)/\p l[k]=true/\∀x∈l.take k,p x=false
 | [],_=> .inl ⟨rfl,fun _ h=>absurd h List.not_mem_nil⟩
 |x::r,i=>by
  unfold idxF
  cases hp:p x with
  |true=>exact .inr ⟨0,by simp,by simp,by simpa using hp,by simp⟩
  |false=>
   rw[if_neg (by simp)]
   rcases idxF_spec p r (i+1)with⟨e,h⟩ | ⟨k,hk,e,h1,h2⟩
   ·exact .inl ⟨e,fun y hy=>by
     rcases List.mem_cons.1 hy with rfl | hy
     ·exact hp
     ·exact h y hy⟩
   ·refine .inr ⟨k+1,by simpa using hk,by rw[e];congr 1;omega,by simpa using h1,fun y hy=> ?_⟩
    rw[List.take_succ_cons]at hy
    rcases List.mem_cons.1 hy with rfl | hy
    ·exact hp
    ·exact h2 y hy
structure DelS(p:Dl->Bool)(l:List Dl)(base g n c bf bt:Nat)(fr tt:ByteArray)(i j:Nat)(R:List Dl)(w W:World):Prop where
 row:LO dlE 92 W base (.slice (some ⟨g,0,none⟩) n c) R
 len:R.length=n
 ij:i<j/\j<=n
 done:R.take i=(l.take j).filter fun x=> !p x
 rest:R.drop j=l.drop j
 frm:Fr (fun k=>k=g) w W
 f1:W.cell? ⟨bf,0,none⟩=some (.string fr)
 f2:W.cell? ⟨bt,0,none⟩=some (.string tt)
 lt:bf<W.heap.size/\bt<W.heap.size
def DfE(base:Nat)(v:Value)(o:List Dl)(w:World)(e:Ending)(w':World):Prop:=∃A c,e= .returned (.slice A o.length c)/\LO dlE 92 w' base (.slice A o.length c) o/\Fr (fun k=>v.ownBlock=some k) w w'
theorem delf_any{base:Nat}(bf bt:Nat)(fr tt:ByteArray)(A:Option Addr)(c:Nat)(l:List Dl)(w:World)(ho:LO dlE 92 w base (.slice A l.length c) l)(h1:w.cell? ⟨bf,0,none⟩=some (.string fr))(h2:w.cell? ⟨bt,0,none⟩=some (.string tt))(l1:bf<w.heap.size)(l2:bt<w.heap.size)(n1:(Value.slice A l.length c).ownBlock≠some bf)(n2:(Value.slice A l.length c).ownBlock≠some bt)(hl:l.length<=100000):
  Calls Tryz.prog 109 #[.slice A l.length c, .func (.func 110) #[] #[.pointer (some ⟨bf,0,none⟩), .pointer (some ⟨bt,0,none⟩)]] w (DfE base (.slice A l.length c) (l.filter fun x=> !delD fr tt x) w):=by
 have hI:=Lib.hid (idx_any bf bt fr tt A c l w h1 h2 l1 l2 (LO.sv ho).ls hl)
 rcases idxF_spec (delD fr tt) l 0 with⟨e1,hall⟩ | ⟨k0,hk0,e1,hp0,hk⟩
 ·have hfil:(l.filter fun x=> !delD fr tt x)=l:=List.filter_eq_self.2 fun x hx=>by simp[hall x hx]
  rw[e1]at hI
  have HFI:=Lib.hid hfil
  have HO:=Lib.hid ho
  clear hall e1 hfil ho h1 h2 n1 n2
  go_enter Tryz.func109,Tryz.ntmps109
  go_wp2_with fail
  refine hI.out.mono ?_
  rintro e w1 ⟨rfl,b1⟩
  have HE:Hid (DfE base (.slice A l.length c) (l.filter fun x=> !delD fr tt x) w (.returned (.slice A l.length c)) w1):=Lib.hid (by rw[HFI.out];exact⟨A,c,rfl,HO.out.below b1, .of_below b1⟩)
  clear b1
  go_wp2
  go_ret
  exact HE.out
 ·rw[e1,Nat.zero_add]at hI
  obtain⟨g,rfl,hc,hblk⟩:∃g,A=some ⟨g,0,none⟩/\l.length<=c/\base<=g:=by
   rcases ho.2 with⟨e,h0⟩ | ⟨g',cap,cur,e,hb,hh,q1,q2,q3,q4⟩
   ·omega
   ·simp only[Value.slice.injEq,true_and]at e
    obtain⟨rfl,rfl⟩:=e
    exact⟨g',rfl,q1,hb⟩
  have hgf:bf≠g:=fun e=>n1 (by rw[e];rfl)
  have hgt:bt≠g:=fun e=>n2 (by rw[e];rfl)
  obtain⟨n,hn⟩:∃n,n=l.length:=⟨_,rfl⟩
  rw[<-hn]at hI ho hc hk0 hl ⊢
  have HN:=Lib.hid hn
  have hst:∀w1,Below w.heap.size w w1->DelS (delD fr tt) l base g n c bf bt fr tt k0 (k0+1) l w w1:=fun w1 b1=>⟨ho.below b1,hn.symm,⟨by omega,by omega⟩,by
    have hk0':k0<l.length:=by omega
    rw[List.take_succ_eq_append_getElem hk0',List.filter_append,List.filter_eq_self.2 (fun x hx=>by simp[hk x hx])]
    simp[hp0],rfl, .of_below b1,(b1.cell (p:=⟨bf,0,none⟩) l1).trans h1,(b1.cell (p:=⟨bt,0,none⟩) l2).trans h2,Nat.lt_of_lt_of_le l1 b1.size,Nat.lt_of_lt_of_le l2 b1.size⟩
  have HST:=Lib.hid hst
  obtain⟨O,hO⟩:∃o,o=l.filter fun x=> !delD fr tt x:=⟨_,rfl⟩
  rw[<-hO]
  have HO:=Lib.hid hO
  clear hst hO hk hp0 e1 ho h1 h2 n1 n2 hn
  go_enter Tryz.func109,Tryz.ntmps109
  go_wp2_with fail
  refine hI.out.mono ?_
  rintro e w1 ⟨rfl,b1⟩
  have HS:=Lib.hid (HST.out w1 b1)
  have hwk0:IntKind.i64.wrap ((k0:Int)+1)=(k0:Int)+1:=IntWalk.i64_in _ (by omega)
  have hk0n:((k0:Int)== -1)=false:=beq_eq_false_iff_ne.2 (by omega)
  clear b1 HST hI
  go_wp2
  go_loopg [5,6,7] n (fun gg s5 s6 _ wr=>∃ (i j:Nat) (R:List Dl),s5= .int .i64 (i:Nat)/\s6= .int .i64 (j:Nat)/\j<=n/\n-j<=gg/\Hid (DelS (delD fr tt) l base g n c bf bt fr tt i j R w wr))
  case atStart=>exact⟨k0,k0+1,l,rfl,by go_num,by omega,by omega,HS⟩
  case round=>
   clear HS hk0n hwk0
   obtain⟨i,j,R,rfl,rfl,hjn,hgg,HD⟩:=hrel
   have hij:=HD.out.ij
   have hRl:=HD.out.len
   by_cases hj:j<n
   ·have hji:(j:Int)<(n:Nat):=by omega
    have hjR:j<R.length:=by omega
    have hjl:j<l.length:=by rw[<-HN.out];exact hj
    have hRj:R[j]=l[j]:=by
     have h:=HD.out.rest
     rw[List.drop_eq_getElem_cons hjR,List.drop_eq_getElem_cons hjl]at h
     exact(List.cons.inj h).1
    have hwj:IntKind.i64.wrap ((j:Int)+1)=(j:Int)+1:=IntWalk.i64_in _ (by omega)
    have hwi:IntKind.i64.wrap ((i:Int)+1)=(i:Int)+1:=IntWalk.i64_in _ (by omega)
    have hrow:=HD.out.row
    have hls:=(LO.sv hrow).ls
    obtain⟨b1,o1,hx,hq1,g0,g1,g2,g3,g4⟩:=hls.dl hjR
    cases hx
    rw[hRj]at g0 g1 g2 g3 g4
    simp only[Nat.zero_add]at g0 g1 g2 g3 g4
    have hgl:g<wr.heap.size:=hq1
    have hF:=Lib.hid (fun W (hb:Below wr.heap.size wr W)=>btw_fn bf bt fr tt l[j] W ((hb.cell (p:=⟨bf,0,none⟩) HD.out.lt.1).trans HD.out.f1) ((hb.cell (p:=⟨bt,0,none⟩) HD.out.lt.2).trans HD.out.f2) (Nat.lt_of_lt_of_le HD.out.lt.1 hb.size) (Nat.lt_of_lt_of_le HD.out.lt.2 hb.size))
    have HTK:=Lib.hid (List.take_succ_eq_append_getElem hjl)
    have HDJ:Hid (R.drop (j+1)=l.drop (j+1)):=Lib.hid (by
     have h:=HD.out.rest
     rw[List.drop_eq_getElem_cons hjR,List.drop_eq_getElem_cons hjl]at h
     exact(List.cons.inj h).2)
    have hbA:=(Below.refl wr.heap.size wr).alloc (Nat.le_refl _) (.cells #[.string l[j].key, .string l[j].old, .string l[j].new, .bool l[j].was, .bool l[j].is] 92)
    have hxb:=Blk.new wr 92 #[.string l[j].key, .string l[j].old, .string l[j].new, .bool l[j].was, .bool l[j].is]
    have hC:=Lib.hid (hF.out _ hbA)
    have HBA:=Lib.hid hbA
    have HXB:=Lib.hid hxb
    have hxl:=hxb.lt
    have hgi:g≠wr.heap.size:=by omega
    have HGI:=Lib.hid hgi
    clear hls hF hbA hxb hrow hRj hjR hgi
    generalize l[j]=d at*
    obtain⟨dk,dold,dnew,dwas,dis⟩:=d
    simp only at g0 g1 g2 g3 g4
    cases hp:delD fr tt ⟨dk,dold,dnew,dwas,dis⟩with
    |true=>
     rw[hp]at hC
     have HP:=Lib.hid hp
     clear hp
     go_wp2_with fail
     refine hC.out.mono ?_
     rintro e w2 ⟨rfl,b2⟩
     have hb2:=HBA.out.trans (b2.mono HBA.out.size)
     have HD2:Hid (DelS (delD fr tt) l base g n c bf bt fr tt i (j+1) R w w2):=Lib.hid ⟨HD.out.row.below hb2,hRl,⟨by omega,by omega⟩,by
      rw[HTK.out,List.filter_append,HD.out.done]
      simp[HP.out],HDJ.out,HD.out.frm.trans (.of_below hb2),(hb2.cell (p:=⟨bf,0,none⟩) HD.out.lt.1).trans HD.out.f1,(hb2.cell (p:=⟨bt,0,none⟩) HD.out.lt.2).trans HD.out.f2,Nat.lt_of_lt_of_le HD.out.lt.1 hb2.size,Nat.lt_of_lt_of_le HD.out.lt.2 hb2.size⟩
     clear b2 hb2 hC HD g0 g1 g2 g3 g4 hxl
     go_wp2
     go_roundg (n-(j+1))
     case measure=>omega
     case rel=>exact⟨i,j+1,R,rfl,by go_num,by omega,Nat.le_refl _,HD2⟩
    |false=>
     rw[hp]at hC
     have HP:=Lib.hid hp
     clear hp
     go_wp2_with fail
     refine hC.out.mono ?_
     rintro e w2 ⟨rfl,b2⟩
     have hb2:=HBA.out.trans (b2.mono HBA.out.size)
     have hx2:=HXB.out.below b2 hxl
     have hlo2:=HD.out.row.below hb2
     obtain⟨cur,hgB⟩:∃cur,Blk w2 g 92 cur:=by
      rcases hlo2.2 with⟨e,_⟩ | ⟨g',cap,cur,e,_,hh,_⟩
      ·cases e
      ·cases e;exact⟨cur,hh⟩
     have x0:w2.cell? ⟨wr.heap.size,0,none⟩=some (.string dk):=hx2.cell 0
     have x1:w2.cell? ⟨wr.heap.size,1,none⟩=some (.string dold):=hx2.cell 1
     have x2:w2.cell? ⟨wr.heap.size,2,none⟩=some (.string dnew):=hx2.cell 2
     have x3:w2.cell? ⟨wr.heap.size,3,none⟩=some (.bool dwas):=hx2.cell 3
     have x4:w2.cell? ⟨wr.heap.size,4,none⟩=some (.bool dis):=hx2.cell 4
     have xl:=hx2.lt
     have hin:(i:Int)<(n:Nat):=by omega
     have hi:i<n:=by omega
     have hiR:i<R.length:=by omega
     have hls2:=(LO.sv hlo2).ls
     obtain⟨b1,o1,hx,hq1,k0,k1,k2,k3,k4⟩:=hls2.dl hiR
     cases hx
     simp only[Nat.zero_add]at k0 k1 k2 k3 k4
     have f0:=hgB.frozen (i*5)
     have f1:=hgB.frozen (i*5+1)
     have f2:=hgB.frozen (i*5+2)
     have f3:=hgB.frozen (i*5+3)
     have f4:=hgB.frozen (i*5+4)
     have hg2:=hgB.lt
     have hfs:Fr (fun k=>k=g) w2 (((((w2.setCell ⟨g,i*5,none⟩ (.string dk)).setCell ⟨g,i*5+1,none⟩ (.string dold)).setCell ⟨g,i*5+2,none⟩ (.string dnew)).setCell ⟨g,i*5+3,none⟩ (.bool dwas)).setCell ⟨g,i*5+4,none⟩ (.bool dis)):=
      ((((Fr.set_ (S:=fun k=>k=g) rfl _).trans (Fr.set_ (S:=fun k=>k=g) rfl _)).trans (Fr.set_ (S:=fun k=>k=g) rfl _)).trans (Fr.set_ (S:=fun k=>k=g) rfl _)).trans (Fr.set_ (S:=fun k=>k=g) rfl _)
     have HD2:Hid (DelS (delD fr tt) l base g n c bf bt fr tt (i+1) (j+1) (R.set i ⟨dk,dold,dnew,dwas,dis⟩) w (((((w2.setCell ⟨g,i*5,none⟩ (.string dk)).setCell ⟨g,i*5+1,none⟩ (.string dold)).setCell ⟨g,i*5+2,none⟩ (.string dnew)).setCell ⟨g,i*5+3,none⟩ (.bool dwas)).setCell ⟨g,i*5+4,none⟩ (.bool dis))):=Lib.hid (by
      have hfl:=Fr.of_below (S:=fun k=>k=g) hb2
      have hba:=HD.out.lt
      refine⟨hlo2.setD hRl hi ⟨dk,dold,dnew,dwas,dis⟩,by rw[List.length_set];exact hRl,⟨by omega,by omega⟩, ?_, ?_,(HD.out.frm.trans hfl).trans hfs, ?_, ?_, ?_⟩
      ·rw[HTK.out,List.filter_append, <-HD.out.done,List.take_succ_eq_append_getElem (by rw[List.length_set];exact hiR),List.getElem_set_self,List.take_set,List.set_eq_of_length_le (by rw[List.length_take];omega)]
       simp[HP.out]
      ·rw[List.drop_set,if_pos (by omega)]
       exact HDJ.out
      ·exact(hfs.cell (p:=⟨bf,0,none⟩) (Nat.lt_of_lt_of_le hba.1 hb2.size) hgf).trans ((hb2.cell (p:=⟨bf,0,none⟩) hba.1).trans HD.out.f1)
      ·exact(hfs.cell (p:=⟨bt,0,none⟩) (Nat.lt_of_lt_of_le hba.2 hb2.size) hgt).trans ((hb2.cell (p:=⟨bt,0,none⟩) hba.2).trans HD.out.f2)
      ·exact⟨Nat.lt_of_lt_of_le hba.1 (Nat.le_trans hb2.size hfs.size),Nat.lt_of_lt_of_le hba.2 (Nat.le_trans hb2.size hfs.size)⟩)
     clear g0 g1 g2 g3 g4 hls2 hC hxl hfs hb2 b2 hx2 hlo2 hgB HD
     go_wp2
     go_roundg (n-(j+1))
     case measure=>omega
     case rel=>exact⟨i+1,j+1,_,by go_num,by go_num,by omega,Nat.le_refl _,HD2⟩
   ·obtain rfl:j=n:=by omega
    have hji:¬ (j:Int)<(j:Nat):=by omega
    obtain⟨cur,hgB,hcs,hnc⟩:∃cur,Blk wr g 92 cur/\j*5<=cur.size/\j<=c:=by
     rcases HD.out.row.2 with⟨e,_⟩ | ⟨g',cap,cur,e,_,hh,q1,q2,q3,_⟩
     ·cases e
     ·cases e
      rw[hRl]at q1
      exact⟨cur,hh,by rw[q3];exact Nat.mul_le_mul_right 5 q1,q1⟩
    obtain⟨vs,hvs,hcl⟩:=run_clearD wr g (i*5) (j-i) (c-i) (by omega) (fun q hq=>by rw[hgB.cell];rw[Array.getElem?_eq_getElem (by omega)];rfl) (fun q _=>hgB.frozen _)
    have hcf:=fun W=>cutd_from g j c i hij.1 hnc W
    have hct:=fun W=>cutd_to (some ⟨g,0,none⟩) j c i (by omega) W
    have hOl:O.length=i:=by
     have h:=HD.out.done
     rw[HN.out,List.take_of_length_le (Nat.le_refl _), <-HO.out]at h
     rw[<-h,List.length_take,hRl]
     omega
    have hfs:∀ (vs:List Value) (o:Nat) (W:World),Fr (fun k=>k=g) W (W.setCells g o vs):=by
     intro vs
     induction vs with
     |nil=>exact fun o W=>Fr.refl W
     |cons v r ih=>exact fun o W=>(Fr.set_ (S:=fun k=>k=g) rfl v).trans (ih (o+1) _)
    have HE:Hid (DfE base (.slice (some ⟨g,0,none⟩) j c) O w (.returned (.slice (some ⟨g,0,none⟩) i c)) (wr.setCells g (i*5) vs)):=Lib.hid (by
     have h:=HD.out.done
     rw[HN.out,List.take_of_length_le (Nat.le_refl _), <-HO.out]at h
     have hlo:=HD.out.row.cutD hRl (Nat.le_of_lt hij.1) vs
     rw[h]at hlo
     rw[<-hOl]at hlo ⊢
     exact⟨_,_,rfl,hlo,(HD.out.frm.trans (hfs vs _ _)).more fun k e=>by rw[e];rfl⟩)
    clear hgB hcs hfs hvs HD hOl
    go_wp2
    go_ret
    exact HE.out
end Go.Proofs.YtjoiajmbfbjnnaaGreatDoor
namespace Go.Proofs.YtjoiajmbfbjnnaaGreatDoor
open Go.RowKit Go.Shelf Go.Maps
def betD(fr tt:ByteArray)(l:List Dl):List Dl:=l.filter fun x=> !delD fr tt x
section
variable {S:Nat->Prop}{B t:Nat}{room:Int}{disk:Tp.Disk}{TM:Nat->Tp.Pst->World->Prop}
def BtEnd(S:Nat->Prop)(TM:Nat->Tp.Pst->World->Prop)(r:Nat)(σ:Tp.Pst)(O:List Dl)(w:World)(e:Ending)(w':World):Prop:=
 (∃A c,e= .returned (.tuple #[.slice A O.length c, .int .i64 0])/\LO dlE 92 w' w.heap.size (.slice A O.length c) O)/\TM r σ w'/\Fr S w w'
theorem between_any(M:Mach S B t room disk TM)(fr tt:ByteArray)(ra rb:Int)(r m:Nat)(σ:Tp.Pst)(W:List Dl)(hR:Td.Run (σ.view disk) W (Td.rootIt ra) (Td.rootIt rb) [] m)(hm:m<=100000)(hW:W.length<=100000)(w:World)(h:TM (r+4*(m+1)) σ w):
  Calls Tryz.prog 50 #[.pointer (some ⟨t,0,none⟩), .int .i64 ra, .int .i64 rb, .string fr, .string tt] w (BtEnd S TM r σ (betD fr tt W) w):=by
 have hb2:=((Below.refl w.heap.size w).alloc (Nat.le_refl _) (.cells #[.string fr] 9)).alloc (by simp) (.cells #[.string tt] 9)
 have hB1:=(Blk.new w 9 #[.string fr]).alloc (.cells #[.string tt] 9)
 have hB2:=Blk.new (w.alloc (.cells #[.string fr] 9)) 9 #[.string tt]
 rw[World.size_alloc]at hB2
 have hsz:=M.size h
 have HD:=Lib.hid (diff_any M (bad:=fun _=>False) (fun _ h=>h.elim) (σ.view disk) ra rb r m σ (fun i=> .inl rfl) W hR hm hW _ (M.below h hb2))
 have HS:Hid (∀k,S k->k<w.heap.size):=Lib.hid fun k hk=>Nat.lt_of_lt_of_le (M.low k hk) hsz
 have HM:=Lib.hid M
 have HB1:=Lib.hid hB1
 have HB2:=Lib.hid hB2
 have HB:=Lib.hid hb2
 obtain⟨O,hO⟩:∃o,o=betD fr tt W:=⟨_,rfl⟩
 rw[<-hO]
 have HO:=Lib.hid hO
 clear hb2 hB1 hB2 h hR M hO
 go_enter Tryz.func50,Tryz.ntmps50
 go_wp2_with fail
 refine HD.out.mono ?_
 rintro e w3 ⟨hz,ht3,hf3⟩
 rcases hz with⟨A,c,rfl,hlo⟩ | ⟨_,_,hz⟩
 ·have hn:∀ {k},w.heap.size<=k->¬S k:=fun {k} hk q=>by have:=HS.out k q;omega
  have b1:=hf3.blk HB1.out (hn (Nat.le_refl _))
  have b2:=hf3.blk HB2.out (hn (Nat.le_succ _))
  have hob:∀k,(Value.slice A W.length c).ownBlock=some k->w.heap.size+2<=k/\∃cs,Blk w3 k 92 cs:=fun k hk=>by
   obtain⟨cs,hcs⟩:=own_obj hlo hk
   have:=(World.ownsRow.lt hlo k hk).1
   simp at this
   exact⟨this,cs,hcs⟩
  have HDF:=Lib.hid (delf_any w.heap.size (w.heap.size+1) fr tt A c W w3 hlo (b1.cell 0) (b2.cell 0) b1.lt b2.lt (fun e=>by have:=(hob _ e).1;omega) (fun e=>by have:=(hob _ e).1;omega) hW)
  have HT3:=Lib.hid ht3
  have HF3:=Lib.hid ((Fr.of_below HB.out).trans hf3)
  have HOB:=Lib.hid hob
  clear hlo ht3 hf3 hn b1 b2 hob HD
  go_wp2_with fail
  refine HDF.out.mono ?_
  rintro e w4 ⟨A4,c4,rfl,hlo4,hf4⟩
  rw[show(W.filter fun x=> !delD fr tt x)=O from HO.out.symm]at hlo4 ⊢
  have ht4:=HM.out.up HT3.out hf4 (fun k hk=>⟨by have:=(HOB.out k hk).1;omega,fun o ho=>by
   obtain⟨cs,hcs⟩:=(HOB.out k hk).2
   have e:=ho.symm.trans hcs
   injection e with e
   subst e
   exact⟨fun cs' e=>(by injection e with _ e;cases e),fun cs' e=>(by injection e with _ e;cases e),fun cs' e=>(by injection e with _ e;cases e),fun cs' e=>(by injection e with _ e;cases e),fun _ _ e=>(by cases e)⟩⟩)
  have HE:Hid (BtEnd S TM r σ O w (.returned (.tuple #[.slice A4 O.length c4, .int .i64 0])) w4):=Lib.hid ⟨⟨A4,c4,rfl,hlo4.lower (by simp;omega)⟩,ht4,Fr.old (S':=fun k=>S k\/(Value.slice A W.length c).ownBlock=some k) ((HF3.out.more fun _=> .inl).trans (hf4.more fun _=> .inr)) (fun k hk=>hk.imp_right fun q=>by have:=(HOB.out k q).1;omega)⟩
  clear hlo4 hf4 ht4
  go_wp2
  go_ret2
  exact HE.out
 ·exact hz.elim
end
section
variable {w0 W W':World}{f0 d0 n N r t:Nat}{disk:Tp.Disk}{P P' root:Int}{es:List Ent}{tok:Nat}
theorem grn_between(fr tt:ByteArray)(h:Grn w0 f0 d0 n N (r+12000) t disk P P' root es tok W){ra rb:Int}{A Bl:List Ent}{ta tb:Nat}(htk:ta<=480/\tb<=480)(hva:(∃ids,Tp.VerAt disk ra A ta ids)\/(ra=root/\A=es/\ta=tok))(hvb:(∃ids,Tp.VerAt disk rb Bl tb ids)\/(rb=root/\Bl=es/\tb=tok)):
  Calls Tryz.prog 50 #[.pointer (some ⟨t,0,none⟩), .int .i64 ra, .int .i64 rb, .string fr, .string tt] W fun e w'=>∃A' c,e= .returned (.tuple #[.slice A' (betD fr tt (En.mergeD A Bl)).length c, .int .i64 0])/\LO dlE 92 w' W.heap.size (.slice A' (betD fr tt (En.mergeD A Bl)).length c) (betD fr tt (En.mergeD A Bl))/\Grn w0 f0 d0 n N r t disk P P' root es tok w'/\KeepL W w'/\∀ (E:Enc Dl) (ty:TypeId) (base:Nat) (v:Value) (l:List Dl),LO E ty W base v l->(ty=92\/ty=182)->LO E ty w' base v l:=by
 obtain⟨⟨F,a,σ,ids,e1,e2,e3,e4,e5,rfl,hst,e6,hF⟩,hl,hb⟩:=h
 have hv:∀ {ra:Int} {A:List Ent} {ta:Nat},((∃ids,Tp.VerAt disk ra A ta ids)\/(ra=root/\A=es/\ta=tok))->∃ids,Tp.VerAt (σ.view disk) ra A ta ids/\∀x∈ids,0<x:=fun h=>by
  rcases h with⟨ids,h⟩ | ⟨rfl,rfl,rfl⟩
  ·exact⟨ids,hst.oldv h⟩
  ·exact⟨ids,hst.newv⟩
 obtain⟨ia,va,pa⟩:=hv hva
 obtain⟨ib,vb,pb⟩:=hv hvb
 obtain⟨a1,a2,a3⟩:=ver_few va
 obtain⟨b1,b2,b3⟩:=ver_few vb
 have hR:=Td.Run.start va vb pa pb (by omega) (by omega) a3 b3
 have hml:=En.merge_len (A.length+Bl.length) A Bl (Nat.le_refl _)
 have hM:=hst.mach
 refine(between_any hM fr tt ra rb r _ σ _ hR (by omega) (by omega) W (hM.less hst.on.tm (by omega))).mono ?_
 rintro e w' ⟨⟨A',c,rfl,hlo⟩,ht,hf⟩
 have hfu:Fr (FU F a) W w':=hf.more fun _=> .inl
 have hst':=hst.with_ (hst.on.step hM ht hf)
 refine⟨A',c,rfl,hlo,⟨⟨F,a,σ,ids,e1,e2,e3,e4,e5,rfl,hst',e6,hF⟩,hl,hb.trans (hfu.low hb.size hF)⟩,hst.keepL hfu,fun E ty base v l h hty=> ?_⟩
 exact lo_frb h hf fun g hg hS=>by
  obtain⟨cs,hB,_⟩:=h.blk_ hg
  obtain⟨R,_,_,hA⟩:=hst.on.tm.file
  obtain⟨D,⟨_,⟨v,hT,_⟩,es',c',hm,_⟩,_⟩:=hst.on.tm.mem.txn
  rcases hS with e | e | e
  ·exact hB.ne_ hT (by rcases hty with rfl | rfl<;>decide) e
  ·subst e
   unfold Blk at hB
   rw[hm]at hB;cases hB
  ·exact hB.ne_ hA.disk.self (by rcases hty with rfl | rfl<;>decide) e
end
end Go.Proofs.YtjoiajmbfbjnnaaGreatDoor
namespace Go.Proofs.YtjoiajmbfbjnnaaGreatDoor
open Go.RowKit Go.Shelf
theorem betD_succ(fr tt:ByteArray)(l:List Dl)(j:Nat)(hj:j<l.length):betD fr tt (l.take (j+1))=betD fr tt (l.take j)++(if delD fr tt l[j]then []else [l[j]]):=by
 unfold betD
 rw[List.take_succ_eq_append_getElem hj,List.filter_append]
 cases h:delD fr tt l[j]<;>simp[h]
theorem rbetw_any(fr tt:ByteArray)(A:Option Addr)(c:Nat)(l:List Dl)(w:World)(hr:LS rdlE w w.heap.size A l)(hl:l.length<=100000):
  Calls Tryz.prog 51 #[.slice A l.length c, .string fr, .string tt] w (LEnd rdlE 182 (betD fr tt l) w):=by
 obtain⟨W0,hW0⟩:∃x,x=betD fr tt l:=⟨_,rfl⟩
 rw[<-hW0]
 have HW:=Lib.hid hW0
 have HR:=Lib.hid hr
 clear hW0 hr
 go_enter Tryz.func51,Tryz.ntmps51
 go_wp2
 go_loopg [7,8] l.length (fun gg s7 s8 wr=>∃ (j:Nat) (o:List Dl) (Ao:Option Addr) (co:Nat),s7= .slice Ao o.length co/\s8= .int .i64 (j:Nat)/\j<=l.length/\l.length-j<=gg/\o.length<=j/\Hid (o=betD fr tt (l.take j))/\Hid (LO rdlE 182 wr w.heap.size (.slice Ao o.length co) o)/\Hid (Below w.heap.size w wr))
 case atStart=>exact⟨0, [],none,0,rfl,rfl,Nat.zero_le _,by omega,Nat.le_refl _,Lib.hid rfl,Lib.hid (LO.nil_ _ _),Lib.hid (Below.refl _ _)⟩
 case round=>
  obtain⟨j,o,Ao,co,rfl,rfl,hjl,hjg,hol,HO,HL,HB⟩:=hrel
  have hwj:IntKind.i64.wrap ((j:Int)+1)=(j:Int)+1:=IntWalk.i64_in _ (by omega)
  by_cases hj:j<l.length
  ·have hji:(j:Int)<(l.length:Nat):=by omega
   obtain⟨b1,o1,rfl,hq1,g0,g1,g2,g3,g4⟩:=(HR.out.rdl.below HB.out).dl hj
   have hq2:b1<wr.heap.size:=Nat.lt_of_lt_of_le hq1 HB.out.size
   have hst:=betD_succ fr tt l j hj
   rw[<-HO.out]at hst
   generalize l[j]=d at*
   obtain⟨dk,dold,dnew,dwas,dis⟩:=d
   simp only at g0 g1 g2 g3 g4
   cases hd:delD fr tt ⟨dk,dold,dnew,dwas,dis⟩with
   |true=>
    rw[hd,if_pos rfl,List.append_nil]at hst
    have HST:Hid (o=betD fr tt (l.take (j+1))):=Lib.hid hst.symm
    unfold delD at hd
    cases ha:En.lt dk fr with
    |true=>
     have hA:Op.bytesLess dk.toList fr.toList=true:=ha
     clear hd ha hst
     go_wp2
     go_roundg (l.length-(j+1))
     case measure=>omega
     case rel=>exact⟨j+1,o,Ao,co,rfl,by go_num,by omega,Nat.le_refl _,by omega,HST,HL,HB⟩
    |false=>
     have hA:Op.bytesLess dk.toList fr.toList=false:=ha
     simp only[ha,Bool.false_or,Bool.and_eq_true,Bool.not_eq_true']at hd
     have hte:¬tt.toList= []:=by have:=hd.1;simpa using this
     have hte2:tt.toList.isEmpty=false:=hd.1
     have hB:Op.bytesLess dk.toList tt.toList=false:=hd.2
     clear hd ha hst
     go_wp2
     go_roundg (l.length-(j+1))
     case measure=>omega
     case rel=>exact⟨j+1,o,Ao,co,rfl,by go_num,by omega,Nat.le_refl _,by omega,HST,HL,HB⟩
   |false=>
    rw[hd,if_neg (by simp)]at hst
    have HST:=Lib.hid hst
    unfold delD at hd
    simp only[Bool.or_eq_false_iff,Bool.and_eq_false_iff,Bool.not_eq_false']at hd
    have hA:Op.bytesLess dk.toList fr.toList=false:=hd.1
    have hraw:=HL.out.raw rfl (s:=5) rfl
    by_cases hte:tt.toList= []
    ·clear hd hst
     go_wp2_with (at_builtin;refine wpList_app1 rfl (.tmp 35) (.tmp 40) 82 rfl eiRDl Tryz.underlying82 rfl (by decide) rfl hraw rfl (by simp) rfl (by simp[Value.oneCell']) (by unfold maxLen;omega) (by omega) HB.out.size ?_;intro v' w2 hown' hgrow hbel _ _)
     obtain⟨A6,c6,rfl⟩:=own_form hown'
     have HL2:Hid (LO rdlE 182 w2 w.heap.size (.slice A6 (o.length+1) c6) (o++ [⟨dk,dold,dnew,dwas,dis⟩])):=Lib.hid (LO.snoc (E:=rdlE) rfl rfl rfl hown')
     have HB2:=Lib.hid (HB.out.trans hbel)
     clear hown' hgrow hbel
     go_roundg (l.length-(j+1))
     case measure=>omega
     case rel=>exact⟨j+1,o++ [⟨dk,dold,dnew,dwas,dis⟩],A6,c6,by rw[List.length_append];rfl,by go_num,by omega,Nat.le_refl _,by simp;omega,Lib.hid HST.out.symm,by rw[List.length_append];exact HL2,HB2⟩
    ·have hB:Op.bytesLess dk.toList tt.toList=true:=by
      rcases hd.2 with h | h
      ·exact absurd (by simpa using h) hte
      ·exact h
     have hte2:tt.toList.isEmpty=false:=by simpa using hte
     clear hd hst
     go_wp2_with (at_builtin;refine wpList_app1 rfl (.tmp 35) (.tmp 40) 82 rfl eiRDl Tryz.underlying82 rfl (by decide) rfl hraw rfl (by simp) rfl (by simp[Value.oneCell']) (by unfold maxLen;omega) (by omega) HB.out.size ?_;intro v' w2 hown' hgrow hbel _ _)
     obtain⟨A6,c6,rfl⟩:=own_form hown'
     have HL2:Hid (LO rdlE 182 w2 w.heap.size (.slice A6 (o.length+1) c6) (o++ [⟨dk,dold,dnew,dwas,dis⟩])):=Lib.hid (LO.snoc (E:=rdlE) rfl rfl rfl hown')
     have HB2:=Lib.hid (HB.out.trans hbel)
     clear hown' hgrow hbel
     go_roundg (l.length-(j+1))
     case measure=>omega
     case rel=>exact⟨j+1,o++ [⟨dk,dold,dnew,dwas,dis⟩],A6,c6,by rw[List.length_append];rfl,by go_num,by omega,Nat.le_refl _,by simp;omega,Lib.hid HST.out.symm,by rw[List.length_append];exact HL2,HB2⟩
  ·obtain rfl:j=l.length:=by omega
   have hji:¬ (l.length:Int)<(l.length:Nat):=by omega
   have e:o=W0:=by rw[HO.out,HW.out,List.take_of_length_le (Nat.le_refl _)]
   subst e
   have HE:Hid (LEnd rdlE 182 o w (.returned (.slice Ao o.length co)) wr):=Lib.hid ⟨_,rfl,HL.out,HB.out⟩
   clear HO HL HB
   go_wp2
   go_ret
   exact HE.out
end Go.Proofs.YtjoiajmbfbjnnaaGreatDoor
namespace Go.Proofs.YtjoiajmbfbjnnaaGreatDoor
open Go.RowKit Go.Shelf Go.Maps
theorem dtrees_any(A1:Option Addr)(c1:Nat)(l1:List Ent)(A2:Option Addr)(c2:Nat)(l2:List Ent)(A3:Option Addr)(c3:Nat)(l3:List Ent)(ap:Bool)(fr tt:ByteArray)(w:World)(h1:LS entE w w.heap.size A1 l1)(h2:LS entE w w.heap.size A2 l2)(h3:LS entE w w.heap.size A3 l3)(hT:HT w):
  Calls Tryz.prog 9 #[.slice A1 l1.length c1, .slice A2 l2.length c2, .slice A3 l3.length c3, .bool ap, .string fr, .string tt] w (TrueEnd14 w):=by
 have HW:=Lib.hid (works14_any w)
 have H1:=Lib.hid h1
 have H2:=Lib.hid h2
 have H3:=Lib.hid h3
 have HHT:=Lib.hid hT
 have HO1:=Lib.hid (fun W h=>over14_any A1 l1.length c1 l1 rfl W h)
 have HO2:=Lib.hid (fun W h=>over14_any A2 l2.length c2 l2 rfl W h)
 have HO3:=Lib.hid (fun W h=>over14_any A3 l3.length c3 l3 rfl W h)
 have HD:=Lib.hid (fun W=>dfresh_any 2000 W)
 rw[show diskN 2000=2000 by decide]at HD
 clear h1 h2 h3 hT
 go_enter Tryz.func9,Tryz.ntmps9
 go_wp2_with fail
 refine Calls.mono HW.out ?_
 rintro e w1 ⟨rfl,b1⟩
 have HB:=Lib.hid b1
 clear b1 HW
 go_wp2_with fail
 refine Calls.mono (HO1.out w1 ((H1.out.below HB.out).more HB.out.size)) ?_
 rintro e w1 ⟨o1,rfl,ho1,rfl⟩
 go_wp2_with fail
 refine Calls.mono (HO2.out w1 ((H2.out.below HB.out).more HB.out.size)) ?_
 rintro e w1 ⟨o2,rfl,ho2,rfl⟩
 go_wp2_with fail
 refine Calls.mono (HO3.out w1 ((H3.out.below HB.out).more HB.out.size)) ?_
 rintro e w1 ⟨o3,rfl,ho3,rfl⟩
 clear HO1 HO2 HO3
 cases o1 with
 |true=>
  go_wp2
  go_ret
  exact⟨rfl,HB.out⟩
 |false=>
 cases o2 with
 |true=>
  go_wp2
  go_ret
  exact⟨rfl,HB.out⟩
 |false=>
 cases o3 with
 |true=>
  go_wp2
  go_ret
  exact⟨rfl,HB.out⟩
 |false=>
 have hl1:=ho1 rfl
 have hl2:=ho2 rfl
 have hl3:=ho3 rfl
 clear ho1 ho2 ho3
 by_cases hf:60<(fr.size:Int)
 ·have hfd:decide (60<(fr.size:Int))=true:=by simpa using hf
  go_wp2
  go_ret
  exact⟨rfl,HB.out⟩
 have hfd:decide (60<(fr.size:Int))=false:=by simpa using hf
 clear hf
 by_cases ht:60<(tt.size:Int)
 ·have htd:decide (60<(tt.size:Int))=true:=by simpa using ht
  go_wp2
  go_ret
  exact⟨rfl,HB.out⟩
 have htd:decide (60<(tt.size:Int))=false:=by simpa using ht
 clear ht
 go_wp2_with fail
 refine(HD.out _).mono ?_
 rintro e w2 ⟨d,rfl,hd,b2⟩
 have HFF:=Lib.hid (ffresh_any hd b2.size)
 have HB2:=Lib.hid (HB.out.trans (b2.mono HB.out.size))
 have HZ2:=Lib.hid b2.size
 clear hd b2 HD
 go_wp2_with fail
 refine HFF.out.mono ?_
 rintro e w3 ⟨f,rfl,hf,b3⟩
 have hB3:=HB2.out.trans (b3.mono HB2.out.size)
 have HS:Hid (Stg w f d 2000 0 (288*150+(288*150+(288*150+36000))) noDisk 2 w3):=Lib.hid (stg_start (by decide) (by decide) hf (HHT.out.below hB3 HHT.out.1) HB.out.size HHT.out.1 (Nat.le_trans HZ2.out b3.size) hB3 (by decide))
 have HN:=Lib.hid (stg_new HS.out (by decide))
 have HLN:Hid (∀W,LO entE 34 W w.heap.size (.slice none ([]:List Ent).length 0) []):=Lib.hid fun W=>LO.nil_ _ _
 clear hf b3 hB3 HFF HB2 HZ2 HB HS
 go_wp2_with fail
 refine HN.out.mono ?_
 rintro e w4 ⟨t1,rfl,hbeg,bn⟩
 have HG:=Lib.hid (beg_grown 150 198 0 w.heap.size hbeg (by decide) (Tp.VerAt.none_ noDisk 0) (Nat.le_refl _) none 0 A1 c1 l1 (HLN.out w4) hbeg.below.size H1.out hl1 (Nat.zero_le _) (by decide) (by decide) (by omega))
 clear hbeg bn HN
 go_wp2_with fail
 refine HG.out.mono ?_
 rintro e w5 ⟨r1,P1,k1,Am1,cm1,rfl,hgr,htk1,hP1,hlo,hkp⟩
 obtain⟨m1,hm1⟩:∃z,z=grE [] l1:=⟨_,rfl⟩
 rw[<-hm1]at hgr hlo ⊢
 obtain⟨hri1,hml1⟩:=hgr.right
 have HRI1:=Lib.hid hri1
 have HL1:=Lib.hid hlo
 have HGR:=Lib.hid hgr
 clear hgr hlo hkp HG hm1 hri1
 have HFL:=Lib.hid (grn_flush HGR.out (by decide) (by omega) (by omega))
 clear HGR
 go_wp2_with fail
 refine HFL.out.mono ?_
 rintro e w6 ⟨rfl,dk1,hfl⟩
 replace HL1:=Lib.hid (hfl.keep _ _ _ _ _ _ HL1.out (.inl rfl))
 have HPG:=Lib.hid hfl.pages
 have HST:=Lib.hid hfl.stg
 have HV1:=Lib.hid hfl.ver
 clear hfl HFL
 go_wp2_with fail
 refine HPG.out.mono ?_
 rintro e w6 ⟨rfl,rfl⟩
 clear HPG
 have HN:=Lib.hid (stg_new HST.out (by decide))
 clear HST
 obtain⟨i1,hv1⟩:=HV1.out
 go_wp2_with fail
 refine HN.out.mono ?_
 rintro e w7 ⟨t2,rfl,hbeg,bn⟩
 replace HL1:=Lib.hid (LO.below HL1.out bn)
 have HG:=Lib.hid (beg_grown 150 378 150 w.heap.size hbeg (by decide) hv1 (by omega) Am1 cm1 A2 c2 l2 HL1.out hbeg.below.size H2.out hl2 (by omega) (by decide) (by decide) (by omega))
 clear hbeg bn HN
 go_wp2_with fail
 refine HG.out.mono ?_
 rintro e w8 ⟨r2,P2,k2,Am2,cm2,rfl,hgr,htk2,hP2,hlo,hkp⟩
 obtain⟨m2,hm2⟩:∃z,z=grE m1 l2:=⟨_,rfl⟩
 rw[<-hm2]at hgr hlo ⊢
 obtain⟨hri2,hml2⟩:=hgr.right
 have HRI2:=Lib.hid hri2
 replace HL1:=Lib.hid (hkp _ _ _ _ _ _ HL1.out (.inl rfl))
 have HL2:=Lib.hid hlo
 have HGR:=Lib.hid hgr
 clear hgr hlo hkp HG hm2 hri2
 clear hv1
 have HFL:=Lib.hid (grn_flush HGR.out (by decide) (by omega) (by omega))
 clear HGR
 go_wp2_with fail
 refine HFL.out.mono ?_
 rintro e w9 ⟨rfl,dk2,hfl⟩
 replace HL1:=Lib.hid (hfl.keep _ _ _ _ _ _ HL1.out (.inl rfl))
 replace HL2:=Lib.hid (hfl.keep _ _ _ _ _ _ HL2.out (.inl rfl))
 have HPG:=Lib.hid hfl.pages
 have HST:=Lib.hid hfl.stg
 have HV2:=Lib.hid hfl.ver
 replace HV1:Hid (∃ids,Tp.VerAt dk2 r1 m1 k1 ids):=Lib.hid (by obtain⟨ids,hv⟩:=HV1.out;exact⟨ids,hfl.old _ _ _ _ hv⟩)
 clear hfl HFL
 go_wp2_with fail
 refine HPG.out.mono ?_
 rintro e w9 ⟨rfl,rfl⟩
 clear HPG
 have HN:=Lib.hid (stg_new HST.out (by decide))
 clear HST
 cases ap with
 |true=>
  obtain⟨i2,hv2⟩:=HV2.out
  go_wp2_with fail
  refine HN.out.mono ?_
  rintro e w10 ⟨t3,rfl,hbeg,bn⟩
  replace HL1:=Lib.hid (LO.below HL1.out bn)
  replace HL2:=Lib.hid (LO.below HL2.out bn)
  have HG:=Lib.hid (beg_grown 150 558 300 w.heap.size hbeg (by decide) hv2 (by omega) Am2 cm2 A3 c3 l3 HL2.out hbeg.below.size H3.out hl3 (by omega) (by decide) (by decide) (by omega))
  clear hbeg bn HN
  go_wp2_with fail
  refine HG.out.mono ?_
  rintro e w11 ⟨r3,P3,k3,Am3,cm3,rfl,hgr,htk3,hP3,hlo,hkp⟩
  obtain⟨m3,hm3⟩:∃z,z=grE m2 l3:=⟨_,rfl⟩
  rw[<-hm3]at hgr hlo ⊢
  obtain⟨hri3,hml3⟩:=hgr.right
  have HRI3:=Lib.hid hri3
  replace HL1:=Lib.hid (hkp _ _ _ _ _ _ HL1.out (.inl rfl))
  replace HL2:=Lib.hid (hkp _ _ _ _ _ _ HL2.out (.inl rfl))
  have HL3:=Lib.hid hlo
  have HGR:=Lib.hid hgr
  clear hgr hlo hkp HG hm3 hri3
  clear hv2
  have HWL:=Lib.hid (rlists_any Am2 Am3 cm2 cm3 m2 m3 w11 (LO.sv HL2.out).ls (LO.sv HL3.out).ls (by omega) (by omega))
  rw[show rtold m2 m3=En.mergeD m2 m3 by unfold rtold;rw[HRI2.out,HRI3.out];exact En.ref_merge ((En.right_iff _).1 HRI2.out).2 ((En.right_iff _).1 HRI3.out).2]at HWL
  obtain⟨wt,hwt⟩:∃z,z=En.mergeD m2 m3:=⟨_,rfl⟩
  rw[<-hwt]at HWL
  have HXW:=Lib.hid hwt
  have hnw:wt.length<=1000:=by rw[hwt];have:=En.merge_len _ m2 m3 (Nat.le_refl _);omega
  clear hwt
  go_wp2_with fail
  refine Calls.mono HWL.out ?_
  intro e w12 hel
  obtain⟨Aw,cw,rfl,hlw,_,bw⟩:=hel.open_
  replace HGR:=Lib.hid (HGR.out.below_ bw)
  replace HL1:=Lib.hid (LO.below HL1.out bw)
  replace HL2:=Lib.hid (LO.below HL2.out bw)
  replace HL3:=Lib.hid (LO.below HL3.out bw)
  have HWw:Hid (LO rdlE 182 w12 _ (.slice Aw wt.length cw) wt):=Lib.hid hlw
  clear hel hlw bw HWL
  have HDF:=Lib.hid (grn_diff (ra:=r2) (rb:=r3) (A:=m2) (Bl:=m3) (ta:=k2) (tb:=k3) HGR.out ⟨by omega,by omega⟩ (.inl HV2.out) (.inr ⟨rfl,rfl,rfl⟩))
  clear HGR
  go_wp2_with fail
  refine HDF.out.mono ?_
  rintro e w13 ⟨B1,q1,rfl,hlo,hgr,hkp,hkd⟩
  have HGR:=Lib.hid hgr
  replace HL1:=Lib.hid (hkp _ _ _ _ _ _ HL1.out (.inl rfl))
  replace HL2:=Lib.hid (hkp _ _ _ _ _ _ HL2.out (.inl rfl))
  replace HL3:=Lib.hid (hkp _ _ _ _ _ _ HL3.out (.inl rfl))
  replace HWw:=Lib.hid (hkd _ _ _ _ _ HWw.out (.inr rfl))
  obtain⟨d1,hd1⟩:∃z,z=En.mergeD m2 m3:=⟨_,rfl⟩
  rw[<-hd1]at hlo ⊢
  have HXd1:=Lib.hid hd1
  have hnd1:d1.length<=1000:=by rw[hd1];have:=En.merge_len _ m2 m3 (Nat.le_refl _);omega
  have HDd1:=Lib.hid hlo
  clear hlo hgr hkp hkd hd1 HDF
  have hdw:d1=wt:=by rw[HXd1.out,HXW.out]
  subst hdw
  have HBT:=Lib.hid (grn_between fr tt (ra:=r2) (rb:=r3) (A:=m2) (Bl:=m3) (ta:=k2) (tb:=k3) HGR.out ⟨by omega,by omega⟩ (.inl HV2.out) (.inr ⟨rfl,rfl,rfl⟩))
  rw[<-HXW.out]at HBT
  clear HGR
  go_wp2_with fail
  refine HBT.out.mono ?_
  rintro e w14 ⟨Bt,qt,rfl,hlo,hgr,hkp,hkd⟩
  have HBW:=Lib.hid hgr.below
  replace HWw:=Lib.hid (hkd _ _ _ _ _ HWw.out (.inr rfl))
  replace HDd1:=Lib.hid (hkd _ _ _ _ _ HDd1.out (.inl rfl))
  obtain⟨gt,hgt⟩:∃z,z=betD fr tt d1:=⟨_,rfl⟩
  rw[<-hgt]at hlo ⊢
  have HXG:=Lib.hid hgt
  have hng:gt.length<=1000:=by rw[hgt];exact Nat.le_trans (List.length_filter_le _ _) hnw
  have HDg:=Lib.hid hlo
  clear hlo hgr hkp hkd HBT hgt
  have HSM:=Lib.hid (same14_yes B1 Aw d1 d1.length q1 cw rfl w14 (LO.sv HDd1.out).ls (LO.sv HWw.out).ls (by omega))
  go_wp2_with fail
  refine Calls.mono HSM.out ?_
  rintro e wa ⟨rfl,ba⟩
  replace HBW:=Lib.hid (HBW.out.trans (ba.mono HBW.out.size))
  replace HDd1:=Lib.hid (LO.below HDd1.out ba)
  replace HWw:=Lib.hid (LO.below HWw.out ba)
  replace HDg:=Lib.hid (LO.below HDg.out ba)
  clear ba HSM
  have HRB:=Lib.hid (rbetw_any fr tt Aw cw d1 wa (LO.sv HWw.out).ls (by omega))
  rw[<-HXG.out]at HRB
  go_wp2_with fail
  refine Calls.mono HRB.out ?_
  intro e wb hel
  obtain⟨Ar,cr,rfl,hlr,hsr,br⟩:=hel.open_
  replace HBW:=Lib.hid (HBW.out.trans (br.mono HBW.out.size))
  replace HDd1:=Lib.hid (LO.below HDd1.out br)
  replace HWw:=Lib.hid (LO.below HWw.out br)
  replace HDg:=Lib.hid (LO.below HDg.out br)
  have HSR:=Lib.hid hsr
  clear hel hlr hsr br HRB
  have HSM:=Lib.hid (same14_yes Bt Ar gt gt.length qt cr rfl wb (LO.sv HDg.out).ls HSR.out (by omega))
  go_wp2_with fail
  refine Calls.mono HSM.out ?_
  rintro e wc ⟨rfl,bc⟩
  replace HBW:=Lib.hid (HBW.out.trans (bc.mono HBW.out.size))
  clear bc HSM HSR HDd1 HWw HDg
  go_wp2
  go_ret
  exact⟨rfl,HBW.out⟩
 |false=>
  obtain⟨i1,hv1⟩:=HV1.out
  go_wp2_with fail
  refine HN.out.mono ?_
  rintro e w10 ⟨t3,rfl,hbeg,bn⟩
  replace HL1:=Lib.hid (LO.below HL1.out bn)
  replace HL2:=Lib.hid (LO.below HL2.out bn)
  have HG:=Lib.hid (beg_grown 150 558 300 w.heap.size hbeg (by decide) hv1 (by omega) Am1 cm1 A3 c3 l3 HL1.out hbeg.below.size H3.out hl3 (by omega) (by decide) (by decide) (by omega))
  clear hbeg bn HN
  go_wp2_with fail
  refine HG.out.mono ?_
  rintro e w11 ⟨r3,P3,k3,Am3,cm3,rfl,hgr,htk3,hP3,hlo,hkp⟩
  obtain⟨m3,hm3⟩:∃z,z=grE m1 l3:=⟨_,rfl⟩
  rw[<-hm3]at hgr hlo ⊢
  obtain⟨hri3,hml3⟩:=hgr.right
  have HRI3:=Lib.hid hri3
  replace HL1:=Lib.hid (hkp _ _ _ _ _ _ HL1.out (.inl rfl))
  replace HL2:=Lib.hid (hkp _ _ _ _ _ _ HL2.out (.inl rfl))
  have HL3:=Lib.hid hlo
  have HGR:=Lib.hid hgr
  clear hgr hlo hkp HG hm3 hri3
  clear hv1
  have HWL:=Lib.hid (rlists_any Am2 Am3 cm2 cm3 m2 m3 w11 (LO.sv HL2.out).ls (LO.sv HL3.out).ls (by omega) (by omega))
  rw[show rtold m2 m3=En.mergeD m2 m3 by unfold rtold;rw[HRI2.out,HRI3.out];exact En.ref_merge ((En.right_iff _).1 HRI2.out).2 ((En.right_iff _).1 HRI3.out).2]at HWL
  obtain⟨wt,hwt⟩:∃z,z=En.mergeD m2 m3:=⟨_,rfl⟩
  rw[<-hwt]at HWL
  have HXW:=Lib.hid hwt
  have hnw:wt.length<=1000:=by rw[hwt];have:=En.merge_len _ m2 m3 (Nat.le_refl _);omega
  clear hwt
  go_wp2_with fail
  refine Calls.mono HWL.out ?_
  intro e w12 hel
  obtain⟨Aw,cw,rfl,hlw,_,bw⟩:=hel.open_
  replace HGR:=Lib.hid (HGR.out.below_ bw)
  replace HL1:=Lib.hid (LO.below HL1.out bw)
  replace HL2:=Lib.hid (LO.below HL2.out bw)
  replace HL3:=Lib.hid (LO.below HL3.out bw)
  have HWw:Hid (LO rdlE 182 w12 _ (.slice Aw wt.length cw) wt):=Lib.hid hlw
  clear hel hlw bw HWL
  have HDF:=Lib.hid (grn_diff (ra:=r2) (rb:=r3) (A:=m2) (Bl:=m3) (ta:=k2) (tb:=k3) HGR.out ⟨by omega,by omega⟩ (.inl HV2.out) (.inr ⟨rfl,rfl,rfl⟩))
  clear HGR
  go_wp2_with fail
  refine HDF.out.mono ?_
  rintro e w13 ⟨B1,q1,rfl,hlo,hgr,hkp,hkd⟩
  have HGR:=Lib.hid hgr
  replace HL1:=Lib.hid (hkp _ _ _ _ _ _ HL1.out (.inl rfl))
  replace HL2:=Lib.hid (hkp _ _ _ _ _ _ HL2.out (.inl rfl))
  replace HL3:=Lib.hid (hkp _ _ _ _ _ _ HL3.out (.inl rfl))
  replace HWw:=Lib.hid (hkd _ _ _ _ _ HWw.out (.inr rfl))
  obtain⟨d1,hd1⟩:∃z,z=En.mergeD m2 m3:=⟨_,rfl⟩
  rw[<-hd1]at hlo ⊢
  have HXd1:=Lib.hid hd1
  have hnd1:d1.length<=1000:=by rw[hd1];have:=En.merge_len _ m2 m3 (Nat.le_refl _);omega
  have HDd1:=Lib.hid hlo
  clear hlo hgr hkp hkd hd1 HDF
  have hdw:d1=wt:=by rw[HXd1.out,HXW.out]
  subst hdw
  have HBT:=Lib.hid (grn_between fr tt (ra:=r2) (rb:=r3) (A:=m2) (Bl:=m3) (ta:=k2) (tb:=k3) HGR.out ⟨by omega,by omega⟩ (.inl HV2.out) (.inr ⟨rfl,rfl,rfl⟩))
  rw[<-HXW.out]at HBT
  clear HGR
  go_wp2_with fail
  refine HBT.out.mono ?_
  rintro e w14 ⟨Bt,qt,rfl,hlo,hgr,hkp,hkd⟩
  have HBW:=Lib.hid hgr.below
  replace HWw:=Lib.hid (hkd _ _ _ _ _ HWw.out (.inr rfl))
  replace HDd1:=Lib.hid (hkd _ _ _ _ _ HDd1.out (.inl rfl))
  obtain⟨gt,hgt⟩:∃z,z=betD fr tt d1:=⟨_,rfl⟩
  rw[<-hgt]at hlo ⊢
  have HXG:=Lib.hid hgt
  have hng:gt.length<=1000:=by rw[hgt];exact Nat.le_trans (List.length_filter_le _ _) hnw
  have HDg:=Lib.hid hlo
  clear hlo hgr hkp hkd HBT hgt
  have HSM:=Lib.hid (same14_yes B1 Aw d1 d1.length q1 cw rfl w14 (LO.sv HDd1.out).ls (LO.sv HWw.out).ls (by omega))
  go_wp2_with fail
  refine Calls.mono HSM.out ?_
  rintro e wa ⟨rfl,ba⟩
  replace HBW:=Lib.hid (HBW.out.trans (ba.mono HBW.out.size))
  replace HDd1:=Lib.hid (LO.below HDd1.out ba)
  replace HWw:=Lib.hid (LO.below HWw.out ba)
  replace HDg:=Lib.hid (LO.below HDg.out ba)
  clear ba HSM
  have HRB:=Lib.hid (rbetw_any fr tt Aw cw d1 wa (LO.sv HWw.out).ls (by omega))
  rw[<-HXG.out]at HRB
  go_wp2_with fail
  refine Calls.mono HRB.out ?_
  intro e wb hel
  obtain⟨Ar,cr,rfl,hlr,hsr,br⟩:=hel.open_
  replace HBW:=Lib.hid (HBW.out.trans (br.mono HBW.out.size))
  replace HDd1:=Lib.hid (LO.below HDd1.out br)
  replace HWw:=Lib.hid (LO.below HWw.out br)
  replace HDg:=Lib.hid (LO.below HDg.out br)
  have HSR:=Lib.hid hsr
  clear hel hlr hsr br HRB
  have HSM:=Lib.hid (same14_yes Bt Ar gt gt.length qt cr rfl wb (LO.sv HDg.out).ls HSR.out (by omega))
  go_wp2_with fail
  refine Calls.mono HSM.out ?_
  rintro e wc ⟨rfl,bc⟩
  replace HBW:=Lib.hid (HBW.out.trans (bc.mono HBW.out.size))
  clear bc HSM HSR HDd1 HWw HDg
  go_wp2
  go_ret
  exact⟨rfl,HBW.out⟩
end Go.Proofs.YtjoiajmbfbjnnaaGreatDoor
