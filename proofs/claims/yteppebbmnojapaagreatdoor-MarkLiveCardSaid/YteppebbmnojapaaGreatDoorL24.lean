/- Part of this proof. -/
import Derived.Test.YteppebbmnojapaaGreatDoorL23
set_option maxRecDepth 100000
set_option maxHeartbeats 8000000
namespace Go.Proofs.YteppebbmnojapaaGreatDoor
open Go.RowKit Go.Shelf
theorem Sv(v:Value)(n:Nd.Node)(Ax Az:Option Addr)(cx cz fr to_:Nat)(xs:List Int)(zs:List ByteArray)(hlf:n.leaf=false)(hft:fr<to_)(hto:to_<=n.kids.length)(hnk:n.keys.length+1=n.kids.length)(hk:zs.length+1=xs.length)(lo hi:Nat)(hlo:lo=fr)(WA:hi=to_-1)(w:World)(h:NS w v n)(hb:NB n)(hx:SV aV w Ax cx xs)(hy:SV keyE w Az cz zs)(hxl:xs.length<=100000):
  Calls Tryz.prog 268 #[v, .int .i64 fr, .int .i64 to_, .slice Ax xs.length cx, .slice Az zs.length cz] w fun e w'=>∃v',e= .returned v'/\NF w.heap.size w' v' (Nd.ah (n.kids.take fr++xs++n.kids.drop to_) (n.keys.take lo++zs++n.keys.drop hi))/\Below w.heap.size w w':=by
 obtain⟨Ae,ce,Ai,ci,Ay,cy,rfl,h1,h2,h3⟩:=h
 have hlo2:lo<=n.keys.length:=by omega
 have hhi:hi<=n.keys.length:=by omega
 have hkt:(n.kids.take fr).length=fr:=by rw[List.length_take];omega
 have hyt:(n.keys.take lo).length=lo:=by rw[List.length_take];omega
 obtain⟨ND,hND⟩:∃x,x=(Nd.ah (n.kids.take fr++xs++n.kids.drop to_) (n.keys.take lo++zs++n.keys.drop hi)):=⟨_,rfl⟩
 rw[<-hND]
 have HND:=Lib.hid hND
 clear hND
 unfold aP
 rw[hlf]
 have hB1:=(Blk.new w 146 #[.bool false, .slice Ae n.ents.length ce, .slice Ai n.kids.length ci, .slice Ay n.keys.length cy]).alloc (.cells #[.bool false, .slice none 0 0, .slice none 0 0, .slice none 0 0] 146)
 have hB2:=Blk.new (w.alloc (.cells #[.bool false, .slice Ae n.ents.length ce, .slice Ai n.kids.length ci, .slice Ay n.keys.length cy] 146)) 146 #[.bool false, .slice none 0 0, .slice none 0 0, .slice none 0 0]
 have hb1:=(Below.refl w.heap.size w).alloc (Nat.le_refl _) (.cells #[.bool false, .slice Ae n.ents.length ce, .slice Ai n.kids.length ci, .slice Ay n.keys.length cy] 146)
 have hb0:=hb1.alloc hb1.size (.cells #[.bool false, .slice none 0 0, .slice none 0 0, .slice none 0 0] 146)
 simp only[World.size_alloc]at hB2
 have be:=hb.e
 have bi:=hb.i
 have bk:=hb.k
 clear hlf hb
 have q1:decide ((fr:Int)<0)=false:=by rw[decide_eq_false_iff_not];omega
 have q2:¬n.kids.length<to_:=by omega
 have q3:¬to_<=fr:=by omega
 have q4:((zs.length:Int) != max ((xs.length:Int)-1) 0)=false:=by rw[bne_eq_false_iff_eq];omega
 have g1:((to_:Int)-1)=((hi:Nat):Int):=by omega
 have g2:((xs.length:Int)==0)=false:=by rw[beq_eq_false_iff_ne];omega
 subst lo
 clear WA
 go_enter Tryz.func268,Tryz.ntmps268
 go_wp2_with fail
 have hz:((w.alloc (.cells #[.bool false, .slice Ae n.ents.length ce, .slice Ai n.kids.length ci, .slice Ay n.keys.length cy] 146)).alloc (.cells #[.bool false, .slice none 0 0, .slice none 0 0, .slice none 0 0] 146)).heap.size=w.heap.size+2:=by simp
 generalize (w.alloc (.cells #[.bool false, .slice Ae n.ents.length ce, .slice Ai n.kids.length ci, .slice Ay n.keys.length cy] 146)).alloc (.cells #[.bool false, .slice none 0 0, .slice none 0 0, .slice none 0 0] 146)=w0 at*
 refine bY (base:=w.heap.size+2) (fun u=>⟨#[_,_,_,_,_,_,_,_,_,_,_,_,_,_,_,_,_,_,_,_,_,_,_,_,_,_,_,_,_,_,_,_,_,_,_,_,_,_,_,_,_,_,_,_,_,_,_,_,_,_,_,_,_,_,_,_,_,_,_,_,_,_,u 0,u 1,u 2,u 3,u 4,u 5,u 6,u 7,u 8,u 9,u 10,u 11,u 12,u 13,u 14,u 15,u 16,u 17,u 18,u 19,u 20,u 21,u 22],_⟩)
  [Is.eq _ (.pointer (some ⟨w.heap.size,2,none⟩)),
  Is.eq _ (.slice Ai (n.kids).length ci),
  Is.eq _ (.int .i64 (fr:Nat)),
  Is.eq _ (.slice Ai (n.kids.take fr).length ci),
  Is.eq _ (.slice Ax (xs).length cx),
  Is.eq _ (.pointer (some ⟨w.heap.size,2,none⟩)),
  Is.eq _ (.slice Ai (n.kids).length ci),
  Is.eq _ (.int .i64 (to_:Nat)),
  Is.eq _ (.slice (if ci=to_ then Ai else Option.map (·.add (to_*1)) Ai) (n.kids.drop to_).length (ci-to_)),
  Is.blk _ 49 3 #[.slice Ai (n.kids.take fr).length ci, .slice Ax (xs).length cx, .slice (if ci=to_ then Ai else Option.map (·.add (to_*1)) Ai) (n.kids.drop to_).length (ci-to_)],
  Is.row _ aV 3 (n.kids.take fr++xs++n.kids.drop to_),
  Is.eq _ (.pointer (some ⟨w.heap.size,3,none⟩)),
  Is.eq _ (.slice Ay (n.keys).length cy),
  Is.eq _ (.int .i64 (fr:Nat)),
  Is.eq _ (.slice Ay (n.keys.take fr).length cy),
  Is.eq _ (.slice Az (zs).length cz),
  Is.eq _ (.pointer (some ⟨w.heap.size,3,none⟩)),
  Is.eq _ (.slice Ay (n.keys).length cy),
  Is.eq _ (.int .i64 (hi:Nat)),
  Is.eq _ (.slice (if cy=hi then Ay else Option.map (·.add (hi*1)) Ay) (n.keys.drop hi).length (cy-hi)),
  Is.blk _ 107 3 #[.slice Ay (n.keys.take fr).length cy, .slice Az (zs).length cz, .slice (if cy=hi then Ay else Option.map (·.add (hi*1)) Ay) (n.keys.drop hi).length (cy-hi)],
  Is.row _ keyE 9 (n.keys.take fr++zs++n.keys.drop hi),
  Is.node _ (Nd.ah (n.kids.take fr++xs++n.kids.drop to_) (n.keys.take fr++zs++n.keys.drop hi)),
  Is.put _ (w.heap.size+1) (Nd.ah (n.kids.take fr++xs++n.kids.drop to_) (n.keys.take fr++zs++n.keys.drop hi))] (by kernel_rfl) (by kernel_rfl) (by kernel_rfl) [w.heap.size+1] rfl (by omega) (by simp<;>omega) (by simp) ⟨fun i=>(fun _=>undef) i,rfl⟩ ?_ ?_
 ·intro i o ho u W hf hold aj
  have hS:∀k,k∈ [w.heap.size+1]->k=w.heap.size+1:=fun k hk=>by simpa using hk
  have hsz:w.heap.size+2<=W.heap.size:=by have:=hf.size;omega
  have hbw:Below w.heap.size w W:=hb0.trans (hf.low (by omega) (fun k a=>by have:=hS k a;omega))
  have hBn:=hf.blk hB1 (fun a=>by have:=hS _ a;omega)
  have cn0:=hBn.cell 0
  have cn1:=hBn.cell 1
  have cn2:=hBn.cell 2
  have cn3:=hBn.cell 3
  match i,ho with
  |0,ho=>obtain rfl:=Option.some.inj ho;exact Does.val (fB rfl rfl) ⟨rfl,rfl,Fr.refl _⟩
  |1,ho=>obtain rfl:=Option.some.inj ho;exact Does.val (bI rfl (aj 0 rfl) cn2) ⟨rfl,rfl,Fr.refl _⟩
  |2,ho=>obtain rfl:=Option.some.inj ho;exact Does.val (dL rfl rfl) ⟨rfl,rfl,Fr.refl _⟩
  |3,ho=>obtain rfl:=Option.some.inj ho;exact Does.val (kC rfl (aj 1 rfl) (aj 2 rfl) (by have:=h2.le;omega)) ⟨rfl,by show _=_;rw[hkt],Fr.refl _⟩
  |4,ho=>obtain rfl:=Option.some.inj ho;exact Does.val (dL rfl rfl) ⟨rfl,rfl,Fr.refl _⟩
  |5,ho=>obtain rfl:=Option.some.inj ho;exact Does.val (fB rfl rfl) ⟨rfl,rfl,Fr.refl _⟩
  |6,ho=>obtain rfl:=Option.some.inj ho;exact Does.val (bI rfl (aj 5 rfl) cn2) ⟨rfl,rfl,Fr.refl _⟩
  |7,ho=>obtain rfl:=Option.some.inj ho;exact Does.val (dL rfl rfl) ⟨rfl,rfl,Fr.refl _⟩
  |8,ho=>obtain rfl:=Option.some.inj ho;exact Does.val (iq rfl (aj 6 rfl) (aj 7 rfl) hto) ⟨rfl,by show _=_;rw[List.length_drop],Fr.refl _⟩
  |9,ho=>obtain rfl:=Option.some.inj ho;exact Does.val (rC rfl (aj 3 rfl) (aj 4 rfl) (aj 8 rfl)) ⟨rfl,⟨W.heap.size,hsz,rfl,Blk.new _ _ _⟩, .of_below ((Below.refl _ _).alloc (Nat.le_refl _) _)⟩
  |10,ho=>
   obtain rfl:=Option.some.inj ho
   obtain⟨bq,hq0,hq1,hq2⟩:=aj 9 rfl
   have e1:cZ [(Ai,ci,n.kids.take fr),(Ax,cx,xs),((if ci=to_ then Ai else Option.map (·.add (to_*1)) Ai),(ci-to_),n.kids.drop to_)]=n.kids.take fr++xs++n.kids.drop to_:=by simp[cZ]
   refine Does.call (dP yY rfl hq1) (Calls.mono (jy bq 3 [(Ai,ci,n.kids.take fr),(Ax,cx,xs),((if ci=to_ then Ai else Option.map (·.add (to_*1)) Ai),(ci-to_),n.kids.drop to_)] rfl (by decide) W hq2 (fun p hp=>by
    simp only[List.mem_cons,List.not_mem_nil,or_false]at hp
    rcases hp with rfl | rfl | rfl
    all_goals first | exact((h2.up hbw).ls).mG _ | exact(hx.up hbw).ls | exact((h2.up hbw).ls).cut (hto) h2.le) (by rw[e1];first | omega | (simp;omega))) ?_)
   rintro e w' ⟨v,rfl,ho,hbl⟩
   rw[e1]at ho
   exact⟨v,rfl,rfl,⟨ho.lower hsz,ho.form⟩, .of_below hbl⟩
  |11,ho=>obtain rfl:=Option.some.inj ho;exact Does.val (fP rfl rfl) ⟨rfl,rfl,Fr.refl _⟩
  |12,ho=>obtain rfl:=Option.some.inj ho;exact Does.val (bU rfl (aj 11 rfl) cn3) ⟨rfl,rfl,Fr.refl _⟩
  |13,ho=>obtain rfl:=Option.some.inj ho;exact Does.val (dL rfl rfl) ⟨rfl,rfl,Fr.refl _⟩
  |14,ho=>obtain rfl:=Option.some.inj ho;exact Does.val (kD rfl (aj 12 rfl) (aj 13 rfl) (by have:=h3.le;omega)) ⟨rfl,by show _=_;rw[hyt],Fr.refl _⟩
  |15,ho=>obtain rfl:=Option.some.inj ho;exact Does.val (dL rfl rfl) ⟨rfl,rfl,Fr.refl _⟩
  |16,ho=>obtain rfl:=Option.some.inj ho;exact Does.val (fP rfl rfl) ⟨rfl,rfl,Fr.refl _⟩
  |17,ho=>obtain rfl:=Option.some.inj ho;exact Does.val (bU rfl (aj 16 rfl) cn3) ⟨rfl,rfl,Fr.refl _⟩
  |18,ho=>obtain rfl:=Option.some.inj ho;exact Does.val (dL rfl rfl) ⟨rfl,rfl,Fr.refl _⟩
  |19,ho=>obtain rfl:=Option.some.inj ho;exact Does.val (ji rfl (aj 17 rfl) (aj 18 rfl) hhi) ⟨rfl,by show _=_;rw[List.length_drop],Fr.refl _⟩
  |20,ho=>obtain rfl:=Option.some.inj ho;exact Does.val (nP rfl (aj 14 rfl) (aj 15 rfl) (aj 19 rfl)) ⟨rfl,⟨W.heap.size,hsz,rfl,Blk.new _ _ _⟩, .of_below ((Below.refl _ _).alloc (Nat.le_refl _) _)⟩
  |21,ho=>
   obtain rfl:=Option.some.inj ho
   obtain⟨bq,hq0,hq1,hq2⟩:=aj 20 rfl
   have e1:dh [(Ay,cy,n.keys.take fr),(Az,cz,zs),((if cy=hi then Ay else Option.map (·.add (hi*1)) Ay),(cy-hi),n.keys.drop hi)]=n.keys.take fr++zs++n.keys.drop hi:=by simp[dh]
   refine Does.call (dP yZ rfl hq1) (Calls.mono (jA bq 3 [(Ay,cy,n.keys.take fr),(Az,cz,zs),((if cy=hi then Ay else Option.map (·.add (hi*1)) Ay),(cy-hi),n.keys.drop hi)] rfl (by decide) W hq2 (fun p hp=>by
    simp only[List.mem_cons,List.not_mem_nil,or_false]at hp
    rcases hp with rfl | rfl | rfl
    all_goals first | exact((h3.up hbw).ls).mG _ | exact(hy.up hbw).ls | exact((h3.up hbw).ls).cut (hhi) h3.le) (by rw[e1];first | omega | (simp;omega))) ?_)
   rintro e w' ⟨v,rfl,ho,hbl⟩
   rw[e1]at ho
   exact⟨v,rfl,rfl,⟨ho.lower hsz,ho.form⟩, .of_below hbl⟩
  |22,ho=>
   obtain rfl:=Option.some.inj ho
   obtain⟨r2,A2,k2,e2⟩:=aj 10 rfl
   obtain⟨r3,A3,k3,e3⟩:=aj 21 rfl
   exact Does.val (rE rfl e2 e3) ⟨rfl,⟨none,0,A2,k2,A3,k3,rfl,LO.nil_ _ _,e2 ▸ r2,e3 ▸ r3⟩,Fr.refl _⟩
  |23,ho=>
   obtain rfl:=Option.some.inj ho
   obtain⟨A1,k1,A2,k2,A3,k3,e,r⟩:=aj 22 rfl
   refine fF rfl rfl e ⟨_,_,_,_,_,_,_,_,_,_,rfl⟩ (Eq.trans (hold _ rfl) hB2) rfl fun w' hB hfr=> ?_
   exact⟨rfl,⟨_,NF.fr ⟨A1,k1,A2,k2,A3,k3,rfl,r⟩ hfr (fun k a=>by omega),hB⟩,hfr.more (fun k hk=>by rw[hk];rfl)⟩
  |n+24,ho=>exact absurd ho (by simp)
 ·intro u W hf hall
  obtain⟨cs,⟨A1,k1,A2,k2,A3,k3,e,r⟩,hBk⟩:=hall 23 (by decide)
  have hS:∀k,k∈ [w.heap.size+1]->k=w.heap.size+1:=fun k hk=>by simpa using hk
  have hbw:Below w.heap.size w W:=hb0.trans (hf.low (by omega) (fun k a=>by have:=hS k a;omega))
  injection e with e
  subst e
  have hend:NF w.heap.size W (.agg _) (Nd.ah (n.kids.take fr++xs++n.kids.drop to_) (n.keys.take fr++zs++n.keys.drop hi)):=NF.lower ⟨A1,k1,A2,k2,A3,k3,rfl,r⟩ (by omega)
  have aZ:=Lib.hid hend
  clear hall hend hf
  go_wp2
  try simp only[Exit.inBlock,Exit.then]
  refine bodyPost_ret (mY aN rfl rfl hBk rfl) rfl ?_
  first | exact⟨_,rfl,aZ.out,hbw⟩ | exact⟨_,rfl,HND.out ▸ aZ.out,hbw⟩
theorem Sz(v:Value)(n:Nd.Node)(Ax Az:Option Addr)(cx cz fr to_:Nat)(xs:List Int)(zs:List ByteArray)(hlf:n.leaf=false)(hft:fr<to_)(hto:to_<=n.kids.length)(hnk:n.keys.length+1=n.kids.length)(hk:zs= [])(hk2:xs= [])(hf0:0<fr)(lo hi:Nat)(hlo:lo=fr-1)(WA:hi=to_-1)(w:World)(h:NS w v n)(hb:NB n)(hx:SV aV w Ax cx xs)(hy:SV keyE w Az cz zs)(hxl:xs.length<=100000):
  Calls Tryz.prog 268 #[v, .int .i64 fr, .int .i64 to_, .slice Ax xs.length cx, .slice Az zs.length cz] w fun e w'=>∃v',e= .returned v'/\NF w.heap.size w' v' (Nd.ah (n.kids.take fr++xs++n.kids.drop to_) (n.keys.take lo++zs++n.keys.drop hi))/\Below w.heap.size w w':=by
 obtain⟨Ae,ce,Ai,ci,Ay,cy,rfl,h1,h2,h3⟩:=h
 have hlo2:lo<=n.keys.length:=by omega
 have hhi:hi<=n.keys.length:=by omega
 have hkt:(n.kids.take fr).length=fr:=by rw[List.length_take];omega
 have hyt:(n.keys.take lo).length=lo:=by rw[List.length_take];omega
 obtain⟨ND,hND⟩:∃x,x=(Nd.ah (n.kids.take fr++xs++n.kids.drop to_) (n.keys.take lo++zs++n.keys.drop hi)):=⟨_,rfl⟩
 rw[<-hND]
 have HND:=Lib.hid hND
 clear hND
 unfold aP
 rw[hlf]
 have hB1:=(Blk.new w 146 #[.bool false, .slice Ae n.ents.length ce, .slice Ai n.kids.length ci, .slice Ay n.keys.length cy]).alloc (.cells #[.bool false, .slice none 0 0, .slice none 0 0, .slice none 0 0] 146)
 have hB2:=Blk.new (w.alloc (.cells #[.bool false, .slice Ae n.ents.length ce, .slice Ai n.kids.length ci, .slice Ay n.keys.length cy] 146)) 146 #[.bool false, .slice none 0 0, .slice none 0 0, .slice none 0 0]
 have hb1:=(Below.refl w.heap.size w).alloc (Nat.le_refl _) (.cells #[.bool false, .slice Ae n.ents.length ce, .slice Ai n.kids.length ci, .slice Ay n.keys.length cy] 146)
 have hb0:=hb1.alloc hb1.size (.cells #[.bool false, .slice none 0 0, .slice none 0 0, .slice none 0 0] 146)
 simp only[World.size_alloc]at hB2
 have be:=hb.e
 have bi:=hb.i
 have bk:=hb.k
 clear hlf hb
 have q1:decide ((fr:Int)<0)=false:=by rw[decide_eq_false_iff_not];omega
 have q2:¬n.kids.length<to_:=by omega
 have q3:¬to_<=fr:=by omega
 have q4:((zs.length:Int) != max ((xs.length:Int)-1) 0)=false:=by rw[bne_eq_false_iff_eq,hk,hk2];rfl
 have g1:((to_:Int)-1)=((hi:Nat):Int):=by omega
 have g2:((xs.length:Int)==0)=true:=by rw[hk2];rfl
 have g3:((fr:Int)-1)=((lo:Nat):Int):=by omega
 have g4:0<(fr:Int):=by omega
 have q5:zs.length<=5:=by rw[hk];exact Nat.zero_le _
 clear WA hlo hk hk2
 go_enter Tryz.func268,Tryz.ntmps268
 go_wp2_with fail
 have hz:((w.alloc (.cells #[.bool false, .slice Ae n.ents.length ce, .slice Ai n.kids.length ci, .slice Ay n.keys.length cy] 146)).alloc (.cells #[.bool false, .slice none 0 0, .slice none 0 0, .slice none 0 0] 146)).heap.size=w.heap.size+2:=by simp
 generalize (w.alloc (.cells #[.bool false, .slice Ae n.ents.length ce, .slice Ai n.kids.length ci, .slice Ay n.keys.length cy] 146)).alloc (.cells #[.bool false, .slice none 0 0, .slice none 0 0, .slice none 0 0] 146)=w0 at*
 refine bY (base:=w.heap.size+2) (fun u=>⟨#[_,_,_,_,_,_,_,_,_,_,_,_,_,_,_,_,_,_,_,_,_,_,_,_,_,_,_,_,_,_,_,_,_,_,_,_,_,_,_,_,_,_,_,_,_,_,_,_,_,_,_,_,_,_,_,_,_,_,_,_,_,_,u 0,u 1,u 2,u 3,u 4,u 5,u 6,u 7,u 8,u 9,u 10,u 11,u 12,u 13,u 14,u 15,u 16,u 17,u 18,u 19,u 20,u 21,u 22],_⟩)
  [Is.eq _ (.pointer (some ⟨w.heap.size,2,none⟩)),
  Is.eq _ (.slice Ai (n.kids).length ci),
  Is.eq _ (.int .i64 (fr:Nat)),
  Is.eq _ (.slice Ai (n.kids.take fr).length ci),
  Is.eq _ (.slice Ax (xs).length cx),
  Is.eq _ (.pointer (some ⟨w.heap.size,2,none⟩)),
  Is.eq _ (.slice Ai (n.kids).length ci),
  Is.eq _ (.int .i64 (to_:Nat)),
  Is.eq _ (.slice (if ci=to_ then Ai else Option.map (·.add (to_*1)) Ai) (n.kids.drop to_).length (ci-to_)),
  Is.blk _ 49 3 #[.slice Ai (n.kids.take fr).length ci, .slice Ax (xs).length cx, .slice (if ci=to_ then Ai else Option.map (·.add (to_*1)) Ai) (n.kids.drop to_).length (ci-to_)],
  Is.row _ aV 3 (n.kids.take fr++xs++n.kids.drop to_),
  Is.eq _ (.pointer (some ⟨w.heap.size,3,none⟩)),
  Is.eq _ (.slice Ay (n.keys).length cy),
  Is.eq _ (.int .i64 (lo:Nat)),
  Is.eq _ (.slice Ay (n.keys.take lo).length cy),
  Is.eq _ (.slice Az (zs).length cz),
  Is.eq _ (.pointer (some ⟨w.heap.size,3,none⟩)),
  Is.eq _ (.slice Ay (n.keys).length cy),
  Is.eq _ (.int .i64 (hi:Nat)),
  Is.eq _ (.slice (if cy=hi then Ay else Option.map (·.add (hi*1)) Ay) (n.keys.drop hi).length (cy-hi)),
  Is.blk _ 107 3 #[.slice Ay (n.keys.take lo).length cy, .slice Az (zs).length cz, .slice (if cy=hi then Ay else Option.map (·.add (hi*1)) Ay) (n.keys.drop hi).length (cy-hi)],
  Is.row _ keyE 9 (n.keys.take lo++zs++n.keys.drop hi),
  Is.node _ (Nd.ah (n.kids.take fr++xs++n.kids.drop to_) (n.keys.take lo++zs++n.keys.drop hi)),
  Is.put _ (w.heap.size+1) (Nd.ah (n.kids.take fr++xs++n.kids.drop to_) (n.keys.take lo++zs++n.keys.drop hi))] (by kernel_rfl) (by kernel_rfl) (by kernel_rfl) [w.heap.size+1] rfl (by omega) (by simp<;>omega) (by simp) ⟨fun i=>(fun _=>undef) i,rfl⟩ ?_ ?_
 ·intro i o ho u W hf hold aj
  have hS:∀k,k∈ [w.heap.size+1]->k=w.heap.size+1:=fun k hk=>by simpa using hk
  have hsz:w.heap.size+2<=W.heap.size:=by have:=hf.size;omega
  have hbw:Below w.heap.size w W:=hb0.trans (hf.low (by omega) (fun k a=>by have:=hS k a;omega))
  have hBn:=hf.blk hB1 (fun a=>by have:=hS _ a;omega)
  have cn0:=hBn.cell 0
  have cn1:=hBn.cell 1
  have cn2:=hBn.cell 2
  have cn3:=hBn.cell 3
  match i,ho with
  |0,ho=>obtain rfl:=Option.some.inj ho;exact Does.val (fB rfl rfl) ⟨rfl,rfl,Fr.refl _⟩
  |1,ho=>obtain rfl:=Option.some.inj ho;exact Does.val (bI rfl (aj 0 rfl) cn2) ⟨rfl,rfl,Fr.refl _⟩
  |2,ho=>obtain rfl:=Option.some.inj ho;exact Does.val (dL rfl rfl) ⟨rfl,rfl,Fr.refl _⟩
  |3,ho=>obtain rfl:=Option.some.inj ho;exact Does.val (kC rfl (aj 1 rfl) (aj 2 rfl) (by have:=h2.le;omega)) ⟨rfl,by show _=_;rw[hkt],Fr.refl _⟩
  |4,ho=>obtain rfl:=Option.some.inj ho;exact Does.val (dL rfl rfl) ⟨rfl,rfl,Fr.refl _⟩
  |5,ho=>obtain rfl:=Option.some.inj ho;exact Does.val (fB rfl rfl) ⟨rfl,rfl,Fr.refl _⟩
  |6,ho=>obtain rfl:=Option.some.inj ho;exact Does.val (bI rfl (aj 5 rfl) cn2) ⟨rfl,rfl,Fr.refl _⟩
  |7,ho=>obtain rfl:=Option.some.inj ho;exact Does.val (dL rfl rfl) ⟨rfl,rfl,Fr.refl _⟩
  |8,ho=>obtain rfl:=Option.some.inj ho;exact Does.val (iq rfl (aj 6 rfl) (aj 7 rfl) hto) ⟨rfl,by show _=_;rw[List.length_drop],Fr.refl _⟩
  |9,ho=>obtain rfl:=Option.some.inj ho;exact Does.val (rC rfl (aj 3 rfl) (aj 4 rfl) (aj 8 rfl)) ⟨rfl,⟨W.heap.size,hsz,rfl,Blk.new _ _ _⟩, .of_below ((Below.refl _ _).alloc (Nat.le_refl _) _)⟩
  |10,ho=>
   obtain rfl:=Option.some.inj ho
   obtain⟨bq,hq0,hq1,hq2⟩:=aj 9 rfl
   have e1:cZ [(Ai,ci,n.kids.take fr),(Ax,cx,xs),((if ci=to_ then Ai else Option.map (·.add (to_*1)) Ai),(ci-to_),n.kids.drop to_)]=n.kids.take fr++xs++n.kids.drop to_:=by simp[cZ]
   refine Does.call (dP yY rfl hq1) (Calls.mono (jy bq 3 [(Ai,ci,n.kids.take fr),(Ax,cx,xs),((if ci=to_ then Ai else Option.map (·.add (to_*1)) Ai),(ci-to_),n.kids.drop to_)] rfl (by decide) W hq2 (fun p hp=>by
    simp only[List.mem_cons,List.not_mem_nil,or_false]at hp
    rcases hp with rfl | rfl | rfl
    all_goals first | exact((h2.up hbw).ls).mG _ | exact(hx.up hbw).ls | exact((h2.up hbw).ls).cut (hto) h2.le) (by rw[e1];first | omega | (simp;omega))) ?_)
   rintro e w' ⟨v,rfl,ho,hbl⟩
   rw[e1]at ho
   exact⟨v,rfl,rfl,⟨ho.lower hsz,ho.form⟩, .of_below hbl⟩
  |11,ho=>obtain rfl:=Option.some.inj ho;exact Does.val (fP rfl rfl) ⟨rfl,rfl,Fr.refl _⟩
  |12,ho=>obtain rfl:=Option.some.inj ho;exact Does.val (bU rfl (aj 11 rfl) cn3) ⟨rfl,rfl,Fr.refl _⟩
  |13,ho=>obtain rfl:=Option.some.inj ho;exact Does.val (dL rfl rfl) ⟨rfl,rfl,Fr.refl _⟩
  |14,ho=>obtain rfl:=Option.some.inj ho;exact Does.val (kD rfl (aj 12 rfl) (aj 13 rfl) (by have:=h3.le;omega)) ⟨rfl,by show _=_;rw[hyt],Fr.refl _⟩
  |15,ho=>obtain rfl:=Option.some.inj ho;exact Does.val (dL rfl rfl) ⟨rfl,rfl,Fr.refl _⟩
  |16,ho=>obtain rfl:=Option.some.inj ho;exact Does.val (fP rfl rfl) ⟨rfl,rfl,Fr.refl _⟩
  |17,ho=>obtain rfl:=Option.some.inj ho;exact Does.val (bU rfl (aj 16 rfl) cn3) ⟨rfl,rfl,Fr.refl _⟩
  |18,ho=>obtain rfl:=Option.some.inj ho;exact Does.val (dL rfl rfl) ⟨rfl,rfl,Fr.refl _⟩
  |19,ho=>obtain rfl:=Option.some.inj ho;exact Does.val (ji rfl (aj 17 rfl) (aj 18 rfl) hhi) ⟨rfl,by show _=_;rw[List.length_drop],Fr.refl _⟩
  |20,ho=>obtain rfl:=Option.some.inj ho;exact Does.val (nP rfl (aj 14 rfl) (aj 15 rfl) (aj 19 rfl)) ⟨rfl,⟨W.heap.size,hsz,rfl,Blk.new _ _ _⟩, .of_below ((Below.refl _ _).alloc (Nat.le_refl _) _)⟩
  |21,ho=>
   obtain rfl:=Option.some.inj ho
   obtain⟨bq,hq0,hq1,hq2⟩:=aj 20 rfl
   have e1:dh [(Ay,cy,n.keys.take lo),(Az,cz,zs),((if cy=hi then Ay else Option.map (·.add (hi*1)) Ay),(cy-hi),n.keys.drop hi)]=n.keys.take lo++zs++n.keys.drop hi:=by simp[dh]
   refine Does.call (dP yZ rfl hq1) (Calls.mono (jA bq 3 [(Ay,cy,n.keys.take lo),(Az,cz,zs),((if cy=hi then Ay else Option.map (·.add (hi*1)) Ay),(cy-hi),n.keys.drop hi)] rfl (by decide) W hq2 (fun p hp=>by
    simp only[List.mem_cons,List.not_mem_nil,or_false]at hp
    rcases hp with rfl | rfl | rfl
    all_goals first | exact((h3.up hbw).ls).mG _ | exact(hy.up hbw).ls | exact((h3.up hbw).ls).cut (hhi) h3.le) (by rw[e1];first | omega | (simp;omega))) ?_)
   rintro e w' ⟨v,rfl,ho,hbl⟩
   rw[e1]at ho
   exact⟨v,rfl,rfl,⟨ho.lower hsz,ho.form⟩, .of_below hbl⟩
  |22,ho=>
   obtain rfl:=Option.some.inj ho
   obtain⟨r2,A2,k2,e2⟩:=aj 10 rfl
   obtain⟨r3,A3,k3,e3⟩:=aj 21 rfl
   exact Does.val (rE rfl e2 e3) ⟨rfl,⟨none,0,A2,k2,A3,k3,rfl,LO.nil_ _ _,e2 ▸ r2,e3 ▸ r3⟩,Fr.refl _⟩
  |23,ho=>
   obtain rfl:=Option.some.inj ho
   obtain⟨A1,k1,A2,k2,A3,k3,e,r⟩:=aj 22 rfl
   refine fF rfl rfl e ⟨_,_,_,_,_,_,_,_,_,_,rfl⟩ (Eq.trans (hold _ rfl) hB2) rfl fun w' hB hfr=> ?_
   exact⟨rfl,⟨_,NF.fr ⟨A1,k1,A2,k2,A3,k3,rfl,r⟩ hfr (fun k a=>by omega),hB⟩,hfr.more (fun k hk=>by rw[hk];rfl)⟩
  |n+24,ho=>exact absurd ho (by simp)
 ·intro u W hf hall
  obtain⟨cs,⟨A1,k1,A2,k2,A3,k3,e,r⟩,hBk⟩:=hall 23 (by decide)
  have hS:∀k,k∈ [w.heap.size+1]->k=w.heap.size+1:=fun k hk=>by simpa using hk
  have hbw:Below w.heap.size w W:=hb0.trans (hf.low (by omega) (fun k a=>by have:=hS k a;omega))
  injection e with e
  subst e
  have hend:NF w.heap.size W (.agg _) (Nd.ah (n.kids.take fr++xs++n.kids.drop to_) (n.keys.take lo++zs++n.keys.drop hi)):=NF.lower ⟨A1,k1,A2,k2,A3,k3,rfl,r⟩ (by omega)
  have aZ:=Lib.hid hend
  clear hall hend hf
  go_wp2
  try simp only[Exit.inBlock,Exit.then]
  refine bodyPost_ret (mY aN rfl rfl hBk rfl) rfl ?_
  first | exact⟨_,rfl,aZ.out,hbw⟩ | exact⟨_,rfl,HND.out ▸ aZ.out,hbw⟩
theorem WB(v:Value)(n:Nd.Node)(Ax Az:Option Addr)(cx cz fr to_:Nat)(xs:List Int)(zs:List ByteArray)(hlf:n.leaf=false)(hft:fr<to_)(hto:to_<=n.kids.length)(hnk:n.keys.length+1=n.kids.length)(hk:zs= [])(hk2:xs= [])(hf0:fr=0)(lo hi:Nat)(hlo:lo=fr)(WA:hi=min to_ n.keys.length)(w:World)(h:NS w v n)(hb:NB n)(hx:SV aV w Ax cx xs)(hy:SV keyE w Az cz zs)(hxl:xs.length<=100000):
  Calls Tryz.prog 268 #[v, .int .i64 fr, .int .i64 to_, .slice Ax xs.length cx, .slice Az zs.length cz] w fun e w'=>∃v',e= .returned v'/\NF w.heap.size w' v' (Nd.ah (n.kids.take fr++xs++n.kids.drop to_) (n.keys.take lo++zs++n.keys.drop hi))/\Below w.heap.size w w':=by
 obtain⟨Ae,ce,Ai,ci,Ay,cy,rfl,h1,h2,h3⟩:=h
 have hlo2:lo<=n.keys.length:=by omega
 have hhi:hi<=n.keys.length:=by omega
 have hkt:(n.kids.take fr).length=fr:=by rw[List.length_take];omega
 have hyt:(n.keys.take lo).length=lo:=by rw[List.length_take];omega
 obtain⟨ND,hND⟩:∃x,x=(Nd.ah (n.kids.take fr++xs++n.kids.drop to_) (n.keys.take lo++zs++n.keys.drop hi)):=⟨_,rfl⟩
 rw[<-hND]
 have HND:=Lib.hid hND
 clear hND
 unfold aP
 rw[hlf]
 have hB1:=(Blk.new w 146 #[.bool false, .slice Ae n.ents.length ce, .slice Ai n.kids.length ci, .slice Ay n.keys.length cy]).alloc (.cells #[.bool false, .slice none 0 0, .slice none 0 0, .slice none 0 0] 146)
 have hB2:=Blk.new (w.alloc (.cells #[.bool false, .slice Ae n.ents.length ce, .slice Ai n.kids.length ci, .slice Ay n.keys.length cy] 146)) 146 #[.bool false, .slice none 0 0, .slice none 0 0, .slice none 0 0]
 have hb1:=(Below.refl w.heap.size w).alloc (Nat.le_refl _) (.cells #[.bool false, .slice Ae n.ents.length ce, .slice Ai n.kids.length ci, .slice Ay n.keys.length cy] 146)
 have hb0:=hb1.alloc hb1.size (.cells #[.bool false, .slice none 0 0, .slice none 0 0, .slice none 0 0] 146)
 simp only[World.size_alloc]at hB2
 have be:=hb.e
 have bi:=hb.i
 have bk:=hb.k
 clear hlf hb
 have q1:decide ((fr:Int)<0)=false:=by rw[decide_eq_false_iff_not];omega
 have q2:¬n.kids.length<to_:=by omega
 have q3:¬to_<=fr:=by omega
 have q4:((zs.length:Int) != max ((xs.length:Int)-1) 0)=false:=by rw[bne_eq_false_iff_eq,hk,hk2];rfl
 have g1:min (to_:Int) (n.keys.length:Int)=((hi:Nat):Int):=by omega
 have g2:((xs.length:Int)==0)=true:=by rw[hk2];rfl
 have g4:¬0<(fr:Int):=by omega
 have q5:zs.length<=5:=by rw[hk];exact Nat.zero_le _
 subst lo
 clear WA hk hk2 hf0
 go_enter Tryz.func268,Tryz.ntmps268
 go_wp2_with fail
 have hz:((w.alloc (.cells #[.bool false, .slice Ae n.ents.length ce, .slice Ai n.kids.length ci, .slice Ay n.keys.length cy] 146)).alloc (.cells #[.bool false, .slice none 0 0, .slice none 0 0, .slice none 0 0] 146)).heap.size=w.heap.size+2:=by simp
 generalize (w.alloc (.cells #[.bool false, .slice Ae n.ents.length ce, .slice Ai n.kids.length ci, .slice Ay n.keys.length cy] 146)).alloc (.cells #[.bool false, .slice none 0 0, .slice none 0 0, .slice none 0 0] 146)=w0 at*
 refine bY (base:=w.heap.size+2) (fun u=>⟨#[_,_,_,_,_,_,_,_,_,_,_,_,_,_,_,_,_,_,_,_,_,_,_,_,_,_,_,_,_,_,_,_,_,_,_,_,_,_,_,_,_,_,_,_,_,_,_,_,_,_,_,_,_,_,_,_,_,_,_,_,_,_,u 0,u 1,u 2,u 3,u 4,u 5,u 6,u 7,u 8,u 9,u 10,u 11,u 12,u 13,u 14,u 15,u 16,u 17,u 18,u 19,u 20,u 21,u 22],_⟩)
  [Is.eq _ (.pointer (some ⟨w.heap.size,2,none⟩)),
  Is.eq _ (.slice Ai (n.kids).length ci),
  Is.eq _ (.int .i64 (fr:Nat)),
  Is.eq _ (.slice Ai (n.kids.take fr).length ci),
  Is.eq _ (.slice Ax (xs).length cx),
  Is.eq _ (.pointer (some ⟨w.heap.size,2,none⟩)),
  Is.eq _ (.slice Ai (n.kids).length ci),
  Is.eq _ (.int .i64 (to_:Nat)),
  Is.eq _ (.slice (if ci=to_ then Ai else Option.map (·.add (to_*1)) Ai) (n.kids.drop to_).length (ci-to_)),
  Is.blk _ 49 3 #[.slice Ai (n.kids.take fr).length ci, .slice Ax (xs).length cx, .slice (if ci=to_ then Ai else Option.map (·.add (to_*1)) Ai) (n.kids.drop to_).length (ci-to_)],
  Is.row _ aV 3 (n.kids.take fr++xs++n.kids.drop to_),
  Is.eq _ (.pointer (some ⟨w.heap.size,3,none⟩)),
  Is.eq _ (.slice Ay (n.keys).length cy),
  Is.eq _ (.int .i64 (fr:Nat)),
  Is.eq _ (.slice Ay (n.keys.take fr).length cy),
  Is.eq _ (.slice Az (zs).length cz),
  Is.eq _ (.pointer (some ⟨w.heap.size,3,none⟩)),
  Is.eq _ (.slice Ay (n.keys).length cy),
  Is.eq _ (.int .i64 (hi:Nat)),
  Is.eq _ (.slice (if cy=hi then Ay else Option.map (·.add (hi*1)) Ay) (n.keys.drop hi).length (cy-hi)),
  Is.blk _ 107 3 #[.slice Ay (n.keys.take fr).length cy, .slice Az (zs).length cz, .slice (if cy=hi then Ay else Option.map (·.add (hi*1)) Ay) (n.keys.drop hi).length (cy-hi)],
  Is.row _ keyE 9 (n.keys.take fr++zs++n.keys.drop hi),
  Is.node _ (Nd.ah (n.kids.take fr++xs++n.kids.drop to_) (n.keys.take fr++zs++n.keys.drop hi)),
  Is.put _ (w.heap.size+1) (Nd.ah (n.kids.take fr++xs++n.kids.drop to_) (n.keys.take fr++zs++n.keys.drop hi))] (by kernel_rfl) (by kernel_rfl) (by kernel_rfl) [w.heap.size+1] rfl (by omega) (by simp<;>omega) (by simp) ⟨fun i=>(fun _=>undef) i,rfl⟩ ?_ ?_
 ·intro i o ho u W hf hold aj
  have hS:∀k,k∈ [w.heap.size+1]->k=w.heap.size+1:=fun k hk=>by simpa using hk
  have hsz:w.heap.size+2<=W.heap.size:=by have:=hf.size;omega
  have hbw:Below w.heap.size w W:=hb0.trans (hf.low (by omega) (fun k a=>by have:=hS k a;omega))
  have hBn:=hf.blk hB1 (fun a=>by have:=hS _ a;omega)
  have cn0:=hBn.cell 0
  have cn1:=hBn.cell 1
  have cn2:=hBn.cell 2
  have cn3:=hBn.cell 3
  match i,ho with
  |0,ho=>obtain rfl:=Option.some.inj ho;exact Does.val (fB rfl rfl) ⟨rfl,rfl,Fr.refl _⟩
  |1,ho=>obtain rfl:=Option.some.inj ho;exact Does.val (bI rfl (aj 0 rfl) cn2) ⟨rfl,rfl,Fr.refl _⟩
  |2,ho=>obtain rfl:=Option.some.inj ho;exact Does.val (dL rfl rfl) ⟨rfl,rfl,Fr.refl _⟩
  |3,ho=>obtain rfl:=Option.some.inj ho;exact Does.val (kC rfl (aj 1 rfl) (aj 2 rfl) (by have:=h2.le;omega)) ⟨rfl,by show _=_;rw[hkt],Fr.refl _⟩
  |4,ho=>obtain rfl:=Option.some.inj ho;exact Does.val (dL rfl rfl) ⟨rfl,rfl,Fr.refl _⟩
  |5,ho=>obtain rfl:=Option.some.inj ho;exact Does.val (fB rfl rfl) ⟨rfl,rfl,Fr.refl _⟩
  |6,ho=>obtain rfl:=Option.some.inj ho;exact Does.val (bI rfl (aj 5 rfl) cn2) ⟨rfl,rfl,Fr.refl _⟩
  |7,ho=>obtain rfl:=Option.some.inj ho;exact Does.val (dL rfl rfl) ⟨rfl,rfl,Fr.refl _⟩
  |8,ho=>obtain rfl:=Option.some.inj ho;exact Does.val (iq rfl (aj 6 rfl) (aj 7 rfl) hto) ⟨rfl,by show _=_;rw[List.length_drop],Fr.refl _⟩
  |9,ho=>obtain rfl:=Option.some.inj ho;exact Does.val (rC rfl (aj 3 rfl) (aj 4 rfl) (aj 8 rfl)) ⟨rfl,⟨W.heap.size,hsz,rfl,Blk.new _ _ _⟩, .of_below ((Below.refl _ _).alloc (Nat.le_refl _) _)⟩
  |10,ho=>
   obtain rfl:=Option.some.inj ho
   obtain⟨bq,hq0,hq1,hq2⟩:=aj 9 rfl
   have e1:cZ [(Ai,ci,n.kids.take fr),(Ax,cx,xs),((if ci=to_ then Ai else Option.map (·.add (to_*1)) Ai),(ci-to_),n.kids.drop to_)]=n.kids.take fr++xs++n.kids.drop to_:=by simp[cZ]
   refine Does.call (dP yY rfl hq1) (Calls.mono (jy bq 3 [(Ai,ci,n.kids.take fr),(Ax,cx,xs),((if ci=to_ then Ai else Option.map (·.add (to_*1)) Ai),(ci-to_),n.kids.drop to_)] rfl (by decide) W hq2 (fun p hp=>by
    simp only[List.mem_cons,List.not_mem_nil,or_false]at hp
    rcases hp with rfl | rfl | rfl
    all_goals first | exact((h2.up hbw).ls).mG _ | exact(hx.up hbw).ls | exact((h2.up hbw).ls).cut (hto) h2.le) (by rw[e1];first | omega | (simp;omega))) ?_)
   rintro e w' ⟨v,rfl,ho,hbl⟩
   rw[e1]at ho
   exact⟨v,rfl,rfl,⟨ho.lower hsz,ho.form⟩, .of_below hbl⟩
  |11,ho=>obtain rfl:=Option.some.inj ho;exact Does.val (fP rfl rfl) ⟨rfl,rfl,Fr.refl _⟩
  |12,ho=>obtain rfl:=Option.some.inj ho;exact Does.val (bU rfl (aj 11 rfl) cn3) ⟨rfl,rfl,Fr.refl _⟩
  |13,ho=>obtain rfl:=Option.some.inj ho;exact Does.val (dL rfl rfl) ⟨rfl,rfl,Fr.refl _⟩
  |14,ho=>obtain rfl:=Option.some.inj ho;exact Does.val (kD rfl (aj 12 rfl) (aj 13 rfl) (by have:=h3.le;omega)) ⟨rfl,by show _=_;rw[hyt],Fr.refl _⟩
  |15,ho=>obtain rfl:=Option.some.inj ho;exact Does.val (dL rfl rfl) ⟨rfl,rfl,Fr.refl _⟩
  |16,ho=>obtain rfl:=Option.some.inj ho;exact Does.val (fP rfl rfl) ⟨rfl,rfl,Fr.refl _⟩
  |17,ho=>obtain rfl:=Option.some.inj ho;exact Does.val (bU rfl (aj 16 rfl) cn3) ⟨rfl,rfl,Fr.refl _⟩
  |18,ho=>obtain rfl:=Option.some.inj ho;exact Does.val (dL rfl rfl) ⟨rfl,rfl,Fr.refl _⟩
  |19,ho=>obtain rfl:=Option.some.inj ho;exact Does.val (ji rfl (aj 17 rfl) (aj 18 rfl) hhi) ⟨rfl,by show _=_;rw[List.length_drop],Fr.refl _⟩
  |20,ho=>obtain rfl:=Option.some.inj ho;exact Does.val (nP rfl (aj 14 rfl) (aj 15 rfl) (aj 19 rfl)) ⟨rfl,⟨W.heap.size,hsz,rfl,Blk.new _ _ _⟩, .of_below ((Below.refl _ _).alloc (Nat.le_refl _) _)⟩
  |21,ho=>
   obtain rfl:=Option.some.inj ho
   obtain⟨bq,hq0,hq1,hq2⟩:=aj 20 rfl
   have e1:dh [(Ay,cy,n.keys.take fr),(Az,cz,zs),((if cy=hi then Ay else Option.map (·.add (hi*1)) Ay),(cy-hi),n.keys.drop hi)]=n.keys.take fr++zs++n.keys.drop hi:=by simp[dh]
   refine Does.call (dP yZ rfl hq1) (Calls.mono (jA bq 3 [(Ay,cy,n.keys.take fr),(Az,cz,zs),((if cy=hi then Ay else Option.map (·.add (hi*1)) Ay),(cy-hi),n.keys.drop hi)] rfl (by decide) W hq2 (fun p hp=>by
    simp only[List.mem_cons,List.not_mem_nil,or_false]at hp
    rcases hp with rfl | rfl | rfl
    all_goals first | exact((h3.up hbw).ls).mG _ | exact(hy.up hbw).ls | exact((h3.up hbw).ls).cut (hhi) h3.le) (by rw[e1];first | omega | (simp;omega))) ?_)
   rintro e w' ⟨v,rfl,ho,hbl⟩
   rw[e1]at ho
   exact⟨v,rfl,rfl,⟨ho.lower hsz,ho.form⟩, .of_below hbl⟩
  |22,ho=>
   obtain rfl:=Option.some.inj ho
   obtain⟨r2,A2,k2,e2⟩:=aj 10 rfl
   obtain⟨r3,A3,k3,e3⟩:=aj 21 rfl
   exact Does.val (rE rfl e2 e3) ⟨rfl,⟨none,0,A2,k2,A3,k3,rfl,LO.nil_ _ _,e2 ▸ r2,e3 ▸ r3⟩,Fr.refl _⟩
  |23,ho=>
   obtain rfl:=Option.some.inj ho
   obtain⟨A1,k1,A2,k2,A3,k3,e,r⟩:=aj 22 rfl
   refine fF rfl rfl e ⟨_,_,_,_,_,_,_,_,_,_,rfl⟩ (Eq.trans (hold _ rfl) hB2) rfl fun w' hB hfr=> ?_
   exact⟨rfl,⟨_,NF.fr ⟨A1,k1,A2,k2,A3,k3,rfl,r⟩ hfr (fun k a=>by omega),hB⟩,hfr.more (fun k hk=>by rw[hk];rfl)⟩
  |n+24,ho=>exact absurd ho (by simp)
 ·intro u W hf hall
  obtain⟨cs,⟨A1,k1,A2,k2,A3,k3,e,r⟩,hBk⟩:=hall 23 (by decide)
  have hS:∀k,k∈ [w.heap.size+1]->k=w.heap.size+1:=fun k hk=>by simpa using hk
  have hbw:Below w.heap.size w W:=hb0.trans (hf.low (by omega) (fun k a=>by have:=hS k a;omega))
  injection e with e
  subst e
  have hend:NF w.heap.size W (.agg _) (Nd.ah (n.kids.take fr++xs++n.kids.drop to_) (n.keys.take fr++zs++n.keys.drop hi)):=NF.lower ⟨A1,k1,A2,k2,A3,k3,rfl,r⟩ (by omega)
  have aZ:=Lib.hid hend
  clear hall hend hf
  go_wp2
  try simp only[Exit.inBlock,Exit.then]
  refine bodyPost_ret (mY aN rfl rfl hBk rfl) rfl ?_
  first | exact⟨_,rfl,aZ.out,hbw⟩ | exact⟨_,rfl,HND.out ▸ aZ.out,hbw⟩
end Go.Proofs.YteppebbmnojapaaGreatDoor
namespace Tp
open Nd
abbrev aA:=Int->Option Node
def Use(used:List Run)(σ:Pst)(x:Int):Prop:=x∈σ.mine\/Rp.Mem used x
abbrev ApS (room:Int) (used:List Run) (σ:Pst):Prop:=Rp.Ap room σ.free used σ.mine σ.pages
structure Step(room:Int)(disk:aA)(used:List Run)(σ:Pst)(A:Int->Prop)(σ':Pst)(A':Int->Prop):Prop where
 ap:ApS room used σ'
 mem:∀x,x∈σ'.mine ↔ (x∈σ.mine/\¬A x)\/(A' x/\¬Rp.Mem used x)
 keep:∀x,¬A x->Use used σ x->σ'.view disk x=σ.view disk x
 new:∀x,A' x->A x\/¬Use used σ x
section
variable {room:Int}{disk:aA}{used:List Run}{σ σ1 σ2:Pst}{A A1 B B1:Int->Prop}
theorem Step.adE(h:ApS room used σ):Step room disk used σ (fun _=>False) σ (fun _=>False):=
 ⟨h,fun x=>by simp,fun _ _ _=>rfl,fun x hx=>hx.elim⟩
theorem Step.use(h:Step room disk used σ A σ1 A1){x:Int}(hu:Use used σ x)(hA:¬A x):Use used σ1 x:=by
 rcases hu with hu | hu
 ·exact .inl ((h.mem x).2 (.inl ⟨hu,hA⟩))
 ·exact .inr hu
theorem Step.got(h:Step room disk used σ A σ1 A1){x:Int}(hA:A1 x):Use used σ1 x:=by
 by_cases hu:Rp.Mem used x
 ·exact .inr hu
 ·exact .inl ((h.mem x).2 (.inr ⟨hA,hu⟩))
theorem Step.comp(h1:Step room disk used σ A σ1 A1)(h2:Step room disk used σ1 B σ2 B1):Step room disk used σ (fun x=>A x\/(B x/\¬A1 x)) σ2 (fun x=>(A1 x/\¬B x)\/B1 x):=by
 have hnew:∀x,x∈σ.mine->¬A x->¬A1 x:=fun x hm hA hA1=>by
  rcases h1.new x hA1 with h | h
  ·exact hA h
  ·exact h (.inl hm)
 refine⟨h2.ap,fun x=> ?_,fun x hx hu=> ?_,fun x hx=> ?_⟩
 ·rw[h2.mem,h1.mem]
  have hn:=hnew x
  by_cases a:A x<;>by_cases a1:A1 x<;>by_cases b:B x<;>by_cases b1:B1 x<;>by_cases m:x∈σ.mine<;>by_cases u:Rp.Mem used x<;>simp_all
 ·have hA:¬A x:=fun h=>hx (.inl h)
  have hA1:¬A1 x:=fun h=>by
   rcases h1.new x h with h | h
   ·exact hA h
   ·exact h hu
  have hB:¬B x:=fun h=>hx (.inr ⟨h,hA1⟩)
  rw[h2.keep x hB (h1.use hu hA),h1.keep x hA hu]
 ·rcases hx with⟨ha,hb⟩ | hb
  ·rcases h1.new x ha with h | h
   ·exact .inl (.inl h)
   ·exact .inr h
  ·rcases h2.new x hb with h | h
   ·by_cases ha:A1 x
    ·rcases h1.new x ha with h | h
     ·exact .inl (.inl h)
     ·exact .inr h
    ·exact .inl (.inr ⟨h,ha⟩)
   ·by_cases ha:A x
    ·exact .inl (.inl ha)
    ·exact .inr fun hu=>h (h1.use hu ha)
theorem Step.congr{A' A1':Int->Prop}(h:Step room disk used σ A σ1 A1)(h1:∀x,A x ↔ A' x)(h2:∀x,A1 x ↔ A1' x):Step room disk used σ A' σ1 A1':=
 ⟨h.ap,fun x=>by rw[h.mem,h1,h2],fun x hx=>h.keep x (fun hh=>hx ((h1 x).1 hh)),fun x hx=>(h.new x ((h2 x).2 hx)).imp_left (h1 x).1⟩
theorem jU{x:Int}(h:x∈σ.mine):σ.view disk x=σ.nd x:=if_pos h
theorem jV(h:ApS room used σ){x:Int}(hx:Rp.Mem used x):σ.view disk x=disk x:=by
 unfold Pst.view
 have hr:=h.hu x hx
 have hf:Rp.has σ.free x=false:=Rp.qW fun hf=>h.fu x hf hx
 rw[if_neg (h.um x hx),if_pos ⟨hr.1,hr.2,hf⟩]
theorem iC(h:ApS room used σ){x:Int}(hu:Use used σ x):2<=x/\x<room:=by
 have hp:=h.pg
 rcases hu with hu | hu
 ·have:=h.hm x hu;omega
 ·have:=h.hu x hu;omega
def spare(room:Int)(used:List Run):Int:=room-2-((Rp.nums used).length:Int)
theorem NU(h:ApS room used σ)(ha:dF room σ=none):spare room used<=(σ.mine.length:Int):=by
 unfold dF at ha
 have ha2:eY σ.free σ.pages room=none:=by
  cases hv:eY σ.free σ.pages room with
  |none=>rfl
  |some p=>rw[hv]at ha;cases ha
 unfold eY at ha2
 cases hf:Rp.least σ.free with
 |some id=>rw[hf]at ha2;cases ha2
 |none=>
  rw[hf]at ha2
  simp only at ha2
  have hp:room<=σ.pages:=by
   by_cases hp:room<=σ.pages
   ·exact hp
   ·rw[if_neg hp]at ha2;cases ha2
  have hpg:=h.pg
  have hno:=Rp.NJ h.cf hf
  have hsub:(List.range (room-2).toNat).map (fun i:Nat=>2+(i:Int)) ⊆ σ.mine++Rp.nums used:=fun x hx=>by
   obtain⟨i,hi,rfl⟩:=List.mem_map.1 hx
   rw[List.mem_range]at hi
   rw[List.mem_append,Rp.oV]
   rcases h.all (2+(i:Int)) (by omega) (by omega)with h1 | h1 | h1
   ·exact absurd h1 (hno _)
   ·exact .inr h1
   ·exact .inl h1
  have hl:=List.Nodup.length_le_of_subset (Rp.yV 2 _) hsub
  rw[List.length_append]at hl
  unfold spare
  simp only[List.length_map,List.length_range]at hl
  omega
theorem BQ(h:ApS room used σ){id:Int}(ha:dF room σ=some (id,σ1)):
  Step room disk used σ (fun _=>False) σ1 (fun x=>x=id)/\σ1.mine=σ.mine++ [id]/\¬Use used σ id:=by
 unfold dF at ha
 cases hv:eY σ.free σ.pages room with
 |none=>rw[hv]at ha;cases ha
 |some p=>
  obtain⟨id',fr,p'⟩:=p
  rw[hv]at ha
  simp only[Option.some.injEq,Prod.mk.injEq]at ha
  obtain⟨rfl,rfl⟩:=ha
  have key:id' ∉ σ.mine/\Rp.has used id'=false/\Rp.Ap room fr used (σ.mine++ [id']) p':=by
   unfold eY at hv
   cases hf:Rp.least σ.free with
   |some id=>
    rw[hf]at hv
    simp only[Option.some.injEq,Prod.mk.injEq]at hv
    obtain⟨rfl,rfl,rfl⟩:=hv
    obtain⟨h1,h2,_,_,h5⟩:=h.free (id:=id) hf
    exact⟨h1,h2,h5⟩
   |none=>
    rw[hf]at hv
    simp only at hv
    by_cases hp:room<=σ.pages
    ·rw[if_pos hp]at hv;cases hv
    ·rw[if_neg hp]at hv
     simp only[Option.some.injEq,Prod.mk.injEq]at hv
     obtain⟨rfl,rfl,rfl⟩:=hv
     exact h.fresh (by omega)
  obtain⟨k1,k2,k3⟩:=key
  have hnu:¬Rp.Mem used id':=fun hu=>by
   have hr:=h.hu id' hu
   have hpg:=h.pg
   have:Rp.has used id'=true:=(Rp.zX _ _).2 ⟨by omega,by unfold Rp.Most;omega,hu⟩
   rw[k2]at this;cases this
  refine⟨⟨k3,fun x=> ?_,fun x _ hu=> ?_,fun x hx=> ?_⟩,rfl, ?_⟩
  ·simp only[List.mem_append,List.mem_singleton,not_false_eq_true,and_true]
   constructor
   ·rintro(hx | rfl)
    ·exact .inl hx
    ·exact .inr ⟨rfl,hnu⟩
   ·rintro(hx | ⟨hx,_⟩)
    ·exact .inl hx
    ·exact .inr hx
  ·rcases hu with hu | hu
   ·have hne:x≠id':=fun e=>k1 (e ▸ hu)
    rw[jU (σ:=σ) hu]
    rw[jU (σ:=⟨fr,p',σ.mine++ [id'],_⟩) (List.mem_append_left _ hu)]
    show(if x=id' then none else σ.nd x)=_
    rw[if_neg hne]
   ·rw[jV h hu]
    exact jV (σ:=⟨fr,p',σ.mine++ [id'],_⟩) k3 hu
  ·subst hx
   exact .inr fun hu=>hu.elim k1 hnu
  ·exact fun hu=>hu.elim k1 hnu
theorem JO(h:ApS room used σ){id:Int}(hid:id∈σ.mine)(n:Node):Step room disk used σ (fun x=>x=id) (σ.put id n) (fun x=>x=id)/\(σ.put id n).view disk id=some n:=by
 refine⟨⟨h,fun x=> ?_,fun x hx hu=> ?_,fun x hx=> .inl hx⟩, ?_⟩
 ·show x∈σ.mine ↔ _
  constructor
  ·intro hx
   by_cases e:x=id
   ·exact .inr ⟨e,fun hu=>h.um x hu hx⟩
   ·exact .inl ⟨hx,e⟩
  ·rintro(⟨hx,_⟩ | ⟨rfl,_⟩)
   ·exact hx
   ·exact hid
 ·unfold Pst.view Pst.put
  simp only[if_neg hx]
 ·unfold Pst.view Pst.put
  simp only[if_pos hid,if_true]
theorem Hr(h:ApS room used σ){id pg:Int}{n:Node}(hs:dY room σ id n=(.ok pg,σ1)):
  Step room disk used σ (fun x=>x=id) σ1 (fun x=>x=pg)/\σ1.view disk pg=some n/\fits n=true/\σ1.mine.length<=σ.mine.length+1:=by
 unfold dY at hs
 cases hf:fits n with
 |false=>rw[hf]at hs;simp at hs
 |true=>
  rw[hf]at hs
  simp only[Bool.true_eq_false,if_false]at hs
  by_cases hid:id∈σ.mine
  ·rw[if_pos hid]at hs
   simp only[Prod.mk.injEq,Except.ok.injEq]at hs
   obtain⟨rfl,rfl⟩:=hs
   obtain⟨h1,h2⟩:=JO (disk:=disk) h hid n
   exact⟨h1,h2,rfl,Nat.le_succ _⟩
  ·rw[if_neg hid]at hs
   cases ha:dF room σ with
   |none=>rw[ha]at hs;simp at hs
   |some p=>
    obtain⟨id',σ'⟩:=p
    rw[ha]at hs
    simp only[Prod.mk.injEq,Except.ok.injEq]at hs
    obtain⟨rfl,rfl⟩:=hs
    obtain⟨h1,h2,h3⟩:=BQ (disk:=disk) h ha
    obtain⟨h4,h5⟩:=JO (disk:=disk) h1.ap (id:=id') (by rw[h2];simp) n
    refine⟨⟨h4.ap,fun x=> ?_,fun x hx hu=> ?_,fun x hx=> .inr (hx ▸ h3)⟩,h5,rfl,by show σ'.mine.length<=_;rw[h2];simp⟩
    ·have e:=(h1.comp h4).mem x
     rw[e]
     constructor
     ·rintro(⟨m,_⟩ | ⟨hx,hu⟩)
      ·exact .inl ⟨m,fun e=>hid (e ▸ m)⟩
      ·rcases hx with⟨hx,_⟩ | hx<;>exact .inr ⟨hx,hu⟩
     ·rintro(⟨m,_⟩ | ⟨hx,hu⟩)
      ·exact .inl ⟨m,fun hh=>by
        rcases hh with hh | ⟨hh,hn⟩
        ·exact hh
        ·exact hn hh⟩
      ·exact .inr ⟨.inr hx,hu⟩
    ·refine(h1.comp h4).keep x (fun hh=> ?_) hu
     rcases hh with hh | ⟨hh,hn⟩
     ·exact hh
     ·exact hn hh
theorem JQ(h:ApS room used σ){id e:Int}{n:Node}(hn:fits n=true)(hs:dY room σ id n=(.error e,σ1)):e=2/\σ1=σ/\spare room used<=(σ.mine.length:Int):=by
 unfold dY at hs
 rw[hn]at hs
 simp only[Bool.true_eq_false,if_false]at hs
 by_cases hid:id∈σ.mine
 ·rw[if_pos hid]at hs;simp at hs
 ·rw[if_neg hid]at hs
  cases ha:dF room σ with
  |none=>
   rw[ha]at hs
   simp only[Prod.mk.injEq,Except.error.injEq]at hs
   exact⟨hs.1.symm,hs.2.symm,NU h ha⟩
  |some p=>rw[ha]at hs;simp at hs
theorem drop_step(h:ApS room used σ)(id:Int):Step room disk used σ (fun x=>x=id) (dK σ id) (fun _=>False)/\(dK σ id).mine.length<=σ.mine.length:=by
 have hm:∀x,x∈(σ.mine.filter fun x=>x != id) ↔ x∈σ.mine/\x≠id:=fun x=>by rw[List.mem_filter];simp
 refine⟨⟨?_,fun x=> ?_,fun x hx hu=> ?_,fun x hx=>hx.elim⟩,List.length_filter_le _ _⟩
 ·show Rp.Ap room (dK σ id).free used (dK σ id).mine (dK σ id).pages
  unfold dK
  simp only
  by_cases hid:id∈σ.mine
  ·rw[if_pos hid];exact h.dropped hid
  ·rw[if_neg hid,Rp.mV hid];exact h
 ·show x∈(σ.mine.filter fun x=>x != id) ↔ _
  rw[hm];simp
 ·rcases hu with hu | hu
  ·rw[jU hu,jU (σ:=dK σ id) ((hm x).2 ⟨hu,hx⟩)]
   rfl
  ·rw[jV h hu]
   refine jV (room:=room) (σ:=dK σ id) ?_ hu
   show Rp.Ap room (dK σ id).free used (dK σ id).mine (dK σ id).pages
   unfold dK
   simp only
   by_cases hid:id∈σ.mine
   ·rw[if_pos hid];exact h.dropped hid
   ·rw[if_neg hid,Rp.mV hid];exact h
end
end Tp
namespace Tp
open Nd En
structure Sub where
 id:Int
 ids:List Int
 es:List En.Ent
 tok:Nat
def qo(lo:Option Str)(k:Str):Prop:=∀a,lo=some a->lt k a=false
def oZ(hi:Option Str)(k:Str):Prop:=∀b,hi=some b->lt k b=true
def tZ(lo' lo:Option Str):Prop:=∀k,qo lo k->qo lo' k
def wS(hi hi':Option Str):Prop:=∀k,oZ hi k->oZ hi' k
theorem tZ.refl(lo:Option Str):tZ lo lo:=fun _ h=>h
theorem wS.refl(hi:Option Str):wS hi hi:=fun _ h=>h
theorem jB{a k:Str} :qo (some a) k ↔ lt k a=false:=⟨fun h=>h a rfl,fun h b e=>by cases e;exact h⟩
theorem iQ{a k:Str} :oZ (some a) k ↔ lt k a=true:=⟨fun h=>h a rfl,fun h b e=>by cases e;exact h⟩
theorem not_lt_trans{a b c:Str}(h:lt b a=false)(h':lt c b=false):lt c a=false:=by
 cases e:lt c a with
 |false=>rfl
 |true=>
  rcases yQ h with h1 | h1
  ·subst h1;rw[h']at e;cases e
  ·have:=lt_trans e h1;rw[h']at this;cases this
theorem qo.up{lo:Option Str}{y k:Str}(h:qo lo y)(hk:lt k y=false):qo lo k:=fun a e=>not_lt_trans (h a e) hk
theorem oZ.down{hi:Option Str}{z k:Str}(h:oZ hi z)(hk:lt z k=false):oZ hi k:=fun b e=>by
 have hz:=h b e
 rcases yQ hk with h1 | h1
 ·subst h1;exact hz
 ·exact lt_trans h1 hz
theorem tZ.of{lo:Option Str}{k:Str}(h:qo lo k):tZ lo (some k):=fun _ hj=>h.up (jB.1 hj)
theorem wS.of{hi:Option Str}{k:Str}(h:oZ hi k):wS (some k) hi:=fun _ hj=>h.down (uV (iQ.1 hj))
abbrev Ht:=Option Str->Option Str->Sub->Prop
def Chain(P:Ht):Option Str->Option Str->List Sub->List Str->Prop
 |lo,hi, [s], []=>P lo hi s
 |lo,hi,s::rest,k::ks=>P lo (some k) s/\Chain P (some k) hi rest ks
 |_,_,_,_=>False
def aI(l:List Sub):List Int:=l.flatMap (·.ids)
def es_(l:List Sub):List En.Ent:=l.flatMap (·.es)
def toks(l:List Sub):Nat:=(l.map (·.tok)).sum
theorem gI(a b:List Sub):es_ (a++b)=es_ a++es_ b:=by unfold es_;rw[List.flatMap_append]
theorem dI(a b:List Sub):aI (a++b)=aI a++aI b:=by unfold aI;rw[List.flatMap_append]
theorem fQ(a b:List Sub):toks (a++b)=toks a+toks b:=by unfold toks;rw[List.map_append,List.sum_append]
theorem kE(s:Sub)(b:List Sub):es_ (s::b)=s.es++es_ b:=by unfold es_;rw[List.flatMap_cons]
theorem wU(s:Sub)(b:List Sub):aI (s::b)=s.ids++aI b:=by unfold aI;rw[List.flatMap_cons]
theorem lY(s:Sub)(b:List Sub):toks (s::b)=s.tok+toks b:=by unfold toks;rw[List.map_cons,List.sum_cons]
structure Good(P:Ht):Prop where
 mono:∀ {lo hi lo' hi' s},tZ lo' lo->wS hi hi'->P lo hi s->P lo' hi' s
 ne:∀ {lo hi s},P lo hi s->s.es≠ []
 inn:∀ {lo hi s},P lo hi s->∀x∈s.es,qo lo x.1/\oZ hi x.1
 srt:∀ {lo hi s},P lo hi s->En.right s.es=true
section
variable {P:Ht}{lo hi lo' hi':Option Str}{s:Sub}{subs a b:List Sub}{k:Str}{keys ka kb:List Str}
theorem SE:Chain P lo hi [s] [] ↔ P lo hi s:=Iff.rfl
theorem aJ:Chain P lo hi (s::subs) (k::keys) ↔ P lo (some k) s/\Chain P (some k) hi subs keys:=by
 cases subs<;>exact Iff.rfl
theorem eG:∀ {subs:List Sub} {keys:List Str} {lo:Option Str},Chain P lo hi subs keys->keys.length+1=subs.length
 | [s], [],_,_=>rfl
 |s::rest,k::ks,_,h=>by
  have:=eG (aJ.1 h).2
  simp only[List.length_cons];omega
 | [],_,_,h=>by cases h
 |_::_::_, [],_,h=>by cases h
theorem JR(h:Chain P lo hi subs keys):subs≠ []:=fun e=>by subst e;cases h
theorem vF(G:Good P):∀ {subs:List Sub} {keys:List Str} {lo lo':Option Str},tZ lo' lo->wS hi hi'->Chain P lo hi subs keys->Chain P lo' hi' subs keys
 | [s], [],_,_,h1,h2,h=>G.mono h1 h2 h
 |s::rest,k::ks,_,_,h1,h2,h=>by
  obtain⟨p,q⟩:=aJ.1 h
  exact aJ.2 ⟨G.mono h1 (wS.refl _) p,vF G (tZ.refl _) h2 q⟩
 | [],_,_,_,_,_,h=>by cases h
 |_::_::_, [],_,_,_,_,h=>by cases h
theorem fD:∀ {subs:List Sub} {keys:List Str} {lo:Option Str},Chain P lo hi subs keys->∀s∈subs,∃l h,P l h s
 | [s], [],lo,h,t,ht=>by rw[List.mem_singleton]at ht;subst ht;exact⟨lo,hi,h⟩
 |s::rest,k::ks,lo,h,t,ht=>by
  obtain⟨p,q⟩:=aJ.1 h
  rcases List.mem_cons.1 ht with rfl | ht
  ·exact⟨_,_,p⟩
  ·exact fD q t ht
 | [],_,_,h,_,_=>by cases h
 |_::_::_, [],_,h,_,_=>by cases h
theorem FB{l:List En.Ent}(h:l≠ []):∃x,x∈l:=by
 cases l with
 |nil=>exact absurd rfl h
 |cons x l=>exact⟨x,List.mem_cons_self⟩
theorem bV(G:Good P):∀ {subs:List Sub} {keys:List Str} {lo:Option Str},Chain P lo hi subs keys->(∃x,x∈es_ subs)/\(∀x∈es_ subs,qo lo x.1/\oZ hi x.1)/\(∀k∈keys,qo lo k/\oZ hi k)/\tY keys/\(∀k'∈keys,∀a,lo=some a->lt a k'=true)
 | [s], [],lo,h=>by
  have e:es_ [s]=s.es:=by simp[es_]
  rw[e]
  exact⟨FB (G.ne h),G.inn h,(fun k hk=>by cases hk),List.Pairwise.nil,(fun k hk=>by cases hk)⟩
 |s::rest,k::ks,lo,h=>by
  obtain⟨p,q⟩:=aJ.1 h
  obtain⟨⟨z,hz⟩,r2,r3,r4,r5⟩:=bV G q
  obtain⟨y,hy⟩:=FB (G.ne p)
  have hyk:=iQ.1 (G.inn p y hy).2
  have adF:=(G.inn p y hy).1
  have abA:qo lo k:=adF.up (uV hyk)
  have hzk:=jB.1 (r2 z hz).1
  have adG:oZ hi k:=(r2 z hz).2.down hzk
  rw[kE]
  refine⟨⟨y,List.mem_append_left _ hy⟩,fun x hx=> ?_,fun j hj=> ?_, ?_,fun j hj a e=> ?_⟩
  ·rcases List.mem_append.1 hx with hx | hx
   ·have:=G.inn p x hx
    exact⟨this.1,wS.of adG x.1 this.2⟩
   ·have:=r2 x hx
    exact⟨tZ.of abA x.1 this.1,this.2⟩
  ·rcases List.mem_cons.1 hj with rfl | hj
   ·exact⟨abA,adG⟩
   ·have:=r3 j hj
    exact⟨tZ.of abA j this.1,this.2⟩
  ·exact List.pairwise_cons.2 ⟨fun j hj=>r5 j hj k rfl,r4⟩
  ·have hak:lt a k=true:=JU (adF a e) hyk
   rcases List.mem_cons.1 hj with rfl | hj
   ·exact hak
   ·exact lt_trans hak (r5 j hj k rfl)
 | [],_,_,h=>by cases h
 |_::_::_, [],_,h=>by cases h
where
 JU {a y k:Str} (h:lt y a=false) (h':lt y k=true):lt a k=true:=by
  rcases yQ h with e | e
  ·subst e;exact h'
  ·exact lt_trans e h'
theorem Hu{l1 l2:List En.Ent}{k:Str}(h1:En.right l1=true)(h2:En.right l2=true)(ha:∀x∈l1,lt x.1 k=true)(hb:∀x∈l2,lt x.1 k=false):En.right (l1++l2)=true:=by
 obtain⟨a1,a2⟩:=(bF _).1 h1
 obtain⟨b1,b2⟩:=(bF _).1 h2
 refine(bF _).2 ⟨fun x hx=> ?_, ?_⟩
 ·rcases List.mem_append.1 hx with hx | hx
  ·exact a1 x hx
  ·exact b1 x hx
 ·unfold Srt at*
  rw[List.pairwise_append]
  exact⟨a2,b2,fun x hx y hy=>kL (ha x hx) (hb y hy)⟩
theorem zi(G:Good P):∀ {subs:List Sub} {keys:List Str} {lo:Option Str},Chain P lo hi subs keys->En.right (es_ subs)=true
 | [s], [],lo,h=>by
  have e:es_ [s]=s.es:=by simp[es_]
  rw[e];exact G.srt h
 |s::rest,k::ks,lo,h=>by
  obtain⟨p,q⟩:=aJ.1 h
  rw[kE]
  exact Hu (k:=k) (G.srt p) (zi G q) (fun x hx=>iQ.1 (G.inn p x hx).2) (fun x hx=>jB.1 ((bV G q).2.1 x hx).1)
 | [],_,_,h=>by cases h
 |_::_::_, [],_,h=>by cases h
theorem vG:∀ {a:List Sub} {ka:List Str} {lo:Option Str},Chain P lo (some k) a ka->Chain P (some k) hi b kb->Chain P lo hi (a++b) (ka++k::kb)
 | [s], [],_,h,h'=>aJ.2 ⟨h,h'⟩
 |s::rest,j::ks,_,h,h'=>by
  obtain⟨p,q⟩:=aJ.1 h
  exact aJ.2 ⟨p,vG q h'⟩
 | [],_,_,h,_=>by cases h
 |_::_::_, [],_,h,_=>by cases h
theorem FC:∀ {subs:List Sub} {keys:List Str} {lo:Option Str} {i:Nat},Chain P lo hi subs keys->i+1<subs.length->∃k,keys[i]? =some k/\Chain P lo (some k) (subs.take (i+1)) (keys.take i)/\Chain P (some k) hi (subs.drop (i+1)) (keys.drop (i+1))
 | [s], [],_,i,_,hi'=>by simp at hi'
 |s::rest,k::ks,lo,0,h,_=>by
  obtain⟨p,q⟩:=aJ.1 h
  exact⟨k,rfl,p,q⟩
 |s::rest,k::ks,lo,i+1,h,hi'=>by
  obtain⟨p,q⟩:=aJ.1 h
  obtain⟨j,h1,h2,h3⟩:=FC (i:=i) q (by simpa using hi')
  exact⟨j,by simpa using h1,by rw[List.take_succ_cons,List.take_succ_cons];exact aJ.2 ⟨p,h2⟩,by simpa using h3⟩
 | [],_,_,_,h,_=>by cases h
 |_::_::_, [],_,_,h,_=>by cases h
theorem kQ{P Q:Ht} :∀ {subs:List Sub} {keys:List Str} {lo hi:Option Str},(∀s∈subs,∀l h,P l h s->Q l h s)->Chain P lo hi subs keys->Chain Q lo hi subs keys
 | [s], [],_,_,hh,h=>hh s List.mem_cons_self _ _ h
 |s::rest,k::ks,_,_,hh,h=>by
  obtain⟨p,q⟩:=aJ.1 h
  exact aJ.2 ⟨hh s List.mem_cons_self _ _ p,kQ (fun t ht=>hh t (List.mem_cons_of_mem _ ht)) q⟩
 | [],_,_,_,_,h=>by cases h
 |_::_::_, [],_,_,_,h=>by cases h
theorem wV(G:Good P):∀ {subs:List Sub} {keys:List Str} {lo:Option Str} {i:Nat},Chain P lo hi subs keys->(hi':i<subs.length)->
  ∃l h,P l h subs[i]/\tZ lo l/\wS h hi/\(∀ (Q:Ht) parts pk,(∀s,(s∈subs.take i\/s∈subs.drop (i+1))->∀l h,P l h s->Q l h s)->Chain Q l h parts pk->Chain Q lo hi (subs.take i++parts++subs.drop (i+1)) (keys.take i++pk++keys.drop i))/\
   (∀key,qo l key->oZ h key->(∀x∈es_ (subs.take i),lt x.1 key=true)/\(∀x∈es_ (subs.drop (i+1)),lt key x.1=true))/\(∀key,child keys key=i->qo lo key->oZ hi key->qo l key/\oZ h key)
 | [s], [],lo,0,h,_=>⟨lo,hi,h,tZ.refl _,wS.refl _,fun Q parts pk _ hp=>by simpa using hp,fun key _ _=>⟨by simp[es_],by simp[es_]⟩,fun key _ h1 h2=>⟨h1,h2⟩⟩
 |s::rest,k::ks,lo,0,h,_=>by
  obtain⟨p,q⟩:=aJ.1 h
  obtain⟨_,r2,_,_,_⟩:=bV G q
  have hk:=((bV G h).2.2.1 k List.mem_cons_self)
  refine⟨lo,some k,p,tZ.refl _,wS.of hk.2,fun Q parts pk hQ hp=> ?_,fun key _ h2=>⟨by simp[es_],fun x hx=> ?_⟩,fun key hc h1 _=>⟨h1, ?_⟩⟩
  ·have:=vG hp (kQ (Q:=Q) (fun s hs=>hQ s (.inr (by simpa using hs))) q)
   simpa using this
  ·exact kL (iQ.1 h2) (jB.1 (r2 x (by simpa using hx)).1)
  ·unfold child at hc
   by_cases e:lt key k=true
   ·exact iQ.2 e
   ·rw[if_neg e]at hc;omega
 |s::rest,k::ks,lo,i+1,h,hi'=>by
  obtain⟨p,q⟩:=aJ.1 h
  have hk:=((bV G h).2.2.1 k List.mem_cons_self)
  obtain⟨l,hh,h1,h2,h3,h4,h5,h6⟩:=wV G (i:=i) q (by simpa using hi')
  refine⟨l,hh,h1,fun j hj=>tZ.of hk.1 j (h2 j hj),h3,fun Q parts pk hQ hp=> ?_,fun key g1 g2=>⟨fun x hx=> ?_,fun x hx=> ?_⟩,fun key hc g1 g2=> ?_⟩
  ·have:=h4 Q parts pk (fun s hs=>hQ s (by
    rcases hs with hs | hs
    ·exact .inl (by rw[List.take_succ_cons];exact List.mem_cons_of_mem _ hs)
    ·exact .inr (by simpa using hs))) hp
   simp only[List.take_succ_cons,List.drop_succ_cons,List.cons_append]
   exact aJ.2 ⟨hQ s (.inl (by rw[List.take_succ_cons];exact List.mem_cons_self)) _ _ p,this⟩
  ·rw[List.take_succ_cons,kE]at hx
   rcases List.mem_append.1 hx with hx | hx
   ·exact kL (iQ.1 (G.inn p x hx).2) (jB.1 (h2 key g1))
   ·exact(h5 key g1 g2).1 x hx
  ·exact(h5 key g1 g2).2 x (by simpa using hx)
  ·unfold child at hc
   by_cases e:lt key k=true
   ·rw[if_pos e]at hc;omega
   ·rw[if_neg e]at hc
    exact h6 key (by omega) (jB.2 (by simpa using e)) g2
 | [],_,_,_,h,_=>by cases h
 |_::_::_, [],_,_,h,_=>by cases h
 | [_], [],_,_+1,_,hi'=>by simp at hi'
theorem FD(G:Good P):∀ {subs:List Sub} {keys:List Str} {lo:Option Str} {i:Nat},Chain P lo hi subs keys->i<subs.length->1<subs.length->
  Chain P lo hi (subs.take i++subs.drop (i+1)) (keys.take (if 0<i then i-1 else i)++keys.drop (if i=0 then 1 else i))
 | [s], [],_,_,_,_,h1=>by simp at h1
 |s::rest,k::ks,lo,0,h,_,_=>by
  obtain⟨p,q⟩:=aJ.1 h
  have hk:=((bV G h).2.2.1 k List.mem_cons_self)
  have:=vF G (tZ.of hk.1) (wS.refl hi) q
  simpa using this
 | [s,t], [k],lo,1,h,_,_=>by
  obtain⟨p,q⟩:=aJ.1 h
  have hk:=((bV G h).2.2.1 k List.mem_cons_self)
  exact G.mono (tZ.refl _) (wS.of hk.2) p
 |s::t::u::r,k::j::ks,lo,1,h,_,_=>by
  obtain⟨p,q⟩:=aJ.1 h
  obtain⟨p2,q2⟩:=aJ.1 q
  have hkj:oZ (some j) k:=iQ.2 ((List.pairwise_cons.1 (bV G h).2.2.2.1).1 j List.mem_cons_self)
  exact aJ.2 ⟨G.mono (tZ.refl _) (wS.of hkj) p,q2⟩
 |s::rest,k::ks,lo,i+2,h,hi',h1=>by
  obtain⟨p,q⟩:=aJ.1 h
  have:=FD G (i:=i+1) q (by simp only[List.length_cons]at hi';omega) (by simp only[List.length_cons]at hi';omega)
  rw[if_pos (by omega),if_neg (by omega)]at this
  rw[if_pos (by omega),if_neg (by omega)]
  simp only[List.take_succ_cons,List.drop_succ_cons,List.cons_append,Nat.add_one_sub_one]at this ⊢
  exact aJ.2 ⟨p,this⟩
 | [],_,_,_,h,_,_=>by cases h
 |_::_::_, [],_,_,h,_,_=>by cases h
 | [_],_::_,_,1,_,h,_=>by simp at h
 | [_,_],_::_::_,_,1,h,_,_=>by
  have:=eG h
  simp at this
 |_::_::_::_, [_],_,1,h,_,_=>by
  have:=eG h
  simp at this
theorem FH(G:Good P):∀ {subs:List Sub} {keys:List Str} {lo:Option Str} {i:Nat},Chain P lo hi subs keys->(hi':i+1<subs.length)->
  ∃l h k,keys[i]? =some k/\P l (some k) subs[i]/\P (some k) h subs[i+1]/\(∀ (Q:Ht) s',(∀s,(s∈subs.take i\/s∈subs.drop (i+2))->∀l h,P l h s->Q l h s)->Q l h s'->Chain Q lo hi (subs.take i++ [s']++subs.drop (i+2)) (keys.take i++keys.drop (i+1)))
 | [s], [],_,_,_,h1=>by simp at h1
 |s::t::rest,k::ks,lo,0,h,_=>by
  obtain⟨p,q⟩:=aJ.1 h
  cases rest with
  |nil=>
   cases ks with
   |nil=>exact⟨lo,hi,k,rfl,p,q,fun Q s' _ hs=>by show Chain Q lo hi [s'] [];exact hs⟩
   |cons j ks=>have:=eG h;simp at this
  |cons u r=>
   cases ks with
   |nil=>have:=eG h;simp at this
   |cons j ks=>
    obtain⟨p2,q2⟩:=aJ.1 q
    exact⟨lo,some j,k,rfl,p,p2,fun Q s' hQ hs=>aJ.2 ⟨hs,kQ (Q:=Q) (fun s hs=>hQ s (.inr (by simpa using hs))) q2⟩⟩
 |s::rest,k::ks,lo,i+1,h,hi'=>by
  obtain⟨p,q⟩:=aJ.1 h
  obtain⟨l,hh,j,h1,h2,h3,h4⟩:=FH G (i:=i) q (by simpa using hi')
  refine⟨l,hh,j,by simpa using h1,h2,h3,fun Q s' hQ hs=> ?_⟩
  have:=h4 Q s' (fun s hs=>hQ s (by
    rcases hs with hs | hs
    ·exact .inl (by rw[List.take_succ_cons];exact List.mem_cons_of_mem _ hs)
    ·exact .inr (by simpa using hs))) hs
  simp only[List.take_succ_cons,List.drop_succ_cons,List.cons_append]
  exact aJ.2 ⟨hQ s (.inl (by rw[List.take_succ_cons];exact List.mem_cons_self)) _ _ p,this⟩
 | [],_,_,_,h,_=>by cases h
 |_::_::_, [],_,_,h,_=>by cases h
 | [_],_::_,_,0,_,h=>by simp at h
end
def Tr(v:Int->Option Node):Nat->Ht
 |0,lo,hi,s=>v s.id=some (aG s.es)/\s.ids= [s.id]/\fits (aG s.es)=true/\s.es≠ []/\(∀x∈s.es,qo lo x.1/\oZ hi x.1)/\s.es.length<=s.tok
 |h+1,lo,hi,s=>∃subs keys,v s.id=some (ah (subs.map (·.id)) keys)/\fits (ah (subs.map (·.id)) keys)=true/\s.ids=s.id::aI subs/\s.es=es_ subs/\toks subs<=s.tok/\(∀t∈subs,6 ^ h<=t.tok)/\Chain (Tr v h) lo hi subs keys
theorem bf{n:Node} :fits n=true ↔ right n=true/\size n<=240:=by unfold fits;rw[Bool.and_eq_true,decide_eq_true_eq]
theorem iF(v:Int->Option Node):∀h,Good (Tr v h)
 |0=>by
  refine⟨fun h1 h2 hs=> ?_,fun hs=>hs.2.2.2.1,fun hs=>hs.2.2.2.2.1,fun hs=> ?_⟩
  ·obtain⟨a,b,c,d,e,f⟩:=hs
   exact⟨a,b,c,d,fun x hx=>⟨h1 _ (e x hx).1,h2 _ (e x hx).2⟩,f⟩
  ·exact(eP.1 (bf.1 hs.2.2.1).1).1
 |h+1=>by
  have G:=iF v h
  refine⟨fun h1 h2 hs=> ?_,fun hs=> ?_,fun hs=> ?_,fun hs=> ?_⟩
  ·obtain⟨subs,keys,a,b,c,d,e,f,g⟩:=hs
   exact⟨subs,keys,a,b,c,d,e,f,vF G h1 h2 g⟩
  ·obtain⟨subs,keys,a,b,c,d,e,f,g⟩:=hs
   rw[d]
   obtain⟨x,hx⟩:=(bV G g).1
   exact List.ne_nil_of_mem hx
  ·obtain⟨subs,keys,a,b,c,d,e,f,g⟩:=hs
   rw[d]
   exact(bV G g).2.1
  ·obtain⟨subs,keys,a,b,c,d,e,f,g⟩:=hs
   rw[d]
   exact zi G g
theorem iR{subs:List Sub}{s:Sub}(hs:s∈subs){x:Int}(hx:x∈s.ids):x∈aI subs:=by
 unfold aI;rw[List.mem_flatMap];exact⟨s,hs,hx⟩
theorem kR{v v':Int->Option Node} :∀ {h:Nat} {lo hi:Option Str} {s:Sub},(∀x∈s.ids,v' x=v x)->Tr v h lo hi s->Tr v' h lo hi s
 |0,_,_,s,hv,hs=>by
  obtain⟨a,b,c⟩:=hs
  exact⟨by rw[hv _ (by rw[b];exact List.mem_cons_self)];exact a,b,c⟩
 |h+1,_,_,s,hv,hs=>by
  obtain⟨subs,keys,a,b,c,d,e,f,g⟩:=hs
  refine⟨subs,keys,by rw[hv _ (by rw[c];exact List.mem_cons_self)];exact a,b,c,d,e,f,kQ (fun t ht l hh ht2=>kR (fun x hx=>hv x ?_) ht2) g⟩
  rw[c];exact List.mem_cons_of_mem _ (iR ht hx)
theorem o9{v:Int->Option Node}{h:Nat}{lo hi:Option Str}{s:Sub}(hs:Tr v h lo hi s):s.id∈s.ids:=by
 cases h with
 |zero=>rw[hs.2.1];exact List.mem_cons_self
 |succ h=>
  obtain⟨subs,keys,a,b,c,_⟩:=hs
  rw[c];exact List.mem_cons_self
def Res{α:Type}(room:Int)(disk:aA)(used:List Run)(σ:Pst)(A:Int->Prop)(N:Nat)(r:Except Int α × Pst)(Q:α->Pst->List Int->Prop):Prop:=
 (∃a ids,r.1= .ok a/\Step room disk used σ A r.2 (fun x=>x∈ids)/\ids.Nodup/\r.2.mine.length<=σ.mine.length+N/\Q a r.2 ids)\/
 (r.1= .error 2/\ApS room used r.2/\spare room used<=(σ.mine.length:Int)+N)
section
variable {room:Int}{disk:aA}{used:List Run}{σ σ1 σ2:Pst}{A A1 A2 B B1:Int->Prop}
theorem Step.shrink(h:Step room disk used σ A σ1 A1)(h1:∀x,A x->¬A2 x->¬Use used σ x)(h2:∀x,A2 x->A x):Step room disk used σ A2 σ1 A1:=by
 refine⟨h.ap,fun x=> ?_,fun x hx hu=>h.keep x (fun ha=>h1 x ha hx hu) hu,fun x hx=> ?_⟩
 ·rw[h.mem]
  constructor
  ·rintro(⟨m,a⟩ | r)
   ·exact .inl ⟨m,fun ha=>a (h2 x ha)⟩
   ·exact .inr r
  ·rintro(⟨m,a⟩ | r)
   ·exact .inl ⟨m,fun ha=>h1 x ha a (.inl m)⟩
   ·exact .inr r
 ·rcases h.new x hx with ha | hu
  ·by_cases ha2:A2 x
   ·exact .inl ha2
   ·exact .inr (h1 x ha ha2)
  ·exact .inr hu
theorem Step.apart(h:Step room disk used σ A σ1 A1){x:Int}(hu:Use used σ x)(hA:¬A x):¬A1 x:=fun hx=>by
 rcases h.new x hx with h1 | h1
 ·exact hA h1
 ·exact h1 hu
theorem Hw(h:ApS room used σ){x:Int}(hx:x<2):¬Use used σ x:=fun hu=>by have:=iC h hu;omega
theorem store_one(h:ApS room used σ)(f:Nat)(id:Int){n:Node}(hne:n.ents.length+n.kids.length≠0)(hn:fits n=true):
  Res room disk used σ (fun x=>x=id) 1 (aC room (f+1) σ id n) (fun p σ' ids=>∃pg,p=([pg], [])/\ids= [pg]/\σ'.view disk pg=some n):=by
 have hc:cut n=none:=by unfold cut;rw[if_neg (by have:=(bf.1 hn).2;omega)]
 unfold aC
 rw[if_neg hne,hc]
 simp only
 cases hs:dY room σ id n with
 |mk r σ'=>
  cases r with
  |ok pg=>
   obtain⟨h1,h2,_,h4⟩:=Hr (disk:=disk) h hs
   exact .inl ⟨([pg], []), [pg],rfl,h1.congr (fun _=>Iff.rfl) (fun x=>by simp),by simp,h4,pg,rfl,rfl,h2⟩
  |error e=>
   obtain⟨rfl,rfl,h3⟩:=JQ h hn hs
   exact .inr ⟨rfl,h,by omega⟩
theorem FI(h:ApS room used σ)(f:Nat)(id:Int){n a b:Node}{key:Str}(hne:n.ents.length+n.kids.length≠0)(hc:cut n=some (a,key,b))(ha:fits a=true)(hb:fits b=true)(ha0:a.ents.length+a.kids.length≠0)(hb0:b.ents.length+b.kids.length≠0):
  Res room disk used σ (fun x=>x=id) 2 (aC room (f+2) σ id n) (fun p σ' ids=>∃pa pb,p=([pa,pb], [key])/\ids= [pa,pb]/\σ'.view disk pa=some a/\σ'.view disk pb=some b):=by
 have h1:=store_one (disk:=disk) h f id ha0 ha
 unfold aC
 rw[if_neg hne,hc]
 simp only
 generalize aC room (f+1) σ id a=r1 at*
 obtain⟨r1,σ1⟩:=r1
 rcases h1 with⟨p1,Hy,e1,s1,n1,l1,pa,rfl,rfl,v1⟩ | ⟨e1,s1,l1⟩
 ·simp only at e1 s1 l1 v1
  subst e1
  have h2:=store_one (disk:=disk) s1.ap f 0 hb0 hb
  simp only
  generalize aC room (f+1) σ1 0 b=r2 at*
  obtain⟨r2,σ2⟩:=r2
  rcases h2 with⟨p2,abB,e2,s2,n2,l2,pb,rfl,rfl,v2⟩ | ⟨e2,s2,l2⟩
  ·simp only at e2 s2 l2 v2
   subst e2
   have upa:Use used σ1 pa:=s1.got (by simp)
   have upb:Use used σ2 pb:=s2.got (by simp)
   have ra:=iC s1.ap upa
   have rb:=iC s2.ap upb
   have hne2:pa≠pb:=fun e=>by
    have:=s2.apart upa (by omega)
    exact this (by simp[e])
   have hst:=(s1.comp s2).shrink (A2:=fun x=>x=id) (fun x hx hx2 hu=>by
    rcases hx with hx | ⟨hx,_⟩
    ·exact hx2 hx
    ·exact Hw h (by omega) hu) (fun x hx=> .inl hx)
   refine .inl ⟨([pa,pb], [key]), [pa,pb],rfl,hst.congr (fun _=>Iff.rfl) (fun x=> ?_),by simp[hne2],by simp only;omega,pa,pb,rfl,rfl, ?_,v2⟩
   ·simp only[List.mem_cons,List.not_mem_nil,or_false]
    constructor
    ·rintro(⟨hx,_⟩ | hx)
     ·exact .inl hx
     ·exact .inr hx
    ·rintro(hx | hx)
     ·exact .inl ⟨hx,by omega⟩
     ·exact .inr hx
   ·rw[s2.keep pa (by omega) upa];exact v1
  ·simp only at e2 s2 l2
   subst e2
   exact .inr ⟨rfl,s2,by omega⟩
 ·simp only at e1 s1 l1
  subst e1
  exact .inr ⟨rfl,s1,by omega⟩
end
theorem sW(all len:Nat)(hall:0<all):∀ (r:List En.Ent) (i n:Nat),i+r.length=len->r≠ []->0<i\/2<=r.length->(0<i->2*n<all+2*58)->(i=0->n=0)->(∀x∈r,esz x<=58)->
  ∃j,j<r.length/\kN all len i n r=i+j/\0<i+j/\2*(n+aK (r.take j))<all+2*58/\(all<=2*(n+aK (r.take j))\/i+j+1=len)
 | [],_,_,_,h,_,_,_,_=>absurd rfl h
 |x::r,i,n,hl,_,h2,hn,h0,hx=>by
  unfold kN
  by_cases hc:0<i/\(all<=2*n\/i+1=len)
  ·rw[if_pos hc]
   exact⟨0,by simp,rfl,by omega,by simpa[aK]using hn hc.1,by simpa[aK]using hc.2⟩
  ·rw[if_neg hc]
   have hr:r≠ []:=fun e=>by
    subst e
    simp only[List.length_cons,List.length_nil]at hl h2
    exact hc ⟨by omega,by omega⟩
   have hxs:=hx x List.mem_cons_self
   have hn2:2*(n+esz x)<all+2*58:=by
    by_cases hi:0<i
    ·have:¬all<=2*n:=fun h=>hc ⟨hi, .inl h⟩
     omega
    ·have:=h0 (by omega)
     subst this
     omega
   obtain⟨j,g1,g2,g3,g4,g5⟩:=sW all len hall r (i+1) (n+esz x) (by simp only[List.length_cons]at hl;omega) hr (.inl (by omega)) (fun _=>hn2) (by omega) (fun y hy=>hx y (List.mem_cons_of_mem _ hy))
   refine⟨j+1,by simpa using g1,by rw[g2];omega,by omega, ?_, ?_⟩
   ·rw[List.take_succ_cons,dD];omega
   ·rw[List.take_succ_cons,dD]
    rcases g5 with h | h
    ·exact .inl (by omega)
    ·exact .inr (by omega)
theorem Aj{x:En.Ent}(h:may x.1 x.2=true):esz x<=58:=by
 unfold may at h
 simp only[Bool.and_eq_true,decide_eq_true_eq]at h
 unfold esz;omega
theorem PW{k:Str}(h:may k ⟨#[]⟩=true):6<=ksz k/\ksz k<=21:=by
 unfold may at h
 simp only[Bool.and_eq_true,decide_eq_true_eq]at h
 unfold ksz;omega
theorem Zd{k v:Str}(h:may k v=true):may k ⟨#[]⟩=true:=by
 unfold may at h ⊢
 simp only[Bool.and_eq_true,decide_eq_true_eq]at h ⊢
 exact⟨h.1,by decide⟩
theorem sZ{a l:List En.Ent}(h:En.right l=true)(hs:a.Sublist l):En.right a=true:=by
 obtain⟨h1,h2⟩:=(bF l).1 h
 exact(bF a).2 ⟨fun x hx=>h1 x (hs.subset hx),h2.sublist hs⟩
theorem nR{l:List En.Ent}(h:En.right l=true)(hs:aK l<=240):fits (aG l)=true:=bf.2 ⟨eP.2 ⟨h,rfl,rfl⟩,hs⟩
theorem WC{l:List En.Ent}(hr:En.right l=true)(h1:240<aK l)(h2:aK l<=298):
  ∃ (k:Nat) (hk:k<l.length),0<k/\cut (aG l)=some (aG (l.take k),(l[k]).1,aG (l.drop k))/\fits (aG (l.take k))=true/\fits (aG (l.drop k))=true:=by
 obtain⟨hm,hsr⟩:=(bF l).1 hr
 have hx:∀x∈l,esz x<=58:=fun x hx=>Aj (hm x hx)
 have hlen:2<=l.length:=by
  have:=RF hm
  omega
 obtain⟨j,g1,g2,g3,g4,g5⟩:=sW (aK l) l.length (by omega) l 0 0 (by omega) (fun e=>by rw[e]at hlen;simp at hlen) (.inr hlen) (fun h=>absurd h (by omega)) (fun _=>rfl) hx
 simp only[Nat.zero_add]at g2 g3 g4 g5
 have hha:half l=j:=g2
 have hsum:aK (l.take j)+aK (l.drop j)=aK l:=by rw[<-jF,List.take_append_drop]
 have hdrop:aK (l.drop j)<=240:=by
  rcases g5 with h | h
  ·omega
  ·have:l.drop j= [l[j]]:=by
    rw[List.drop_eq_getElem_cons g1,List.drop_of_length_le (by omega)]
   rw[this]
   have:=hx _ (List.getElem_mem g1)
   simp only[aK,List.map_cons,List.map_nil,List.sum_cons,List.sum_nil];omega
 have hrt:right (aG l)=true:=eP.2 ⟨hr,rfl,rfl⟩
 refine⟨j,g1,g3, ?_,nR (sZ hr (List.take_sublist _ _)) (by omega),nR (sZ hr (List.drop_sublist _ _)) hdrop⟩
 unfold cut
 rw[if_pos (show 240<size (aG l)from h1)]
 unfold split
 rw[if_neg (by rw[hrt];show ¬ (true=false\/(l.length<2/\0<2));simp;omega)]
 rw[if_pos (show(aG l).leaf=true from rfl)]
 show(match l[half l]? with | none=>none | some x=>some (aG (l.take (half l)),x.1,aG (l.drop (half l))))=_
 rw[hha,List.getElem?_eq_getElem g1]
theorem je{kids:List Int}{keys:List Str}(h1:keys.length+1=kids.length)(h2:∀i∈kids,2<=i/\i<=4294967295)(h3:∀k∈keys,may k ⟨#[]⟩=true)(h4:tY keys):right (ah kids keys)=true:=
 aY.2 ⟨rfl,h1,h2,(jd _).2 ⟨h3,h4⟩⟩
theorem SG{kids:List Int}{keys:List Str}(h1:keys.length+1=kids.length)(h2:∀i∈kids,2<=i/\i<=4294967295)(h3:∀k∈keys,may k ⟨#[]⟩=true)(h4:tY keys)(h5:240<4+aF keys)(h6:aF keys<=257):
  ∃ (k:Nat) (key:Str),5<=k/\k+7<=kids.length/\keys[k]? =some key/\cut (ah kids keys)=some (ah (kids.take (k+1)) (keys.take k),key,ah (kids.drop (k+1)) (keys.drop (k+1)))/\
   fits (ah (kids.take (k+1)) (keys.take k))=true/\fits (ah (kids.drop (k+1)) (keys.drop (k+1)))=true:=by
 have hkl:=xR h3
 have hlen:12<=keys.length:=by omega
 obtain⟨k,hk⟩:∃k,kids.length / 2=k+1:=⟨kids.length / 2-1,by omega⟩
 have hkk:k<keys.length:=by omega
 have hsum:aF (keys.take k)+(ksz keys[k]+aF (keys.drop (k+1)))=aF keys:=by
  rw[<-gu, <-List.drop_eq_getElem_cons hkk, <-bK,List.take_append_drop]
 have hkz:=PW (h3 _ (List.getElem_mem hkk))
 have l6:∀ (a:List Str),(∀x∈a,may x ⟨#[]⟩=true)->6*a.length<=aF a:=fun a ha=>by
  induction a with
  |nil=>simp[aF]
  |cons x a ih=>
   rw[gu,List.length_cons]
   have:=ih fun y hy=>ha y (List.mem_cons_of_mem _ hy)
   have:=(PW (ha x List.mem_cons_self)).1
   omega
 have ht:=l6 (keys.take k) fun x hx=>h3 x (List.mem_of_mem_take hx)
 have hd:=l6 (keys.drop (k+1)) fun x hx=>h3 x (List.mem_of_mem_drop hx)
 rw[List.length_take]at ht
 rw[List.length_drop]at hd
 have hrt:right (ah kids keys)=true:=je h1 h2 h3 h4
 refine⟨k,keys[k],by omega,by omega,List.getElem?_eq_getElem hkk, ?_,bf.2 ⟨je ?_ (fun i hi=>h2 i (List.mem_of_mem_take hi)) (fun x hx=>h3 x (List.mem_of_mem_take hx)) (h4.sublist (List.take_sublist _ _)), ?_⟩,bf.2 ⟨je ?_ (fun i hi=>h2 i (List.mem_of_mem_drop hi)) (fun x hx=>h3 x (List.mem_of_mem_drop hx)) (h4.sublist (List.drop_sublist _ _)), ?_⟩⟩
 ·unfold cut
  rw[if_pos (show 240<size (ah kids keys)from h5)]
  unfold split
  rw[if_neg (by rw[hrt];show ¬ (true=false\/(0<2/\kids.length<2));simp;omega)]
  rw[if_neg (show ¬ (ah kids keys).leaf=true from by simp[ah])]
  show(match keys[kids.length / 2-1]? with | none=>none | some x=>some (ah (kids.take (kids.length / 2)) (keys.take (kids.length / 2-1)),x,ah (kids.drop (kids.length / 2)) (keys.drop (kids.length / 2))))=_
  rw[hk,Nat.add_one_sub_one,List.getElem?_eq_getElem hkk]
 ·rw[List.length_take,List.length_take];omega
 ·show 4+aF (keys.take k)<=240
  omega
 ·rw[List.length_drop,List.length_drop];omega
 ·show 4+aF (keys.drop (k+1))<=240
  omega
def PartsAt(v:Int->Option Node)(h:Nat)(lo hi:Option Str)(p:Part)(ids:List Int)(es:List En.Ent)(tok:Nat)(big:Prop):Prop:=
 (p=([], [])/\ids= []/\es= [])\/∃subs,p.1=subs.map (·.id)/\ids=aI subs/\es=es_ subs/\toks subs<=tok/\Chain (Tr v h) lo hi subs p.2/\(∀k∈p.2,may k ⟨#[]⟩=true)/\subs.length<=2/\((big\/subs.length≠1)->∀t∈subs,6 ^ h<=t.tok)
section
variable {room:Int}{disk:aA}{used:List Run}{σ σ1:Pst}{A A1 C:Int->Prop}
theorem Step.frame(hap:ApS room used σ)(h:Step room disk used σ A σ1 A1)(hC:∀x,C x->Use used σ x):Step room disk used σ (fun x=>A x\/C x) σ1 (fun x=>A1 x\/(C x/\¬A x)):=by
 refine⟨h.ap,fun x=> ?_,fun x hx hu=>h.keep x (fun ha=>hx (.inl ha)) hu,fun x hx=> ?_⟩
 ·rw[h.mem]
  have hc:=hC x
  have hum:=hap.um x
  unfold Use at hc
  by_cases a:A x<;>by_cases a1:A1 x<;>by_cases c:C x<;>by_cases m:x∈σ.mine<;>by_cases u:Rp.Mem used x<;>simp_all
 ·rcases hx with hx | ⟨hx,_⟩
  ·rcases h.new x hx with h1 | h1
   ·exact .inl (.inl h1)
   ·exact .inr h1
  ·exact .inl (.inr hx)
theorem vH(h:ApS room used σ)(id:Int){l:List En.Ent}{lo hi:Option Str}{tok:Nat}{big:Prop}(hr:En.right l=true)(hin:∀x∈l,qo lo x.1/\oZ hi x.1)(hs:aK l<=298)(h1:l.length<=tok):
  Res room disk used σ (fun x=>x=id) 2 (aC room (fA (aG l)) σ id (aG l)) (fun p σ' ids=>PartsAt (σ'.view disk) 0 lo hi p ids l tok big):=by
 have hfu:fA (aG l)=l.length+1:=rfl
 rw[hfu]
 cases hl:l with
 |nil=>
  obtain⟨d1,d2⟩:=drop_step (disk:=disk) h id
  refine .inl ⟨([], []), [],rfl,d1.congr (fun _=>Iff.rfl) (fun x=>by simp),List.nodup_nil, ?_, .inl ⟨rfl,rfl,rfl⟩⟩
  show(dK σ id).mine.length<=_
  omega
 |cons x0 r0=>
  rw[<-hl]
  have hne:(aG l).ents.length+(aG l).kids.length≠0:=by rw[hl];show _+1+0≠0;omega
  by_cases hs2:240<aK l
  ·obtain⟨k,hk,hk0,hc,f1,f2⟩:=WC hr hs2 hs
   have hlen:∃f,l.length+1=f+2:=⟨l.length-1,by omega⟩
   obtain⟨f,hf⟩:=hlen
   rw[hf]
   have hto:=FI (disk:=disk) h f id hne hc f1 f2 (by show(l.take k).length+0≠0;rw[List.length_take];omega) (by show(l.drop k).length+0≠0;rw[List.length_drop];omega)
   have hke:=List.getElem_mem hk
   have hsr:=((bF l).1 hr).2
   rcases hto with⟨p,ids,e1,e2,e3,e4,pa,pb,rfl,rfl,va,vb⟩ | hto
   ·refine .inl ⟨_,_,e1,e2,e3,e4, .inr ⟨[⟨pa, [pa],l.take k,k⟩,⟨pb, [pb],l.drop k,l.length-k⟩],rfl,rfl,by simp[es_],by simp[toks];omega,aJ.2 ⟨⟨va,rfl,f1, ?_,fun x hx=>⟨(hin x (List.mem_of_mem_take hx)).1,iQ.2 ?_⟩,List.length_take_le _ _⟩,⟨vb,rfl,f2, ?_,fun x hx=>⟨jB.2 ?_,(hin x (List.mem_of_mem_drop hx)).2⟩,Nat.le_of_eq List.length_drop⟩⟩,fun y hy=> ?_,by simp,fun _ t ht=> ?_⟩⟩
    ·intro e
     have e2:(l.take k).length=0:=congrArg List.length e
     rw[List.length_take]at e2
     omega
    ·obtain⟨j,hj,rfl⟩:=List.getElem_of_mem hx
     rw[List.length_take]at hj
     rw[List.getElem_take]
     exact List.pairwise_iff_getElem.1 hsr j k (by omega) hk (by omega)
    ·intro e
     have e2:(l.drop k).length=0:=congrArg List.length e
     rw[List.length_drop]at e2
     omega
    ·obtain⟨j,hj,rfl⟩:=List.getElem_of_mem hx
     rw[List.length_drop]at hj
     rw[List.getElem_drop]
     by_cases hj0:j=0
     ·subst hj0;exact lt_irrefl _
     ·exact uV (List.pairwise_iff_getElem.1 hsr k (k+j) hk (by omega) (by omega))
    ·rw[List.mem_singleton]at hy;subst hy
     exact Zd (((bF l).1 hr).1 _ hke)
    ·simp only[List.mem_cons,List.not_mem_nil,or_false]at ht
     rcases ht with rfl | rfl
     ·exact hk0
     ·show 1<=l.length-k
      omega
   ·exact .inr hto
  ·have ho:=store_one (disk:=disk) h l.length id hne (nR hr (by omega))
   rcases ho with⟨p,ids,e1,e2,e3,e4,pg,rfl,rfl,v1⟩ | ⟨e1,e2,e3⟩
   ·refine .inl ⟨_,_,e1,e2,e3,by omega, .inr ⟨[⟨pg, [pg],l,tok⟩],rfl,rfl,by simp[es_],by simp[toks],⟨v1,rfl,nR hr (show aK l<=240 by omega),(show l≠ []by rw[hl];simp),hin,h1⟩,fun y hy=>(by cases hy),by simp,fun _ t ht=> ?_⟩⟩
    rw[List.mem_singleton]at ht;subst ht
    show 1<=tok
    rw[hl,List.length_cons]at h1;omega
   ·exact .inr ⟨e1,e2,by omega⟩
end
end Tp
namespace Go.Proofs.YteppebbmnojapaaGreatDoor
open Go.RowKit Go.Shelf
theorem Blk.kS{w:World}{g:Nat}{ty:TypeId}{a b c d:Value}(h:Blk w g ty #[a,b,c,d])(a' b' c' d':Value):Blk ((((w.setCell ⟨g,0,none⟩ a').setCell ⟨g,1,none⟩ b').setCell ⟨g,2,none⟩ c').setCell ⟨g,3,none⟩ d') g ty #[a',b',c',d']:=by
 have:=(((h.aW 0 a').aW 1 b').aW 2 c').aW 3 d'
 simpa using this
theorem Blk.adH{w:World}{g g':Nat}{ty:TypeId}{cs:Array Value}(h:Blk w g ty cs)(hne:g≠g')(a' b' c' d':Value):Blk ((((w.setCell ⟨g',0,none⟩ a').setCell ⟨g',1,none⟩ b').setCell ⟨g',2,none⟩ c').setCell ⟨g',3,none⟩ d') g ty cs:=(((h.far hne a').far hne b').far hne c').far hne d'
theorem Fr.kS{w:World}{g:Nat}{S:Nat->Prop}(hg:S g)(a' b' c' d':Value):Fr S w ((((w.setCell ⟨g,0,none⟩ a').setCell ⟨g,1,none⟩ b').setCell ⟨g,2,none⟩ c').setCell ⟨g,3,none⟩ d'):=
 ((Fr.aW hg _).trans (Fr.aW hg _)).trans ((Fr.aW hg _).trans (Fr.aW hg _))
def JV:Nd.Node:=⟨false, [], [], []⟩
theorem WE(lo:Nat)(w:World):NF lo w (.agg #[.bool false, .slice none 0 0, .slice none 0 0, .slice none 0 0]) JV:=⟨none,0,none,0,none,0,rfl,LO.nil_ _ _,LO.nil_ _ _,LO.nil_ _ _⟩
theorem JW(v:Value)(n:Nd.Node)(hrt:Nd.right n=true)(he:n.ents.length<2)(hi:n.kids.length<2)(w:World)(h:NS w v n)(hb:NB n):
  Calls Tryz.prog 265 #[v] w fun e w'=>∃va vb,e= .returned (.tuple #[va, .string ⟨#[]⟩,vb])/\NF w.heap.size w' va n/\NF w.heap.size w' vb JV/\Below w.heap.size w w':=by
 obtain⟨Ae,ce,Ai,ci,Ay,cy,rfl,h1,h2,h3⟩:=h
 unfold aP
 have hB1:=((Blk.new w 146 #[.bool n.leaf, .slice Ae n.ents.length ce, .slice Ai n.kids.length ci, .slice Ay n.keys.length cy]).alloc (.cells #[.bool false, .slice none 0 0, .slice none 0 0, .slice none 0 0] 146)).alloc (.cells #[.bool false, .slice none 0 0, .slice none 0 0, .slice none 0 0] 146)
 have hB2:=(Blk.new (w.alloc (.cells #[.bool n.leaf, .slice Ae n.ents.length ce, .slice Ai n.kids.length ci, .slice Ay n.keys.length cy] 146)) 146 #[.bool false, .slice none 0 0, .slice none 0 0, .slice none 0 0]).alloc (.cells #[.bool false, .slice none 0 0, .slice none 0 0, .slice none 0 0] 146)
 have hB4:=Blk.new ((w.alloc (.cells #[.bool n.leaf, .slice Ae n.ents.length ce, .slice Ai n.kids.length ci, .slice Ay n.keys.length cy] 146)).alloc (.cells #[.bool false, .slice none 0 0, .slice none 0 0, .slice none 0 0] 146)) 146 #[.bool false, .slice none 0 0, .slice none 0 0, .slice none 0 0]
 have hx1:=(Below.refl w.heap.size w).alloc (Nat.le_refl _) (.cells #[.bool n.leaf, .slice Ae n.ents.length ce, .slice Ai n.kids.length ci, .slice Ay n.keys.length cy] 146)
 have hx2:=hx1.alloc hx1.size (.cells #[.bool false, .slice none 0 0, .slice none 0 0, .slice none 0 0] 146)
 have hx3:=hx2.alloc hx2.size (.cells #[.bool false, .slice none 0 0, .slice none 0 0, .slice none 0 0] 146)
 have hns:∀W,Below w.heap.size w W->NS W (.agg #[.bool n.leaf, .slice Ae n.ents.length ce, .slice Ai n.kids.length ci, .slice Ay n.keys.length cy]) n:=fun W hbW=>⟨Ae,ce,Ai,ci,Ay,cy,rfl,h1.up hbW,h2.up hbW,h3.up hbW⟩
 have HR:=Lib.hid (fun W hbW=>jT _ n W (hns W hbW) hb)
 have HCP:=Lib.hid (fun W hbW=>BP _ n W (hns W hbW) hb)
 rw[hrt]at HR
 simp only[World.size_alloc]at hB2 hB4
 have hzz:(((w.alloc (.cells #[.bool n.leaf, .slice Ae n.ents.length ce, .slice Ai n.kids.length ci, .slice Ay n.keys.length cy] 146)).alloc (.cells #[.bool false, .slice none 0 0, .slice none 0 0, .slice none 0 0] 146)).alloc (.cells #[.bool false, .slice none 0 0, .slice none 0 0, .slice none 0 0] 146)).heap.size=w.heap.size+3:=by simp
 have HX:=Lib.hid hx3
 have HB1:=Lib.hid hB1
 have HB2:=Lib.hid hB2
 have HB4:=Lib.hid hB4
 have hl1:=hB1.lt
 have cc0:=hB1.cell 0
 have cc1:=hB1.cell 1
 have cc2:=hB1.cell 2
 have cc3:=hB1.cell 3
 obtain⟨ND,hND⟩:∃x:Nd.Node,x=n:=⟨_,rfl⟩
 have HND:=Lib.hid hND
 have hHG:∀lo W v,NF lo W v n->NF lo W v ND:=fun lo W v h=>by rw[hND];exact h
 have HHG:=Lib.hid hHG
 have hq:(fun e w'=>∃va vb,e=Ending.returned (.tuple #[va, .string ⟨#[]⟩,vb])/\NF w.heap.size w' va n/\NF w.heap.size w' vb JV/\Below w.heap.size w w')=(fun e w'=>∃va vb,e=Ending.returned (.tuple #[va, .string ⟨#[]⟩,vb])/\NF w.heap.size w' va ND/\NF w.heap.size w' vb JV/\Below w.heap.size w w'):=by rw[hND]
 rw[hq]
 clear hb hns hrt hB1 hB2 hB4 hx1 hx2 hND hHG hq
 go_enter Tryz.func265,Tryz.ntmps265
 go_wp2_with fail
 refine(HR.out _ (by exact hx3)).mono ?_
 rintro e w1 ⟨rfl,hb1⟩
 have hz1:w.heap.size+3<=w1.heap.size:=by have:=hb1.size;omega
 have mW:Below w.heap.size w w1:=HX.out.trans (hb1.mono (by omega))
 have hB1:=HB1.out.below hb1 (by omega)
 have hB2:=HB2.out.below hb1 (by omega)
 have hB4:=HB4.out.below hb1 (by omega)
 have hl1:=hB1.lt
 have cc0:=hB1.cell 0
 have cc1:=hB1.cell 1
 have cc2:=hB1.cell 2
 have cc3:=hB1.cell 3
 clear hb1
 go_wp2_with fail
 refine(HCP.out _ mW).mono ?_
 rintro e w2 ⟨v',rfl,hnf,hb2⟩
 have af2:=mW.trans (hb2.mono (by omega))
 have hz2:w.heap.size+3<=w2.heap.size:=by have:=hb2.size;omega
 have hB2:=hB2.below hb2 (by omega)
 have hB4:=hB4.below hb2 (by omega)
 obtain⟨A1,k1,A2,k2,A3,k3,rfl,r⟩:=hnf
 have d0:=hB2.cell 0
 have d1:=hB2.cell 1
 have d2:=hB2.cell 2
 have d3:=hB2.cell 3
 have e0:=hB4.cell 0
 have e1:=hB4.cell 1
 have e2:=hB4.cell 2
 have e3:=hB4.cell 3
 have f0:=hB2.frozen 0
 have f1:=hB2.frozen 1
 have f2:=hB2.frozen 2
 have f3:=hB2.frozen 3
 have g0:=hB4.frozen 0
 have g1:=hB4.frozen 1
 have g2:=hB4.frozen 2
 have g3:=hB4.frozen 3
 have hl2:=hB2.lt
 have hl4:=hB4.lt
 have H2:=Lib.hid hB2
 have H4:=Lib.hid hB4
 have HR:=Lib.hid r
 clear hB1 hB2 hB4 hb2 mW r
 unfold aP
 go_wp2
 try simp only[Exit.inBlock,Exit.then]
 refine bodyPost_ret (jK aN aN rfl rfl ((H2.out.kS _ _ _ _).adH (by omega) _ _ _ _) rfl rfl ((H4.out.adH (by omega) _ _ _ _).kS _ _ _ _) rfl) rfl ?_
 have hfr:∀a b c d a' b' c' d',Fr (fun k=>k=w.heap.size+1\/k=w.heap.size+1+1) w2 _:=fun a b c d a' b' c' d'=>(Fr.kS (w:=w2) (g:=w.heap.size+1) (.inl rfl) a b c d).trans (Fr.kS (g:=w.heap.size+1+1) (.inr rfl) a' b' c' d')
 exact⟨_,_,rfl,HHG.out _ _ _ (NF.lower (NF.fr ⟨A1,k1,A2,k2,A3,k3,rfl,HR.out⟩ (hfr _ _ _ _ _ _ _ _) (fun k hk=>by omega)) (by omega)),WE _ _,af2.trans ((hfr _ _ _ _ _ _ _ _).low (by omega) (fun k hk=>by omega))⟩
def adI(n:Nd.Node)(w:World)(e:Ending)(w':World):Prop:=∃va vb key a b,e= .returned (.tuple #[va, .string key,vb])/\NF w.heap.size w' va a/\NF w.heap.size w' vb b/\Below w.heap.size w w'/\(Nd.split n=some (a,key,b)\/(Nd.split n=none/\key=⟨#[]⟩/\n.ents.length<2/\n.kids.length<2))
theorem Ze{l:List Ent}(h:En.right l=true)(h2:2<=l.length):0<Nd.half l/\Nd.half l<l.length:=by
 have hm:=((En.bF l).1 h).1
 have hl:=Nd.iM l
 obtain⟨j,g1,g2,g3,_,_⟩:=Tp.sW (Nd.aK l) l.length (by omega) l 0 0 (by omega) (fun e=>by subst e;simp at h2) (.inr h2) (fun h=>absurd h (by omega)) (fun _=>rfl) (fun x hx=>Tp.Aj (hm x hx))
 unfold Nd.half
 rw[g2]
 omega
theorem SH(v:Value)(n:Nd.Node)(hrt:Nd.right n=true)(w:World)(h:NS w v n)(hb:NB n):Calls Tryz.prog 265 #[v] w (adI n w):=by
 by_cases h2:n.ents.length<2/\n.kids.length<2
 ·refine(JW v n hrt h2.1 h2.2 w h hb).mono ?_
  rintro e w' ⟨va,vb,rfl,a1,a2,a3⟩
  exact⟨va,vb,_,n,JV,rfl,a1,a2,a3, .inr ⟨by unfold Nd.split;rw[if_pos (.inr h2)],rfl,h2⟩⟩
 ·cases hlf:n.leaf with
  |true=>
   have h3:En.right n.ents=true/\n.kids= []/\n.keys= []:=by
    obtain⟨leaf,ents,kids,keys⟩:=n
    obtain rfl:leaf=true:=hlf
    exact Nd.eP.1 hrt
   have hle:2<=n.ents.length:=by
    have:n.kids.length=0:=by rw[h3.2.1];rfl
    omega
   have hk:=(Ze h3.1 hle).2
   refine(NT v n hlf hrt hle _ rfl hk _ rfl w h hb).mono ?_
   rintro e w' ⟨va,vb,rfl,a1,a2,a3⟩
   refine⟨va,vb,_,_,_,rfl,a1,a2,a3, .inl ?_⟩
   unfold Nd.split
   rw[if_neg (by rw[hrt];rintro(h | h); · cases h
                 ·exact h2 h),if_pos hlf,List.getElem?_eq_getElem hk]
  |false=>
   have h3:n.ents= []/\n.keys.length+1=n.kids.length:=by
    obtain⟨leaf,ents,kids,keys⟩:=n
    obtain rfl:leaf=false:=hlf
    have:=Nd.aY.1 hrt
    exact⟨this.1,this.2.1⟩
   have hle:2<=n.kids.length:=by
    have:n.ents.length=0:=by rw[h3.1];rfl
    omega
   have hk:n.kids.length / 2-1<n.keys.length:=by omega
   refine(JM v n hlf hrt h3.2 hle (by rw[h3.1];rfl) _ (n.kids.length / 2-1) rfl (by omega) hk _ rfl w h hb).mono ?_
   rintro e w' ⟨va,vb,rfl,a1,a2,a3⟩
   refine⟨va,vb,_,_,_,rfl,a1,a2,a3, .inl ?_⟩
   unfold Nd.split
   rw[if_neg (by rw[hrt];rintro(h | h); · cases h
                 ·exact h2 h),if_neg (by rw[hlf];simp),List.getElem?_eq_getElem hk]
theorem swap_any(v:Value)(n:Nd.Node)(Ax Az:Option Addr)(cx cz fr to_:Nat)(xs:List Int)(zs:List ByteArray)(hlf:n.leaf=false)(hft:fr<to_)(hto:to_<=n.kids.length)(hnk:n.keys.length+1=n.kids.length)(hz:zs.length=xs.length-1)(w:World)(h:NS w v n)(hb:NB n)(hx:SV aV w Ax cx xs)(hy:SV keyE w Az cz zs)(hxl:xs.length<=100000):
  Calls Tryz.prog 268 #[v, .int .i64 fr, .int .i64 to_, .slice Ax xs.length cx, .slice Az zs.length cz] w fun e w'=>∃v',e= .returned v'/\NF w.heap.size w' v' (Nd.swap n fr to_ xs zs)/\Below w.heap.size w w':=by
 have e0:Nd.swap n fr to_ xs zs=Nd.ah (n.kids.take fr++xs++n.kids.drop to_) (n.keys.take (if xs.length=0/\0<fr then fr-1 else fr)++zs++n.keys.drop (if xs.length=0/\fr=0 then min to_ n.keys.length else to_-1)):=by
  unfold Nd.swap
  rw[if_neg (by
   rw[hlf]
   rintro(h | h | h | h)
   ·cases h
   ·omega
   ·omega
   ·exact h hz)]
 rw[e0]
 by_cases hx0:xs.length=0
 ·have hxn:xs= []:=List.eq_nil_of_length_eq_zero hx0
  have hzn:zs= []:=List.eq_nil_of_length_eq_zero (by omega)
  by_cases hf0:fr=0
  ·rw[if_neg (by omega),if_pos ⟨hx0,hf0⟩]
   exact WB v n Ax Az cx cz fr to_ xs zs hlf hft hto hnk hzn hxn hf0 _ _ rfl rfl w h hb hx hy hxl
  ·rw[if_pos ⟨hx0,by omega⟩,if_neg (by omega)]
   exact Sz v n Ax Az cx cz fr to_ xs zs hlf hft hto hnk hzn hxn (by omega) _ _ rfl rfl w h hb hx hy hxl
 ·rw[if_neg (by omega),if_neg (by omega)]
  exact Sv v n Ax Az cx cz fr to_ xs zs hlf hft hto hnk (by omega) _ _ rfl rfl w h hb hx hy hxl
def NV(n:Nd.Node)(w:World)(e:Ending)(w':World):Prop:=∃v,e= .returned (.tuple #[v, .int .i64 0])/\NF w.heap.size w' v n/\Below w.heap.size w w'
theorem iT{n:Nd.Node}(h:Nd.fits n=true):NB n:=by
 obtain⟨hr,hs⟩:=Tp.bf.1 h
 obtain⟨leaf,ents,kids,keys⟩:=n
 cases leaf with
 |true=>
  obtain⟨h1,rfl,rfl⟩:=Nd.eP.1 hr
  have hs:Nd.aK ents<=240:=hs
  have:=Nd.iM ents
  exact⟨by show ents.length<=_;omega,by show(0:Nat)<=_;omega,by show(0:Nat)<=_;omega,by show Nd.aK ents<=_;omega,by show Nd.aF []<=_;simp[Nd.aF]⟩
 |false=>
  obtain⟨rfl,h2,_,_⟩:=Nd.aY.1 hr
  have hs:4+Nd.aF keys<=240:=hs
  have:=Nd.sQ keys
  exact⟨by show(0:Nat)<=_;omega,by show kids.length<=_;omega,by show keys.length<=_;omega,by show Nd.aK []<=_;simp[Nd.aK],by show Nd.aF keys<=_;omega⟩
theorem Hz(l:List Ent)(hf:Nd.fits (Nd.aG l)=true)(w:World):
  Calls Tryz.prog 213 #[.int .u8 1, .string (Nd.str (Nd.lH l))] w (NV (Nd.aG l) w):=by
 have hnb:=iT hf
 obtain⟨hr,hs⟩:=Tp.bf.1 hf
 have hrl:En.right l=true:=(Nd.eP.1 hr).1
 have hle:(Nd.lH l).length<=50000:=by
  have hs:Nd.aK l<=240:=hs
  rw[Nd.qU];omega
 have hE:=Lib.hid (fun W=>Jr (Nd.lH l) W hle)
 rw[Nd.V4 hrl]at hE
 have e1:edl (some l)=l:=rfl
 have e2:edx (some l)=0:=rfl
 rw[e1,e2]at hE
 unfold adu at hE
 have SI:=Lib.hid (fun v W h=>oU v (Nd.aG l) W h hnb)
 rw[hf]at SI
 have hll:l.length<=1000:=by
  have hs:Nd.aK l<=240:=hs
  have:=Nd.iM l;omega
 generalize Nd.str (Nd.lH l)=S at*
 clear hr hs hle e1 e2 hf hnb hrl
 have hb1:=(Below.refl w.heap.size w).alloc (Nat.le_refl _) (.cells #[.bool false, .slice none 0 0, .slice none 0 0, .slice none 0 0] 146)
 have hb2:=hb1.alloc hb1.size (.cells #[.bool true, .slice none 0 0, .slice none 0 0, .slice none 0 0] 146)
 have hBa:=Lib.hid ((Blk.new w 146 #[.bool false, .slice none 0 0, .slice none 0 0, .slice none 0 0]).alloc (.cells #[.bool true, .slice none 0 0, .slice none 0 0, .slice none 0 0] 146))
 have hBb:=Blk.new (w.alloc (.cells #[.bool false, .slice none 0 0, .slice none 0 0, .slice none 0 0] 146)) 146 #[.bool true, .slice none 0 0, .slice none 0 0, .slice none 0 0]
 simp only[World.size_alloc]at hBb
 have HBb:=Lib.hid hBb
 have HB2:=Lib.hid hb2
 have hzz:((w.alloc (.cells #[.bool false, .slice none 0 0, .slice none 0 0, .slice none 0 0] 146)).alloc (.cells #[.bool true, .slice none 0 0, .slice none 0 0, .slice none 0 0] 146)).heap.size=w.heap.size+2:=by simp
 clear hBb hb2 hb1
 go_enter Tryz.func213,Tryz.ntmps213
 go_wp2_with fail
 refine Calls.mono (hE.out _) ?_
 rintro e w3 ⟨A,c,rfl,ho,hb3⟩
 have hz3:w.heap.size+2<=w3.heap.size:=by have:=hb3.size;omega
 have hB1:=hBa.out.below hb3 (by omega)
 have hB2:=HBb.out.below hb3 (by omega)
 have hbw:Below w.heap.size w w3:=HB2.out.trans (hb3.mono (by omega))
 have hbs:=hB2.aW 1 (.slice A l.length c)
 have f1:=hB2.frozen 1
 have g1:=hB2.cell 1
 have lb:=hB2.lt
 have adJ:=hB1.far (p:=⟨w.heap.size+1,1,none⟩) (by simp) (.slice A l.length c)
 have hfr:=Fr.aW (w:=w3) (S:=fun k=>k=w.heap.size+1) (g:=w.heap.size+1) (i:=1) rfl (.slice A l.length c)
 have hnf:NF (w.heap.size+2) (w3.setCell ⟨w.heap.size+1,1,none⟩ (.slice A l.length c)) (.agg #[.bool true, .slice A l.length c, .slice none 0 0, .slice none 0 0]) (Nd.aG l):=
  ⟨A,c,none,0,none,0,rfl,LO.fr' (LO.lower ho (by omega)) hfr (fun k hk=>by omega),LO.nil_ _ _,LO.nil_ _ _⟩
 have hFF:=Lib.hid (SI.out _ _ hnf.ns)
 have HNF:=Lib.hid hnf
 have NW:=hbs
 simp only[List.setIfInBounds_toArray,List.set_cons_succ,List.set_cons_zero]at NW
 have d0:=NW.cell 0
 have d1:=NW.cell 1
 have d2:=NW.cell 2
 have d3:=NW.cell 3
 have HB1:=Lib.hid adJ
 have HFR:=Lib.hid hfr
 have HBW:=Lib.hid hbw
 have HBS:=Lib.hid NW
 have hsz:((w3.setCell ⟨w.heap.size+1,1,none⟩ (.slice A l.length c))).heap.size=w3.heap.size:=by simp
 have HSZ:=Lib.hid hsz
 clear hnf hfr hB1 adJ hB2 hbs NW hbw ho hb3 hsz
 go_wp2_with fail
 refine hFF.out.mono ?_
 rintro e w4 ⟨rfl,hb4⟩
 have hs4:=HSZ.out
 have hz4:w.heap.size+2<=w4.heap.size:=by have:=hb4.size;omega
 have hB1:=HB1.out.below hb4 (by omega)
 have hB2:=HBS.out.below hb4 (by omega)
 have hnf:=NF.below HNF.out hb4
 have hbw:Below w.heap.size w w4:=(HBW.out.trans (HFR.out.low (by omega) (fun k hk=>by omega))).trans (hb4.mono (by omega))
 have c0:=hB2.cell 0
 have c1:=hB2.cell 1
 have c2:=hB2.cell 2
 have c3:=hB2.cell 3
 have a0:=hB1.cell 0
 have a1:=hB1.cell 1
 have a2:=hB1.cell 2
 have a3:=hB1.cell 3
 have f0:=hB1.frozen 0
 have f1:=hB1.frozen 1
 have f2:=hB1.frozen 2
 have f3:=hB1.frozen 3
 have l1:=hB1.lt
 have H1:=Lib.hid hB1
 have HN:=Lib.hid hnf
 have HW:=Lib.hid hbw
 clear hB1 hB2 hnf hb4 hs4 d0 d1 d2 d3 g1 hbw
 go_wp2
 try simp only[Exit.inBlock,Exit.then]
 refine bodyPost_ret (aO aN rfl rfl (H1.out.kS _ _ _ _) rfl) rfl ?_
 have hfr:∀a b c d,Fr (fun k=>k=w.heap.size) w4 _:=fun a b c d=>Fr.kS (w:=w4) (g:=w.heap.size) (S:=fun k=>k=w.heap.size) rfl a b c d
 exact⟨_,rfl,NF.lower (NF.fr HN.out (hfr _ _ _ _) (fun k hk=>by omega)) (by omega),HW.out.trans ((hfr _ _ _ _).low (by omega) (fun k hk=>by omega))⟩
theorem LO.frB{α:Type}{E:Enc α}{ty:TypeId}{base:Nat}{v:Value}{l:List α}{S:Nat->Prop}{w w':World}(h:LO E ty w base v l)(hf:Fr S w w')(hS:∀g,v.ownBlock=some g->¬S g):LO E ty w' base v l:=by
 obtain⟨h1,h2⟩:=h
 refine⟨h1, ?_⟩
 rcases h2 with h2 | ⟨g,cap,cur,e1,e2,e3,e4⟩
 ·exact .inl h2
 ·exact .inr ⟨g,cap,cur,e1,e2,(hf.block g (Array.getElem?_eq_some_iff.1 e3).1 (hS g (by rw[e1];rfl))).trans e3,e4⟩
theorem LO.held{α:Type}{E:Enc α}{ty:TypeId}{base:Nat}{v:Value}{l:List α}{w w':World}(h:LO E ty w base v l)(hk:∀g,v.ownBlock=some g->w'.heap[g]? =w.heap[g]?):LO E ty w' base v l:=by
 obtain⟨h1,h2⟩:=h
 refine⟨h1, ?_⟩
 rcases h2 with h2 | ⟨g,cap,cur,e1,e2,e3,e4⟩
 ·exact .inl h2
 ·exact .inr ⟨g,cap,cur,e1,e2,(hk g (by rw[e1];rfl)).trans e3,e4⟩
theorem Fr.bW{w w':World}{o:Option Nat}(h:w.grownBy w' o):Fr (fun k=>o=some k) w w':=⟨h.os,h.tape,h.output,h.size,fun k hk hn=>h.block k hk (fun e=>hn e.symm)⟩
def Is.app(base:Nat){α:Type}(E:Enc α)(ty:TypeId)(bs:Nat)(o:Option Nat)(l:List α):Is base:=
 ⟨o,fun v W=>LO E ty W bs v l/\(∃A c,v= .slice A l.length c)/\(v.ownBlock=o\/∃b,v.ownBlock=some b/\base<=b),fun v W W' S ⟨h1,h2,h3⟩ hf hS=>⟨h1.frB hf (fun g hg a=>by
  have:=hS g a
  rcases h3 with h3 | ⟨b,h3,h4⟩
  ·exact this.2 (h3 ▸ hg)
  ·rw[h3]at hg;injection hg with hg;omega),h2,h3⟩⟩
def Is.turn(base g:Nat)(ty:TypeId)(x:Value)(cs:Array Value):Is base:=⟨some g,fun v W=>v=x/\Blk W g ty cs,fun _ _ _ _ ⟨h1,h2⟩ hf hS=>⟨h1,hf.blk h2 (fun a=>(hS g a).2 rfl)⟩⟩
section
variable {a:Act}{o:Oper}{x y z:Operand}{w:World}{ad:Addr}{v:Value}{R:Value->World->Prop}
theorem wW{f:FuncId}{t t':TypeId}{v':Value}(hE:∀args w,(callFunc f args).run Tryz.prog w= .ok (.enter f args) w)(ho:o.op= .call { callee:= .value (.func f),args:= #[x,y],argTypes:= #[t,t'] })(hx:a.eval x=v)(hy:a.eval y=v'):(execOp a.eval o).run Tryz.prog w= .ok (.enter f #[v,v']) w:=by
 obtain⟨dst,op,type,pos,after,guard⟩:=o
 simp only at ho
 subst ho
 rw[execOp_call_go]
 have e:(#[]++Array.map a.eval #[x,y]++ #[]:Array Value)= #[v,v']:=by simp[hx,hy]
 rw[e]
 exact hE _ _
theorem FK{α:Type}{E:Enc α}{t ty:TypeId}{zv:Value}{bytes bs b:Nat}{l:List α}{s:α}{sv:Value}(hE:EI Tryz.prog ty zv 1 bytes)(ht:Tryz.prog.underlying t=some (.slice ty))(hz:zv.cells.size=1)(hs1:E.size=1)(hen:E.enc s= [sv])
  (ho:o.op= .call { callee:= .builtin .append,args:= #[x,y],argTypes:= #[t,t] }) (hx:a.eval x=v) (hown:LO E ty w bs v l) (hy:a.eval y= .slice (some ⟨b,0,none⟩) 1 1) (hB:Blk w b ty #[sv]) (hlen:l.length+1<=maxLen) (hby:(l.length+1)*bytes<=140737488355328) (hbs:bs<=w.heap.size)
  (hR:∀v' w',LO E ty w' bs v' (l++ [s])->w.grownBy w' v.ownBlock->(v'.ownBlock=v.ownBlock\/∃g,v'.ownBlock=some g/\w.heap.size<=g)->R v' w'):Does o a w R:=by
 obtain⟨i,hi,hz0,hz1,hz2⟩:=hE
 have h1:∀u∈ [sv],u.oneCell'=true:=fun u hu=>E.one s u (by rw[hen];exact hu)
 have hcell:∀ (j:Nat) (u:Value),([sv]:List Value)[j]? =some u->w.cell? ((⟨b,0,none⟩:Addr).add j)=some u:=by
  intro j u hu
  have e1:((⟨b,0,none⟩:Addr).add j)=⟨b,j,none⟩:=by rw[Addr.add_lit];simp
  rw[e1,hB.cell j]
  simpa using hu
 have hown':w.ownsRow bs ty 1 v l.length (E.cells l):=hown.raw rfl hs1
 obtain⟨v',w',hrun,h2,h3,h4,h5⟩:=run_append_own_at (P:=Tryz.prog) w bs t o.type ty i zv 1 bytes ht hi hz0 hz1 hz2 hz (by decide) v l.length (E.cells l) hown' ⟨b,0,none⟩ 1 1 [sv] (by simp) hcell h1 hlen hby hbs
 refine Does.val (v:=v') (w':=w') ?_ (hR v' w' ?_ h3 ?_)
 ·unfold execOp
  simp only[ho,resolve,invoke,builtin,Sem.run_bind,Sem.run_pure,Result.andThen_ok,List.map_toArray,List.map_cons,List.map_nil,hx,hy,hrun]
 ·unfold LO
  rw[hs1,E.qg,hen,List.length_append]
  exact h2
 ·rcases h5 with h5 | h5
  ·exact .inl h5
  ·exact .inr ⟨_,h5,Nat.le_refl _⟩
theorem NY{i:Int}(ho:o.op= .buildSlice 49 1 #[(0,x)])(hx:a.eval x= .int .i64 i):(execOp a.eval o).run Tryz.prog w= .ok (.value (.slice (some ⟨w.heap.size,0,none⟩) 1 1)) (w.alloc (.cells #[.int .i64 i] 3)):=by
 unfold execOp
 simp only[ho,List.map_toArray,List.map_cons,List.map_nil,hx]
 simp[go_sem]
theorem NZ{A:Option Addr}{n c:Nat}{u:Value}(ho:o.op= .store 107 x y)(hx:a.eval x= .pointer (some ad))(hy:a.eval y= .slice A n c)(hc:w.cell? ad=some u)(hf:w.frozen? ad=false):(execOp a.eval o).run Tryz.prog w= .ok .skip (w.setCell ad (.slice A n c)):=by
 unfold execOp
 simp only[ho,hx,hy]
 simp[go_sem,hc,hf]
theorem N7{A:Option Addr}{n c:Nat}{u:Value}(ho:o.op= .store 49 x y)(hx:a.eval x= .pointer (some ad))(hy:a.eval y= .slice A n c)(hc:w.cell? ad=some u)(hf:w.frozen? ad=false):(execOp a.eval o).run Tryz.prog w= .ok .skip (w.setCell ad (.slice A n c)):=by
 unfold execOp
 simp only[ho,hx,hy]
 simp[go_sem,hc,hf]
end
theorem LO.one{α:Type}{E:Enc α}{ty:TypeId}{w:World}{g base:Nat}{s:α}{sv:Value}(hs:E.size=1)(hen:E.enc s= [sv])(hB:Blk w g ty #[sv])(hb:base<=g):LO E ty w base (.slice (some ⟨g,0,none⟩) 1 1) [s]:=by
 refine⟨?_, .inr ⟨g,1, #[sv],rfl,hb,hB, ?_⟩⟩
 ·rw[E.dR]
 ·rw[hs,E.cells_one,hen]
  exact⟨Nat.le_refl _,by unfold maxLen;omega,rfl,by simp⟩
theorem PX{α β:Type}{E:Enc α}{F:Enc β}{ty ty':TypeId}{w:World}{b b':Nat}{v v':Value}{l:List α}{l':List β}(h:LO E ty w b v l)(h':LO F ty' w b' v' l')(hne:ty≠ty'){g:Nat}(hg:v.ownBlock=some g):v'.ownBlock≠some g:=by
 rcases h.2 with⟨rfl,_⟩ | ⟨g1,cap,cur,rfl,_,h3,_⟩
 ·simp[Value.ownBlock]at hg
 ·have e:g1=g:=by simpa[Value.ownBlock]using hg
  subst e
  exact aB (t:=ty) h' h3 (Ne.symm hne)
end Go.Proofs.YteppebbmnojapaaGreatDoor
