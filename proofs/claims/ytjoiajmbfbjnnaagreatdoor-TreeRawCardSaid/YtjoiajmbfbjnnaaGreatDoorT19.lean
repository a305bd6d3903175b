/- Part of this proof. -/
import Derived.Laws.LoneSync
import Derived.RangeFuncOwn
import Derived.Test.YtjoiajmbfbjnnaaGreatDoorT17
import Derived.Test.YtjoiajmbfbjnnaaGreatDoorT18
set_option maxRecDepth 100000
set_option maxHeartbeats 8000000
namespace Go.Proofs.YtjoiajmbfbjnnaaGreatDoor
open Go.RowKit Go.Shelf Go.Maps
end Go.Proofs.YtjoiajmbfbjnnaaGreatDoor
namespace Go.Proofs.YtjoiajmbfbjnnaaGreatDoor
open Go.RowKit Go.Shelf
abbrev Bs:=List UInt8
def str(s:Bs):Value:= .string ⟨s.toArray⟩
def penE:Enc (Int × Bs):=⟨fun x=> [.int .i64 x.1,str x.2],2,fun _=>rfl,by decide,fun x u hu=>by simp at hu;rcases hu with rfl | rfl<;>rfl⟩
theorem eiPen:EI Tryz.prog 168 (.agg #[.int .i64 0, .string ⟨#[]⟩]) 2 24:=EI.mk (by kernel_rfl)
def strR(v:Value):Option (DataW Value × List MemPlace):=
 match v with
 | .string _=>some (.held v, [])
 |_=>none
theorem strR_mk(s:ByteArray):strR (.string s)=some (.held (.string s), []):=rfl
theorem strR_inv{v:Value}{z:DataW Value × List MemPlace}(h:strR v=some z):∃s,v= .string s/\z=(.held v, []):=by
 unfold strR at h
 split at h
 ·rename_i s
  exact⟨s,rfl,by cases h;rfl⟩
 ·cases h
theorem dkeyI{x:Int}(hx:(Lit.int .i64 x).wf=true):keyOf Tryz.prog 3 (.int .i64 x)=some (.int .i64 x):=Maps.keyOf_int_mk Tryz.underlying3 hx
theorem dkeyedI:Maps.Keyed Tryz.prog 3:=Maps.int_keyed Tryz.underlying3
structure Dk where
 sure:List Bs
 now:Int->Option Bs
 pend:List (Int × Bs)
 left:Int
 down:Bool
 reads:Int
 writes:Int
def NowOf(D:DataW Value)(now:Int->Option Bs):Prop:=∀ (i:Int) (z:DataW Value),Maps.has D (.int .i64 i)=(now i).isSome/\D.atKey (.int .i64 i) z=match now i with
 |some s=> .held (str s)
 |none=>z
theorem NowOf.put{D:DataW Value}{now:Int->Option Bs}(h:NowOf D now)(hm:Maps.IsMap D)(i:Int)(s:Bs):NowOf (D.put (.int .i64 i) (.held (str s))) (fun j=>if j=i then some s else now j):=by
 intro j z
 by_cases e:j=i
 ·subst e
  rw[Maps.has_put_same hm (by trivial),Maps.atKey_put_same hm (by trivial)];simp
 ·have hne:(Lit.int .i64 j)≠ .int .i64 i:=by intro e2;injection e2 with _ e2;exact e e2
  rw[Maps.has_put_other hne,Maps.atKey_put_other hne,(h j z).1,(h j z).2];simp[e]
def dkCells(s m:Nat)(pv:Value)(D:Dk):Array Value:= #[.slice (some ⟨s,0,none⟩) D.sure.length D.sure.length, .map (some m),pv, .int .i64 D.left, .bool D.down, .int .i64 D.reads, .int .i64 D.writes]
structure DAt(w:World)(B d k:Nat)(D:Dk)(s m:Nat)(pv:Value)(Dm:DataW Value):Prop where
 le:B<=d/\B<=s/\B<=m
 self:Blk w d 132 (dkCells s m pv D)
 sure:Blk w s 9 (D.sure.map str).toArray
 map:w.ownsMap Tryz.prog 3 strR m k Dm
 now:NowOf Dm D.now
 pend:LO penE 168 w B pv D.pend
def DkAt(w:World)(B d k:Nat)(D:Dk):Prop:=∃s m pv Dm,DAt w B d k D s m pv Dm
theorem DAt.keep{w w':World}{B d k:Nat}{D:Dk}{s m:Nat}{pv:Value}{Dm:DataW Value}(h:DAt w B d k D s m pv Dm)(hb:Below w.heap.size w w'):DAt w' B d k D s m pv Dm:=
 ⟨h.le,h.self.below hb h.self.lt,h.sure.below hb h.sure.lt,h.map.kept (only_of_below hb none) (by simp),h.now,h.pend.below hb⟩
theorem DkAt.keep{w w':World}{B d k:Nat}{D:Dk}(h:DkAt w B d k D)(hb:Below w.heap.size w w'):DkAt w' B d k D:=by
 obtain⟨s,m,pv,Dm,h⟩:=h
 exact⟨s,m,pv,Dm,h.keep hb⟩
def Dk.at_(D:Dk)(i:Int):Int:=if D.down then 4 else if i<0\/(D.sure.length:Int)<=i then 40 else 0
theorem at_any{w:World}{B d k:Nat}{D:Dk}(h:DkAt w B d k D)(i:Int):
  Calls Tryz.prog 96 #[.pointer (some ⟨d,0,none⟩), .int .i64 i] w fun e w'=>e= .returned (.int .i64 (D.at_ i))/\w'=w:=by
 obtain⟨s,m,pv,Dm,h⟩:=h
 have h0:=h.self.cell 0
 have h4:=h.self.cell 4
 simp only[dkCells]at h0 h4
 unfold Dk.at_
 cases hd:D.down with
 |true=>
  rw[hd]at h4
  go_enter Tryz.func96,Tryz.ntmps96
  go_wp2
  go_ret
  exact⟨rfl,rfl⟩
 |false=>
  rw[hd]at h4
  rw[if_neg (by simp)]
  by_cases hi:i<0
  ·rw[if_pos (.inl hi)]
   have hq:decide (i<0)=true:=by simpa using hi
   go_enter Tryz.func96,Tryz.ntmps96
   go_wp2
   go_ret
   exact⟨rfl,rfl⟩
  ·have hq:decide (i<0)=false:=by simpa using hi
   by_cases hn:(D.sure.length:Int)<=i
   ·rw[if_pos (.inr hn)]
    have hq2:decide ((D.sure.length:Int)<=i)=true:=by simpa using hn
    generalize D.sure.length=n at*
    go_enter Tryz.func96,Tryz.ntmps96
    go_wp2
    go_ret
    exact⟨rfl,rfl⟩
   ·rw[if_neg (by omega)]
    have hq2:decide ((D.sure.length:Int)<=i)=false:=by simpa using hn
    generalize D.sure.length=n at*
    go_enter Tryz.func96,Tryz.ntmps96
    go_wp2
    go_ret
    exact⟨rfl,rfl⟩
theorem addE:Extern.find Tryz.f163=some (Extern.Atomic.update (Op.intArith .add) .i64 true):=rfl
theorem tick_any(d j:Nat)(x:Int)(w:World)(hc:w.cell? ⟨d,j,none⟩=some (.int .i64 x))(hf:w.frozen? ⟨d,j,none⟩=false)(hx:0<=x/\x<4611686018427387904):
  Calls Tryz.prog 97 #[.pointer (some ⟨d,j,none⟩), .int .i64 1] w fun e w'=>∃v,e= .returned v/\w'=w.setCell ⟨d,j,none⟩ (.int .i64 (x+1)):=by
 have hw:IntKind.i64.wrap (x+1)=x+1:=IntWalk.i64_in _ (by omega)
 have hrun:=run_call_add (P:=Tryz.prog) (f:=163) Tryz.func163 (by kernel_rfl) (by kernel_rfl) (by kernel_rfl) .i64 addE (s:=IntKind.i64.wrap (x+1)) (y:=1) hc hf (by simp[Op.intArith,go_sem])
 rw[hw]at hrun
 go_enter Tryz.func97,Tryz.ntmps97
 go_wp2
 go_ret
 exact⟨_,rfl,rfl⟩
section
variable {w:World}{B d k:Nat}{D:Dk}{s m:Nat}{pv:Value}{Dm:DataW Value}
theorem DAt.mne(h:DAt w B d k D s m pv Dm){g:Nat}{ty:TypeId}{cs:Array Value}(hg:Blk w g ty cs):m≠g:=by
 intro e
 obtain⟨es,clock,hb, -⟩:=h.map
 subst e
 have:=hb.symm.trans hg
 cases this
theorem DAt.turn(h:DAt w B d k D s m pv Dm)(j:Nat)(u:Value)(D':Dk)(hD:(dkCells s m pv D).setIfInBounds j u=dkCells s m pv D')(hs:D'.sure=D.sure)(hn:D'.now=D.now)(hp:D'.pend=D.pend):
  DAt (w.setCell ⟨d,j,none⟩ u) B d k D' s m pv Dm where
 le:=h.le
 self:=by have:=h.self.set_ j u;rwa [hD]at this
 sure:=by rw[hs];exact h.sure.far (h.sure.ne_ h.self (by decide)) u
 map:=h.map.kept (only_setCell (p:=⟨d,j,none⟩) (World.grownBy.refl w (some d)) (.inl rfl) u) (fun e=>h.mne h.self (Option.some.inj e))
 now:=by rw[hn];exact h.now
 pend:=by rw[hp];exact h.pend.set_ h.self (by decide)
theorem grown_set(w:World)(d j:Nat)(u:Value):w.grownBy (w.setCell ⟨d,j,none⟩ u) (some d):=only_setCell (p:=⟨d,j,none⟩) (World.grownBy.refl w (some d)) (.inl rfl) u
end
def Dk.get(D:Dk)(i:Int):Bs:=match D.now i with
 |some s=>s
 |none=>D.sure.getD i.toNat []
theorem at_zero{D:Dk}{i:Int}(h:D.at_ i=0):D.down=false/\0<=i/\i<D.sure.length:=by
 unfold Dk.at_ at h
 split at h
 ·cases h
 ·split at h
  ·cases h
  ·rename_i h1 h2
   exact⟨by simpa using h1,by omega,by omega⟩
theorem read_bad{w:World}{B d k:Nat}{D:Dk}(h:DkAt w B d k D)(i:Int)(hi:D.at_ i≠0):
  Calls Tryz.prog 236 #[.pointer (some ⟨d,0,none⟩), .int .i64 i] w fun e w'=>e= .returned (.tuple #[str [], .int .i64 (D.at_ i)])/\w'=w:=by
 have hat:=at_any h i
 generalize D.at_ i=x at*
 have hx:(x != 0)=true:=by simpa using hi
 unfold str
 clear h
 go_enter Tryz.func236,Tryz.ntmps236
 go_wp2_with fail
 refine Calls.mono hat ?_
 rintro e w1 ⟨rfl,rfl⟩
 go_wp2
 go_ret2
 exact⟨rfl,rfl⟩
section
variable {w w2:World}{B d k:Nat}{D:Dk}{s m:Nat}{pv v':Value}{Dm:DataW Value}
theorem DAt.push_self(h:DAt w B d k D s m pv Dm)(hg:w.grownBy w2 pv.ownBlock):Blk w2 d 132 (dkCells s m pv D):=
 h.self.grown hg (fun e=>own_blk_ne (h.pend.raw rfl rfl) h.self (by decide) e.symm)
theorem DAt.push(h:DAt w B d k D s m pv Dm)(hg:w.grownBy w2 pv.ownBlock)(i:Int)(t:Bs)(ho:w2.ownsRow B 168 2 v' (D.pend.length+1) (penE.cells D.pend++ [.int .i64 i,str t])):
  DAt (w2.setCell ⟨d,2,none⟩ v') B d k { D with pend:=D.pend++ [(i,t)] } s m v' Dm where
 le:=h.le
 self:=(h.push_self hg).set_ 2 v'
 sure:=(h.sure.grown hg (fun e=>own_blk_ne (h.pend.raw rfl rfl) h.sure (by decide) e.symm)).far (h.sure.ne_ h.self (by decide)) v'
 map:=(h.map.kept hg (fun e=>by
   obtain⟨cs,hcs⟩:=own_obj (h.pend.raw rfl rfl) e.symm
   obtain⟨es,clock,hb, -⟩:=h.map
   have:=hb.symm.trans hcs
   cases this)).kept (only_setCell (p:=⟨d,2,none⟩) (World.grownBy.refl w2 (some d)) (.inl rfl) v') (fun e=>h.mne h.self (Option.some.inj e))
 now:=h.now
 pend:=(LO.snoc (E:=penE) (x:=(i,t)) rfl rfl rfl ho).set_ (h.push_self hg) (by decide)
theorem DAt.stored(h:DAt w B d k D s m pv Dm)(i:Int)(t:Bs)(hw:w2.ownsMap Tryz.prog 3 strR m (k+1) (Dm.put (.int .i64 i) (.held (str t))))(hg:w.grownBy w2 (some m)):
  DAt w2 B d (k+1) { D with now:=fun j=>if j=i then some t else D.now j } s m pv (Dm.put (.int .i64 i) (.held (str t))) where
 le:=h.le
 self:=h.self.grown hg (fun e=>h.mne h.self (Option.some.inj e).symm)
 sure:=h.sure.grown hg (fun e=>h.mne h.sure (Option.some.inj e).symm)
 map:=hw
 now:=h.now.put (h.map.tidy dkeyedI).isMap i t
 pend:=h.pend.keep hg (fun r e=>by
  cases e
  obtain⟨es,clock,hb, -⟩:=h.map
  exact⟨_,hb,fun cs e=>by cases e⟩)
end
def Kept(w w':World):Prop:=∀ (g:Nat) (t:TypeId) (cs:Array Value),Blk w g t cs->t≠132->t≠168->Blk w' g t cs
theorem Kept.refl(w:World):Kept w w:=fun _ _ _ h _ _=>h
theorem Kept.trans{a b c:World}(h:Kept a b)(h2:Kept b c):Kept a c:=fun g t cs hb h1 h3=>h2 g t cs (h g t cs hb h1 h3) h1 h3
theorem Kept.set_{a w:World}(h:Kept a w){d j:Nat}{cs:Array Value}(hd:Blk w d 132 cs)(u:Value):Kept a (w.setCell ⟨d,j,none⟩ u):=fun g t cs' hb h1 h3=>by
 have h4:=h g t cs' hb h1 h3
 exact h4.far (p:=⟨d,j,none⟩) (h4.ne_ hd h1) u
theorem Kept.below{w w':World}(h:Below w.heap.size w w'):Kept w w':=fun _ _ _ hb _ _=>hb.below h hb.lt
def OthM(m:Nat)(w w':World):Prop:=∀ (k:Nat) (o:Obj),w.heap[k]? =some o->o.isCells=false->k≠m->w'.heap[k]? =some o
theorem OthM.refl(m:Nat)(w:World):OthM m w w:=fun _ _ h _ _=>h
theorem OthM.trans{m:Nat}{a b c:World}(h:OthM m a b)(g:OthM m b c):OthM m a c:=fun k o hk h1 h2=>g k o (h k o hk h1 h2) h1 h2
theorem OthM.set_{m:Nat}{a w:World}(h:OthM m a w)(p:Addr)(u:Value):OthM m a (w.setCell p u):=fun k o hk h1 h2=>(KeepsOthers.setCell w p u).same k o (h k o hk h1 h2) h1
theorem OthM.grown{m:Nat}{w w':World}{row:Option Nat}(hg:w.grownBy w' row)(hr:∀r,row=some r->∃o,w.heap[r]? =some o/\o.isCells=true):OthM m w w':=fun k o hk h1 _=>
 (hg.block k (Array.getElem?_eq_some_iff.1 hk).1 (fun e=>by
  obtain⟨o2,h2,h3⟩:=hr k e.symm
  rw[hk]at h2
  cases h2
  rw[h1]at h3
  cases h3)).trans hk
theorem OthM.turn{m:Nat}{w w':World}(hg:w.grownBy w' (some m)):OthM m w w':=fun k _ hk _ h2=>(hg.block k (Array.getElem?_eq_some_iff.1 hk).1 (fun e=>h2 (Option.some.inj e))).trans hk
theorem OthM.below{m:Nat}{w w':World}(hb:Below w.heap.size w w'):OthM m w w':=fun k _ hk _ _=>(hb.block k (Array.getElem?_eq_some_iff.1 hk).1).trans hk
def DkStep(B d k k':Nat)(D D':Dk)(w w':World):Prop:=∃s m pv Dm pv' Dm',DAt w B d k D s m pv Dm/\DAt w' B d k' D' s m pv' Dm'/\OthM m w w'
def Dk.put(D:Dk)(i:Int)(t:Bs):Dk:= { D with writes:=D.writes+1,pend:=D.pend++ [(i,t)],now:=fun j=>if j=i then some t else D.now j }
def Dk.wrote(D:Dk)(i:Int)(t:Bs):Dk:=if D.left=0 then { D.put i t with down:=true,left:= -1 } else if 0<D.left then { D.put i t with left:=D.left-1 } else D.put i t
def Dk.wroteE(D:Dk):Int:=if D.left=0 then 4 else 0
theorem write_ok2{w:World}{B d k:Nat}{D:Dk}(h:DkAt w B d k D)(i:Int)(t:Bs)(hi:D.at_ i=0)(ht:t.length=256)(hk:k<maxLen)(hw:(Lit.int .i64 i).wf=true)(hr:0<=D.writes/\D.writes<4611686018427387904)(hl:D.left<=9223372036854775807)(hp:D.pend.length<=1000000000000)(hB:B<=w.heap.size):
  Calls Tryz.prog 39 #[.pointer (some ⟨d,0,none⟩), .int .i64 i,str t] w fun e w'=>e= .returned (.int .i64 D.wroteE)/\DkStep B d k (k+1) D (D.wrote i t) w w'/\Below B w w'/\Kept w w':=by
 have hat:=at_any h i
 rw[hi]at hat
 obtain⟨s,m,pv,Dm,h⟩:=h
 have HH:=Lib.hid h
 have h6:=h.self.cell 6
 have f6:=h.self.frozen 6
 simp only[dkCells]at h6
 have htk:=tick_any d 6 D.writes w h6 f6 hr
 have h1:=h.turn 6 (.int .i64 (D.writes+1)) { D with writes:=D.writes+1 } rfl rfl rfl rfl
 have hbw1:Below B w (w.setCell ⟨d,6,none⟩ (.int .i64 (D.writes+1))):=below_of_grown (grown_set w d 6 _) hB h.le.1
 have hk1:Kept w (w.setCell ⟨d,6,none⟩ (.int .i64 (D.writes+1))):=(Kept.refl w).set_ h.self _
 have ho1:OthM m w (w.setCell ⟨d,6,none⟩ (.int .i64 (D.writes+1))):=(OthM.refl m w).set_ _ _
 generalize w.setCell ⟨d,6,none⟩ (.int .i64 (D.writes+1))=w1 at*
 obtain⟨A,c,rfl⟩:=h1.pend.form
 have g2:=h1.self.cell 2
 simp only[dkCells]at g2
 have hown:=h1.pend.raw rfl (s:=2) rfl
 unfold str
 simp only at g2 hown
 have hB1:B<=w1.heap.size:=Nat.le_trans hB hbw1.size
 have hn1:D.pend.length+1<=maxLen:=by unfold maxLen;omega
 have hn2:(D.pend.length+1)*24<=140737488355328:=by omega
 have hle:=h.le.1
 have hlm:=h.le.2.2
 have hfacts:∀A' c' w2,w2.ownsRow B 168 2 (.slice A' (D.pend.length+1) c') (D.pend.length+1) (penE.cells D.pend++ [.int .i64 i, .string ⟨t.toArray⟩])->w1.grownBy w2 (Value.slice A D.pend.length c).ownBlock->Below B w1 w2->
   w2.cell? ⟨d,2,none⟩=some (.slice A D.pend.length c)/\w2.frozen? ⟨d,2,none⟩=false/\(w2.setCell ⟨d,2,none⟩ (.slice A' (D.pend.length+1) c')).cell? ⟨d,1,none⟩=some (.map (some m))/\
   ∃w4,(Instr.mapUpdate 124 (.map (some m)) (.int .i64 i) (.string ⟨t.toArray⟩)).run Tryz.prog (w2.setCell ⟨d,2,none⟩ (.slice A' (D.pend.length+1) c'))= .ok () w4/\
    DAt w4 B d (k+1) (D.put i t) s m (.slice A' (D.pend.length+1) c') (Dm.put (.int .i64 i) (.held (str t)))/\Below B w w4/\w4.cell? ⟨d,3,none⟩=some (.int .i64 D.left)/\w4.cell? ⟨d,4,none⟩=some (.bool D.down)/\w4.frozen? ⟨d,3,none⟩=false/\w4.frozen? ⟨d,4,none⟩=false/\Kept w w4/\Hid (OthM m w w4):=by
  intro A' c' w2 hown' hgrow hbel
  have hb2:=h1.push_self hgrow
  have h3:=h1.push hgrow i t hown'
  have hbw3:Below B w (w2.setCell ⟨d,2,none⟩ (.slice A' (D.pend.length+1) c')):=(hbw1.trans hbel).setCell (by exact hle) _
  obtain⟨w4,hrun,hmap,hturn⟩:=h3.map.store dkeyedI Tryz.underlying124 hk (dkeyI hw) (strR_mk ⟨t.toArray⟩)
  have h4:=h3.stored i t hmap hturn.grown
  have hbw4:Below B w w4:=hbw3.grown hturn.grown (Nat.le_trans hB hbw3.size) (fun r e=>by cases e;exact hlm)
  have hka:Kept w1 w2:=fun g t cs hb e1 e2=>hb.grown hgrow (fun e=>own_blk_ne hown hb (Ne.symm e2) e.symm)
  have hkb:=(hk1.trans hka).set_ (j:=2) hb2 (.slice A' (D.pend.length+1) c')
  have hkp:Kept w w4:=fun g t cs hb e1 e2=>(hkb g t cs hb e1 e2).grown hturn.grown (fun e=>h3.mne (hkb g t cs hb e1 e2) (Option.some.inj e).symm)
  exact⟨hb2.cell 2,hb2.frozen 2,h3.self.cell 1,w4,hrun,h4,hbw4,h4.self.cell 3,h4.self.cell 4,h4.self.frozen 3,h4.self.frozen 4,hkp,Lib.hid (((ho1.trans (OthM.grown hgrow (fun r e=>by obtain⟨cs,hcs⟩:=own_obj hown e;exact⟨_,hcs,rfl⟩))).set_ _ _).trans (OthM.turn hturn.grown))⟩
 by_cases h0:D.left=0
 ·have hwr:D.wrote i t= { D.put i t with down:=true,left:= -1 } :=by unfold Dk.wrote;rw[if_pos h0]
  have hwe:D.wroteE=4:=by unfold Dk.wroteE;rw[if_pos h0]
  have HW:=Lib.hid hwr
  have HE:=Lib.hid hwe
  have hq:(D.left==0)=true:=by simpa using h0
  clear hwr hwe h0
  go_enter Tryz.func39,Tryz.ntmps39
  go_wp2_with fail
  refine Calls.mono hat ?_
  rintro e w0 ⟨rfl,rfl⟩
  go_wp2_with fail
  refine Calls.mono htk ?_
  rintro e w0 ⟨v2,rfl,rfl⟩
  go_wp2_with (at_builtin;refine wpList_app1 rfl (.tmp 25) (.tmp 29) 125 rfl eiPen Tryz.underlying125 rfl (by decide) rfl hown rfl (by simp) rfl (by simp[Value.oneCell']) hn1 hn2 hB1 ?_;intro v' w2 hown' hgrow hbel _ _
               obtain⟨A',c',rfl⟩:=own_form hown'
               obtain⟨k2,m2,k31,w4,hrun,h4,hbw4,k43,k44,m43,m44,hkp,hoM⟩:=hfacts A' c' w2 hown' hgrow hbel)
  go_ret
  exact⟨by rw[HE.out];rfl,⟨s,m,_,_,_,_,HH.out,by rw[HW.out];exact(h4.turn 4 (.bool true) { D.put i t with down:=true } rfl rfl rfl rfl).turn 3 (.int .i64 (-1)) _ rfl rfl rfl rfl,(hoM.out.set_ _ _).set_ _ _⟩,(hbw4.setCell hle _).setCell hle _,(hkp.set_ h4.self _).set_ (h4.turn 4 (.bool true) { D.put i t with down:=true } rfl rfl rfl rfl).self _⟩
 have hwe:D.wroteE=0:=by unfold Dk.wroteE;rw[if_neg h0]
 have HE:=Lib.hid hwe
 have hq:(D.left==0)=false:=by simpa using h0
 clear hwe
 by_cases hp0:0<D.left
 ·have hwr:D.wrote i t= { D.put i t with left:=D.left-1 } :=by unfold Dk.wrote;rw[if_neg h0,if_pos hp0]
  have HW:=Lib.hid hwr
  have hq2:decide (0<D.left)=true:=by simpa using hp0
  clear hwr
  go_enter Tryz.func39,Tryz.ntmps39
  go_wp2_with fail
  refine Calls.mono hat ?_
  rintro e w0 ⟨rfl,rfl⟩
  go_wp2_with fail
  refine Calls.mono htk ?_
  rintro e w0 ⟨v2,rfl,rfl⟩
  go_wp2_with (at_builtin;refine wpList_app1 rfl (.tmp 25) (.tmp 29) 125 rfl eiPen Tryz.underlying125 rfl (by decide) rfl hown rfl (by simp) rfl (by simp[Value.oneCell']) hn1 hn2 hB1 ?_;intro v' w2 hown' hgrow hbel _ _
               obtain⟨A',c',rfl⟩:=own_form hown'
               obtain⟨k2,m2,k31,w4,hrun,h4,hbw4,k43,k44,m43,m44,hkp,hoM⟩:=hfacts A' c' w2 hown' hgrow hbel)
  go_ret
  exact⟨by rw[HE.out];rfl,⟨s,m,_,_,_,_,HH.out,by rw[HW.out];exact h4.turn 3 (.int .i64 (D.left-1)) _ rfl rfl rfl rfl,hoM.out.set_ _ _⟩,hbw4.setCell hle _,hkp.set_ h4.self _⟩
 ·have hwr:D.wrote i t=D.put i t:=by unfold Dk.wrote;rw[if_neg h0,if_neg hp0]
  have HW:=Lib.hid hwr
  have hq2:decide (0<D.left)=false:=by simpa using hp0
  clear hwr
  go_enter Tryz.func39,Tryz.ntmps39
  go_wp2_with fail
  refine Calls.mono hat ?_
  rintro e w0 ⟨rfl,rfl⟩
  go_wp2_with fail
  refine Calls.mono htk ?_
  rintro e w0 ⟨v2,rfl,rfl⟩
  go_wp2_with (at_builtin;refine wpList_app1 rfl (.tmp 25) (.tmp 29) 125 rfl eiPen Tryz.underlying125 rfl (by decide) rfl hown rfl (by simp) rfl (by simp[Value.oneCell']) hn1 hn2 hB1 ?_;intro v' w2 hown' hgrow hbel _ _
               obtain⟨A',c',rfl⟩:=own_form hown'
               obtain⟨k2,m2,k31,w4,hrun,h4,hbw4,k43,k44,m43,m44,hkp,hoM⟩:=hfacts A' c' w2 hown' hgrow hbel)
  go_ret
  exact⟨by rw[HE.out];rfl,⟨s,m,_,_,_,_,HH.out,by rw[HW.out];exact h4,hoM.out⟩,hbw4,hkp⟩
theorem write_bad{w:World}{B d k:Nat}{D:Dk}(h:DkAt w B d k D)(i:Int)(t:Bs)(hi:D.at_ i≠0):
  Calls Tryz.prog 39 #[.pointer (some ⟨d,0,none⟩), .int .i64 i,str t] w fun e w'=>e= .returned (.int .i64 (D.at_ i))/\w'=w:=by
 have hat:=at_any h i
 generalize D.at_ i=x at*
 have hx:(x != 0)=true:=by simpa using hi
 unfold str
 clear h
 go_enter Tryz.func39,Tryz.ntmps39
 go_wp2_with fail
 refine Calls.mono hat ?_
 rintro e w1 ⟨rfl,rfl⟩
 go_wp2
 go_ret
 exact⟨rfl,rfl⟩
end Go.Proofs.YtjoiajmbfbjnnaaGreatDoor
namespace Cc
def hv:List Nat:= [0,498536548,997073096,651767980,1994146192,1802195444,1303535960,1342533948,3988292384,4027552580,3604390888,3412177804,2607071920,2262029012,2685067896,3183342108]
theorem hv_lt(i:Nat):hv.getD i 0<4294967296:=by
 by_cases h:i<16
 ·have h2:∀j:Fin 16,hv.getD j 0<4294967296:=by decide
  exact h2 ⟨i,h⟩
 ·have:hv.length<=i:=by show 16<=i;omega
  rw[List.getD,List.getElem?_eq_none this];decide
def half(n:Nat):Nat:=n / 16 ^^^ hv.getD (n % 16) 0
theorem half_lt{n:Nat}(h:n<4294967296):half n<4294967296:=Nat.xor_lt_two_pow (n:=32) (by omega) (hv_lt _)
def step(c b:Nat):Nat:=half (half (c ^^^ b))
theorem xor_lt{c b:Nat}(hc:c<4294967296)(hb:b<256):c ^^^ b<4294967296:=Nat.xor_lt_two_pow (n:=32) hc (by omega)
theorem step_lt{c b:Nat}(hc:c<4294967296)(hb:b<256):step c b<4294967296:=half_lt (half_lt (xor_lt hc hb))
def run(c:Nat)(l:List UInt8):Nat:=l.foldl (fun c b=>step c b.toNat) c
theorem run_lt(l:List UInt8):∀ {c:Nat},c<4294967296->run c l<4294967296:=by
 induction l with
 |nil=>intro c h;exact h
 |cons b l ih=>intro c h;exact ih (step_lt h b.toNat_lt)
theorem run_append(c:Nat)(a b:List UInt8):run c (a++b)=run (run c a) b:=by unfold run;rw[List.foldl_append]
def sum(l:List UInt8):Nat:=run 4294967295 l ^^^ 4294967295
theorem sum_lt(l:List UInt8):sum l<4294967296:=Nat.xor_lt_two_pow (n:=32) (run_lt l (by decide)) (by decide)
end Cc
namespace Go.Proofs.YtjoiajmbfbjnnaaGreatDoor
open Go.RowKit
def HT(w:World):Prop:=0<w.heap.size/\∀i,i<16->w.cell? ⟨0,i,none⟩=some (.int .u32 ((Cc.hv.getD i 0:Nat):Int))
theorem HT.below{w w':World}{B:Nat}(h:HT w)(hb:Below B w w')(hB:0<B):HT w':=by
 refine⟨by have:=hb.size;have:=h.1;omega,fun i hi=> ?_⟩
 rw[hb.cell (p:=⟨0,i,none⟩) hB];exact h.2 i hi
theorem and15(n:Nat)(h:n<4294967296):bits .and .u32 (n:Int) 15=((n % 16:Nat):Int):=by
 have e:=u32_and_nat n 15 h (by decide)
 rw[show(15:Nat)=2 ^ 4-1 from rfl,Nat.and_two_pow_sub_one_eq_mod]at e
 exact e
theorem half_bits(n:Nat)(h:n<4294967296):bits .xor .u32 ((n:Int) / 16) ((Cc.hv.getD (n % 16) 0:Nat):Int)=((Cc.half n:Nat):Int):=
 u32_xor_nat (n / 16) (Cc.hv.getD (n % 16) 0) (by omega) (Cc.hv_lt _)
theorem step_any(c b:Nat)(hc:c<4294967296)(hb:b<256)(w:World)(h:HT w):
  Calls Tryz.prog 194 #[.int .i64 c, .int .u8 b] w fun e w'=>e= .returned (.int .i64 (Cc.step c b))/\w'=w:=by
 have e1:IntKind.u32.wrap (c:Int)=c:=IntWalk.u32_in _ (by omega)
 have e2:IntKind.u32.wrap (b:Int)=b:=IntWalk.u32_in _ (by omega)
 have e3:=u32_xor_nat c b hc (by omega)
 have h1:=Cc.xor_lt hc hb
 have g1:=h.2 ((c ^^^ b) % 16) (by omega)
 have h2:=Cc.half_lt h1
 have g2:=h.2 (Cc.half (c ^^^ b) % 16) (by omega)
 have e4:=and15 _ h1
 have e5:=and15 _ h2
 have e6:=half_bits _ h1
 have e7:=half_bits _ h2
 have h3:=Cc.half_lt h2
 unfold Cc.step
 generalize Cc.half (Cc.half (c ^^^ b))=z at*
 generalize Cc.half (c ^^^ b)=y at*
 generalize c ^^^ b=x at*
 generalize Cc.hv.getD (x % 16) 0=p at*
 generalize Cc.hv.getD (y % 16) 0=q at*
 go_enter Tryz.func194,Tryz.ntmps194
 go_wp2
 go_ret
 exact⟨rfl,rfl⟩
theorem run_take_succ(c:Nat)(l:List UInt8)(j:Nat)(hj:j<l.length):Cc.run c (l.take (j+1))=Cc.step (Cc.run c (l.take j)) l[j].toNat:=by
 rw[List.take_succ_eq_append_getElem hj,Cc.run_append];rfl
theorem sum_bits(l:List UInt8):bits .xor .i64 ((Cc.run 4294967295 l:Nat):Int) 4294967295=((Cc.sum l:Nat):Int):=
 i64_xor_nat (Cc.run 4294967295 l) 4294967295 (by have:=Cc.run_lt l (c:=4294967295) (by decide);omega) (by decide)
theorem sum_any(g c:Nat)(l:List UInt8)(hl:l.length<=1000000)(w:World)(hT:HT w)(hg:w.cell? ⟨g,0,none⟩=some (.string ⟨l.toArray⟩)):
  Calls Tryz.prog 145 #[.slice (some ⟨g,0,none⟩) 1 c] w fun e w'=>e= .returned (.int .i64 (Cc.sum l))/\w.grownBy w' none:=by
 have hsum:=sum_bits l
 obtain⟨R,hR⟩:∃R,R=Cc.sum l:=⟨_,rfl⟩
 rw[<-hR]at hsum ⊢
 clear hR
 go_enter Tryz.func145,Tryz.ntmps145
 go_wp2
 go_loopw [3,10] (fun v i wr=>(i= .int .i64 0/\v= .int .i64 4294967295/\wr=w)\/(i= .int .i64 1/\v= .int .i64 (Cc.run 4294967295 l:Nat)/\w.grownBy wr none)) (fun _ i _=>1-(intOf i).toNat)
 case atStart=>exact .inl ⟨rfl,rfl,rfl⟩
 case round=>
  rcases hrel with⟨rfl,rfl,rfl⟩ | ⟨rfl,rfl,hgr⟩
  ·obtain⟨cap,w2,hrun,hg2,hcells⟩:=bytes_of_str (P:=Tryz.prog) wr l Tryz.underlying9 Tryz.underlying217 Tryz.underlying5
   have hT2:HT w2:=hT.below (below_of_none hg2 (Nat.le_refl _)) hT.1
   go_wp2
   go_loop [3,17] (fun v i=>∃j:Nat,j<=l.length/\i= .int .i64 j/\v= .int .i64 (Cc.run 4294967295 (l.take j):Nat)) (fun _ i=>l.length-(intOf i).toNat)
   case atStart=>exact⟨0,by omega,rfl,rfl⟩
   case round=>
    obtain⟨j,hj,rfl,rfl⟩:=hrel
    by_cases hlt:j<l.length
    ·have hc:=hcells j hlt
     have hnx:=Lib.hid (run_take_succ 4294967295 l j hlt)
     have hrl:=Cc.run_lt (l.take j) (c:=4294967295) (by decide)
     have hb8:=l[j].toNat_lt
     have hst:=fun W h=>step_any (Cc.run 4294967295 (l.take j)) l[j].toNat hrl hb8 W h
     clear hcells
     go_wp2_with (go_at_call 194;refine(hst _ hT2).mono ?_;rintro e w3 ⟨rfl,rfl⟩)
     exact⟨⟨j+1,by omega,by go_num,by rw[hnx.out]⟩,by simp[intOf];omega⟩
    ·obtain rfl:j=l.length:=by omega
     rw[List.take_of_length_le (Nat.le_refl _)]
     clear hcells
     go_wp2
     exact⟨.inr ⟨rfl,rfl,hg2⟩,by simp[intOf]⟩
  ·go_wp2
   go_ret
   exact⟨rfl,hgr⟩
end Go.Proofs.YtjoiajmbfbjnnaaGreatDoor
namespace Pg
open Cp
def rest(id kind:Nat)(b:List UInt8):List UInt8:=be 4 id++(be 1 kind++(be 1 0++(be 2 b.length++([0,0,0,0]++(b++List.replicate (240-b.length) 0)))))
theorem rest_length(id kind:Nat)(b:List UInt8)(h:b.length<=240):(rest id kind b).length=252:=by
 unfold rest
 simp only[List.length_append,be_length,List.length_cons,List.length_nil,List.length_replicate]
 omega
def page(id kind:Nat)(b:List UInt8):List UInt8:=be 4 (Cc.sum (rest id kind b))++rest id kind b
theorem page_length(id kind:Nat)(b:List UInt8)(h:b.length<=240):(page id kind b).length=256:=by
 unfold page;rw[List.length_append,be_length,rest_length id kind b h]
end Pg
namespace Go.Proofs.YtjoiajmbfbjnnaaGreatDoor
open Go.RowKit
theorem str_append(a b:List UInt8):(⟨a.toArray⟩:ByteArray)++⟨b.toArray⟩=⟨(a++b).toArray⟩:=by
 apply ByteArray.ext;simp
end Go.Proofs.YtjoiajmbfbjnnaaGreatDoor
