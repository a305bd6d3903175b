/- Part of this proof. -/
import Derived.Test.YteppebbmnojapaaGreatDoorL00
set_option maxRecDepth 100000
set_option maxHeartbeats 8000000
namespace Go.Proofs.YteppebbmnojapaaGreatDoor
open Go.RowKit
def SortSaid:Prop:=∀ (v:Value) (l:List Run) (base:Nat) (w:World),Own w base v l->l.length<=1000000->
 Calls Tryz.prog 86 #[v, .func (.func 87) #[] #[]] w fun e w'=>e= .returned (.tuple #[])/\(∃s:List Run,s.Perm l/\s.Pairwise (fun a b=>a.1<=b.1)/\Own w' base v s)/\w.grownBy w' v.ownBlock
theorem QK(l:List Run)(k:Nat)(hk:k<l.length):Rp.kept (l.take (k+1))=Rp.kept (l.take k)++if(Rp.clip l[k]).1<=(Rp.clip l[k]).2 then [Rp.clip l[k]]else []:=by
 unfold Rp.kept
 rw[List.take_succ_eq_append_getElem hk,List.map_append,List.filter_append]
 congr 1
 simp[List.filter_cons]
theorem kept_len(l:List Run):(Rp.kept l).length<=l.length:=by
 unfold Rp.kept
 exact Nat.le_trans (List.length_filter_le _ _) (by simp)
theorem MJ(o:List Run)(y:Run)(z:Int):(bT (o++ [y])).set (o.length*2+1) (.int .i64 z)=bT (o++ [(y.1,z)]):=by
 rw[ku,ku,uM,uM,List.set_append,if_neg (by rw[jZ];omega),jZ]
 congr 1
 rw[show o.length*2+1-o.length*2=1 by omega]
 rfl
theorem EJ(o:List Run)(y r:Run):Rp.push (o++ [y]) r=if r.1<=y.2+1 then o++ [(y.1,max y.2 r.2)]else o++ [y]++ [r]:=by
 unfold Rp.push
 simp
theorem U5(r:Run):Rp.push [] r= [r]:=rfl
theorem nX{w:World}{base e size n:Nat}{v:Value}{xs:List Value}(h:w.ownsRow base e size v n xs)(k:Nat):(w.drewN k).ownsRow base e size v n xs:=h
theorem Own.ada{w:World}{base:Nat}{v:Value}(h:Own w base v []):∃A c,v= .slice A 0 c:=h.form
theorem MK(o:List Run):o= []\/∃o' z,o=o'++ [z]:=by
 rcases List.eq_nil_or_concat o with h | ⟨o',z,h⟩
 ·exact .inl h
 ·exact .inr ⟨o',z,by rw[h,List.concat_eq_append]⟩
theorem Own.snoc{w:World}{base:Nat}{v:Value}{o:List Run}{z:Run}(h:Own w base v (o++ [z])):∃g c,v= .slice (some ⟨g,0,none⟩) (o.length+1) c/\base<=g/\g<w.heap.size/\
  w.cell? ⟨g,o.length*2,none⟩=some (.int .i64 z.1)/\w.cell? ⟨g,o.length*2+1,none⟩=some (.int .i64 z.2)/\w.frozen? ⟨g,o.length*2+1,none⟩=false:=by
 rcases h.2 with⟨_,h0⟩ | ⟨g,cap,cur,rfl,hb,hh,_⟩
 ·simp at h0
 ·have hl:g<w.heap.size:=(h.lt g rfl).2
  have hc:=su (o++ [z]) o.length (by simp)
  refine⟨g,cap,by simp,hb,hl, ?_, ?_, ?_⟩
  ·rw[World.ownsRow.cellAt h _ (by simp),hc.1];simp
  ·rw[World.ownsRow.cellAt h _ (by simp;omega),hc.2];simp
  ·exact World.ownsRow.frozenAt h _
theorem Own.store{w:World}{base g c n:Nat}{o:List Run}{z:Run}(x:Int)(h:Own w base (.slice (some ⟨g,0,none⟩) n c) (o++ [z])):Own (w.setCell ⟨g,o.length*2+1,none⟩ (.int .i64 x)) base (.slice (some ⟨g,0,none⟩) n c) (o++ [(z.1,x)]):=by
 obtain⟨A,c',e⟩:=h.form
 injection e with e1 e2 e3
 subst e2
 have:=(World.ownsRow.stored h (o.length*2+1) (.int .i64 x)).1
 rw[MJ]at this
 unfold Own
 simpa using this
def mAt(s:List Run)(k:Nat):List Run:=Rp.merged (s.take k)
theorem IL(s:List Run)(k:Nat)(hk:k<s.length):mAt s (k+1)=Rp.push (mAt s k) s[k]:=by
 unfold mAt Rp.merged
 rw[List.take_succ_eq_append_getElem hk,List.foldl_append];rfl
theorem U6(o:List Run)(r:Run):(Rp.push o r).length<=o.length+1:=by
 unfold Rp.push
 split
 ·simp
 ·split
  ·simp
  ·simp
theorem YH(s:List Run)(k:Nat):(mAt s k).length<=k:=by
 induction k with
 |zero=>simp[mAt,Rp.merged]
 |succ k ih=>
  by_cases hk:k<s.length
  ·rw[IL s k hk];have:=U6 (mAt s k) s[k];omega
  ·have e:mAt s (k+1)=mAt s k:=by unfold mAt;rw[List.take_of_length_le (by omega),List.take_of_length_le (by omega)]
   rw[e];omega
theorem YI(s:List Run)(k:Nat)(hp:s.Pairwise (fun a b=>a.1<=b.1))(hk:∀r∈s,0<=r.1/\r.1<=r.2/\r.2<=Rp.Most):∀y∈mAt s k,InR y:=by
 have h:=(Rp.yI (s.take k) [] trivial (fun r _ y hy=>by simp at hy) (hp.sublist (List.take_sublist _ _)) (fun r hr=>hk r (List.mem_of_mem_take hr))).1
 exact oC _ 0 (Int.le_refl _) h
theorem EK(hS:SortSaid)(A:Option Addr)(c:Nat)(l:List Run)(w:World)(hr:RS w w.heap.size A l)(hl:l.length<=1000000):
  Calls Tryz.prog 33 #[.slice A l.length c] w fun e w'=>∃v',e= .returned v'/\Own w' w.heap.size v' (Rp.norm l)/\Below w.heap.size w w':=by
 have HS:=Lib.hid hS
 clear hS
 go_enter Tryz.func33,Tryz.ntmps33
 go_wp2
 go_loopw [3,12] (fun v i wr=>∃k:Nat,k<=l.length/\i= .int .i64 k/\Own wr w.heap.size v (Rp.kept (l.take k))/\Below w.heap.size w wr) (fun _ i _=>l.length-(intOf i).toNat)
 case atStart=>exact⟨0,by omega,rfl,Own.nil_ _ _,Below.refl _ _⟩
 case round=>
  obtain⟨k,hk,rfl,hown,hbe⟩:=hrel
  by_cases hlt:k<l.length
  ·obtain⟨b1,o1,rfl,_,g0,g1⟩:=(hr.below hbe).at_ hlt
   have hsu:=QK l k hlt
   have hle:(Rp.kept (l.take k)).length<=1000000:=by
    have:=kept_len (l.take k);have:=List.length_take_le k l;omega
   generalize Rp.kept (l.take k)=o at*
   have HSU:=Lib.hid hsu
   clear hsu
   generalize l[k]=y at*
   obtain⟨a,b⟩:=y
   simp only at*
   by_cases hab:max a 0<=min b 4294967295
   ·go_wp2_with (at_builtin;refine aU rfl _ _ 47 rfl qC Tryz.underlying47 rfl (by decide) rfl (World.ownsRow.alloc hown _) rfl (by simp) rfl (by simp[Value.oneCell']) (by unfold maxLen;omega) (by omega) (by have:=hbe.size;simp;omega) ?_;intro v' w2 hown' hgrow hbel _ _)
    go_roundw
    case rel=>
     refine⟨k+1,by omega,by go_num, ?_,(hbe.alloc hbe.size _).trans hbel⟩
     rw[HSU.out,if_pos (show(Rp.clip (a,b)).1<=(Rp.clip (a,b)).2 from hab)]
     exact mD (y:=Rp.clip (a,b)) hown'
    case measure=>simp[intOf];omega
   ·go_wp2
    go_roundw
    case rel=>
     refine⟨k+1,by omega,by go_num, ?_,hbe.alloc hbe.size _⟩
     rw[HSU.out,if_neg (show ¬ (Rp.clip (a,b)).1<=(Rp.clip (a,b)).2 from by show ¬ (max a 0<=min b 4294967295);omega),List.append_nil]
     exact World.ownsRow.alloc hown _
    case measure=>simp[intOf];omega
  ·obtain rfl:k=l.length:=by omega
   rw[List.take_of_length_le (Nat.le_refl _)]at hown
   have hkl:=kept_len l
   have adb:=Rp.Gw (l:=l)
   have hfin:=fun s hp hs=>Rp.norm_eq (l:=l) (s:=s) hp hs
   have HF:=Lib.hid hfin
   clear hfin
   generalize Rp.kept l=q at*
   have hso:=HS.out _ q _ wr hown (by omega)
   have HSO:=Lib.hid hso
   clear hso
   go_wp2_with (go_at_call 86;refine HSO.out.mono ?_;rintro e w2 ⟨rfl,⟨s,hp,hpw,hown2⟩,hg2⟩;obtain⟨A2,c2,rfl⟩:=hown2.form)
   have hfs:=HF.out s hp hpw
   have HFS:=Lib.hid hfs
   clear hfs
   have hsl:s.length<=1000000:=by have:=hp.length_eq;omega
   have ade:∀r∈s,0<=r.1/\r.1<=r.2/\r.2<=Rp.Most:=fun r hr=>adb r (hp.mem_iff.1 hr)
   have hrs:=hown2.rs
   have hb2:Below w.heap.size w w2:=hbe.grown hg2 hbe.size (fun j hj=>(hown.lt j hj).1)
   clear adb hp
   have hz2:=hb2.size
   go_loopw [6,37] (fun v i wx=>∃k:Nat,k<=s.length/\i= .int .i64 k/\Own wx w2.heap.size v (mAt s k)/\Below w2.heap.size w2 wx) (fun _ i _=>s.length-(intOf i).toNat)
   case atStart=>exact⟨0,by omega,rfl,Own.nil_ _ _,Below.refl _ _⟩
   case round=>
    obtain⟨k,hk,rfl,hown3,nY⟩:=hrel
    by_cases hlt2:k<s.length
    ·obtain⟨b1,o1,rfl,_,g0,g1⟩:=(hrs.below nY).at_ hlt2
     have hml:=YH s k
     have hmr:=YI s k hpw ade
     have hsu:=IL s k hlt2
     have hrk:=ade _ (List.getElem_mem hlt2)
     generalize mAt s k=o at*
     have HSU:=Lib.hid hsu
     clear hsu
     generalize s[k]=y at*
     obtain⟨a,b⟩:=y
     simp only[Rp.Most]at hrk g0 g1
     rcases MK o with rfl | ⟨o',z,rfl⟩
     ·obtain⟨A3,c3,rfl⟩:=hown3.ada
      have hown4:wr.ownsRow w2.heap.size 64 2 (.slice A3 0 c3) 0 []:=hown3
      go_wp2
      go_quiet (fail)
      go_wp2_with (at_builtin;refine aU rfl (.tmp 71) (.tmp 73) 47 rfl qC Tryz.underlying47 rfl (by decide) rfl (nX (World.ownsRow.alloc hown4 _) _) rfl (by simp) rfl (by simp[Value.oneCell']) (by decide) (by decide) (by have:=nY.size;simp;omega) ?_;intro v' w3 hown' hgrow hbel _ _)
      go_roundw
      case rel=>
       refine⟨k+1,by omega,by go_num, ?_,(below_drewN (nY.alloc nY.size _) _).trans hbel⟩
       rw[HSU.out,U5]
       exact mD (o:= []) (y:=(a,b)) hown'
      case measure=>simp[intOf];omega
     ·obtain⟨g,c3,rfl,hg1,hg2,z0,z1,zf⟩:=hown3.snoc
      have hzr:=hmr z (by simp)
      have hml':o'.length<=1000000:=by simp at hml;omega
      obtain⟨p,q'⟩:=z
      unfold InR at hzr
      simp only at hzr z0 z1
      have hown4:wr.ownsRow w2.heap.size 64 2 (.slice (some ⟨g,0,none⟩) (o'.length+1) c3) (o'.length+1) (bT (o'++ [(p,q')])):=by
       have h:=hown3;unfold Own at h;simpa using h
      by_cases hov:a<=q'+1
      ·go_wp2
       go_quiet (fail)
       go_wp2
       have ahA:g<wr.heap.size:=hg2
       go_region
       go_wp2
       go_roundw
       case rel=>
        refine⟨k+1,by omega,by go_num, ?_, ?_⟩
        ·rw[HSU.out,EJ,if_pos hov]
         exact Own.store (z:=(p,q')) _ (nX (World.ownsRow.alloc hown3 _) _)
        ·exact(below_drewN (nY.alloc nY.size _) _).setCell (p:=⟨g,o'.length*2+1,none⟩) hg1 _
       case measure=>simp[intOf];omega
      ·go_wp2
       go_quiet (fail)
       go_wp2_with (at_builtin;refine aU rfl (.tmp 71) (.tmp 73) 47 rfl qC Tryz.underlying47 rfl (by decide) rfl (nX (World.ownsRow.alloc hown4 _) _) rfl (by simp) rfl (by simp[Value.oneCell']) (by unfold maxLen;omega) (by omega) (by have:=nY.size;simp;omega) ?_;intro v' w3 hown' hgrow hbel _ _)
       go_roundw
       case rel=>
        refine⟨k+1,by omega,by go_num, ?_,(below_drewN (nY.alloc nY.size _) _).trans hbel⟩
        rw[HSU.out,EJ,if_neg (Int.not_le.2 hov)]
        refine mD (y:=(a,b)) ?_
        rw[List.length_append];exact hown'
       case measure=>simp[intOf];omega
    ·obtain rfl:k=s.length:=by omega
     have hmf:mAt s s.length=Rp.merged s:=by unfold mAt;rw[List.take_of_length_le (Nat.le_refl _)]
     rw[hmf]at hown3
     go_wp2
     go_ret
     exact⟨_,rfl,by rw[<-HFS.out];exact hown3.lower hz2,hb2.trans (nY.mono hz2)⟩
end Go.Proofs.YteppebbmnojapaaGreatDoor
