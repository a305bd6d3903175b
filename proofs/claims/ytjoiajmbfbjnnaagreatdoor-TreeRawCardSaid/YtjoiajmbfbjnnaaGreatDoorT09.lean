/- Part of this proof. -/
import Derived.Test.YtjoiajmbfbjnnaaGreatDoorT08
set_option maxRecDepth 100000
set_option maxHeartbeats 8000000
namespace Go.Proofs.YtjoiajmbfbjnnaaGreatDoor
open Go.RowKit Go.Shelf
theorem Blk.put4{w:World}{g:Nat}{ty:TypeId}{a b c d:Value}(h:Blk w g ty #[a,b,c,d])(a' b' c' d':Value):Blk ((((w.setCell ⟨g,0,none⟩ a').setCell ⟨g,1,none⟩ b').setCell ⟨g,2,none⟩ c').setCell ⟨g,3,none⟩ d') g ty #[a',b',c',d']:=by
 have:=(((h.set_ 0 a').set_ 1 b').set_ 2 c').set_ 3 d'
 simpa using this
theorem Blk.far4{w:World}{g g':Nat}{ty:TypeId}{cs:Array Value}(h:Blk w g ty cs)(hne:g≠g')(a' b' c' d':Value):Blk ((((w.setCell ⟨g',0,none⟩ a').setCell ⟨g',1,none⟩ b').setCell ⟨g',2,none⟩ c').setCell ⟨g',3,none⟩ d') g ty cs:=(((h.far hne a').far hne b').far hne c').far hne d'
theorem Fr.put4{w:World}{g:Nat}{S:Nat->Prop}(hg:S g)(a' b' c' d':Value):Fr S w ((((w.setCell ⟨g,0,none⟩ a').setCell ⟨g,1,none⟩ b').setCell ⟨g,2,none⟩ c').setCell ⟨g,3,none⟩ d'):=
 ((Fr.set_ hg _).trans (Fr.set_ hg _)).trans ((Fr.set_ hg _).trans (Fr.set_ hg _))
def zeroN:Nd.Node:=⟨false, [], [], []⟩
theorem zeroN_nf(lo:Nat)(w:World):NF lo w (.agg #[.bool false, .slice none 0 0, .slice none 0 0, .slice none 0 0]) zeroN:=⟨none,0,none,0,none,0,rfl,LO.nil_ _ _,LO.nil_ _ _,LO.nil_ _ _⟩
theorem split_small(v:Value)(n:Nd.Node)(hrt:Nd.right n=true)(he:n.ents.length<2)(hi:n.kids.length<2)(w:World)(h:NS w v n)(hb:NB n):
  Calls Tryz.prog 208 #[v] w fun e w'=>∃va vb,e= .returned (.tuple #[va, .string ⟨#[]⟩,vb])/\NF w.heap.size w' va n/\NF w.heap.size w' vb zeroN/\Below w.heap.size w w':=by
 obtain⟨Ae,ce,Ai,ci,Ay,cy,rfl,h1,h2,h3⟩:=h
 unfold nodeV
 have hB1:=((Blk.new w 32 #[.bool n.leaf, .slice Ae n.ents.length ce, .slice Ai n.kids.length ci, .slice Ay n.keys.length cy]).alloc (.cells #[.bool false, .slice none 0 0, .slice none 0 0, .slice none 0 0] 32)).alloc (.cells #[.bool false, .slice none 0 0, .slice none 0 0, .slice none 0 0] 32)
 have hB2:=(Blk.new (w.alloc (.cells #[.bool n.leaf, .slice Ae n.ents.length ce, .slice Ai n.kids.length ci, .slice Ay n.keys.length cy] 32)) 32 #[.bool false, .slice none 0 0, .slice none 0 0, .slice none 0 0]).alloc (.cells #[.bool false, .slice none 0 0, .slice none 0 0, .slice none 0 0] 32)
 have hB4:=Blk.new ((w.alloc (.cells #[.bool n.leaf, .slice Ae n.ents.length ce, .slice Ai n.kids.length ci, .slice Ay n.keys.length cy] 32)).alloc (.cells #[.bool false, .slice none 0 0, .slice none 0 0, .slice none 0 0] 32)) 32 #[.bool false, .slice none 0 0, .slice none 0 0, .slice none 0 0]
 have hx1:=(Below.refl w.heap.size w).alloc (Nat.le_refl _) (.cells #[.bool n.leaf, .slice Ae n.ents.length ce, .slice Ai n.kids.length ci, .slice Ay n.keys.length cy] 32)
 have hx2:=hx1.alloc hx1.size (.cells #[.bool false, .slice none 0 0, .slice none 0 0, .slice none 0 0] 32)
 have hx3:=hx2.alloc hx2.size (.cells #[.bool false, .slice none 0 0, .slice none 0 0, .slice none 0 0] 32)
 have hns:∀W,Below w.heap.size w W->NS W (.agg #[.bool n.leaf, .slice Ae n.ents.length ce, .slice Ai n.kids.length ci, .slice Ay n.keys.length cy]) n:=fun W hbW=>⟨Ae,ce,Ai,ci,Ay,cy,rfl,h1.up hbW,h2.up hbW,h3.up hbW⟩
 have HR:=Lib.hid (fun W hbW=>nright_any _ n W (hns W hbW) hb)
 have HCP:=Lib.hid (fun W hbW=>copied_any _ n W (hns W hbW) hb)
 rw[hrt]at HR
 simp only[World.size_alloc]at hB2 hB4
 have hzz:(((w.alloc (.cells #[.bool n.leaf, .slice Ae n.ents.length ce, .slice Ai n.kids.length ci, .slice Ay n.keys.length cy] 32)).alloc (.cells #[.bool false, .slice none 0 0, .slice none 0 0, .slice none 0 0] 32)).alloc (.cells #[.bool false, .slice none 0 0, .slice none 0 0, .slice none 0 0] 32)).heap.size=w.heap.size+3:=by simp
 have HX:=Lib.hid hx3
 have HB1:=Lib.hid hB1
 have HB2:=Lib.hid hB2
 have HB4:=Lib.hid hB4
 have hl1:=hB1.lt
 have cc0:=hB1.cell 0
 have cc1:=hB1.cell 1
 have cc2:=hB1.cell 2
 have cc3:=hB1.cell 3
 obtain⟨ND,hND⟩:∃x:Nd.Node,x=n:=⟨_,rfl⟩
 have HND:=Lib.hid hND
 have hHG:∀lo W v,NF lo W v n->NF lo W v ND:=fun lo W v h=>by rw[hND];exact h
 have HHG:=Lib.hid hHG
 have hq:(fun e w'=>∃va vb,e=Ending.returned (.tuple #[va, .string ⟨#[]⟩,vb])/\NF w.heap.size w' va n/\NF w.heap.size w' vb zeroN/\Below w.heap.size w w')=(fun e w'=>∃va vb,e=Ending.returned (.tuple #[va, .string ⟨#[]⟩,vb])/\NF w.heap.size w' va ND/\NF w.heap.size w' vb zeroN/\Below w.heap.size w w'):=by rw[hND]
 rw[hq]
 clear hb hns hrt hB1 hB2 hB4 hx1 hx2 hND hHG hq
 go_enter Tryz.func208,Tryz.ntmps208
 go_wp2_with fail
 refine(HR.out _ (by exact hx3)).mono ?_
 rintro e w1 ⟨rfl,hb1⟩
 have hz1:w.heap.size+3<=w1.heap.size:=by have:=hb1.size;omega
 have hb01:Below w.heap.size w w1:=HX.out.trans (hb1.mono (by omega))
 have hB1:=HB1.out.below hb1 (by omega)
 have hB2:=HB2.out.below hb1 (by omega)
 have hB4:=HB4.out.below hb1 (by omega)
 have hl1:=hB1.lt
 have cc0:=hB1.cell 0
 have cc1:=hB1.cell 1
 have cc2:=hB1.cell 2
 have cc3:=hB1.cell 3
 clear hb1
 go_wp2_with fail
 refine(HCP.out _ hb01).mono ?_
 rintro e w2 ⟨v',rfl,hnf,hb2⟩
 have hb02:=hb01.trans (hb2.mono (by omega))
 have hz2:w.heap.size+3<=w2.heap.size:=by have:=hb2.size;omega
 have hB2:=hB2.below hb2 (by omega)
 have hB4:=hB4.below hb2 (by omega)
 obtain⟨A1,k1,A2,k2,A3,k3,rfl,r⟩:=hnf
 have d0:=hB2.cell 0
 have d1:=hB2.cell 1
 have d2:=hB2.cell 2
 have d3:=hB2.cell 3
 have e0:=hB4.cell 0
 have e1:=hB4.cell 1
 have e2:=hB4.cell 2
 have e3:=hB4.cell 3
 have f0:=hB2.frozen 0
 have f1:=hB2.frozen 1
 have f2:=hB2.frozen 2
 have f3:=hB2.frozen 3
 have g0:=hB4.frozen 0
 have g1:=hB4.frozen 1
 have g2:=hB4.frozen 2
 have g3:=hB4.frozen 3
 have hl2:=hB2.lt
 have hl4:=hB4.lt
 have H2:=Lib.hid hB2
 have H4:=Lib.hid hB4
 have HR:=Lib.hid r
 clear hB1 hB2 hB4 hb2 hb01 r
 unfold nodeV
 go_wp2
 try simp only[Exit.inBlock,Exit.then]
 refine bodyPost_ret (res_cell_tmp_cell node_struct node_struct rfl rfl ((H2.out.put4 _ _ _ _).far4 (by omega) _ _ _ _) rfl rfl ((H4.out.far4 (by omega) _ _ _ _).put4 _ _ _ _) rfl) rfl ?_
 have hfr:∀a b c d a' b' c' d',Fr (fun k=>k=w.heap.size+1\/k=w.heap.size+1+1) w2 _:=fun a b c d a' b' c' d'=>(Fr.put4 (w:=w2) (g:=w.heap.size+1) (.inl rfl) a b c d).trans (Fr.put4 (g:=w.heap.size+1+1) (.inr rfl) a' b' c' d')
 exact⟨_,_,rfl,HHG.out _ _ _ (NF.lower (NF.fr ⟨A1,k1,A2,k2,A3,k3,rfl,HR.out⟩ (hfr _ _ _ _ _ _ _ _) (fun k hk=>by omega)) (by omega)),zeroN_nf _ _,hb02.trans ((hfr _ _ _ _ _ _ _ _).low (by omega) (fun k hk=>by omega))⟩
def SpEnd(n:Nd.Node)(w:World)(e:Ending)(w':World):Prop:=∃va vb key a b,e= .returned (.tuple #[va, .string key,vb])/\NF w.heap.size w' va a/\NF w.heap.size w' vb b/\Below w.heap.size w w'/\(Nd.split n=some (a,key,b)\/(Nd.split n=none/\key=⟨#[]⟩/\n.ents.length<2/\n.kids.length<2))
theorem half_in{l:List Ent}(h:En.right l=true)(h2:2<=l.length):0<Nd.half l/\Nd.half l<l.length:=by
 have hm:=((En.right_iff l).1 h).1
 have hl:=Nd.esize_len l
 obtain⟨j,g1,g2,g3,_,_⟩:=Tp.half_spec (Nd.esize l) l.length (by omega) l 0 0 (by omega) (fun e=>by subst e;simp at h2) (.inr h2) (fun h=>absurd h (by omega)) (fun _=>rfl) (fun x hx=>Tp.esz_may (hm x hx))
 unfold Nd.half
 rw[g2]
 omega
theorem split_any(v:Value)(n:Nd.Node)(hrt:Nd.right n=true)(w:World)(h:NS w v n)(hb:NB n):Calls Tryz.prog 208 #[v] w (SpEnd n w):=by
 by_cases h2:n.ents.length<2/\n.kids.length<2
 ·refine(split_small v n hrt h2.1 h2.2 w h hb).mono ?_
  rintro e w' ⟨va,vb,rfl,a1,a2,a3⟩
  exact⟨va,vb,_,n,zeroN,rfl,a1,a2,a3, .inr ⟨by unfold Nd.split;rw[if_pos (.inr h2)],rfl,h2⟩⟩
 ·cases hlf:n.leaf with
  |true=>
   have h3:En.right n.ents=true/\n.kids= []/\n.keys= []:=by
    obtain⟨leaf,ents,kids,keys⟩:=n
    obtain rfl:leaf=true:=hlf
    exact Nd.right_leaf.1 hrt
   have hle:2<=n.ents.length:=by
    have:n.kids.length=0:=by rw[h3.2.1];rfl
    omega
   have hk:=(half_in h3.1 hle).2
   refine(split_leaf v n hlf hrt hle _ rfl hk _ rfl w h hb).mono ?_
   rintro e w' ⟨va,vb,rfl,a1,a2,a3⟩
   refine⟨va,vb,_,_,_,rfl,a1,a2,a3, .inl ?_⟩
   unfold Nd.split
   rw[if_neg (by rw[hrt];rintro(h | h); · cases h
                 ·exact h2 h),if_pos hlf,List.getElem?_eq_getElem hk]
  |false=>
   have h3:n.ents= []/\n.keys.length+1=n.kids.length:=by
    obtain⟨leaf,ents,kids,keys⟩:=n
    obtain rfl:leaf=false:=hlf
    have:=Nd.right_inner.1 hrt
    exact⟨this.1,this.2.1⟩
   have hle:2<=n.kids.length:=by
    have:n.ents.length=0:=by rw[h3.1];rfl
    omega
   have hk:n.kids.length / 2-1<n.keys.length:=by omega
   refine(split_inner v n hlf hrt h3.2 hle (by rw[h3.1];rfl) _ (n.kids.length / 2-1) rfl (by omega) hk _ rfl w h hb).mono ?_
   rintro e w' ⟨va,vb,rfl,a1,a2,a3⟩
   refine⟨va,vb,_,_,_,rfl,a1,a2,a3, .inl ?_⟩
   unfold Nd.split
   rw[if_neg (by rw[hrt];rintro(h | h); · cases h
                 ·exact h2 h),if_neg (by rw[hlf];simp),List.getElem?_eq_getElem hk]
theorem swap_any(v:Value)(n:Nd.Node)(Ax Az:Option Addr)(cx cz fr to_:Nat)(xs:List Int)(zs:List ByteArray)(hlf:n.leaf=false)(hft:fr<to_)(hto:to_<=n.kids.length)(hnk:n.keys.length+1=n.kids.length)(hz:zs.length=xs.length-1)(w:World)(h:NS w v n)(hb:NB n)(hx:SV intE w Ax cx xs)(hy:SV keyE w Az cz zs)(hxl:xs.length<=100000):
  Calls Tryz.prog 210 #[v, .int .i64 fr, .int .i64 to_, .slice Ax xs.length cx, .slice Az zs.length cz] w fun e w'=>∃v',e= .returned v'/\NF w.heap.size w' v' (Nd.swap n fr to_ xs zs)/\Below w.heap.size w w':=by
 have e0:Nd.swap n fr to_ xs zs=Nd.mkInner (n.kids.take fr++xs++n.kids.drop to_) (n.keys.take (if xs.length=0/\0<fr then fr-1 else fr)++zs++n.keys.drop (if xs.length=0/\fr=0 then min to_ n.keys.length else to_-1)):=by
  unfold Nd.swap
  rw[if_neg (by
   rw[hlf]
   rintro(h | h | h | h)
   ·cases h
   ·omega
   ·omega
   ·exact h hz)]
 rw[e0]
 by_cases hx0:xs.length=0
 ·have hxn:xs= []:=List.eq_nil_of_length_eq_zero hx0
  have hzn:zs= []:=List.eq_nil_of_length_eq_zero (by omega)
  by_cases hf0:fr=0
  ·rw[if_neg (by omega),if_pos ⟨hx0,hf0⟩]
   exact swap_low v n Ax Az cx cz fr to_ xs zs hlf hft hto hnk hzn hxn hf0 _ _ rfl rfl w h hb hx hy hxl
  ·rw[if_pos ⟨hx0,by omega⟩,if_neg (by omega)]
   exact swap_none v n Ax Az cx cz fr to_ xs zs hlf hft hto hnk hzn hxn (by omega) _ _ rfl rfl w h hb hx hy hxl
 ·rw[if_neg (by omega),if_neg (by omega)]
  exact swap_some v n Ax Az cx cz fr to_ xs zs hlf hft hto hnk (by omega) _ _ rfl rfl w h hb hx hy hxl
def DecEnd(n:Nd.Node)(w:World)(e:Ending)(w':World):Prop:=∃v,e= .returned (.tuple #[v, .int .i64 0])/\NF w.heap.size w' v n/\Below w.heap.size w w'
theorem fits_nb{n:Nd.Node}(h:Nd.fits n=true):NB n:=by
 obtain⟨hr,hs⟩:=Tp.fits_iff.1 h
 obtain⟨leaf,ents,kids,keys⟩:=n
 cases leaf with
 |true=>
  obtain⟨h1,rfl,rfl⟩:=Nd.right_leaf.1 hr
  have hs:Nd.esize ents<=240:=hs
  have:=Nd.esize_len ents
  exact⟨by show ents.length<=_;omega,by show(0:Nat)<=_;omega,by show(0:Nat)<=_;omega,by show Nd.esize ents<=_;omega,by show Nd.ksize []<=_;simp[Nd.ksize]⟩
 |false=>
  obtain⟨rfl,h2,_,_⟩:=Nd.right_inner.1 hr
  have hs:4+Nd.ksize keys<=240:=hs
  have:=Nd.ksize_len keys
  exact⟨by show(0:Nat)<=_;omega,by show kids.length<=_;omega,by show keys.length<=_;omega,by show Nd.esize []<=_;simp[Nd.esize],by show Nd.ksize keys<=_;omega⟩
theorem ndecode_leaf(l:List Ent)(hf:Nd.fits (Nd.mkLeaf l)=true)(w:World):
  Calls Tryz.prog 147 #[.int .u8 1, .string (Nd.str (Nd.eenc l))] w (DecEnd (Nd.mkLeaf l) w):=by
 have hnb:=fits_nb hf
 obtain⟨hr,hs⟩:=Tp.fits_iff.1 hf
 have hrl:En.right l=true:=(Nd.right_leaf.1 hr).1
 have hle:(Nd.eenc l).length<=50000:=by
  have hs:Nd.esize l<=240:=hs
  rw[Nd.eenc_length];omega
 have hE:=Lib.hid (fun W=>edecode_any (Nd.eenc l) W hle)
 rw[Nd.edec_enc hrl]at hE
 have e1:edl (some l)=l:=rfl
 have e2:edx (some l)=0:=rfl
 rw[e1,e2]at hE
 unfold EDec at hE
 have hFit:=Lib.hid (fun v W h=>nfits_any v (Nd.mkLeaf l) W h hnb)
 rw[hf]at hFit
 have hll:l.length<=1000:=by
  have hs:Nd.esize l<=240:=hs
  have:=Nd.esize_len l;omega
 generalize Nd.str (Nd.eenc l)=S at*
 clear hr hs hle e1 e2 hf hnb hrl
 have hb1:=(Below.refl w.heap.size w).alloc (Nat.le_refl _) (.cells #[.bool false, .slice none 0 0, .slice none 0 0, .slice none 0 0] 32)
 have hb2:=hb1.alloc hb1.size (.cells #[.bool true, .slice none 0 0, .slice none 0 0, .slice none 0 0] 32)
 have hBa:=Lib.hid ((Blk.new w 32 #[.bool false, .slice none 0 0, .slice none 0 0, .slice none 0 0]).alloc (.cells #[.bool true, .slice none 0 0, .slice none 0 0, .slice none 0 0] 32))
 have hBb:=Blk.new (w.alloc (.cells #[.bool false, .slice none 0 0, .slice none 0 0, .slice none 0 0] 32)) 32 #[.bool true, .slice none 0 0, .slice none 0 0, .slice none 0 0]
 simp only[World.size_alloc]at hBb
 have HBb:=Lib.hid hBb
 have HB2:=Lib.hid hb2
 have hzz:((w.alloc (.cells #[.bool false, .slice none 0 0, .slice none 0 0, .slice none 0 0] 32)).alloc (.cells #[.bool true, .slice none 0 0, .slice none 0 0, .slice none 0 0] 32)).heap.size=w.heap.size+2:=by simp
 clear hBb hb2 hb1
 go_enter Tryz.func147,Tryz.ntmps147
 go_wp2_with fail
 refine Calls.mono (hE.out _) ?_
 rintro e w3 ⟨A,c,rfl,ho,hb3⟩
 have hz3:w.heap.size+2<=w3.heap.size:=by have:=hb3.size;omega
 have hB1:=hBa.out.below hb3 (by omega)
 have hB2:=HBb.out.below hb3 (by omega)
 have hbw:Below w.heap.size w w3:=HB2.out.trans (hb3.mono (by omega))
 have hbs:=hB2.set_ 1 (.slice A l.length c)
 have f1:=hB2.frozen 1
 have g1:=hB2.cell 1
 have lb:=hB2.lt
 have hB1s:=hB1.far (p:=⟨w.heap.size+1,1,none⟩) (by simp) (.slice A l.length c)
 have hfr:=Fr.set_ (w:=w3) (S:=fun k=>k=w.heap.size+1) (g:=w.heap.size+1) (i:=1) rfl (.slice A l.length c)
 have hnf:NF (w.heap.size+2) (w3.setCell ⟨w.heap.size+1,1,none⟩ (.slice A l.length c)) (.agg #[.bool true, .slice A l.length c, .slice none 0 0, .slice none 0 0]) (Nd.mkLeaf l):=
  ⟨A,c,none,0,none,0,rfl,LO.fr' (LO.lower ho (by omega)) hfr (fun k hk=>by omega),LO.nil_ _ _,LO.nil_ _ _⟩
 have hFF:=Lib.hid (hFit.out _ _ hnf.ns)
 have HNF:=Lib.hid hnf
 have hbs2:=hbs
 simp only[List.setIfInBounds_toArray,List.set_cons_succ,List.set_cons_zero]at hbs2
 have d0:=hbs2.cell 0
 have d1:=hbs2.cell 1
 have d2:=hbs2.cell 2
 have d3:=hbs2.cell 3
 have HB1:=Lib.hid hB1s
 have HFR:=Lib.hid hfr
 have HBW:=Lib.hid hbw
 have HBS:=Lib.hid hbs2
 have hsz:((w3.setCell ⟨w.heap.size+1,1,none⟩ (.slice A l.length c))).heap.size=w3.heap.size:=by simp
 have HSZ:=Lib.hid hsz
 clear hnf hfr hB1 hB1s hB2 hbs hbs2 hbw ho hb3 hsz
 go_wp2_with fail
 refine hFF.out.mono ?_
 rintro e w4 ⟨rfl,hb4⟩
 have hs4:=HSZ.out
 have hz4:w.heap.size+2<=w4.heap.size:=by have:=hb4.size;omega
 have hB1:=HB1.out.below hb4 (by omega)
 have hB2:=HBS.out.below hb4 (by omega)
 have hnf:=NF.below HNF.out hb4
 have hbw:Below w.heap.size w w4:=(HBW.out.trans (HFR.out.low (by omega) (fun k hk=>by omega))).trans (hb4.mono (by omega))
 have c0:=hB2.cell 0
 have c1:=hB2.cell 1
 have c2:=hB2.cell 2
 have c3:=hB2.cell 3
 have a0:=hB1.cell 0
 have a1:=hB1.cell 1
 have a2:=hB1.cell 2
 have a3:=hB1.cell 3
 have f0:=hB1.frozen 0
 have f1:=hB1.frozen 1
 have f2:=hB1.frozen 2
 have f3:=hB1.frozen 3
 have l1:=hB1.lt
 have H1:=Lib.hid hB1
 have HN:=Lib.hid hnf
 have HW:=Lib.hid hbw
 clear hB1 hB2 hnf hb4 hs4 d0 d1 d2 d3 g1 hbw
 go_wp2
 try simp only[Exit.inBlock,Exit.then]
 refine bodyPost_ret (res_cell_tmp node_struct rfl rfl (H1.out.put4 _ _ _ _) rfl) rfl ?_
 have hfr:∀a b c d,Fr (fun k=>k=w.heap.size) w4 _:=fun a b c d=>Fr.put4 (w:=w4) (g:=w.heap.size) (S:=fun k=>k=w.heap.size) rfl a b c d
 exact⟨_,rfl,NF.lower (NF.fr HN.out (hfr _ _ _ _) (fun k hk=>by omega)) (by omega),HW.out.trans ((hfr _ _ _ _).low (by omega) (fun k hk=>by omega))⟩
theorem ent_text:∀args w,(callFunc 201 args).run Tryz.prog w= .ok (.enter 201 args) w:=fun args w=>by kernel_rfl
theorem ent_int:∀args w,(callFunc 198 args).run Tryz.prog w= .ok (.enter 198 args) w:=fun args w=>by kernel_rfl
theorem kenc_at(ks:List ByteArray)(is:List Int)(k:Nat)(hk:k<ks.length)(hi:k<is.length):Nd.kenc (ks.drop k) (is.drop k)=Nd.text ks[k]++(Cp.be 4 is[k].toNat++Nd.kenc (ks.drop (k+1)) (is.drop (k+1))):=by
 rw[List.drop_eq_getElem_cons hk,List.drop_eq_getElem_cons (l:=is) (i:=k) hi]
 unfold Nd.kenc Nd.kenc1
 rw[List.zip_cons_cons,List.flatMap_cons,List.append_assoc]
theorem ndecode_inner(i0:Int)(is:List Int)(ks:List ByteArray)(hf:Nd.fits (Nd.mkInner (i0::is) ks)=true)(w:World):
  Calls Tryz.prog 147 #[.int .u8 2, .string (Nd.str (Cp.be 4 i0.toNat++Nd.kenc ks is))] w (DecEnd (Nd.mkInner (i0::is) ks) w):=by
 have hnb:=fits_nb hf
 obtain⟨hr,hs⟩:=Tp.fits_iff.1 hf
 obtain⟨_,hl,hid,hkf⟩:=Nd.right_inner.1 hr
 have hmay:=((Nd.keys_iff ks).1 hkf).1
 have hlk:ks.length=is.length:=by simpa using hl
 have hkl:ks.length<=1000:=by
  have hs:4+Nd.ksize ks<=240:=hs
  have:=Nd.ksize_len ks;omega
 have hi0:=hid i0 List.mem_cons_self
 have hint:=Nd.int4_app i0 hi0.1 hi0.2 (Nd.kenc ks is)
 have hid2:∀ (k:Nat) (h:k<is.length),2<=is[k]/\is[k]<=4294967295:=fun k h=>hid _ (List.mem_cons_of_mem _ (List.getElem_mem h))
 have hmay2:∀ (k:Nat) (h:k<ks.length),ks[k].size<=255:=fun k h=>(Nd.may_size (x:=(ks[k],⟨#[]⟩)) (hmay _ (List.getElem_mem h))).2.1
 have hFit:=Lib.hid (fun v W h=>nfits_any v (Nd.mkInner (i0::is) ks) W h hnb)
 rw[hf]at hFit
 have HK:=Lib.hid (fun k hk hi=>kenc_at ks is k hk hi)
 have HID:=Lib.hid hid2
 have HMAY:=Lib.hid hmay2
 have HLK:=Lib.hid hlk
 obtain⟨ND,hND⟩:∃x,x=Nd.mkInner (i0::is) ks:=⟨_,rfl⟩
 rw[<-hND]at hFit ⊢
 have HND:=Lib.hid hND
 obtain⟨s,hse⟩:∃s,s=Cp.be 4 i0.toNat++Nd.kenc ks is:=⟨_,rfl⟩
 rw[<-hse]at hint ⊢
 have HI:=Lib.hid (fun g W h=>int_any g ⟨s,0⟩ 4 W h (.inr (.inr rfl)))
 rw[hint]at HI
 have e0:((i0.toNat:Nat):Int)=i0:=by omega
 simp only[e0]at HI
 have HLs:=Lib.hid (show ks.length=is.length from hlk)
 clear hnb hr hs hl hid hkf hmay hf hlk hi0 hint hid2 hmay2 hND hse e0
 have hb1:=(Below.refl w.heap.size w).alloc (Nat.le_refl _) (.cells #[.bool false, .slice none 0 0, .slice none 0 0, .slice none 0 0] 32)
 have hb2:=hb1.alloc hb1.size (.cells #[.bool false, .slice none 0 0, .slice none 0 0, .slice none 0 0] 32)
 have hBa:=(Blk.new w 32 #[.bool false, .slice none 0 0, .slice none 0 0, .slice none 0 0]).alloc (.cells #[.bool false, .slice none 0 0, .slice none 0 0, .slice none 0 0] 32)
 have hBb:=Blk.new (w.alloc (.cells #[.bool false, .slice none 0 0, .slice none 0 0, .slice none 0 0] 32)) 32 #[.bool false, .slice none 0 0, .slice none 0 0, .slice none 0 0]
 simp only[World.size_alloc]at hBb
 have hzz:((w.alloc (.cells #[.bool false, .slice none 0 0, .slice none 0 0, .slice none 0 0] 32)).alloc (.cells #[.bool false, .slice none 0 0, .slice none 0 0, .slice none 0 0] 32)).heap.size=w.heap.size+2:=by simp
 have HBa:=Lib.hid hBa
 have HBb:=Lib.hid hBb
 have HB2:=Lib.hid hb2
 clear hb1 hb2 hBa hBb
 go_enter Tryz.func147,Tryz.ntmps147
 go_wp2_with fail
 generalize (w.alloc (.cells #[.bool false, .slice none 0 0, .slice none 0 0, .slice none 0 0] 32)).alloc (.cells #[.bool false, .slice none 0 0, .slice none 0 0, .slice none 0 0] 32)=w0 at*
 refine(read_any s _).mono ?_
 rintro e w1 ⟨rfl,hw1⟩
 have hz1:w1.heap.size=w.heap.size+3:=by rw[hw1,World.size_alloc,hzz]
 have hB0:Blk w1 (w.heap.size+2) 330 (rdCells ⟨s,0⟩):=by rw[hw1, <-hzz];exact Blk.new _ _ _
 have hb01:Below (w.heap.size+2) w0 w1:=by rw[hw1];exact(Below.refl _ _).alloc (by rw[hzz];exact Nat.le_refl _) _
 have hBa:=HBa.out.below hb01 (by omega)
 have hBb:=HBb.out.below hb01 (by omega)
 have hbw:=HB2.out.trans (hb01.mono (by omega))
 clear hw1 hb01
 simp only[hzz]
 go_wp2_with fail
 refine(HI.out _ _ hB0).mono ?_
 rintro e w3 ⟨rfl,hB1,hg3⟩
 have hBa:=hBa.grown hg3 (by simp)
 have hBb:=hBb.grown hg3 (by simp)
 have hbw:=hbw.grown hg3 (by omega) (fun k e=>by cases e;omega)
 have hz3:=hg3.size
 have hs3:(w3.setCell ⟨w.heap.size+1,2,none⟩ (.slice (some ⟨w3.heap.size,0,none⟩) 1 1)).heap.size=w3.heap.size:=by simp
 have hBa4:=(hBa.far (p:=⟨w.heap.size+1,2,none⟩) (by simp) (.slice (some ⟨w3.heap.size,0,none⟩) 1 1)).alloc (.cells #[.int .i64 i0] 3)
 have hBb4:=(hBb.set_ 2 (.slice (some ⟨w3.heap.size,0,none⟩) 1 1)).alloc (.cells #[.int .i64 i0] 3)
 simp only[List.setIfInBounds_toArray,List.set_cons_succ,List.set_cons_zero]at hBb4
 have hB14:=(hB1.far (p:=⟨w.heap.size+1,2,none⟩) (by simp) (.slice (some ⟨w3.heap.size,0,none⟩) 1 1)).alloc (.cells #[.int .i64 i0] 3)
 have hI4:=Blk.new (w3.setCell ⟨w.heap.size+1,2,none⟩ (.slice (some ⟨w3.heap.size,0,none⟩) 1 1)) 3 #[.int .i64 i0]
 rw[hs3]at hI4
 have hO4:LO intE 3 ((w3.setCell ⟨w.heap.size+1,2,none⟩ (.slice (some ⟨w3.heap.size,0,none⟩) 1 1)).alloc (.cells #[.int .i64 i0] 3)) w3.heap.size (.slice (some ⟨w3.heap.size,0,none⟩) 1 1) [i0]:=LO.one rfl rfl hI4 (Nat.le_refl _)
 have hbw4:Below w.heap.size w ((w3.setCell ⟨w.heap.size+1,2,none⟩ (.slice (some ⟨w3.heap.size,0,none⟩) 1 1)).alloc (.cells #[.int .i64 i0] 3)):=(hbw.setCell (p:=⟨w.heap.size+1,2,none⟩) (by simp) _).alloc (by rw[hs3];omega) _
 have hz4:w3.heap.size<((w3.setCell ⟨w.heap.size+1,2,none⟩ (.slice (some ⟨w3.heap.size,0,none⟩) 1 1)).alloc (.cells #[.int .i64 i0] 3)).heap.size:=by simp
 have g2:=hBb.cell 2
 have f2:=hBb.frozen 2
 have lb:=hBb.lt
 have HB4:=Lib.hid hBa4
 have HBb4:=Lib.hid hBb4
 have HB14:=Lib.hid hB14
 have HO4:=Lib.hid hO4
 have HW4:=Lib.hid hbw4
 have HZ4:=Lib.hid hz4
 clear hBa hBb hBa4 hBb4 hB1 hB14 hI4 hO4 hbw hbw4 hg3 hz4 hs3
 go_wp2
 go_loopg [] ks.length (fun g wr=>∃ (k:Nat) (Ai Ay:Option Addr) (ci cy:Nat),k<=ks.length/\ks.length-k<=g/\Blk wr (w.heap.size+1) 32 #[.bool false, .slice none 0 0, .slice Ai (k+1) ci, .slice Ay k cy]/\Hid (LO intE 3 wr w3.heap.size (.slice Ai (k+1) ci) ((i0::is).take (k+1)))/\Hid (LO keyE 9 wr w3.heap.size (.slice Ay k cy) (ks.take k))/\Blk wr (w.heap.size+2) 330 (rdCells ⟨Nd.kenc (ks.drop k) (is.drop k),0⟩)/\Blk wr w.heap.size 32 #[.bool false, .slice none 0 0, .slice none 0 0, .slice none 0 0]/\Below w.heap.size w wr/\w3.heap.size<=wr.heap.size)
 case atStart=>exact⟨0,_,none,_,0,Nat.zero_le _,by omega,HBb4.out,Lib.hid HO4.out,Lib.hid (LO.nil_ _ _),HB14.out,HB4.out,HW4.out,by have:=HZ4.out;omega⟩
 case round=>
  obtain⟨k,Ai,Ay,ci,cy,hk,hg,hBn,HOI,HOK,hBr,hB4,hbw,hz⟩:=hrel
  by_cases hlt:k<ks.length
  ·have hi:k<is.length:=by have:=HLs.out;omega
   have hke:=HK.out k hlt hi
   rw[hke]at hBr
   have hS:=HMAY.out k hlt
   have hI:=HID.out k hi
   have HTA:=Lib.hid (List.take_succ_eq_append_getElem hlt)
   have hti:(i0::is).take (k+1+1)=(i0::is).take (k+1)++ [is[k]]:=by
    rw[List.take_succ_eq_append_getElem (by simpa using hi)];simp
   have HTI:=Lib.hid hti
   have hkl2:(ks.take k).length=k:=by rw[List.length_take];omega
   have hil2:((i0::is).take (k+1)).length=k+1:=by rw[List.length_take];simp;omega
   have HKL:=Lib.hid hkl2
   have HIL:=Lib.hid hil2
   obtain⟨rest,hrest⟩:∃x,x=Nd.kenc (ks.drop (k+1)) (is.drop (k+1)):=⟨_,rfl⟩
   obtain⟨K1,hK1⟩:∃x,x=ks.take (k+1):=⟨_,rfl⟩
   obtain⟨I1,hI1⟩:∃x,x=(i0::is).take (k+1+1):=⟨_,rfl⟩
   rw[<-hrest]at hBr
   rw[<-hK1]at HTA
   rw[<-hI1]at HTI
   have HREST:=Lib.hid hrest
   have HK1:=Lib.hid hK1
   have HI1:=Lib.hid hI1
   clear hrest hK1 hI1 hke hti
   generalize ks.take k=K at*
   generalize (i0::is).take (k+1)=I at*
   generalize ks[k]=S at*
   generalize is[k]=iv at*
   have htx:Nd.rtext ⟨Nd.text S++(Cp.be 4 iv.toNat++rest),0⟩=(S.data.toList,⟨Cp.be 4 iv.toNat++rest,0⟩):=Nd.rtext_app S hS _
   have hin:Cp.Rd.int ⟨Cp.be 4 iv.toNat++rest,0⟩ 4=(iv.toNat,⟨rest,0⟩):=Nd.int4_app iv hI.1 hI.2 rest
   have hHT:=fun W h=>rdtext_any (w.heap.size+2) ⟨Nd.text S++(Cp.be 4 iv.toNat++rest),0⟩ W h
   rw[htx]at hHT
   simp only[Nd.str_list]at hHT
   have HT:=Lib.hid hHT
   have hHI:=fun W h=>int_any (w.heap.size+2) ⟨Cp.be 4 iv.toNat++rest,0⟩ 4 W h (.inr (.inr rfl))
   rw[hin]at hHI
   simp only[show((iv.toNat:Nat):Int)=iv by omega]at hHI
   have HII:=Lib.hid hHI
   have hpos:0<(Nd.text S++(Cp.be 4 iv.toNat++rest)).length:=by rw[List.length_append,Nd.text_length];omega
   have HL:=hid_calls (rdleft_any (w.heap.size+2) ⟨Nd.text S++(Cp.be 4 iv.toNat++rest),0⟩ wr hBr)
   have HE:=hid_calls (err_any (w.heap.size+2) ⟨Nd.text S++(Cp.be 4 iv.toNat++rest),0⟩ wr hBr)
   simp only at HL HE
   obtain⟨r0,hr0⟩:∃r,r=Nd.text S++(Cp.be 4 iv.toNat++rest):=⟨_,rfl⟩
   rw[<-hr0]at hBr hpos HL HT
   obtain⟨r1,hr1⟩:∃r,r=Cp.be 4 iv.toNat++rest:=⟨_,rfl⟩
   rw[<-hr1]at HT HII
   obtain⟨o1,ho1⟩:∃o,o=(Value.slice Ay k cy).ownBlock:=⟨_,rfl⟩
   obtain⟨o2,ho2⟩:∃o,o=(Value.slice Ai (k+1) ci).ownBlock:=⟨_,rfl⟩
   have hn1:∀g,o1=some g->g<wr.heap.size/\g≠w.heap.size+1/\g≠w.heap.size+2/\g≠w.heap.size/\o2≠some g/\w3.heap.size<=g:=fun g e=>by
    rw[ho1]at e
    have h1:=World.ownsRow.lt HOK.out g e
    have hne:=fun(g':Nat) (ty:TypeId) (cs:Array Value) (hB:Blk wr g' ty cs) (hty:9≠ty)=>own_blk_ne HOK.out hB hty
    refine⟨h1.2,fun e'=>hne _ _ _ hBn (by decide) (e' ▸ e),fun e'=>hne _ _ _ hBr (by decide) (e' ▸ e),fun e'=>hne _ _ _ hB4 (by decide) (e' ▸ e), ?_,h1.1⟩
    rw[ho2]
    exact own_neq HOK.out HOI.out (by decide) e
   have hn2:∀g,o2=some g->g<wr.heap.size/\g≠w.heap.size+1/\g≠w.heap.size+2/\g≠w.heap.size/\w3.heap.size<=g:=fun g e=>by
    rw[ho2]at e
    have h1:=World.ownsRow.lt HOI.out g e
    have hne:=fun(g':Nat) (ty:TypeId) (cs:Array Value) (hB:Blk wr g' ty cs) (hty:3≠ty)=>own_blk_ne HOI.out hB hty
    exact⟨h1.2,fun e'=>hne _ _ _ hBn (by decide) (e' ▸ e),fun e'=>hne _ _ _ hBr (by decide) (e' ▸ e),fun e'=>hne _ _ _ hB4 (by decide) (e' ▸ e),h1.1⟩
   have HN1:=Lib.hid hn1
   have HN2:=Lib.hid hn2
   have HO1:=Lib.hid ho1
   have HO2:=Lib.hid ho2
   have hgr:=hBr.lt
   have hgn:=hBn.lt
   clear hr0 hr1 hS hI htx hin hHT hHI hkl2 hil2 hn1 hn2 ho1 ho2
   generalize r0.length=n0 at*
   have HBR:=Lib.hid hBr
   have HBN:=Lib.hid hBn
   have HB4:=Lib.hid hB4
   have HBW:=Lib.hid hbw
   clear hBr hBn hB4 hbw
   go_wp2_with fail
   refine HL.out.mono ?_
   rintro e wr ⟨rfl,rfl⟩
   go_wp2_with fail
   refine HE.out.mono ?_
   rintro e wr ⟨rfl,rfl⟩
   go_wp2_with fail
   have hz6:wr.heap.size<=wr.heap.size:=Nat.le_refl _
   refine wp_region_last (base:=wr.heap.size) 7 (fun u=>⟨#[_,_,_,_,_,_,_,_,_,_,_,_,_,_,_,_,_,_,_,_,_,_,_,_,_,_,_,_,_,_,_,_,_,_,_,u 0,u 1,u 2,u 3,u 4,u 5,u 6,_,_,_,_,_,_,_,_,_,_,_,_,_,_,_,_,_,_],_⟩)
    [Is.eq _ (.pointer (some ⟨w.heap.size+1,3,none⟩)),Is.eq _ (.slice Ay k cy),Is.eq _ (.pointer (some ⟨w.heap.size+2,0,none⟩)),Is.turn _ (w.heap.size+2) 330 (.string S) (rdCells ⟨r1,0⟩),Is.blk _ 9 1 #[.string S],Is.app _ keyE 9 w3.heap.size o1 (K++ [S]),Is.eq _ (.pointer (some ⟨w.heap.size+1,3,none⟩))]
    (by kernel_rfl) rfl (by kernel_rfl) (by kernel_rfl) (by kernel_rfl) ((w.heap.size+2)::o1.toList) (by cases o1<;>rfl) (Nat.le_refl _) ?_ ?_ ⟨fun i=>(#[u35,u36,u37,u38,u39,u40,u41]:Array Value).getD i undef,rfl⟩ ?_ ?_
   ·intro g hg
    rcases List.mem_cons.1 hg with rfl | hg
    ·have:=HBR.out.lt;omega
    ·have h1:=(HN1.out g (by simpa using hg)).1;have h2:=hz6;omega
   ·rw[List.nodup_cons]
    exact⟨fun hg=>(HN1.out _ (by simpa using hg)).2.2.1 rfl,by cases o1<;>simp⟩
   ·intro i o hi7 ho u W hf hold hdep
    have hnL:∀g,g∈((w.heap.size+2)::o1.toList)->g=w.heap.size+2\/o1=some g:=fun g hg=>by
     rcases List.mem_cons.1 hg with h | h
     ·exact .inl h
     ·exact .inr (by simpa using h)
    have hBnW:=hf.blk HBN.out (fun a=>by
     rcases hnL _ a with h | h
     ·omega
     ·exact(HN1.out _ h).2.1 rfl)
    have cW:=hBnW.cell 3
    have hsz:=hf.size
    match i,ho with
    |0,ho=>obtain rfl:=Option.some.inj ho;exact Does.val (op_fan3 rfl rfl) ⟨rfl,rfl,Fr.refl _⟩
    |1,ho=>obtain rfl:=Option.some.inj ho;exact Does.val (op_ld_keys rfl (hdep 0 rfl) cW) ⟨rfl,rfl,Fr.refl _⟩
    |2,ho=>obtain rfl:=Option.some.inj ho;exact Does.val (op_mv rfl rfl) ⟨rfl,rfl,Fr.refl _⟩
    |3,ho=>
     obtain rfl:=Option.some.inj ho
     have hBrW:Blk W (w.heap.size+2) 330 (rdCells ⟨r0,0⟩):=Eq.trans (hold _ rfl) HBR.out
     refine Does.call (op_call ent_text rfl (hdep 2 rfl)) (Calls.mono (HT.out W hBrW) ?_)
     rintro e w' ⟨rfl,hB',hg'⟩
     exact⟨_,rfl,rfl,⟨rfl,hB'⟩,Fr.of_grown hg'⟩
    |4,ho=>obtain rfl:=Option.some.inj ho;exact Does.val (op_bs_str rfl (hdep 3 rfl).1) ⟨rfl,⟨W.heap.size,hsz,rfl,Blk.new _ _ _⟩, .of_below ((Below.refl _ _).alloc (Nat.le_refl _) _)⟩
    |5,ho=>
     obtain rfl:=Option.some.inj ho
     obtain⟨b,hb0,hb1,hb2⟩:=hdep 4 rfl
     have hownW:LO keyE 9 W w3.heap.size (.slice Ay k cy) K:=LO.held HOK.out (fun g hg=>hold g (HO1.out.trans hg))
     refine does_app1 eiKey Tryz.underlying30 rfl rfl rfl rfl (hdep 1 rfl) hownW hb1 hb2 (by have:=HKL.out;unfold maxLen;omega) (by have:=HKL.out;omega) (by omega) ?_
     intro v' w' h1 h2 h3
     refine⟨rfl,⟨h1,h1.form, ?_⟩, ?_⟩
     ·rcases h3 with h3 | ⟨g,h3,h4⟩
      ·exact .inl (h3.trans HO1.out.symm)
      ·exact .inr ⟨g,h3,by omega⟩
     ·rw[<-HO1.out]at h2;exact Fr.of_grown h2
    |6,ho=>obtain rfl:=Option.some.inj ho;exact Does.val (op_fan3 rfl rfl) ⟨rfl,rfl,Fr.refl _⟩
    |n+7,ho=>omega
   intro o ho u W hf hall
   obtain rfl:=Option.some.inj ho
   have hnL:∀g,g∈((w.heap.size+2)::o1.toList)->g=w.heap.size+2\/o1=some g:=fun g hg=>by
    rcases List.mem_cons.1 hg with h | h
    ·exact .inl h
    ·exact .inr (by simpa using h)
   have hBnW:=hf.blk HBN.out (fun a=>by
    rcases hnL _ a with h | h
    ·omega
    ·exact(HN1.out _ h).2.1 rfl)
   have hB4W:=hf.blk HB4.out (fun a=>by
    rcases hnL _ a with h | h
    ·omega
    ·exact(HN1.out _ h).2.2.2.1 rfl)
   have hBW:Below w.heap.size w W:=HBW.out.trans (hf.low (by have:=HBW.out.size;omega) (fun g a=>by
    rcases hnL _ a with h | h
    ·omega
    ·have:=(HN1.out _ h).2.2.2.2.2;omega))
   have hsz:=hf.size
   obtain⟨-,hBrW⟩:=hall 3 (by decide)
   obtain⟨hL5,⟨A',c',e5⟩,hblk⟩:=hall 5 (by decide)
   have hcW:=hBnW.cell 3
   have hfW:=hBnW.frozen 3
   rw[e5]at hL5 hblk
   refine Does.skip (op_st_keys rfl (hall 6 (by decide)) e5 hcW hfW) ?_
   have hbk:∀g,(Value.slice A' (K++ [S]).length c').ownBlock=some g->g≠w.heap.size+1/\g≠w.heap.size+2/\g≠w.heap.size:=fun g hg=>⟨fun e=>own_blk_ne hL5 hBnW (by decide) (e ▸ hg),fun e=>own_blk_ne hL5 hBrW (by decide) (e ▸ hg),fun e=>own_blk_ne hL5 hB4W (by decide) (e ▸ hg)⟩
   have hIW:LO intE 3 W w3.heap.size (.slice Ai (k+1) ci) I:=LO.frB HOI.out hf (fun g hg a=>by
    rcases hnL _ a with h | h
    ·exact(HN2.out g (HO2.out.trans hg)).2.2.1 h
    ·exact(HN1.out g h).2.2.2.2.1 (HO2.out.trans hg))
   have hfs:Fr (fun k=>k=w.heap.size+1) W (W.setCell ⟨w.heap.size+1,3,none⟩ (.slice A' (K++ [S]).length c')):=Fr.set_ (S:=fun k=>k=w.heap.size+1) rfl _
   have hKW:=LO.frB hL5 hfs (fun g hg=>(hbk g hg).1)
   have hIW2:=LO.frB hIW hfs (fun g hg=>(HN2.out g (HO2.out.trans hg)).2.1)
   have hBnW2:=hBnW.set_ 3 (.slice A' (K++ [S]).length c')
   simp only[List.setIfInBounds_toArray,List.set_cons_succ,List.set_cons_zero]at hBnW2
   have hBrW2:=hfs.blk hBrW (by omega)
   have hB4W2:=hfs.blk hB4W (by omega)
   have hBW2:Below w.heap.size w (W.setCell ⟨w.heap.size+1,3,none⟩ (.slice A' (K++ [S]).length c')):=hBW.trans (hfs.low (by have:=hBW.size;omega) (fun g a=>by omega))
   have hz6:wr.heap.size<=(W.setCell ⟨w.heap.size+1,3,none⟩ (.slice A' (K++ [S]).length c')).heap.size:=by simp;omega
   generalize hw6:(W.setCell ⟨w.heap.size+1,3,none⟩ (.slice A' (K++ [S]).length c'))=w6 at*
   have HKW:=Lib.hid hKW
   have HOI2:=Lib.hid hIW2
   have HBN2:=Lib.hid hBnW2
   have HBR2:=Lib.hid hBrW2
   have HB42:=Lib.hid hB4W2
   have HBW2:=Lib.hid hBW2
   clear hall hbk hL5 hKW hIW hIW2 hBnW hBnW2 hBrW hBrW2 hB4W hB4W2 hBW hBW2 hfs hcW hfW hblk hf hw6 e5 hnL
   go_wp2_with fail
   refine wp_region_last (base:=w6.heap.size) 7 (fun u=>⟨#[_,_,_,_,_,_,_,_,_,_,_,_,_,_,_,_,_,_,_,_,_,_,_,_,_,_,_,_,_,_,_,_,_,_,_,_,_,_,_,_,_,_,u 0,u 1,u 2,u 3,u 4,u 5,u 6,_,_,_,_,_,_,_,_,_,_,_],_⟩)
    [Is.eq _ (.pointer (some ⟨w.heap.size+1,2,none⟩)),Is.eq _ (.slice Ai (k+1) ci),Is.eq _ (.pointer (some ⟨w.heap.size+2,0,none⟩)),Is.turn _ (w.heap.size+2) 330 (.int .i64 iv) (rdCells ⟨rest,0⟩),Is.blk _ 3 1 #[.int .i64 iv],Is.app _ intE 3 w3.heap.size o2 (I++ [iv]),Is.eq _ (.pointer (some ⟨w.heap.size+1,2,none⟩))]
    (by kernel_rfl) rfl (by kernel_rfl) (by kernel_rfl) (by kernel_rfl) ((w.heap.size+2)::o2.toList) (by cases o2<;>rfl) (Nat.le_refl _) ?_ ?_ ⟨fun i=>(#[u42,u43,u44,u45,u46,u47,u48]:Array Value).getD i undef,rfl⟩ ?_ ?_
   ·intro g hg
    rcases List.mem_cons.1 hg with rfl | hg
    ·have:=HBR2.out.lt;omega
    ·have h1:=(HN2.out g (by simpa using hg)).1;have h2:=hz6;omega
   ·rw[List.nodup_cons]
    exact⟨fun hg=>(HN2.out _ (by simpa using hg)).2.2.1 rfl,by cases o2<;>simp⟩
   ·intro i o hi7 ho u W hf hold hdep
    have hnL:∀g,g∈((w.heap.size+2)::o2.toList)->g=w.heap.size+2\/o2=some g:=fun g hg=>by
     rcases List.mem_cons.1 hg with h | h
     ·exact .inl h
     ·exact .inr (by simpa using h)
    have hBnW:=hf.blk HBN2.out (fun a=>by
     rcases hnL _ a with h | h
     ·omega
     ·exact(HN2.out _ h).2.1 rfl)
    have cW:=hBnW.cell 2
    have hsz:=hf.size
    match i,ho with
    |0,ho=>obtain rfl:=Option.some.inj ho;exact Does.val (op_fan2 rfl rfl) ⟨rfl,rfl,Fr.refl _⟩
    |1,ho=>obtain rfl:=Option.some.inj ho;exact Does.val (op_ld_ints rfl (hdep 0 rfl) cW) ⟨rfl,rfl,Fr.refl _⟩
    |2,ho=>obtain rfl:=Option.some.inj ho;exact Does.val (op_mv rfl rfl) ⟨rfl,rfl,Fr.refl _⟩
    |3,ho=>
     obtain rfl:=Option.some.inj ho
     have hBrW:Blk W (w.heap.size+2) 330 (rdCells ⟨r1,0⟩):=Eq.trans (hold _ rfl) HBR2.out
     refine Does.call (op_call2 ent_int rfl (hdep 2 rfl) rfl) (Calls.mono (HII.out W hBrW) ?_)
     rintro e w' ⟨rfl,hB',hg'⟩
     exact⟨_,rfl,rfl,⟨rfl,hB'⟩,Fr.of_grown hg'⟩
    |4,ho=>obtain rfl:=Option.some.inj ho;exact Does.val (op_bs_int1 rfl (hdep 3 rfl).1) ⟨rfl,⟨W.heap.size,hsz,rfl,Blk.new _ _ _⟩, .of_below ((Below.refl _ _).alloc (Nat.le_refl _) _)⟩
    |5,ho=>
     obtain rfl:=Option.some.inj ho
     obtain⟨b,hb0,hb1,hb2⟩:=hdep 4 rfl
     have hownW:LO intE 3 W w3.heap.size (.slice Ai (k+1) ci) I:=LO.held HOI2.out (fun g hg=>hold g (HO2.out.trans hg))
     refine does_app1 eiInt Tryz.underlying29 rfl rfl rfl rfl (hdep 1 rfl) hownW hb1 hb2 (by have:=HIL.out;unfold maxLen;omega) (by have:=HIL.out;omega) (by omega) ?_
     intro v' w' h1 h2 h3
     refine⟨rfl,⟨h1,h1.form, ?_⟩, ?_⟩
     ·rcases h3 with h3 | ⟨g,h3,h4⟩
      ·exact .inl (h3.trans HO2.out.symm)
      ·exact .inr ⟨g,h3,by omega⟩
     ·rw[<-HO2.out]at h2;exact Fr.of_grown h2
    |6,ho=>obtain rfl:=Option.some.inj ho;exact Does.val (op_fan2 rfl rfl) ⟨rfl,rfl,Fr.refl _⟩
    |n+7,ho=>omega
   intro o ho u W hf hall
   obtain rfl:=Option.some.inj ho
   have hnL:∀g,g∈((w.heap.size+2)::o2.toList)->g=w.heap.size+2\/o2=some g:=fun g hg=>by
    rcases List.mem_cons.1 hg with h | h
    ·exact .inl h
    ·exact .inr (by simpa using h)
   have hBnW:=hf.blk HBN2.out (fun a=>by
    rcases hnL _ a with h | h
    ·omega
    ·exact(HN2.out _ h).2.1 rfl)
   have hB4W:=hf.blk HB42.out (fun a=>by
    rcases hnL _ a with h | h
    ·omega
    ·exact(HN2.out _ h).2.2.2.1 rfl)
   have hBW:Below w.heap.size w W:=HBW2.out.trans (hf.low (by have:=HBW2.out.size;omega) (fun g a=>by
    rcases hnL _ a with h | h
    ·omega
    ·have:=(HN2.out _ h).2.2.2.2;omega))
   have hsz:=hf.size
   obtain⟨-,hBrW⟩:=hall 3 (by decide)
   obtain⟨hL5,⟨A'',c'',e5⟩,hblk⟩:=hall 5 (by decide)
   have hcW:=hBnW.cell 2
   have hfW:=hBnW.frozen 2
   rw[e5]at hL5 hblk
   refine Does.skip (op_st_ints rfl (hall 6 (by decide)) e5 hcW hfW) ?_
   have hbk:∀g,(Value.slice A'' (I++ [iv]).length c'').ownBlock=some g->g≠w.heap.size+1:=fun g hg e=>own_blk_ne hL5 hBnW (by decide) (e ▸ hg)
   have hKW:LO keyE 9 W w3.heap.size (.slice A' (K++ [S]).length c') (K++ [S]):=LO.frB HKW.out hf (fun g hg a=>by
    rcases hnL _ a with h | h
    ·exact own_blk_ne HKW.out HBR2.out (by decide) (h ▸ hg)
    ·exact own_neq HOI2.out HKW.out (by decide) (HO2.out.symm.trans h) hg)
   have hfs:Fr (fun k=>k=w.heap.size+1) W (W.setCell ⟨w.heap.size+1,2,none⟩ (.slice A'' (I++ [iv]).length c'')):=Fr.set_ (S:=fun k=>k=w.heap.size+1) rfl _
   have hKW2:=LO.frB hKW hfs (fun g hg e=>own_blk_ne hKW hBnW (by decide) (e ▸ hg))
   have hIW2:=LO.frB hL5 hfs (fun g hg=>hbk g hg)
   have hBnW2:=hBnW.set_ 2 (.slice A'' (I++ [iv]).length c'')
   simp only[List.setIfInBounds_toArray,List.set_cons_succ,List.set_cons_zero]at hBnW2
   have hBrW2:=hfs.blk hBrW (by omega)
   have hB4W2:=hfs.blk hB4W (by omega)
   have hBW2:Below w.heap.size w (W.setCell ⟨w.heap.size+1,2,none⟩ (.slice A'' (I++ [iv]).length c'')):=hBW.trans (hfs.low (by have:=hBW.size;omega) (fun g a=>by omega))
   have hz7:w6.heap.size<=(W.setCell ⟨w.heap.size+1,2,none⟩ (.slice A'' (I++ [iv]).length c'')).heap.size:=by simp;omega
   generalize hw7:(W.setCell ⟨w.heap.size+1,2,none⟩ (.slice A'' (I++ [iv]).length c''))=w7 at*
   have e1:(K++ [S]).length=k+1:=by rw[List.length_append,HKL.out];rfl
   have e2:(I++ [iv]).length=k+1+1:=by rw[List.length_append,HIL.out];rfl
   rw[e1, <-HTA.out]at hKW2
   rw[e1,e2]at hBnW2
   rw[e2, <-HTI.out]at hIW2
   have HKW2:=Lib.hid hKW2
   have HIW2:=Lib.hid hIW2
   have HBN3:=Lib.hid hBnW2
   have HBR3:=Lib.hid hBrW2
   have HB43:=Lib.hid hB4W2
   have HBW3:=Lib.hid hBW2
   clear hall hbk hL5 hKW hBnW hBrW hB4W hBW hfs hcW hfW hblk hf hw7 e5 hnL e1 e2 hKW2 hIW2 hBnW2 hBrW2 hB4W2 hBW2
   go_wp2
   go_roundg (ks.length-(k+1))
   case measure=>omega
   case rel=>exact⟨k+1,A'',A',c'',c',by omega,by omega,HBN3.out,by rw[<-HI1.out];exact HIW2,by rw[<-HK1.out];exact HKW2,by rw[<-HREST.out];exact HBR3.out,HB43.out,HBW3.out,by omega⟩
  ·obtain rfl:k=ks.length:=by omega
   have hke:Nd.kenc (ks.drop ks.length) (is.drop ks.length)= []:=by rw[List.drop_of_length_le (Nat.le_refl _)];rfl
   rw[hke]at hBr
   have HEND:=Lib.hid (rdend_any (w.heap.size+2) ⟨[],0⟩ wr hBr)
   have HL:=hid_calls (rdleft_any (w.heap.size+2) ⟨[],0⟩ wr hBr)
   have hK:ks.take ks.length=ks:=List.take_of_length_le (Nat.le_refl _)
   have hI:(i0::is).take (ks.length+1)=i0::is:=List.take_of_length_le (by have:=HLs.out;simp;omega)
   rw[hK]at HOK
   rw[hI]at HOI
   have HIL:Hid ((i0::is).length=ks.length+1):=Lib.hid (by have:=HLs.out;simp;omega)
   have hgr:=hBr.lt
   have HBN:=Lib.hid hBn
   have HB4:=Lib.hid hB4
   have HBW:=Lib.hid hbw
   clear hBr hBn hB4 hbw hke hK hI
   go_wp2_with fail
   refine HL.out.mono ?_
   rintro e wr ⟨rfl,rfl⟩
   go_wp2_with fail
   refine HEND.out.mono ?_
   rintro e w4 ⟨x,rfl,hx,hb4⟩
   have hx0:x=0:=by have h:(x==0)=true:=hx;simpa using h
   subst hx0
   clear hx
   have hBn:=HBN.out.below hb4 HBN.out.lt
   have hB4:=HB4.out.below hb4 HB4.out.lt
   have hbw:Below w.heap.size w w4:=HBW.out.trans (hb4.mono HBW.out.size)
   have hOI:=LO.below HOI.out hb4
   have hOK:=LO.below HOK.out hb4
   have hz4:=hb4.size
   have e2:Value.slice Ai (ks.length+1) ci= .slice Ai (i0::is).length ci:=by rw[HIL.out]
   rw[e2]at hOI
   have hnf:NF w3.heap.size w4 (.agg #[.bool false, .slice none 0 0, .slice Ai (ks.length+1) ci, .slice Ay ks.length cy]) ND:=by
    rw[HND.out,e2]
    exact⟨none,0,Ai,ci,Ay,cy,rfl,LO.nil_ _ _,hOI,hOK⟩
   have hFF:=Lib.hid (hFit.out _ w4 (NF.ns hnf))
   have c0:=hBn.cell 0
   have c1:=hBn.cell 1
   have c2:=hBn.cell 2
   have c3:=hBn.cell 3
   have l1:=hBn.lt
   have HNF:=Lib.hid hnf
   have HB4':=Lib.hid hB4
   have HBW':=Lib.hid hbw
   clear hBn hB4 hbw hOI hOK hb4 e2 hnf
   go_wp2_with fail
   refine hFF.out.mono ?_
   rintro e w5 ⟨rfl,hb5⟩
   have hz5:=hb5.size
   have hBn:=HBN.out
   have hB4:=HB4'.out.below hb5 HB4'.out.lt
   have hnf:=NF.below HNF.out hb5
   have hbw:Below w.heap.size w w5:=HBW'.out.trans (hb5.mono HBW'.out.size)
   have d0:w5.cell? ⟨w.heap.size+1,0,none⟩=some (.bool false):=(hb5.cell (p:=⟨w.heap.size+1,0,none⟩) l1).trans c0
   have d1:w5.cell? ⟨w.heap.size+1,1,none⟩=some (.slice none 0 0):=(hb5.cell (p:=⟨w.heap.size+1,1,none⟩) l1).trans c1
   have d2:w5.cell? ⟨w.heap.size+1,2,none⟩=some (.slice Ai (ks.length+1) ci):=(hb5.cell (p:=⟨w.heap.size+1,2,none⟩) l1).trans c2
   have d3:w5.cell? ⟨w.heap.size+1,3,none⟩=some (.slice Ay ks.length cy):=(hb5.cell (p:=⟨w.heap.size+1,3,none⟩) l1).trans c3
   have a0:=hB4.cell 0
   have a1:=hB4.cell 1
   have a2:=hB4.cell 2
   have a3:=hB4.cell 3
   have f0:=hB4.frozen 0
   have f1:=hB4.frozen 1
   have f2:=hB4.frozen 2
   have f3:=hB4.frozen 3
   have l4:=hB4.lt
   have H4:=Lib.hid hB4
   have HN:=Lib.hid hnf
   have HW:=Lib.hid hbw
   clear hBn hB4 hnf hbw hb5 c0 c1 c2 c3
   go_wp2
   try simp only[Exit.inBlock,Exit.then]
   refine bodyPost_ret (res_cell_tmp node_struct rfl rfl (H4.out.put4 _ _ _ _) rfl) rfl ?_
   have hfr:∀a b c d,Fr (fun k=>k=w.heap.size) w5 _:=fun a b c d=>Fr.put4 (w:=w5) (g:=w.heap.size) (S:=fun k=>k=w.heap.size) rfl a b c d
   exact⟨_,rfl,NF.lower (NF.fr HN.out (hfr _ _ _ _) (fun k hk=>by omega)) (by omega),HW.out.trans ((hfr _ _ _ _).low (by omega) (fun k hk=>by omega))⟩
theorem ndecode_any(n:Nd.Node)(hf:Nd.fits n=true)(w:World):Calls Tryz.prog 147 #[.int .u8 (Nd.kind n:Nat), .string (Nd.str (Nd.enc n))] w (DecEnd n w):=by
 have hr:=(Tp.fits_iff.1 hf).1
 obtain⟨leaf,ents,kids,keys⟩:=n
 cases leaf with
 |true=>
  obtain⟨_,rfl,rfl⟩:=Nd.right_leaf.1 hr
  exact ndecode_leaf ents hf w
 |false=>
  obtain⟨rfl,h2,_,_⟩:=Nd.right_inner.1 hr
  cases kids with
  |nil=>simp at h2
  |cons i0 is=>exact ndecode_inner i0 is keys hf w
end Go.Proofs.YtjoiajmbfbjnnaaGreatDoor
namespace Go.Proofs.YtjoiajmbfbjnnaaGreatDoor
open Go.RowKit
abbrev Run:=Int × Int
def encR(r:Run):List Value:= [.int .i64 r.1, .int .i64 r.2]
def cellsR(l:List Run):List Value:=l.flatMap encR
theorem cellsR_length(l:List Run):(cellsR l).length=l.length*2:=by
 induction l with
 |nil=>rfl
 |cons r l ih=>unfold cellsR at *;rw[List.flatMap_cons,List.length_append,ih,List.length_cons];simp[encR];omega
theorem cellsR_append(a b:List Run):cellsR (a++b)=cellsR a++cellsR b:=by unfold cellsR;rw[List.flatMap_append]
theorem cellsR_one(r:Run):cellsR [r]=encR r:=by simp[cellsR]
theorem cellsR_at(l:List Run)(k:Nat)(hk:k<l.length):(cellsR l)[k*2]? =some (.int .i64 l[k].1)/\(cellsR l)[k*2+1]? =some (.int .i64 l[k].2):=by
 induction l generalizing k with
 |nil=>simp at hk
 |cons r l ih=>
  cases k with
  |zero=>simp[cellsR,encR]
  |succ k=>
   have:=ih k (by simpa using hk)
   have e1:(cellsR (r::l))= [.int .i64 r.1, .int .i64 r.2]++cellsR l:=rfl
   rw[e1,show(k+1)*2=k*2+2 by omega]
   simpa using this
theorem cellsR_one_cell(l:List Run):∀u∈cellsR l,u.oneCell'=true:=by
 intro u hu
 unfold cellsR at hu
 obtain⟨r,_,hr⟩:=List.mem_flatMap.1 hu
 simp[encR]at hr
 rcases hr with rfl | rfl<;>rfl
theorem eiRun:EI Tryz.prog 106 (.agg #[.int .i64 0, .int .i64 0]) 2 16:=EI.mk (by kernel_rfl)
def RS(w:World)(B:Nat)(A:Option Addr)(l:List Run):Prop:=Reads w B 2 A l.length (cellsR l)
section
variable {w w':World}{B:Nat}{A:Option Addr}{l:List Run}
theorem RS.at_(h:RS w B A l){k:Nat}(hk:k<l.length):∃b off,A=some ⟨b,off,none⟩/\b<B/\w.cell? ⟨b,off+k*2,none⟩=some (.int .i64 l[k].1)/\w.cell? ⟨b,off+k*2+1,none⟩=some (.int .i64 l[k].2):=by
 obtain⟨ad,rfl,hb,hc⟩:=h.2 (by omega)
 obtain⟨b,off,spot⟩:=ad
 obtain⟨h0,h1⟩:=cellsR_at l k hk
 have g0:=hc _ _ h0
 have g1:=hc _ _ h1
 have hs:spot=none:=by
  have g:=hc 0 _ (cellsR_at l 0 (by omega)).1
  simpa[Addr.add]using World.cell?_spot g
 subst hs
 rw[Addr.add_lit]at g0 g1
 exact⟨b,off,rfl,hb,g0,by rw[Nat.add_assoc];exact g1⟩
theorem RS.below(h:RS w B A l)(hb:Below B w w'):RS w' B A l:=Reads.below h hb
theorem RS.more{B':Nat}(h:RS w B A l)(hB:B<=B'):RS w B' A l:=Reads.more h hB
theorem RS.nil_:RS w B A []:=⟨rfl,fun h=>absurd h (by simp)⟩
end
def Own(w:World)(base:Nat)(v:Value)(l:List Run):Prop:=w.ownsRow base 106 2 v l.length (cellsR l)
theorem Own.nil_(w:World)(base:Nat):Own w base (.slice none 0 0) []:=World.ownsRow_nil _ _ _ _
theorem Own.form{w:World}{base:Nat}{v:Value}{l:List Run}(h:Own w base v l):∃A c,v= .slice A l.length c:=by
 rcases h.2 with⟨rfl,h0⟩ | ⟨g,cap,cur,rfl,_⟩
 ·exact⟨none,0,by rw[h0]⟩
 ·exact⟨_,_,rfl⟩
theorem Own.rs{w:World}{base:Nat}{A:Option Addr}{n c:Nat}{l:List Run}(h:Own w base (.slice A n c) l):RS w w.heap.size A l:=by
 obtain⟨A',c',e⟩:=h.form
 injection e with e1 e2 e3
 subst e1 e2
 exact Reads.of_own h
theorem ownsRow_lower{w:World}{base base' e size n:Nat}{v:Value}{xs:List Value}(h:w.ownsRow base e size v n xs)(hb:base'<=base):w.ownsRow base' e size v n xs:=by
 refine⟨h.1, ?_⟩
 rcases h.2 with h0 | ⟨g,cap,cur,h1,h2,h3⟩
 ·exact .inl h0
 ·exact .inr ⟨g,cap,cur,h1,Nat.le_trans hb h2,h3⟩
theorem Own.lower{w:World}{base base':Nat}{v:Value}{l:List Run}(h:Own w base v l)(hb:base'<=base):Own w base' v l:=ownsRow_lower h hb
theorem push_own{w:World}{base:Nat}{v:Value}{o:List Run}{y:Run}(h:w.ownsRow base 106 2 v (o.length+1) (cellsR o++ #[Value.int .i64 y.1,Value.int .i64 y.2].toList)):Own w base v (o++ [y]):=by
 unfold Own
 rw[cellsR_append,cellsR_one,List.length_append]
 exact h
def stAt(l:List Run)(r:Run)(k:Nat):List Run × Run × Bool:=(l.take k).foldl Rp.putStep ([],r,false)
theorem stAt_succ(l:List Run)(r:Run)(k:Nat)(hk:k<l.length):stAt l r (k+1)=Rp.putStep (stAt l r k) l[k]:=by
 unfold stAt
 rw[List.take_succ_eq_append_getElem hk,List.foldl_append];rfl
def InR(r:Run):Prop:=0<=r.1/\r.1<=4294967295/\0<=r.2/\r.2<=4294967295
theorem stAt_run(l:List Run)(r:Run)(hl:∀y∈l,InR y)(hr:InR r)(k:Nat):InR (stAt l r k).2.1/\(stAt l r k).1.length<=k+1/\((stAt l r k).2.2=false->(stAt l r k).1.length<=k):=by
 induction k with
 |zero=>exact⟨hr,by simp[stAt],by simp[stAt]⟩
 |succ k ih=>
  by_cases hk:k<l.length
  ·rw[stAt_succ l r k hk]
   obtain⟨h1,h2,h3⟩:=ih
   have hy:=hl _ (List.getElem_mem hk)
   generalize stAt l r k=st at*
   generalize l[k]=y at*
   obtain⟨o,q,d⟩:=st
   unfold Rp.putStep InR at*
   simp only at h1 h2 h3 ⊢
   by_cases c1:y.2+1<q.1
   ·simp only[c1,if_true];refine⟨h1,by simp;omega,fun hd=> ?_⟩
    have:=h3 hd;simp;omega
   ·by_cases c2:q.2+1<y.1
    ·cases d
     ·simp only[c1,c2,if_true,if_false];refine⟨h1, ?_, ?_⟩
      ·have:=h3 rfl;simp;omega
      ·simp
     ·simp only[c1,c2,if_true,if_false];refine⟨h1,by simp;omega,by simp⟩
    ·simp only[c1,c2,if_false]
     refine⟨by omega,by omega,fun hd=> ?_⟩
     have:=h3 hd;omega
  ·have e:stAt l r (k+1)=stAt l r k:=by unfold stAt;rw[List.take_of_length_le (by omega),List.take_of_length_le (by omega)]
   rw[e];exact⟨ih.1,by omega,fun h=>by have:=ih.2.2 h;omega⟩
def nAt(l:List Run)(k:Nat):List Run:=(l.take k).foldl Rp.put []
theorem nAt_succ(l:List Run)(k:Nat)(hk:k<l.length):nAt l (k+1)=Rp.put (nAt l k) l[k]:=by
 unfold nAt
 rw[List.take_succ_eq_append_getElem hk,List.foldl_append];rfl
theorem canon_inR:∀ (l:List Run) (lo:Int),0<=lo->Rp.Canon lo l->∀y∈l,InR y
 | [],_,_,_,_,hy=>by cases hy
 |r::l,lo,hlo,h,y,hy=>by
  obtain⟨h1,h2,h3,h4⟩:=h
  unfold Rp.Most at h3
  rcases List.mem_cons.1 hy with rfl | hy
  ·unfold InR;omega
  ·exact canon_inR l _ (by omega) h4 y hy
theorem putStep_len(l:List Run)(r:Run)(k:Nat)(hl:∀y∈l,InR y)(hr:InR r):(Rp.putEnd (stAt l r k)).length<=k+1:=by
 obtain⟨_,h2,h3⟩:=stAt_run l r hl hr k
 unfold Rp.putEnd
 split
 ·exact h2
 ·rename_i hd
  have:=h3 (by simpa using hd)
  simp;omega
theorem put_len(l:List Run)(x:Run)(hl:∀y∈l,InR y):(Rp.put l x).length<=l.length+1:=by
 unfold Rp.put
 split
 ·rename_i hc
  have:=putStep_len l (Rp.clip x) l.length hl (by unfold InR;simp only[Rp.clip,Rp.Most]at *;omega)
  unfold stAt at this
  rwa [List.take_of_length_le (Nat.le_refl _)]at this
 ·omega
theorem nAt_ok(l:List Run)(k:Nat):Rp.Canon 0 (nAt l k)/\(nAt l k).length<=k:=by
 refine⟨(Rp.norm_from (l.take k) [] trivial).1, ?_⟩
 induction k with
 |zero=>simp[nAt]
 |succ k ih=>
  by_cases hk:k<l.length
  ·rw[nAt_succ l k hk]
   have:=put_len (nAt l k) l[k] (canon_inR _ 0 (Int.le_refl _) (Rp.norm_from (l.take k) [] trivial).1)
   omega
  ·have e:nAt l (k+1)=nAt l k:=by unfold nAt;rw[List.take_of_length_le (by omega),List.take_of_length_le (by omega)]
   rw[e];omega
end Go.Proofs.YtjoiajmbfbjnnaaGreatDoor
