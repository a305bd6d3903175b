/- Part of this proof. -/
import Derived.Test.YteppebbmnojapaaGreatDoorL27
set_option maxRecDepth 100000
set_option maxHeartbeats 8000000
namespace Tp
open Nd En
def qx(room:Int)(id:Int)(q:Except Int Node × Pst):Except Int Part × Pst:=match q with
 |(.error e,σ2)=>(.error e,σ2)
 |(.ok n2,σ2)=>aC room (fA n2) σ2 id n2
theorem zy{room id:Int}{q:Except Int Node × Pst}{e:Int}(h:q.1= .error e):qx room id q=(.error e,q.2):=by
 obtain⟨x,σ⟩:=q;simp only at h;subst h;rfl
theorem CO{room id:Int}{q:Except Int Node × Pst}{n:Node}(h:q.1= .ok n):qx room id q=aC room (fA n) q.2 id n:=by
 obtain⟨x,σ⟩:=q;simp only at h;subst h;rfl
def Il(room:Int)(disk:aA)(id:Int)(n:Node)(i d:Nat)(q:Except Int Part × Pst):Except Int Part × Pst:=match q with
 |(.error e,σ1)=>(.error e,σ1)
 |(.ok p,σ1)=>qx room id (dU room disk p σ1 (swap n i (i+1) p.1 p.2) i d)
theorem CP{room id:Int}{disk:aA}{n:Node}{i d:Nat}{q:Except Int Part × Pst}{e:Int}(h:q.1= .error e):Il room disk id n i d q=(.error e,q.2):=by
 obtain⟨x,σ⟩:=q;simp only at h;subst h;rfl
theorem Tz{room id:Int}{disk:aA}{n:Node}{i d:Nat}{q:Except Int Part × Pst}{p:Part}(h:q.1= .ok p):Il room disk id n i d q=qx room id (dU room disk p q.2 (swap n i (i+1) p.1 p.2) i d):=by
 obtain⟨x,σ⟩:=q;simp only at h;subst h;rfl
section
variable {room:Int}{disk:aA}{g:List Ent->List Ent}{key:Str}{f:Nat}{σ:Pst}{id:Int}
theorem Io{n:Node}(hv:σ.view disk id=some n)(hl:n.leaf=true):bM room disk g key (f+1) σ id=aC room (fA (aG (g n.ents))) σ id (aG (g n.ents)):=by
 rw[bM,hv]
 simp only
 rw[if_pos hl]
theorem Es{n:Node}(hv:σ.view disk id=some n)(hl:n.leaf=false):bM room disk g key (f+1) σ id=Il room disk id n (child n.keys key) (24-f) (bM room disk g key f σ (n.kids.getD (child n.keys key) 0)):=by
 rw[bM,hv]
 simp only
 rw[if_neg (by rw[hl];simp)]
 cases bM room disk g key f σ (n.kids.getD (child n.keys key) 0)with
 |mk q σ1=>
  cases q with
  |error e=>rfl
  |ok p=>
   simp only
   show _=qx room id (dU room disk p σ1 (swap n (child n.keys key) (child n.keys key+1) p.1 p.2) (child n.keys key) (24-f))
   cases dU room disk p σ1 (swap n (child n.keys key) (child n.keys key+1) p.1 p.2) (child n.keys key) (24-f)with
   |mk q2 σ2=>cases q2<;>rfl
theorem Ip(h3:(bM room disk g key (f+1) σ id).1≠ .error 3):∃n,σ.view disk id=some n:=by
 cases hv:σ.view disk id with
 |some n=>exact⟨n,rfl⟩
 |none=>rw[bM,hv]at h3;exact absurd rfl h3
end
theorem CQ{n:Node}{p:Part}{i L:Nat}(hf:fits n=true)(hl:n.leaf=false)(hi:i<n.kids.length)(hp:PB p L):
  swap n i (i+1) p.1 p.2=ah (n.kids.take i++p.1++n.kids.drop (i+1)) (n.keys.take (if p.1.length=0/\0<i then i-1 else i)++p.2++n.keys.drop (if p.1.length=0/\i=0 then min (i+1) n.keys.length else i+1-1))/\
  (swap n i (i+1) p.1 p.2).kids.length=n.kids.length-1+p.1.length/\((swap n i (i+1) p.1 p.2).keys.length+1=(swap n i (i+1) p.1 p.2).kids.length\/(swap n i (i+1) p.1 p.2).kids.length=0/\(swap n i (i+1) p.1 p.2).keys.length=0)/\
  (∀k∈(swap n i (i+1) p.1 p.2).keys,k.size<=16)/\n.kids.length<=48/\n.keys.length+1=n.kids.length:=by
 obtain⟨hr,hs⟩:=bf.1 hf
 obtain⟨leaf,ents,kids,keys⟩:=n
 obtain rfl:leaf=false:=hl
 obtain⟨rfl,r2,r3,r4⟩:=aY.1 hr
 have hs:4+aF keys<=240:=hs
 have hkl:=sQ keys
 have hm:=((jd keys).1 r4).1
 simp only at hi
 have hpk:=hp.keys
 have e:swap ⟨false, [],kids,keys⟩ i (i+1) p.1 p.2=ah (kids.take i++p.1++kids.drop (i+1)) (keys.take (if p.1.length=0/\0<i then i-1 else i)++p.2++keys.drop (if p.1.length=0/\i=0 then min (i+1) keys.length else i+1-1)):=by
  unfold swap
  rw[if_neg]
  rintro(h | h | h | h)
  ·cases h
  ·simp only at h;omega
  ·omega
  ·omega
 rw[e]
 refine⟨rfl, ?_, ?_,fun k hk=> ?_,by simp only;omega,r2⟩
 ·unfold ah;simp only[List.length_append,List.length_take,List.length_drop];omega
 ·unfold ah
  simp only[List.length_append,List.length_take,List.length_drop]
  split<;>split<;>omega
 ·unfold ah at hk
  simp only at hk
  have aev:∀x∈keys,x.size<=16:=fun x hx=>by
   have:=hm x hx
   unfold may at this
   simp only[Bool.and_eq_true,decide_eq_true_eq]at this
   exact this.1.2
  rcases List.mem_append.1 hk with hk | hk
  ·rcases List.mem_append.1 hk with hk | hk
   ·exact aev k (List.mem_of_mem_take hk)
   ·exact hp.ks k hk
  ·exact aev k (List.mem_of_mem_drop hk)
def Iq(room:Int)(disk:aA)(f:Nat)(q:Except Int Part × Pst):Except Int Int × Pst:=match q with
 |(.error e,σ1)=>(.error e,σ1)
 |(.ok q,σ1)=>fE room disk f σ1 q
theorem CS{room:Int}{disk:aA}{f:Nat}{q:Except Int Part × Pst}{e:Int}(h:q.1= .error e):Iq room disk f q=(.error e,q.2):=by
 obtain⟨x,σ⟩:=q;simp only at h;subst h;rfl
theorem TA{room:Int}{disk:aA}{f:Nat}{q:Except Int Part × Pst}{p:Part}(h:q.1= .ok p):Iq room disk f q=fE room disk f q.2 p:=by
 obtain⟨x,σ⟩:=q;simp only at h;subst h;rfl
theorem Oq{room:Int}{disk:aA}{f:Nat}{σ:Pst}{p:Part}(h:1<p.1.length):fE room disk (f+1) σ p=Iq room disk f (aC room (p.1.length+1) σ 0 (ah p.1 p.2)):=by
 rw[fE,if_pos h]
 cases aC room (p.1.length+1) σ 0 (ah p.1 p.2)with
 |mk q σ1=>cases q<;>rfl
theorem KC{room:Int}{σ:Pst}{n a b n':Node}{j:Nat}(h:(zq room σ n j a b).1= .ok n'):n'=n\/∃pg,n'=swap n j (j+2) [pg] []:=by
 unfold zq at h
 split at h
 ·injection h with h;exact .inl h.symm
 ·cases hs:dY room σ (n.kids.getD j 0) (join a (n.keys.getD j ⟨#[]⟩) b)with
  |mk q σ1=>
   rw[hs]at h
   cases q with
   |error e=>simp[kU]at h
   |ok pg=>simp only[kU,Except.ok.injEq]at h;exact .inr ⟨pg,h.symm⟩
theorem KD{room:Int}{disk:aA}{σ:Pst}{n n':Node}{i d:Nat}(hi:i<n.kids.length)(h2:1<n.kids.length)(h:(iE room disk σ n i d).1= .ok n'):n'=n\/∃j pg,j+1<n.kids.length/\n'=swap n j (j+2) [pg] []:=by
 by_cases hd:24<=d
 ·unfold iE at h;rw[if_pos hd]at h;simp at h
 ·cases hk:σ.view disk (n.kids.getD i 0)with
  |none=>unfold iE at h;rw[if_neg hd,hk]at h;simp at h
  |some kid=>
   by_cases h80:80<=size kid
   ·rw[Tj hd hk h80]at h;injection h with h;exact .inl h.symm
   ·obtain⟨a,b,_,_,e⟩:=Kw hd hk h80 (by rw[h];simp)
    rw[e]at h
    rcases KC h with h | ⟨pg,h⟩
    ·exact .inl h
    ·exact .inr ⟨_,pg,(WW hi h2).1,h⟩
theorem Xk{n:Node}{j:Nat}{pg:Int}(hl:n.leaf=false)(hj:j+1<n.kids.length):swap n j (j+2) [pg] []=ah (n.kids.take j++ [pg]++n.kids.drop (j+2)) (n.keys.take j++ []++n.keys.drop (j+1)):=by
 unfold swap
 rw[if_neg]
 ·simp
 ·rintro(h | h | h | h)
  ·rw[hl]at h;cases h
  ·omega
  ·omega
  ·simp at h
theorem Xl(l:List Str)(j:Nat):aF (l.take j++ []++l.drop (j+1))<=aF l:=by
 rw[List.append_nil]
 have h:(l.take j++l.drop (j+1)).Sublist (l.take j++l.drop j):=by
  refine List.Sublist.append (List.Sublist.refl _) ?_
  rw[<-List.drop_drop]
  exact List.drop_sublist 1 _
 rw[List.take_append_drop]at h
 exact yu h
end Tp
