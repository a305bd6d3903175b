/- Part of this proof. -/
import Derived.Test.YteppebbmnojapaaGreatDoorL22
set_option maxRecDepth 100000
set_option maxHeartbeats 8000000
namespace Go.Proofs.YteppebbmnojapaaGreatDoor
open Go.RowKit Go.Shelf
section
variable {a:Act}{o:Oper}{x y z:Operand}{w:World}{ad:Addr}{v:Value}{R:Value->World->Prop}
theorem Does.val{v:Value}{w':World}(h:(execOp a.eval o).run Tryz.prog w= .ok (.value v) w')(hR:R v w'):Does o a w R:= .inl ⟨v,w',h,hR⟩
theorem Does.skip{w':World}(h:(execOp a.eval o).run Tryz.prog w= .ok .skip w')(hR:R undef w'):Does o a w R:= .inr (.inl ⟨w',h,hR⟩)
theorem Does.call{f:FuncId}{args:Array Value}(h:(execOp a.eval o).run Tryz.prog w= .ok (.enter f args) w)(hR:Calls Tryz.prog f args w fun e w'=>∃v,e= .returned v/\R v w'):Does o a w R:= .inr (.inr ⟨f,args,h,hR⟩)
theorem dL(ho:o.op= .move x)(hx:a.eval x=v):(execOp a.eval o).run Tryz.prog w= .ok (.value v) w:=by
 unfold execOp
 simp only[ho,hx]
 simp[go_sem]
theorem JG(ho:o.op= .assign x)(hx:a.eval x=v):(execOp a.eval o).run Tryz.prog w= .ok (.value v) w:=by
 unfold execOp
 simp only[ho,hx]
 simp[go_sem]
theorem Wx{i j:Int}(ho:o.op= .binOp .sub 3 x y 3)(hx:a.eval x= .int .i64 i)(hy:a.eval y= .int .i64 j):(execOp a.eval o).run Tryz.prog w= .ok (.value (.int .i64 (IntKind.i64.wrap (i-j)))) w:=by
 unfold execOp
 simp only[ho,hx,hy]
 simp[go_sem]
theorem BM(ho:o.op= .load 9 x)(hx:a.eval x= .pointer (some ad))(hc:w.cell? ad=some v):(execOp a.eval o).run Tryz.prog w= .ok (.value v) w:=by
 unfold execOp
 simp only[ho,hx]
 simp[go_sem,hc]
theorem Sm(ho:o.op= .load 4 x)(hx:a.eval x= .pointer (some ad))(hc:w.cell? ad=some v):(execOp a.eval o).run Tryz.prog w= .ok (.value v) w:=by
 unfold execOp
 simp only[ho,hx]
 simp[go_sem,hc]
theorem abx{b off:Nat}(ho:o.op= .fieldAddr 101 x 0)(hx:a.eval x= .pointer (some ⟨b,off,none⟩)):(execOp a.eval o).run Tryz.prog w= .ok (.value (.pointer (some ⟨b,off,none⟩))) w:=by
 unfold execOp
 simp only[ho,hx]
 simp[go_sem]
theorem dP{f:FuncId}{t:TypeId}(hE:∀args w,(callFunc f args).run Tryz.prog w= .ok (.enter f args) w)(ho:o.op= .call { callee:= .value (.func f),args:= #[x],argTypes:= #[t] })(hx:a.eval x=v):(execOp a.eval o).run Tryz.prog w= .ok (.enter f #[v]) w:=by
 obtain⟨dst,op,type,pos,after,guard⟩:=o
 simp only at ho
 subst ho
 rw[execOp_call_go]
 have e:(#[]++Array.map a.eval #[x]++ #[]:Array Value)= #[v]:=by simp[hx]
 rw[e]
 exact hE _ _
theorem JH:∀args w,(callFunc 300 args).run Tryz.prog w= .ok (.enter 300 args) w:=fun args w=>by kernel_rfl
theorem yY:∀args w,(callFunc 301 args).run Tryz.prog w= .ok (.enter 301 args) w:=fun args w=>by kernel_rfl
theorem yZ:∀args w,(callFunc 302 args).run Tryz.prog w= .ok (.enter 302 args) w:=fun args w=>by kernel_rfl
theorem fF{cs cs0:Array Value}{g:Nat}(ho:o.op= .store 146 x y)(hx:a.eval x= .pointer (some ⟨g,0,none⟩))(hy:a.eval y= .agg cs)(h4:∃b A1 n1 c1 A2 n2 c2 A3 n3 c3,cs= #[.bool b, .slice A1 n1 c1, .slice A2 n2 c2, .slice A3 n3 c3])(hB:Blk w g 146 cs0)(h0:cs0.size=4)(hR:∀w',Blk w' g 146 cs->Fr (fun k=>k=g) w w'->R undef w'):Does o a w R:=by
 have key:∃w',(execOp a.eval o).run Tryz.prog w= .ok .skip w'/\Blk w' g 146 cs/\Fr (fun k=>k=g) w w':=by
  obtain⟨b,A1,n1,c1,A2,n2,c2,A3,n3,c3,rfl⟩:=h4
  obtain⟨d0,d1,d2,d3,rfl⟩:∃d0 d1 d2 d3,cs0= #[d0,d1,d2,d3]:=by
   obtain⟨l⟩:=cs0
   match l,h0 with
   | [d0,d1,d2,d3],_=>exact⟨d0,d1,d2,d3,rfl⟩
  have k0:=hB.cell 0
  have k1:=hB.cell 1
  have k2:=hB.cell 2
  have k3:=hB.cell 3
  have f0:=hB.frozen 0
  have f1:=hB.frozen 1
  have f2:=hB.frozen 2
  have f3:=hB.frozen 3
  have b1:=hB.aW 0 (.bool b)
  have b2:=b1.aW 1 (.slice A1 n1 c1)
  have b3:=b2.aW 2 (.slice A2 n2 c2)
  have b4:=b3.aW 3 (.slice A3 n3 c3)
  refine⟨_, ?_,by simpa using b4, ?_⟩
  rotate_left 2
  ·unfold execOp
   simp only[ho,hx,hy]
   simp[go_sem,k0,k1,k2,k3,f0,f1,f2,f3]
  ·have hs:∀ (W:World) (i:Nat) (v:Value),Fr (fun k=>k=g) W (W.setCell ⟨g,i,none⟩ v):=fun W i v=>Fr.aW (S:=fun k=>k=g) rfl v
   exact((hs _ _ _).trans (hs _ _ _)).trans ((hs _ _ _).trans (hs _ _ _))
 obtain⟨w',hr,h1,h2⟩:=key
 exact Does.skip hr (hR w' h1 h2)
theorem Zc{b:Nat}(ho:o.op= .fieldAddr 146 x 0)(hx:a.eval x= .pointer (some ⟨b,0,none⟩)):(execOp a.eval o).run Tryz.prog w= .ok (.value (.pointer (some ⟨b,0,none⟩))) w:=by
 unfold execOp
 simp only[ho,hx]
 simp[go_sem]
theorem nO{b:Nat}(ho:o.op= .fieldAddr 146 x 1)(hx:a.eval x= .pointer (some ⟨b,0,none⟩)):(execOp a.eval o).run Tryz.prog w= .ok (.value (.pointer (some ⟨b,1,none⟩))) w:=by
 unfold execOp
 simp only[ho,hx]
 simp[go_sem]
theorem fB{b:Nat}(ho:o.op= .fieldAddr 146 x 2)(hx:a.eval x= .pointer (some ⟨b,0,none⟩)):(execOp a.eval o).run Tryz.prog w= .ok (.value (.pointer (some ⟨b,2,none⟩))) w:=by
 unfold execOp
 simp only[ho,hx]
 simp[go_sem]
theorem fP{b:Nat}(ho:o.op= .fieldAddr 146 x 3)(hx:a.eval x= .pointer (some ⟨b,0,none⟩)):(execOp a.eval o).run Tryz.prog w= .ok (.value (.pointer (some ⟨b,3,none⟩))) w:=by
 unfold execOp
 simp only[ho,hx]
 simp[go_sem]
theorem Fj(W:World):(sizeOf (Tryz.prog.elem 22)).run Tryz.prog W= .ok 2 W:=Bg W
theorem wP:Tryz.prog.underlying 22=some (.slice (Tryz.prog.elem 22)):=G9
theorem iK(ho:o.op= .load 22 x)(hx:a.eval x= .pointer (some ad))(hc:w.cell? ad=some v):(execOp a.eval o).run Tryz.prog w= .ok (.value v) w:=by
 unfold execOp
 simp only[ho,hx]
 simp[go_sem,hc]
theorem JI(A:Option Addr)(n c i:Nat)(hi:i<=c)(W:World):(Instr.slice 22 (.slice A n c) none (some (.int .i64 i)) none).run Tryz.prog W= .ok (.slice A i c) W:=by
 rw[run_slice_h W 22 A n c wP .i64 (i:Int) (by omega) (by omega),Fj]
 simp only[Result.andThen_ok,sliced,Int.toNat_natCast,Nat.zero_mul,Nat.sub_zero]
 have e:(if c=0 then A else A.map (·.add 0))=A:=by
  split
  ·rfl
  ·cases A<;>rfl
 rw[e]
theorem Ed(A:Option Addr)(n c i:Nat)(hi:i<=n)(W:World):(Instr.slice 22 (.slice A n c) (some (.int .i64 i)) none none).run Tryz.prog W= .ok (.slice (if c=i then A else A.map (·.add (i*2))) (n-i) (c-i)) W:=by
 rw[run_slice_l W 22 A n c wP .i64 (i:Int) (by omega) (by omega),Fj]
 simp only[Result.andThen_ok,sliced,Int.toNat_natCast]
theorem Ee{A:Option Addr}{n c i:Nat}(ho:o.op= .slice 22 x none (some y) none)(hx:a.eval x= .slice A n c)(hy:a.eval y= .int .i64 i)(hi:i<=c):(execOp a.eval o).run Tryz.prog w= .ok (.value (.slice A i c)) w:=by
 unfold execOp
 simp only[ho,hx,Option.map_some,Option.map_none,hy]
 simp[run_sliceAt_slice _ _ _ _ _ _ wP,JI A n c i hi]
theorem zQ{A:Option Addr}{n c i:Nat}(ho:o.op= .slice 22 x (some y) none none)(hx:a.eval x= .slice A n c)(hy:a.eval y= .int .i64 i)(hi:i<=n):(execOp a.eval o).run Tryz.prog w= .ok (.value (.slice (if c=i then A else A.map (·.add (i*2))) (n-i) (c-i))) w:=by
 unfold execOp
 simp only[ho,hx,Option.map_some,Option.map_none,hy]
 simp[run_sliceAt_slice _ _ _ _ _ _ wP,Ed A n c i hi]
theorem qY{A0:Option Addr}{n0 c0:Nat}(ho:o.op= .buildSlice 46 1 #[(0,x)])(h0:a.eval x= .slice A0 n0 c0):(execOp a.eval o).run Tryz.prog w= .ok (.value (.slice (some ⟨w.heap.size,0,none⟩) 1 1)) (w.alloc (.cells #[.slice A0 n0 c0] 22)):=by
 unfold execOp
 simp only[ho,List.map_toArray,List.map_cons,List.map_nil,h0]
 simp[go_sem]
theorem y9{A0:Option Addr}{n0 c0:Nat}{A1:Option Addr}{n1 c1:Nat}(ho:o.op= .buildSlice 46 2 #[(0,x),(1,y)])(h0:a.eval x= .slice A0 n0 c0)(h1:a.eval y= .slice A1 n1 c1):(execOp a.eval o).run Tryz.prog w= .ok (.value (.slice (some ⟨w.heap.size,0,none⟩) 2 2)) (w.alloc (.cells #[.slice A0 n0 c0, .slice A1 n1 c1] 22)):=by
 unfold execOp
 simp only[ho,List.map_toArray,List.map_cons,List.map_nil,h0,h1]
 simp[go_sem]
theorem Fp(W:World):(sizeOf (Tryz.prog.elem 49)).run Tryz.prog W= .ok 1 W:=by kernel_rfl
theorem wQ:Tryz.prog.underlying 49=some (.slice (Tryz.prog.elem 49)):=by kernel_rfl
theorem bI(ho:o.op= .load 49 x)(hx:a.eval x= .pointer (some ad))(hc:w.cell? ad=some v):(execOp a.eval o).run Tryz.prog w= .ok (.value v) w:=by
 unfold execOp
 simp only[ho,hx]
 simp[go_sem,hc]
theorem JJ(A:Option Addr)(n c i:Nat)(hi:i<=c)(W:World):(Instr.slice 49 (.slice A n c) none (some (.int .i64 i)) none).run Tryz.prog W= .ok (.slice A i c) W:=by
 rw[run_slice_h W 49 A n c wQ .i64 (i:Int) (by omega) (by omega),Fp]
 simp only[Result.andThen_ok,sliced,Int.toNat_natCast,Nat.zero_mul,Nat.sub_zero]
 have e:(if c=0 then A else A.map (·.add 0))=A:=by
  split
  ·rfl
  ·cases A<;>rfl
 rw[e]
theorem Ef(A:Option Addr)(n c i:Nat)(hi:i<=n)(W:World):(Instr.slice 49 (.slice A n c) (some (.int .i64 i)) none none).run Tryz.prog W= .ok (.slice (if c=i then A else A.map (·.add (i*1))) (n-i) (c-i)) W:=by
 rw[run_slice_l W 49 A n c wQ .i64 (i:Int) (by omega) (by omega),Fp]
 simp only[Result.andThen_ok,sliced,Int.toNat_natCast]
theorem kC{A:Option Addr}{n c i:Nat}(ho:o.op= .slice 49 x none (some y) none)(hx:a.eval x= .slice A n c)(hy:a.eval y= .int .i64 i)(hi:i<=c):(execOp a.eval o).run Tryz.prog w= .ok (.value (.slice A i c)) w:=by
 unfold execOp
 simp only[ho,hx,Option.map_some,Option.map_none,hy]
 simp[run_sliceAt_slice _ _ _ _ _ _ wQ,JJ A n c i hi]
theorem iq{A:Option Addr}{n c i:Nat}(ho:o.op= .slice 49 x (some y) none none)(hx:a.eval x= .slice A n c)(hy:a.eval y= .int .i64 i)(hi:i<=n):(execOp a.eval o).run Tryz.prog w= .ok (.value (.slice (if c=i then A else A.map (·.add (i*1))) (n-i) (c-i))) w:=by
 unfold execOp
 simp only[ho,hx,Option.map_some,Option.map_none,hy]
 simp[run_sliceAt_slice _ _ _ _ _ _ wQ,Ef A n c i hi]
theorem qZ{A0:Option Addr}{n0 c0:Nat}(ho:o.op= .buildSlice 406 1 #[(0,x)])(h0:a.eval x= .slice A0 n0 c0):(execOp a.eval o).run Tryz.prog w= .ok (.value (.slice (some ⟨w.heap.size,0,none⟩) 1 1)) (w.alloc (.cells #[.slice A0 n0 c0] 49)):=by
 unfold execOp
 simp only[ho,List.map_toArray,List.map_cons,List.map_nil,h0]
 simp[go_sem]
theorem zh{A0:Option Addr}{n0 c0:Nat}{A1:Option Addr}{n1 c1:Nat}(ho:o.op= .buildSlice 406 2 #[(0,x),(1,y)])(h0:a.eval x= .slice A0 n0 c0)(h1:a.eval y= .slice A1 n1 c1):(execOp a.eval o).run Tryz.prog w= .ok (.value (.slice (some ⟨w.heap.size,0,none⟩) 2 2)) (w.alloc (.cells #[.slice A0 n0 c0, .slice A1 n1 c1] 49)):=by
 unfold execOp
 simp only[ho,List.map_toArray,List.map_cons,List.map_nil,h0,h1]
 simp[go_sem]
theorem rC{A0:Option Addr}{n0 c0:Nat}{A1:Option Addr}{n1 c1:Nat}{A2:Option Addr}{n2 c2:Nat}(ho:o.op= .buildSlice 406 3 #[(0,x),(1,y),(2,z)])(h0:a.eval x= .slice A0 n0 c0)(h1:a.eval y= .slice A1 n1 c1)(h2:a.eval z= .slice A2 n2 c2):(execOp a.eval o).run Tryz.prog w= .ok (.value (.slice (some ⟨w.heap.size,0,none⟩) 3 3)) (w.alloc (.cells #[.slice A0 n0 c0, .slice A1 n1 c1, .slice A2 n2 c2] 49)):=by
 unfold execOp
 simp only[ho,List.map_toArray,List.map_cons,List.map_nil,h0,h1,h2]
 simp[go_sem]
theorem Fq(W:World):(sizeOf (Tryz.prog.elem 107)).run Tryz.prog W= .ok 1 W:=by kernel_rfl
theorem wR:Tryz.prog.underlying 107=some (.slice (Tryz.prog.elem 107)):=by kernel_rfl
theorem bU(ho:o.op= .load 107 x)(hx:a.eval x= .pointer (some ad))(hc:w.cell? ad=some v):(execOp a.eval o).run Tryz.prog w= .ok (.value v) w:=by
 unfold execOp
 simp only[ho,hx]
 simp[go_sem,hc]
theorem JK(A:Option Addr)(n c i:Nat)(hi:i<=c)(W:World):(Instr.slice 107 (.slice A n c) none (some (.int .i64 i)) none).run Tryz.prog W= .ok (.slice A i c) W:=by
 rw[run_slice_h W 107 A n c wR .i64 (i:Int) (by omega) (by omega),Fq]
 simp only[Result.andThen_ok,sliced,Int.toNat_natCast,Nat.zero_mul,Nat.sub_zero]
 have e:(if c=0 then A else A.map (·.add 0))=A:=by
  split
  ·rfl
  ·cases A<;>rfl
 rw[e]
theorem Eh(A:Option Addr)(n c i:Nat)(hi:i<=n)(W:World):(Instr.slice 107 (.slice A n c) (some (.int .i64 i)) none none).run Tryz.prog W= .ok (.slice (if c=i then A else A.map (·.add (i*1))) (n-i) (c-i)) W:=by
 rw[run_slice_l W 107 A n c wR .i64 (i:Int) (by omega) (by omega),Fq]
 simp only[Result.andThen_ok,sliced,Int.toNat_natCast]
theorem kD{A:Option Addr}{n c i:Nat}(ho:o.op= .slice 107 x none (some y) none)(hx:a.eval x= .slice A n c)(hy:a.eval y= .int .i64 i)(hi:i<=c):(execOp a.eval o).run Tryz.prog w= .ok (.value (.slice A i c)) w:=by
 unfold execOp
 simp only[ho,hx,Option.map_some,Option.map_none,hy]
 simp[run_sliceAt_slice _ _ _ _ _ _ wR,JK A n c i hi]
theorem ji{A:Option Addr}{n c i:Nat}(ho:o.op= .slice 107 x (some y) none none)(hx:a.eval x= .slice A n c)(hy:a.eval y= .int .i64 i)(hi:i<=n):(execOp a.eval o).run Tryz.prog w= .ok (.value (.slice (if c=i then A else A.map (·.add (i*1))) (n-i) (c-i))) w:=by
 unfold execOp
 simp only[ho,hx,Option.map_some,Option.map_none,hy]
 simp[run_sliceAt_slice _ _ _ _ _ _ wR,Eh A n c i hi]
theorem rD{A0:Option Addr}{n0 c0:Nat}(ho:o.op= .buildSlice 407 1 #[(0,x)])(h0:a.eval x= .slice A0 n0 c0):(execOp a.eval o).run Tryz.prog w= .ok (.value (.slice (some ⟨w.heap.size,0,none⟩) 1 1)) (w.alloc (.cells #[.slice A0 n0 c0] 107)):=by
 unfold execOp
 simp only[ho,List.map_toArray,List.map_cons,List.map_nil,h0]
 simp[go_sem]
theorem JL{A0:Option Addr}{n0 c0:Nat}{A1:Option Addr}{n1 c1:Nat}(ho:o.op= .buildSlice 407 2 #[(0,x),(1,y)])(h0:a.eval x= .slice A0 n0 c0)(h1:a.eval y= .slice A1 n1 c1):(execOp a.eval o).run Tryz.prog w= .ok (.value (.slice (some ⟨w.heap.size,0,none⟩) 2 2)) (w.alloc (.cells #[.slice A0 n0 c0, .slice A1 n1 c1] 107)):=by
 unfold execOp
 simp only[ho,List.map_toArray,List.map_cons,List.map_nil,h0,h1]
 simp[go_sem]
theorem nP{A0:Option Addr}{n0 c0:Nat}{A1:Option Addr}{n1 c1:Nat}{A2:Option Addr}{n2 c2:Nat}(ho:o.op= .buildSlice 407 3 #[(0,x),(1,y),(2,z)])(h0:a.eval x= .slice A0 n0 c0)(h1:a.eval y= .slice A1 n1 c1)(h2:a.eval z= .slice A2 n2 c2):(execOp a.eval o).run Tryz.prog w= .ok (.value (.slice (some ⟨w.heap.size,0,none⟩) 3 3)) (w.alloc (.cells #[.slice A0 n0 c0, .slice A1 n1 c1, .slice A2 n2 c2] 107)):=by
 unfold execOp
 simp only[ho,List.map_toArray,List.map_cons,List.map_nil,h0,h1,h2]
 simp[go_sem]
theorem Fv{s:ByteArray}(ho:o.op= .buildSlice 107 1 #[(0,x)])(hx:a.eval x= .string s):(execOp a.eval o).run Tryz.prog w= .ok (.value (.slice (some ⟨w.heap.size,0,none⟩) 1 1)) (w.alloc (.cells #[.string s] 9)):=by
 unfold execOp
 simp only[ho,List.map_toArray,List.map_cons,List.map_nil,hx]
 simp[go_sem]
theorem NP{b off n c i:Nat}(ho:o.op= .indexAddr 22 x y)(hx:a.eval x= .slice (some ⟨b,off,none⟩) n c)(hy:a.eval y= .int .i64 i)(hi:i<n):(execOp a.eval o).run Tryz.prog w= .ok (.value (.pointer (some ⟨b,off+i*2,none⟩))) w:=by
 unfold execOp
 simp only[ho,hx,hy]
 have h1:(i:Int)<n:=by omega
 simp[go_sem,h1]
theorem BN{b off n c i:Nat}(ho:o.op= .indexAddr 107 x y)(hx:a.eval x= .slice (some ⟨b,off,none⟩) n c)(hy:a.eval y= .int .i64 i)(hi:i<n):(execOp a.eval o).run Tryz.prog w= .ok (.value (.pointer (some ⟨b,off+i,none⟩))) w:=by
 unfold execOp
 simp only[ho,hx,hy]
 have h1:(i:Int)<n:=by omega
 simp[go_sem,h1]
theorem Fz{x0 x1 x2 x3:Operand}{A1:Option Addr}{n1 c1:Nat}{A2:Option Addr}{n2 c2:Nat}{A3:Option Addr}{n3 c3:Nat}{b:Bool}(ho:o.op= .build 146 #[(0,x0),(1,x1),(2,x2),(3,x3)])(h0:a.eval x0= .bool b)(h1:a.eval x1= .slice A1 n1 c1)(h2:a.eval x2= .slice A2 n2 c2)(h3:a.eval x3= .slice A3 n3 c3):(execOp a.eval o).run Tryz.prog w= .ok (.value (.agg #[.bool b, .slice A1 n1 c1, .slice A2 n2 c2, .slice A3 n3 c3])) w:=by
 unfold execOp
 simp only[ho,List.map_toArray,List.map_cons,List.map_nil,h0,h1,h2,h3]
 simp[go_sem]
theorem BO{x0 x1:Operand}{A1:Option Addr}{n1 c1:Nat}{b:Bool}(ho:o.op= .build 146 #[(0,x0),(1,x1)])(h0:a.eval x0= .bool b)(h1:a.eval x1= .slice A1 n1 c1):(execOp a.eval o).run Tryz.prog w= .ok (.value (.agg #[.bool b, .slice A1 n1 c1, .slice none 0 0, .slice none 0 0])) w:=by
 unfold execOp
 simp only[ho,List.map_toArray,List.map_cons,List.map_nil,h0,h1]
 simp[go_sem]
theorem rE{x2 x3:Operand}{A2:Option Addr}{n2 c2:Nat}{A3:Option Addr}{n3 c3:Nat}(ho:o.op= .build 146 #[(2,x2),(3,x3)])(h2:a.eval x2= .slice A2 n2 c2)(h3:a.eval x3= .slice A3 n3 c3):(execOp a.eval o).run Tryz.prog w= .ok (.value (.agg #[.bool false, .slice none 0 0, .slice A2 n2 c2, .slice A3 n3 c3])) w:=by
 unfold execOp
 simp only[ho,List.map_toArray,List.map_cons,List.map_nil,h2,h3]
 simp[go_sem]
theorem NQ{x1 x2 x3:Operand}{A1:Option Addr}{n1 c1:Nat}{A2:Option Addr}{n2 c2:Nat}{A3:Option Addr}{n3 c3:Nat}(ho:o.op= .build 146 #[(1,x1),(2,x2),(3,x3)])(h1:a.eval x1= .slice A1 n1 c1)(h2:a.eval x2= .slice A2 n2 c2)(h3:a.eval x3= .slice A3 n3 c3):(execOp a.eval o).run Tryz.prog w= .ok (.value (.agg #[.bool false, .slice A1 n1 c1, .slice A2 n2 c2, .slice A3 n3 c3])) w:=by
 unfold execOp
 simp only[ho,List.map_toArray,List.map_cons,List.map_nil,h1,h2,h3]
 simp[go_sem]
end
def Is.af0(base:Nat)(c0 c2:Value)(key:ByteArray):Is base:=⟨none,fun v W=>∃b b',base<=b/\base<=b'/\v= .slice (some ⟨b,0,none⟩) 3 3/\Blk W b 107 #[c0, .slice (some ⟨b',0,none⟩) 1 1,c2]/\Blk W b' 9 #[.string key],fun _ _ _ _ ⟨b,b',h0,h0',h1,h2,h3⟩ hf hS=>⟨b,b',h0,h0',h1,hf.blk h2 (fun a=>by have:=hS b a;omega),hf.blk h3 (fun a=>by have:=hS b' a;omega)⟩⟩
theorem aby{W:World}{b B:Nat}{key:ByteArray}(h:Blk W b 9 #[.string key])(hb:b<B):LS keyE W B (some ⟨b,0,none⟩) [key]:=by
 refine⟨rfl,fun _=>⟨⟨b,0,none⟩,rfl,hb,fun j u hu=> ?_⟩⟩
 have e:keyE.cells [key]= [.string key]:=by simp[Enc.cells,keyE]
 rw[e]at hu
 have hj:j=0:=by
  cases j with
  |zero=>rfl
  |succ j=>simp at hu
 subst hj
 have:=h.cell 0
 simp at hu
 subst hu
 simpa[Addr.add]using this
def lW(ty:TypeId)(n:Nat):Prop:=∃fs,Tryz.prog.underlying ty=some (.struct fs)/\(Tryz.prog.info? ty).map (·.size)=some n
theorem aN:lW 146 4:=⟨_,Tryz.underlying146,by kernel_rfl⟩
section
variable {fn:Func}{p q u:Tmp}{ty ty':TypeId}{tmps:Array Value}{w:World}{g g' n n':Nat}{cs cs':Array Value}
theorem kP(hT:lW ty n)(hB:Blk w g ty cs)(hn:cs.size=n):(loadVar ty ⟨g,0,none⟩).run Tryz.prog w= .ok (.agg cs) w:=by
 obtain⟨d,h1,h3⟩:=hT
 exact run_loadVar_row w g ty ty cs (0,0) _ hB h1 rfl (by rw[h3,hn])
theorem mY(hT:lW ty n)(h:fn.results= #[.cell p ty])(hp:tmps.getD p undef= .pointer (some ⟨g,0,none⟩))(hB:Blk w g ty cs)(hn:cs.size=n):(results fn tmps).run Tryz.prog w= .ok (.agg cs) w:=by
 have hp':tmps[p]?.getD undef= .pointer (some ⟨g,0,none⟩):=by simpa using hp
 simp[results,h,hp',asAddr,kP hT hB hn]
theorem aO(hT:lW ty n)(h:fn.results= #[.cell p ty, .tmp u])(hp:tmps.getD p undef= .pointer (some ⟨g,0,none⟩))(hB:Blk w g ty cs)(hn:cs.size=n):(results fn tmps).run Tryz.prog w= .ok (.tuple #[.agg cs,tmps.getD u undef]) w:=by
 have hp':tmps[p]?.getD undef= .pointer (some ⟨g,0,none⟩):=by simpa using hp
 simp only[results,h]
 simp[hp',asAddr,kP hT hB hn]
theorem jK(hT:lW ty n)(hT':lW ty' n')(h:fn.results= #[.cell p ty, .tmp u, .cell q ty'])(hp:tmps.getD p undef= .pointer (some ⟨g,0,none⟩))(hB:Blk w g ty cs)(hn:cs.size=n)(hq:tmps.getD q undef= .pointer (some ⟨g',0,none⟩))(hB':Blk w g' ty' cs')(hn':cs'.size=n'):(results fn tmps).run Tryz.prog w= .ok (.tuple #[.agg cs,tmps.getD u undef, .agg cs']) w:=by
 have hp':tmps[p]?.getD undef= .pointer (some ⟨g,0,none⟩):=by simpa using hp
 have hq':tmps[q]?.getD undef= .pointer (some ⟨g',0,none⟩):=by simpa using hq
 simp only[results,h]
 simp[hp',hq',asAddr,kP hT hB hn,kP hT' hB' hn']
end
theorem BP(v:Value)(n:Nd.Node)(w:World)(h:NS w v n)(hb:NB n):
  Calls Tryz.prog 298 #[v] w fun e w'=>∃v',e= .returned v'/\NF w.heap.size w' v' n/\Below w.heap.size w w':=by
 obtain⟨Ae,ce,Ai,ci,Ay,cy,rfl,h1,h2,h3⟩:=h
 unfold aP
 have hB1:=(Blk.new w 146 #[.bool n.leaf, .slice Ae n.ents.length ce, .slice Ai n.kids.length ci, .slice Ay n.keys.length cy]).alloc (.cells #[.bool false, .slice none 0 0, .slice none 0 0, .slice none 0 0] 146)
 have hB2:=Blk.new (w.alloc (.cells #[.bool n.leaf, .slice Ae n.ents.length ce, .slice Ai n.kids.length ci, .slice Ay n.keys.length cy] 146)) 146 #[.bool false, .slice none 0 0, .slice none 0 0, .slice none 0 0]
 have hb1:=(Below.refl w.heap.size w).alloc (Nat.le_refl _) (.cells #[.bool n.leaf, .slice Ae n.ents.length ce, .slice Ai n.kids.length ci, .slice Ay n.keys.length cy] 146)
 have hb0:=hb1.alloc hb1.size (.cells #[.bool false, .slice none 0 0, .slice none 0 0, .slice none 0 0] 146)
 simp only[World.size_alloc]at hB2
 have be:=hb.e
 have bi:=hb.i
 have bk:=hb.k
 go_enter Tryz.func298,Tryz.ntmps298
 go_wp2_with fail
 have hz:((w.alloc (.cells #[.bool n.leaf, .slice Ae n.ents.length ce, .slice Ai n.kids.length ci, .slice Ay n.keys.length cy] 146)).alloc (.cells #[.bool false, .slice none 0 0, .slice none 0 0, .slice none 0 0] 146)).heap.size=w.heap.size+2:=by simp
 generalize (w.alloc (.cells #[.bool n.leaf, .slice Ae n.ents.length ce, .slice Ai n.kids.length ci, .slice Ay n.keys.length cy] 146)).alloc (.cells #[.bool false, .slice none 0 0, .slice none 0 0, .slice none 0 0] 146)=w0 at*
 refine bY (base:=w.heap.size+2) (fun u=>⟨#[_,_,_,u 0,u 1,u 2,u 3,u 4,u 5,u 6,u 7,u 8,u 9,u 10,u 11,u 12,u 13,u 14],_⟩)
  [Is.eq _ (.pointer (some ⟨w.heap.size,0,none⟩)),
  Is.eq _ (.bool n.leaf),
  Is.eq _ (.pointer (some ⟨w.heap.size,1,none⟩)),
  Is.eq _ (.slice Ae (n.ents).length ce),
  Is.blk _ 22 1 #[.slice Ae (n.ents).length ce],
  Is.row _ bD 101 (n.ents),
  Is.eq _ (.pointer (some ⟨w.heap.size,2,none⟩)),
  Is.eq _ (.slice Ai (n.kids).length ci),
  Is.blk _ 49 1 #[.slice Ai (n.kids).length ci],
  Is.row _ aV 3 (n.kids),
  Is.eq _ (.pointer (some ⟨w.heap.size,3,none⟩)),
  Is.eq _ (.slice Ay (n.keys).length cy),
  Is.blk _ 107 1 #[.slice Ay (n.keys).length cy],
  Is.row _ keyE 9 (n.keys),
  Is.node _ (n),
  Is.put _ (w.heap.size+1) (n)] (by kernel_rfl) (by kernel_rfl) (by kernel_rfl) [w.heap.size+1] rfl (by omega) (by simp<;>omega) (by simp) ⟨fun i=>(fun _=>undef) i,rfl⟩ ?_ ?_
 ·intro i o ho u W hf hold aj
  have hS:∀k,k∈ [w.heap.size+1]->k=w.heap.size+1:=fun k hk=>by simpa using hk
  have hsz:w.heap.size+2<=W.heap.size:=by have:=hf.size;omega
  have hbw:Below w.heap.size w W:=hb0.trans (hf.low (by omega) (fun k a=>by have:=hS k a;omega))
  have hBn:=hf.blk hB1 (fun a=>by have:=hS _ a;omega)
  have cn0:=hBn.cell 0
  have cn1:=hBn.cell 1
  have cn2:=hBn.cell 2
  have cn3:=hBn.cell 3
  match i,ho with
  |0,ho=>obtain rfl:=Option.some.inj ho;exact Does.val (Zc rfl rfl) ⟨rfl,rfl,Fr.refl _⟩
  |1,ho=>obtain rfl:=Option.some.inj ho;exact Does.val (Sm rfl (aj 0 rfl) cn0) ⟨rfl,rfl,Fr.refl _⟩
  |2,ho=>obtain rfl:=Option.some.inj ho;exact Does.val (nO rfl rfl) ⟨rfl,rfl,Fr.refl _⟩
  |3,ho=>obtain rfl:=Option.some.inj ho;exact Does.val (iK rfl (aj 2 rfl) cn1) ⟨rfl,rfl,Fr.refl _⟩
  |4,ho=>obtain rfl:=Option.some.inj ho;exact Does.val (qY rfl (aj 3 rfl)) ⟨rfl,⟨W.heap.size,hsz,rfl,Blk.new _ _ _⟩, .of_below ((Below.refl _ _).alloc (Nat.le_refl _) _)⟩
  |5,ho=>
   obtain rfl:=Option.some.inj ho
   obtain⟨bq,hq0,hq1,hq2⟩:=aj 4 rfl
   have e1:ig [(Ae,ce,n.ents)]=n.ents:=by simp[ig]
   refine Does.call (dP JH rfl hq1) (Calls.mono (oQ bq 1 [(Ae,ce,n.ents)] rfl (by decide) W hq2 (fun p hp=>by
    simp only[List.mem_cons,List.not_mem_nil,or_false]at hp
    rcases hp with rfl
    all_goals first | exact(h1.up hbw).ls) (by rw[e1];first | omega | (simp;omega))) ?_)
   rintro e w' ⟨v,rfl,ho,hbl⟩
   rw[e1]at ho
   exact⟨v,rfl,rfl,⟨ho.lower hsz,ho.form⟩, .of_below hbl⟩
  |6,ho=>obtain rfl:=Option.some.inj ho;exact Does.val (fB rfl rfl) ⟨rfl,rfl,Fr.refl _⟩
  |7,ho=>obtain rfl:=Option.some.inj ho;exact Does.val (bI rfl (aj 6 rfl) cn2) ⟨rfl,rfl,Fr.refl _⟩
  |8,ho=>obtain rfl:=Option.some.inj ho;exact Does.val (qZ rfl (aj 7 rfl)) ⟨rfl,⟨W.heap.size,hsz,rfl,Blk.new _ _ _⟩, .of_below ((Below.refl _ _).alloc (Nat.le_refl _) _)⟩
  |9,ho=>
   obtain rfl:=Option.some.inj ho
   obtain⟨bq,hq0,hq1,hq2⟩:=aj 8 rfl
   have e1:cZ [(Ai,ci,n.kids)]=n.kids:=by simp[cZ]
   refine Does.call (dP yY rfl hq1) (Calls.mono (jy bq 1 [(Ai,ci,n.kids)] rfl (by decide) W hq2 (fun p hp=>by
    simp only[List.mem_cons,List.not_mem_nil,or_false]at hp
    rcases hp with rfl
    all_goals first | exact(h2.up hbw).ls) (by rw[e1];first | omega | (simp;omega))) ?_)
   rintro e w' ⟨v,rfl,ho,hbl⟩
   rw[e1]at ho
   exact⟨v,rfl,rfl,⟨ho.lower hsz,ho.form⟩, .of_below hbl⟩
  |10,ho=>obtain rfl:=Option.some.inj ho;exact Does.val (fP rfl rfl) ⟨rfl,rfl,Fr.refl _⟩
  |11,ho=>obtain rfl:=Option.some.inj ho;exact Does.val (bU rfl (aj 10 rfl) cn3) ⟨rfl,rfl,Fr.refl _⟩
  |12,ho=>obtain rfl:=Option.some.inj ho;exact Does.val (rD rfl (aj 11 rfl)) ⟨rfl,⟨W.heap.size,hsz,rfl,Blk.new _ _ _⟩, .of_below ((Below.refl _ _).alloc (Nat.le_refl _) _)⟩
  |13,ho=>
   obtain rfl:=Option.some.inj ho
   obtain⟨bq,hq0,hq1,hq2⟩:=aj 12 rfl
   have e1:dh [(Ay,cy,n.keys)]=n.keys:=by simp[dh]
   refine Does.call (dP yZ rfl hq1) (Calls.mono (jA bq 1 [(Ay,cy,n.keys)] rfl (by decide) W hq2 (fun p hp=>by
    simp only[List.mem_cons,List.not_mem_nil,or_false]at hp
    rcases hp with rfl
    all_goals first | exact(h3.up hbw).ls) (by rw[e1];first | omega | (simp;omega))) ?_)
   rintro e w' ⟨v,rfl,ho,hbl⟩
   rw[e1]at ho
   exact⟨v,rfl,rfl,⟨ho.lower hsz,ho.form⟩, .of_below hbl⟩
  |14,ho=>
   obtain rfl:=Option.some.inj ho
   obtain⟨r1,A1,k1,e1⟩:=aj 5 rfl
   obtain⟨r2,A2,k2,e2⟩:=aj 9 rfl
   obtain⟨r3,A3,k3,e3⟩:=aj 13 rfl
   exact Does.val (Fz rfl (aj 1 rfl) e1 e2 e3) ⟨rfl,⟨A1,k1,A2,k2,A3,k3,rfl,e1 ▸ r1,e2 ▸ r2,e3 ▸ r3⟩,Fr.refl _⟩
  |15,ho=>
   obtain rfl:=Option.some.inj ho
   obtain⟨A1,k1,A2,k2,A3,k3,e,r⟩:=aj 14 rfl
   refine fF rfl rfl e ⟨_,_,_,_,_,_,_,_,_,_,rfl⟩ (Eq.trans (hold _ rfl) hB2) rfl fun w' hB hfr=> ?_
   exact⟨rfl,⟨_,NF.fr ⟨A1,k1,A2,k2,A3,k3,rfl,r⟩ hfr (fun k a=>by omega),hB⟩,hfr.more (fun k hk=>by rw[hk];rfl)⟩
  |n+16,ho=>exact absurd ho (by simp)
 ·intro u W hf hall
  obtain⟨cs,⟨A1,k1,A2,k2,A3,k3,e,r⟩,hBk⟩:=hall 15 (by decide)
  have hS:∀k,k∈ [w.heap.size+1]->k=w.heap.size+1:=fun k hk=>by simpa using hk
  have hbw:Below w.heap.size w W:=hb0.trans (hf.low (by omega) (fun k a=>by have:=hS k a;omega))
  injection e with e
  subst e
  have hend:NF w.heap.size W (.agg _) (n):=NF.lower ⟨A1,k1,A2,k2,A3,k3,rfl,r⟩ (by omega)
  have aZ:=Lib.hid hend
  clear hall hend hf
  go_wp2
  try simp only[Exit.inBlock,Exit.then]
  refine bodyPost_ret (mY aN rfl rfl hBk rfl) rfl ?_
  first | exact⟨_,rfl,aZ.out,hbw⟩ | exact⟨_,rfl,HND.out ▸ aZ.out,hbw⟩
theorem Sr(va vb:Value)(a b:Nd.Node)(key:ByteArray)(hla:a.leaf=true)(hlb:b.leaf=true)(w:World)(ha:NS w va a)(hb:NS w vb b)(hba:NB a)(hbb:NB b):
  Calls Tryz.prog 306 #[va, .string key,vb] w fun e w'=>∃v',e= .returned v'/\NF w.heap.size w' v' (⟨true,a.ents++b.ents,a.kids++b.kids,a.keys++b.keys⟩)/\Below w.heap.size w w':=by
 obtain⟨Aea,cea,Aia,cia,Aya,cya,rfl,ha1,ha2,ha3⟩:=ha
 obtain⟨Aeb,ceb,Aib,cib,Ayb,cyb,rfl,hb1,hb2,hb3⟩:=hb
 obtain⟨ND,hND⟩:∃x:Nd.Node,x=(⟨true,a.ents++b.ents,a.kids++b.kids,a.keys++b.keys⟩):=⟨_,rfl⟩
 rw[<-hND]
 have HND:=Lib.hid hND
 clear hND
 unfold aP
 rw[hla,hlb]
 have hBa:=((Blk.new w 146 #[.bool true, .slice Aea a.ents.length cea, .slice Aia a.kids.length cia, .slice Aya a.keys.length cya]).alloc (.cells #[.bool true, .slice Aeb b.ents.length ceb, .slice Aib b.kids.length cib, .slice Ayb b.keys.length cyb] 146)).alloc (.cells #[.bool false, .slice none 0 0, .slice none 0 0, .slice none 0 0] 146)
 have hBb:=(Blk.new (w.alloc (.cells #[.bool true, .slice Aea a.ents.length cea, .slice Aia a.kids.length cia, .slice Aya a.keys.length cya] 146)) 146 #[.bool true, .slice Aeb b.ents.length ceb, .slice Aib b.kids.length cib, .slice Ayb b.keys.length cyb]).alloc (.cells #[.bool false, .slice none 0 0, .slice none 0 0, .slice none 0 0] 146)
 have hBr:=Blk.new ((w.alloc (.cells #[.bool true, .slice Aea a.ents.length cea, .slice Aia a.kids.length cia, .slice Aya a.keys.length cya] 146)).alloc (.cells #[.bool true, .slice Aeb b.ents.length ceb, .slice Aib b.kids.length cib, .slice Ayb b.keys.length cyb] 146)) 146 #[.bool false, .slice none 0 0, .slice none 0 0, .slice none 0 0]
 have hx1:=(Below.refl w.heap.size w).alloc (Nat.le_refl _) (.cells #[.bool true, .slice Aea a.ents.length cea, .slice Aia a.kids.length cia, .slice Aya a.keys.length cya] 146)
 have hx2:=hx1.alloc hx1.size (.cells #[.bool true, .slice Aeb b.ents.length ceb, .slice Aib b.kids.length cib, .slice Ayb b.keys.length cyb] 146)
 have hb0:=hx2.alloc hx2.size (.cells #[.bool false, .slice none 0 0, .slice none 0 0, .slice none 0 0] 146)
 simp only[World.size_alloc]at hBb hBr
 have be:=hba.e
 have bi:=hba.i
 have bk:=hba.k
 have ce:=hbb.e
 have ci:=hbb.i
 have ck:=hbb.k
 clear hla hlb hba hbb
 go_enter Tryz.func306,Tryz.ntmps306
 go_wp2_with fail
 have hz:(((w.alloc (.cells #[.bool true, .slice Aea a.ents.length cea, .slice Aia a.kids.length cia, .slice Aya a.keys.length cya] 146)).alloc (.cells #[.bool true, .slice Aeb b.ents.length ceb, .slice Aib b.kids.length cib, .slice Ayb b.keys.length cyb] 146)).alloc (.cells #[.bool false, .slice none 0 0, .slice none 0 0, .slice none 0 0] 146)).heap.size=w.heap.size+3:=by simp
 generalize ((w.alloc (.cells #[.bool true, .slice Aea a.ents.length cea, .slice Aia a.kids.length cia, .slice Aya a.keys.length cya] 146)).alloc (.cells #[.bool true, .slice Aeb b.ents.length ceb, .slice Aib b.kids.length cib, .slice Ayb b.keys.length cyb] 146)).alloc (.cells #[.bool false, .slice none 0 0, .slice none 0 0, .slice none 0 0] 146)=w0 at*
 refine bY (base:=w.heap.size+3) (fun u=>⟨#[_,_,_,_,_,_,_,_,_,_,_,_,_,_,_,_,_,_,u 0,u 1,u 2,u 3,u 4,u 5,u 6,u 7,u 8,u 9,u 10,u 11,u 12,u 13,u 14,u 15,u 16,u 17,u 18,_,_,_,_,_,_,_,_,_,_,_,_,_,_,_,_,_,_,_,_,_],_⟩)
  [Is.eq _ (.pointer (some ⟨w.heap.size,1,none⟩)),
  Is.eq _ (.slice Aea (a.ents).length cea),
  Is.eq _ (.pointer (some ⟨w.heap.size+1,1,none⟩)),
  Is.eq _ (.slice Aeb (b.ents).length ceb),
  Is.blk _ 22 2 #[.slice Aea (a.ents).length cea, .slice Aeb (b.ents).length ceb],
  Is.row _ bD 101 (a.ents++b.ents),
  Is.eq _ (.pointer (some ⟨w.heap.size,2,none⟩)),
  Is.eq _ (.slice Aia (a.kids).length cia),
  Is.eq _ (.pointer (some ⟨w.heap.size+1,2,none⟩)),
  Is.eq _ (.slice Aib (b.kids).length cib),
  Is.blk _ 49 2 #[.slice Aia (a.kids).length cia, .slice Aib (b.kids).length cib],
  Is.row _ aV 3 (a.kids++b.kids),
  Is.eq _ (.pointer (some ⟨w.heap.size,3,none⟩)),
  Is.eq _ (.slice Aya (a.keys).length cya),
  Is.eq _ (.pointer (some ⟨w.heap.size+1,3,none⟩)),
  Is.eq _ (.slice Ayb (b.keys).length cyb),
  Is.blk _ 107 2 #[.slice Aya (a.keys).length cya, .slice Ayb (b.keys).length cyb],
  Is.row _ keyE 9 (a.keys++b.keys),
  Is.node _ (⟨true,a.ents++b.ents,a.kids++b.kids,a.keys++b.keys⟩),
  Is.put _ (w.heap.size+2) (⟨true,a.ents++b.ents,a.kids++b.kids,a.keys++b.keys⟩)] (by kernel_rfl) (by kernel_rfl) (by kernel_rfl) [w.heap.size+2] rfl (by omega) (by simp<;>omega) (by simp) ⟨fun i=>(fun _=>undef) i,rfl⟩ ?_ ?_
 ·intro i o ho u W hf hold aj
  have hS:∀k,k∈ [w.heap.size+2]->k=w.heap.size+2:=fun k hk=>by simpa using hk
  have hsz:w.heap.size+3<=W.heap.size:=by have:=hf.size;omega
  have hbw:Below w.heap.size w W:=hb0.trans (hf.low (by omega) (fun k a=>by have:=hS k a;omega))
  have hBA:=hf.blk hBa (fun a=>by have:=hS _ a;omega)
  have ca0:=hBA.cell 0
  have ca1:=hBA.cell 1
  have ca2:=hBA.cell 2
  have ca3:=hBA.cell 3
  have hBB:=hf.blk hBb (fun a=>by have:=hS _ a;omega)
  have cb0:=hBB.cell 0
  have cb1:=hBB.cell 1
  have cb2:=hBB.cell 2
  have cb3:=hBB.cell 3
  match i,ho with
  |0,ho=>obtain rfl:=Option.some.inj ho;exact Does.val (nO rfl rfl) ⟨rfl,rfl,Fr.refl _⟩
  |1,ho=>obtain rfl:=Option.some.inj ho;exact Does.val (iK rfl (aj 0 rfl) ca1) ⟨rfl,rfl,Fr.refl _⟩
  |2,ho=>obtain rfl:=Option.some.inj ho;exact Does.val (nO rfl rfl) ⟨rfl,rfl,Fr.refl _⟩
  |3,ho=>obtain rfl:=Option.some.inj ho;exact Does.val (iK rfl (aj 2 rfl) cb1) ⟨rfl,rfl,Fr.refl _⟩
  |4,ho=>obtain rfl:=Option.some.inj ho;exact Does.val (y9 rfl (aj 1 rfl) (aj 3 rfl)) ⟨rfl,⟨W.heap.size,hsz,rfl,Blk.new _ _ _⟩, .of_below ((Below.refl _ _).alloc (Nat.le_refl _) _)⟩
  |5,ho=>
   obtain rfl:=Option.some.inj ho
   obtain⟨bq,hq0,hq1,hq2⟩:=aj 4 rfl
   have e1:ig [(Aea,cea,a.ents),(Aeb,ceb,b.ents)]=a.ents++b.ents:=by simp[ig]
   refine Does.call (dP JH rfl hq1) (Calls.mono (oQ bq 2 [(Aea,cea,a.ents),(Aeb,ceb,b.ents)] rfl (by decide) W hq2 (fun p hp=>by
    simp only[List.mem_cons,List.not_mem_nil,or_false]at hp
    rcases hp with rfl | rfl
    all_goals first | exact(ha1.up hbw).ls | exact(hb1.up hbw).ls) (by rw[e1];first | omega | (simp;omega))) ?_)
   rintro e w' ⟨v,rfl,ho,hbl⟩
   rw[e1]at ho
   exact⟨v,rfl,rfl,⟨ho.lower hsz,ho.form⟩, .of_below hbl⟩
  |6,ho=>obtain rfl:=Option.some.inj ho;exact Does.val (fB rfl rfl) ⟨rfl,rfl,Fr.refl _⟩
  |7,ho=>obtain rfl:=Option.some.inj ho;exact Does.val (bI rfl (aj 6 rfl) ca2) ⟨rfl,rfl,Fr.refl _⟩
  |8,ho=>obtain rfl:=Option.some.inj ho;exact Does.val (fB rfl rfl) ⟨rfl,rfl,Fr.refl _⟩
  |9,ho=>obtain rfl:=Option.some.inj ho;exact Does.val (bI rfl (aj 8 rfl) cb2) ⟨rfl,rfl,Fr.refl _⟩
  |10,ho=>obtain rfl:=Option.some.inj ho;exact Does.val (zh rfl (aj 7 rfl) (aj 9 rfl)) ⟨rfl,⟨W.heap.size,hsz,rfl,Blk.new _ _ _⟩, .of_below ((Below.refl _ _).alloc (Nat.le_refl _) _)⟩
  |11,ho=>
   obtain rfl:=Option.some.inj ho
   obtain⟨bq,hq0,hq1,hq2⟩:=aj 10 rfl
   have e1:cZ [(Aia,cia,a.kids),(Aib,cib,b.kids)]=a.kids++b.kids:=by simp[cZ]
   refine Does.call (dP yY rfl hq1) (Calls.mono (jy bq 2 [(Aia,cia,a.kids),(Aib,cib,b.kids)] rfl (by decide) W hq2 (fun p hp=>by
    simp only[List.mem_cons,List.not_mem_nil,or_false]at hp
    rcases hp with rfl | rfl
    all_goals first | exact(ha2.up hbw).ls | exact(hb2.up hbw).ls) (by rw[e1];first | omega | (simp;omega))) ?_)
   rintro e w' ⟨v,rfl,ho,hbl⟩
   rw[e1]at ho
   exact⟨v,rfl,rfl,⟨ho.lower hsz,ho.form⟩, .of_below hbl⟩
  |12,ho=>obtain rfl:=Option.some.inj ho;exact Does.val (fP rfl rfl) ⟨rfl,rfl,Fr.refl _⟩
  |13,ho=>obtain rfl:=Option.some.inj ho;exact Does.val (bU rfl (aj 12 rfl) ca3) ⟨rfl,rfl,Fr.refl _⟩
  |14,ho=>obtain rfl:=Option.some.inj ho;exact Does.val (fP rfl rfl) ⟨rfl,rfl,Fr.refl _⟩
  |15,ho=>obtain rfl:=Option.some.inj ho;exact Does.val (bU rfl (aj 14 rfl) cb3) ⟨rfl,rfl,Fr.refl _⟩
  |16,ho=>obtain rfl:=Option.some.inj ho;exact Does.val (JL rfl (aj 13 rfl) (aj 15 rfl)) ⟨rfl,⟨W.heap.size,hsz,rfl,Blk.new _ _ _⟩, .of_below ((Below.refl _ _).alloc (Nat.le_refl _) _)⟩
  |17,ho=>
   obtain rfl:=Option.some.inj ho
   obtain⟨bq,hq0,hq1,hq2⟩:=aj 16 rfl
   have e1:dh [(Aya,cya,a.keys),(Ayb,cyb,b.keys)]=a.keys++b.keys:=by simp[dh]
   refine Does.call (dP yZ rfl hq1) (Calls.mono (jA bq 2 [(Aya,cya,a.keys),(Ayb,cyb,b.keys)] rfl (by decide) W hq2 (fun p hp=>by
    simp only[List.mem_cons,List.not_mem_nil,or_false]at hp
    rcases hp with rfl | rfl
    all_goals first | exact(ha3.up hbw).ls | exact(hb3.up hbw).ls) (by rw[e1];first | omega | (simp;omega))) ?_)
   rintro e w' ⟨v,rfl,ho,hbl⟩
   rw[e1]at ho
   exact⟨v,rfl,rfl,⟨ho.lower hsz,ho.form⟩, .of_below hbl⟩
  |18,ho=>
   obtain rfl:=Option.some.inj ho
   obtain⟨r1,A1,k1,e1⟩:=aj 5 rfl
   obtain⟨r2,A2,k2,e2⟩:=aj 11 rfl
   obtain⟨r3,A3,k3,e3⟩:=aj 17 rfl
   exact Does.val (Fz rfl rfl e1 e2 e3) ⟨rfl,⟨A1,k1,A2,k2,A3,k3,rfl,e1 ▸ r1,e2 ▸ r2,e3 ▸ r3⟩,Fr.refl _⟩
  |19,ho=>
   obtain rfl:=Option.some.inj ho
   obtain⟨A1,k1,A2,k2,A3,k3,e,r⟩:=aj 18 rfl
   refine fF rfl rfl e ⟨_,_,_,_,_,_,_,_,_,_,rfl⟩ (Eq.trans (hold _ rfl) hBr) rfl fun w' hB hfr=> ?_
   exact⟨rfl,⟨_,NF.fr ⟨A1,k1,A2,k2,A3,k3,rfl,r⟩ hfr (fun k a=>by omega),hB⟩,hfr.more (fun k hk=>by rw[hk];rfl)⟩
  |n+20,ho=>exact absurd ho (by simp)
 ·intro u W hf hall
  obtain⟨cs,⟨A1,k1,A2,k2,A3,k3,e,r⟩,hBk⟩:=hall 19 (by decide)
  have hS:∀k,k∈ [w.heap.size+2]->k=w.heap.size+2:=fun k hk=>by simpa using hk
  have hbw:Below w.heap.size w W:=hb0.trans (hf.low (by omega) (fun k a=>by have:=hS k a;omega))
  injection e with e
  subst e
  have hend:NF w.heap.size W (.agg _) (⟨true,a.ents++b.ents,a.kids++b.kids,a.keys++b.keys⟩):=NF.lower ⟨A1,k1,A2,k2,A3,k3,rfl,r⟩ (by omega)
  have aZ:=Lib.hid hend
  clear hall hend hf
  go_wp2
  try simp only[Exit.inBlock,Exit.then]
  refine bodyPost_ret (mY aN rfl rfl hBk rfl) rfl ?_
  first | exact⟨_,rfl,aZ.out,hbw⟩ | exact⟨_,rfl,HND.out ▸ aZ.out,hbw⟩
theorem NR(va vb:Value)(a b:Nd.Node)(key:ByteArray)(hla:a.leaf=false)(hlb:b.leaf=false)(w:World)(ha:NS w va a)(hb:NS w vb b)(hba:NB a)(hbb:NB b):
  Calls Tryz.prog 306 #[va, .string key,vb] w fun e w'=>∃v',e= .returned v'/\NF w.heap.size w' v' (⟨false,a.ents++b.ents,a.kids++b.kids,a.keys++ [key]++b.keys⟩)/\Below w.heap.size w w':=by
 obtain⟨Aea,cea,Aia,cia,Aya,cya,rfl,ha1,ha2,ha3⟩:=ha
 obtain⟨Aeb,ceb,Aib,cib,Ayb,cyb,rfl,hb1,hb2,hb3⟩:=hb
 obtain⟨ND,hND⟩:∃x:Nd.Node,x=(⟨false,a.ents++b.ents,a.kids++b.kids,a.keys++ [key]++b.keys⟩):=⟨_,rfl⟩
 rw[<-hND]
 have HND:=Lib.hid hND
 clear hND
 unfold aP
 rw[hla,hlb]
 have hBa:=((Blk.new w 146 #[.bool false, .slice Aea a.ents.length cea, .slice Aia a.kids.length cia, .slice Aya a.keys.length cya]).alloc (.cells #[.bool false, .slice Aeb b.ents.length ceb, .slice Aib b.kids.length cib, .slice Ayb b.keys.length cyb] 146)).alloc (.cells #[.bool false, .slice none 0 0, .slice none 0 0, .slice none 0 0] 146)
 have hBb:=(Blk.new (w.alloc (.cells #[.bool false, .slice Aea a.ents.length cea, .slice Aia a.kids.length cia, .slice Aya a.keys.length cya] 146)) 146 #[.bool false, .slice Aeb b.ents.length ceb, .slice Aib b.kids.length cib, .slice Ayb b.keys.length cyb]).alloc (.cells #[.bool false, .slice none 0 0, .slice none 0 0, .slice none 0 0] 146)
 have hBr:=Blk.new ((w.alloc (.cells #[.bool false, .slice Aea a.ents.length cea, .slice Aia a.kids.length cia, .slice Aya a.keys.length cya] 146)).alloc (.cells #[.bool false, .slice Aeb b.ents.length ceb, .slice Aib b.kids.length cib, .slice Ayb b.keys.length cyb] 146)) 146 #[.bool false, .slice none 0 0, .slice none 0 0, .slice none 0 0]
 have hx1:=(Below.refl w.heap.size w).alloc (Nat.le_refl _) (.cells #[.bool false, .slice Aea a.ents.length cea, .slice Aia a.kids.length cia, .slice Aya a.keys.length cya] 146)
 have hx2:=hx1.alloc hx1.size (.cells #[.bool false, .slice Aeb b.ents.length ceb, .slice Aib b.kids.length cib, .slice Ayb b.keys.length cyb] 146)
 have hb0:=hx2.alloc hx2.size (.cells #[.bool false, .slice none 0 0, .slice none 0 0, .slice none 0 0] 146)
 simp only[World.size_alloc]at hBb hBr
 have be:=hba.e
 have bi:=hba.i
 have bk:=hba.k
 have ce:=hbb.e
 have ci:=hbb.i
 have ck:=hbb.k
 clear hla hlb hba hbb
 go_enter Tryz.func306,Tryz.ntmps306
 go_wp2_with fail
 have hz:(((w.alloc (.cells #[.bool false, .slice Aea a.ents.length cea, .slice Aia a.kids.length cia, .slice Aya a.keys.length cya] 146)).alloc (.cells #[.bool false, .slice Aeb b.ents.length ceb, .slice Aib b.kids.length cib, .slice Ayb b.keys.length cyb] 146)).alloc (.cells #[.bool false, .slice none 0 0, .slice none 0 0, .slice none 0 0] 146)).heap.size=w.heap.size+3:=by simp
 generalize ((w.alloc (.cells #[.bool false, .slice Aea a.ents.length cea, .slice Aia a.kids.length cia, .slice Aya a.keys.length cya] 146)).alloc (.cells #[.bool false, .slice Aeb b.ents.length ceb, .slice Aib b.kids.length cib, .slice Ayb b.keys.length cyb] 146)).alloc (.cells #[.bool false, .slice none 0 0, .slice none 0 0, .slice none 0 0] 146)=w0 at*
 refine bY (base:=w.heap.size+3) (fun u=>⟨#[_,_,_,_,_,_,_,_,_,_,_,_,_,_,_,_,_,_,_,_,_,_,_,_,_,_,_,_,_,_,_,_,_,_,_,_,_,u 0,u 1,u 2,u 3,u 4,u 5,u 6,u 7,u 8,u 9,u 10,u 11,u 12,u 13,u 14,u 15,u 16,u 17,u 18,u 19,u 20],_⟩)
  [Is.eq _ (.pointer (some ⟨w.heap.size,1,none⟩)),
  Is.eq _ (.slice Aea (a.ents).length cea),
  Is.eq _ (.pointer (some ⟨w.heap.size+1,1,none⟩)),
  Is.eq _ (.slice Aeb (b.ents).length ceb),
  Is.blk _ 22 2 #[.slice Aea (a.ents).length cea, .slice Aeb (b.ents).length ceb],
  Is.row _ bD 101 (a.ents++b.ents),
  Is.eq _ (.pointer (some ⟨w.heap.size,2,none⟩)),
  Is.eq _ (.slice Aia (a.kids).length cia),
  Is.eq _ (.pointer (some ⟨w.heap.size+1,2,none⟩)),
  Is.eq _ (.slice Aib (b.kids).length cib),
  Is.blk _ 49 2 #[.slice Aia (a.kids).length cia, .slice Aib (b.kids).length cib],
  Is.row _ aV 3 (a.kids++b.kids),
  Is.eq _ (.pointer (some ⟨w.heap.size,3,none⟩)),
  Is.eq _ (.slice Aya (a.keys).length cya),
  Is.eq _ (.string key),
  Is.blk _ 9 1 #[.string key],
  Is.eq _ (.pointer (some ⟨w.heap.size+1,3,none⟩)),
  Is.eq _ (.slice Ayb (b.keys).length cyb),
  Is.af0 _ (.slice Aya (a.keys).length cya) (.slice Ayb (b.keys).length cyb) key,
  Is.row _ keyE 9 (a.keys++ [key]++b.keys),
  Is.node _ (⟨false,a.ents++b.ents,a.kids++b.kids,a.keys++ [key]++b.keys⟩),
  Is.put _ (w.heap.size+2) (⟨false,a.ents++b.ents,a.kids++b.kids,a.keys++ [key]++b.keys⟩)] (by kernel_rfl) (by kernel_rfl) (by kernel_rfl) [w.heap.size+2] rfl (by omega) (by simp<;>omega) (by simp) ⟨fun i=>(fun _=>undef) i,rfl⟩ ?_ ?_
 ·intro i o ho u W hf hold aj
  have hS:∀k,k∈ [w.heap.size+2]->k=w.heap.size+2:=fun k hk=>by simpa using hk
  have hsz:w.heap.size+3<=W.heap.size:=by have:=hf.size;omega
  have hbw:Below w.heap.size w W:=hb0.trans (hf.low (by omega) (fun k a=>by have:=hS k a;omega))
  have hBA:=hf.blk hBa (fun a=>by have:=hS _ a;omega)
  have ca0:=hBA.cell 0
  have ca1:=hBA.cell 1
  have ca2:=hBA.cell 2
  have ca3:=hBA.cell 3
  have hBB:=hf.blk hBb (fun a=>by have:=hS _ a;omega)
  have cb0:=hBB.cell 0
  have cb1:=hBB.cell 1
  have cb2:=hBB.cell 2
  have cb3:=hBB.cell 3
  match i,ho with
  |0,ho=>obtain rfl:=Option.some.inj ho;exact Does.val (nO rfl rfl) ⟨rfl,rfl,Fr.refl _⟩
  |1,ho=>obtain rfl:=Option.some.inj ho;exact Does.val (iK rfl (aj 0 rfl) ca1) ⟨rfl,rfl,Fr.refl _⟩
  |2,ho=>obtain rfl:=Option.some.inj ho;exact Does.val (nO rfl rfl) ⟨rfl,rfl,Fr.refl _⟩
  |3,ho=>obtain rfl:=Option.some.inj ho;exact Does.val (iK rfl (aj 2 rfl) cb1) ⟨rfl,rfl,Fr.refl _⟩
  |4,ho=>obtain rfl:=Option.some.inj ho;exact Does.val (y9 rfl (aj 1 rfl) (aj 3 rfl)) ⟨rfl,⟨W.heap.size,hsz,rfl,Blk.new _ _ _⟩, .of_below ((Below.refl _ _).alloc (Nat.le_refl _) _)⟩
  |5,ho=>
   obtain rfl:=Option.some.inj ho
   obtain⟨bq,hq0,hq1,hq2⟩:=aj 4 rfl
   have e1:ig [(Aea,cea,a.ents),(Aeb,ceb,b.ents)]=a.ents++b.ents:=by simp[ig]
   refine Does.call (dP JH rfl hq1) (Calls.mono (oQ bq 2 [(Aea,cea,a.ents),(Aeb,ceb,b.ents)] rfl (by decide) W hq2 (fun p hp=>by
    simp only[List.mem_cons,List.not_mem_nil,or_false]at hp
    rcases hp with rfl | rfl
    all_goals first | exact(ha1.up hbw).ls | exact(hb1.up hbw).ls) (by rw[e1];first | omega | (simp;omega))) ?_)
   rintro e w' ⟨v,rfl,ho,hbl⟩
   rw[e1]at ho
   exact⟨v,rfl,rfl,⟨ho.lower hsz,ho.form⟩, .of_below hbl⟩
  |6,ho=>obtain rfl:=Option.some.inj ho;exact Does.val (fB rfl rfl) ⟨rfl,rfl,Fr.refl _⟩
  |7,ho=>obtain rfl:=Option.some.inj ho;exact Does.val (bI rfl (aj 6 rfl) ca2) ⟨rfl,rfl,Fr.refl _⟩
  |8,ho=>obtain rfl:=Option.some.inj ho;exact Does.val (fB rfl rfl) ⟨rfl,rfl,Fr.refl _⟩
  |9,ho=>obtain rfl:=Option.some.inj ho;exact Does.val (bI rfl (aj 8 rfl) cb2) ⟨rfl,rfl,Fr.refl _⟩
  |10,ho=>obtain rfl:=Option.some.inj ho;exact Does.val (zh rfl (aj 7 rfl) (aj 9 rfl)) ⟨rfl,⟨W.heap.size,hsz,rfl,Blk.new _ _ _⟩, .of_below ((Below.refl _ _).alloc (Nat.le_refl _) _)⟩
  |11,ho=>
   obtain rfl:=Option.some.inj ho
   obtain⟨bq,hq0,hq1,hq2⟩:=aj 10 rfl
   have e1:cZ [(Aia,cia,a.kids),(Aib,cib,b.kids)]=a.kids++b.kids:=by simp[cZ]
   refine Does.call (dP yY rfl hq1) (Calls.mono (jy bq 2 [(Aia,cia,a.kids),(Aib,cib,b.kids)] rfl (by decide) W hq2 (fun p hp=>by
    simp only[List.mem_cons,List.not_mem_nil,or_false]at hp
    rcases hp with rfl | rfl
    all_goals first | exact(ha2.up hbw).ls | exact(hb2.up hbw).ls) (by rw[e1];first | omega | (simp;omega))) ?_)
   rintro e w' ⟨v,rfl,ho,hbl⟩
   rw[e1]at ho
   exact⟨v,rfl,rfl,⟨ho.lower hsz,ho.form⟩, .of_below hbl⟩
  |12,ho=>obtain rfl:=Option.some.inj ho;exact Does.val (fP rfl rfl) ⟨rfl,rfl,Fr.refl _⟩
  |13,ho=>obtain rfl:=Option.some.inj ho;exact Does.val (bU rfl (aj 12 rfl) ca3) ⟨rfl,rfl,Fr.refl _⟩
  |14,ho=>obtain rfl:=Option.some.inj ho;exact Does.val (dL rfl rfl) ⟨rfl,rfl,Fr.refl _⟩
  |15,ho=>obtain rfl:=Option.some.inj ho;exact Does.val (Fv rfl (aj 14 rfl)) ⟨rfl,⟨W.heap.size,hsz,rfl,Blk.new _ _ _⟩, .of_below ((Below.refl _ _).alloc (Nat.le_refl _) _)⟩
  |16,ho=>obtain rfl:=Option.some.inj ho;exact Does.val (fP rfl rfl) ⟨rfl,rfl,Fr.refl _⟩
  |17,ho=>obtain rfl:=Option.some.inj ho;exact Does.val (bU rfl (aj 16 rfl) cb3) ⟨rfl,rfl,Fr.refl _⟩
  |18,ho=>
   obtain rfl:=Option.some.inj ho
   obtain⟨b',adD,hb1',hb2'⟩:=aj 15 rfl
   exact Does.val (nP rfl (aj 13 rfl) hb1' (aj 17 rfl)) ⟨rfl,⟨W.heap.size,b',hsz,adD,rfl,Blk.new _ _ _,hb2'.alloc _⟩, .of_below ((Below.refl _ _).alloc (Nat.le_refl _) _)⟩
  |19,ho=>
   obtain rfl:=Option.some.inj ho
   obtain⟨bb,b',adD,ahp,hb1',hb2',Y8⟩:=aj 18 rfl
   have e1:dh [(Aya,cya,a.keys),(some ⟨b',0,none⟩,1, [key]),(Ayb,cyb,b.keys)]=a.keys++ [key]++b.keys:=by simp[dh]
   refine Does.call (dP yZ rfl hb1') (Calls.mono (jA bb 3 [(Aya,cya,a.keys),(some ⟨b',0,none⟩,1, [key]),(Ayb,cyb,b.keys)] rfl (by decide) W hb2' (fun p hp=>by
    simp only[List.mem_cons,List.not_mem_nil,or_false]at hp
    rcases hp with rfl | rfl | rfl
    ·exact(ha3.up hbw).ls
    ·exact aby Y8 Y8.lt
    ·exact(hb3.up hbw).ls) (by rw[e1];simp;omega)) ?_)
   rintro e w' ⟨v,rfl,ho,hbl⟩
   rw[e1]at ho
   exact⟨v,rfl,rfl,⟨ho.lower hsz,ho.form⟩, .of_below hbl⟩
  |20,ho=>
   obtain rfl:=Option.some.inj ho
   obtain⟨r1,A1,k1,e1⟩:=aj 5 rfl
   obtain⟨r2,A2,k2,e2⟩:=aj 11 rfl
   obtain⟨r3,A3,k3,e3⟩:=aj 19 rfl
   exact Does.val (NQ rfl e1 e2 e3) ⟨rfl,⟨A1,k1,A2,k2,A3,k3,rfl,e1 ▸ r1,e2 ▸ r2,e3 ▸ r3⟩,Fr.refl _⟩
  |21,ho=>
   obtain rfl:=Option.some.inj ho
   obtain⟨A1,k1,A2,k2,A3,k3,e,r⟩:=aj 20 rfl
   refine fF rfl rfl e ⟨_,_,_,_,_,_,_,_,_,_,rfl⟩ (Eq.trans (hold _ rfl) hBr) rfl fun w' hB hfr=> ?_
   exact⟨rfl,⟨_,NF.fr ⟨A1,k1,A2,k2,A3,k3,rfl,r⟩ hfr (fun k a=>by omega),hB⟩,hfr.more (fun k hk=>by rw[hk];rfl)⟩
  |n+22,ho=>exact absurd ho (by simp)
 ·intro u W hf hall
  obtain⟨cs,⟨A1,k1,A2,k2,A3,k3,e,r⟩,hBk⟩:=hall 21 (by decide)
  have hS:∀k,k∈ [w.heap.size+2]->k=w.heap.size+2:=fun k hk=>by simpa using hk
  have hbw:Below w.heap.size w W:=hb0.trans (hf.low (by omega) (fun k a=>by have:=hS k a;omega))
  injection e with e
  subst e
  have hend:NF w.heap.size W (.agg _) (⟨false,a.ents++b.ents,a.kids++b.kids,a.keys++ [key]++b.keys⟩):=NF.lower ⟨A1,k1,A2,k2,A3,k3,rfl,r⟩ (by omega)
  have aZ:=Lib.hid hend
  clear hall hend hf
  go_wp2
  try simp only[Exit.inBlock,Exit.then]
  refine bodyPost_ret (mY aN rfl rfl hBk rfl) rfl ?_
  first | exact⟨_,rfl,aZ.out,hbw⟩ | exact⟨_,rfl,HND.out ▸ aZ.out,hbw⟩
theorem NT(v:Value)(n:Nd.Node)(hlf:n.leaf=true)(hrt:Nd.right n=true)(h2e:2<=n.ents.length)(k:Nat)(hk:Nd.half n.ents=k)(hkl:k<n.ents.length)(key:ByteArray)(hkey:key=(n.ents[k]).1)(w:World)(h:NS w v n)(hb:NB n):
  Calls Tryz.prog 265 #[v] w fun e w'=>∃va vb,e= .returned (.tuple #[va, .string key,vb])/\NF w.heap.size w' va (Nd.aG (n.ents.take k))/\NF w.heap.size w' vb (Nd.aG (n.ents.drop k))/\Below w.heap.size w w':=by
 obtain⟨Ae,ce,Ai,ci,Ay,cy,rfl,h1,h2,h3⟩:=h
 obtain⟨be,oe,rfl,hbe,hce, -⟩:=h1.ls.ent hkl
 rw[<-hkey]at hce
 have hkt:(n.ents.take k).length=k:=by rw[List.length_take];omega
 have e1:((n.ents.length:Int)<2)=False:=by simp;omega
 clear hkey
 obtain⟨ND,hND⟩:∃x:Nd.Node,x=(Nd.aG (n.ents.take k)):=⟨_,rfl⟩
 obtain⟨NE,hNE⟩:∃x:Nd.Node,x=(Nd.aG (n.ents.drop k)):=⟨_,rfl⟩
 rw[<-hND, <-hNE]
 have HND:=Lib.hid hND
 have HNE:=Lib.hid hNE
 clear hND hNE
 unfold aP
 rw[hlf]
 have hB1:=((Blk.new w 146 #[.bool true, .slice (some ⟨be,oe,none⟩) n.ents.length ce, .slice Ai n.kids.length ci, .slice Ay n.keys.length cy]).alloc (.cells #[.bool false, .slice none 0 0, .slice none 0 0, .slice none 0 0] 146)).alloc (.cells #[.bool false, .slice none 0 0, .slice none 0 0, .slice none 0 0] 146)
 have hB2:=(Blk.new (w.alloc (.cells #[.bool true, .slice (some ⟨be,oe,none⟩) n.ents.length ce, .slice Ai n.kids.length ci, .slice Ay n.keys.length cy] 146)) 146 #[.bool false, .slice none 0 0, .slice none 0 0, .slice none 0 0]).alloc (.cells #[.bool false, .slice none 0 0, .slice none 0 0, .slice none 0 0] 146)
 have hB4:=Blk.new ((w.alloc (.cells #[.bool true, .slice (some ⟨be,oe,none⟩) n.ents.length ce, .slice Ai n.kids.length ci, .slice Ay n.keys.length cy] 146)).alloc (.cells #[.bool false, .slice none 0 0, .slice none 0 0, .slice none 0 0] 146)) 146 #[.bool false, .slice none 0 0, .slice none 0 0, .slice none 0 0]
 have hx1:=(Below.refl w.heap.size w).alloc (Nat.le_refl _) (.cells #[.bool true, .slice (some ⟨be,oe,none⟩) n.ents.length ce, .slice Ai n.kids.length ci, .slice Ay n.keys.length cy] 146)
 have hx2:=hx1.alloc hx1.size (.cells #[.bool false, .slice none 0 0, .slice none 0 0, .slice none 0 0] 146)
 have hx3:=hx2.alloc hx2.size (.cells #[.bool false, .slice none 0 0, .slice none 0 0, .slice none 0 0] 146)
 have hns:∀W,Below w.heap.size w W->NS W (.agg #[.bool true, .slice (some ⟨be,oe,none⟩) n.ents.length ce, .slice Ai n.kids.length ci, .slice Ay n.keys.length cy]) n:=fun W hbW=>⟨(some ⟨be,oe,none⟩),ce,Ai,ci,Ay,cy,by unfold aP;rw[hlf],h1.up hbW,h2.up hbW,h3.up hbW⟩
 have HR:=Lib.hid (fun W hbW=>jT _ n W (hns W hbW) hb)
 rw[hrt]at HR
 have HH:=Lib.hid (fun W (hbW:Below w.heap.size w W)=>RI (some ⟨be,oe,none⟩) ce n.ents W (h1.up hbW).ls hb.e hb.es)
 rw[hk]at HH
 clear hk
 simp only[World.size_alloc]at hB2 hB4
 have hzz:(((w.alloc (.cells #[.bool true, .slice (some ⟨be,oe,none⟩) n.ents.length ce, .slice Ai n.kids.length ci, .slice Ay n.keys.length cy] 146)).alloc (.cells #[.bool false, .slice none 0 0, .slice none 0 0, .slice none 0 0] 146)).alloc (.cells #[.bool false, .slice none 0 0, .slice none 0 0, .slice none 0 0] 146)).heap.size=w.heap.size+3:=by simp
 have be_:=hb.e
 have bi:=hb.i
 have bk:=hb.k
 have HX:=Lib.hid hx3
 have HB1:=Lib.hid hB1
 have HB2:=Lib.hid hB2
 have HB4:=Lib.hid hB4
 have hl1:=hB1.lt
 have cc0:=hB1.cell 0
 have cc1:=hB1.cell 1
 have cc2:=hB1.cell 2
 have cc3:=hB1.cell 3
 clear hlf hb hns hrt hB1 hB2 hB4 hx1 hx2
 go_enter Tryz.func265,Tryz.ntmps265
 go_wp2_with fail
 refine(HR.out _ (by exact hx3)).mono ?_
 rintro e w1 ⟨rfl,hb1⟩
 have hz1:w.heap.size+3<=w1.heap.size:=by have:=hb1.size;omega
 have mW:Below w.heap.size w w1:=HX.out.trans (hb1.mono (by omega))
 have hB1:=HB1.out.below hb1 (by omega)
 have hB2:=HB2.out.below hb1 (by omega)
 have hB4:=HB4.out.below hb1 (by omega)
 have hl1:=hB1.lt
 have cc0:=hB1.cell 0
 have cc1:=hB1.cell 1
 have cc2:=hB1.cell 2
 have cc3:=hB1.cell 3
 clear hb1
 go_wp2_with fail
 refine(HH.out _ mW).mono ?_
 rintro e w0 ⟨rfl,hb2⟩
 have hz:w.heap.size+3<=w0.heap.size:=by have:=hb2.size;omega
 have hb0:Below w.heap.size w w0:=mW.trans (hb2.mono (by omega))
 have hB1:=hB1.below hb2 (by omega)
 have hB2:=hB2.below hb2 (by omega)
 have hB4:=hB4.below hb2 (by omega)
 clear hb2 cc0 cc1 cc2 cc3 mW
 go_wp2_with fail
 refine bY (base:=w.heap.size+3) (fun u=>⟨#[_,_,_,u 21,_,_,_,_,_,_,_,_,_,_,_,_,_,_,_,_,_,_,_,_,_,_,_,_,_,_,_,_,u 0,u 1,u 2,u 3,u 4,u 5,u 6,u 7,u 8,u 9,u 10,u 11,u 12,u 13,u 14,u 15,u 16,u 17,u 18,u 19,_,_,_,_,_,_,_,_,_,_,_,_,_,_,_,_,_,_,_,_,_,_,_,_,_,_,_,_,_,_,_,_,_,_,_,_,_],_⟩)
  [Is.eq _ (.pointer (some ⟨w.heap.size,1,none⟩)),
  Is.eq _ (.slice (some (Addr.mk be oe none)) (n.ents).length ce),
  Is.eq _ (.int .i64 (k:Nat)),
  Is.eq _ (.slice (some (Addr.mk be oe none)) (n.ents.take k).length ce),
  Is.blk _ 22 1 #[.slice (some (Addr.mk be oe none)) (n.ents.take k).length ce],
  Is.row _ bD 101 (n.ents.take k),
  Is.node _ (Nd.aG (n.ents.take k)),
  Is.eq _ (.pointer (some ⟨w.heap.size,1,none⟩)),
  Is.eq _ (.slice (some (Addr.mk be oe none)) (n.ents).length ce),
  Is.eq _ (.int .i64 (k:Nat)),
  Is.eq _ (.pointer (some ⟨be,oe+k*2,none⟩)),
  Is.eq _ (.pointer (some ⟨be,oe+k*2,none⟩)),
  Is.eq _ (.string key),
  Is.eq _ (.pointer (some ⟨w.heap.size,1,none⟩)),
  Is.eq _ (.slice (some (Addr.mk be oe none)) (n.ents).length ce),
  Is.eq _ (.int .i64 (k:Nat)),
  Is.eq _ (.slice (if ce=k then(some (Addr.mk be oe none))else Option.map (·.add (k*2)) (some (Addr.mk be oe none))) (n.ents.drop k).length (ce-k)),
  Is.blk _ 22 1 #[.slice (if ce=k then(some (Addr.mk be oe none))else Option.map (·.add (k*2)) (some (Addr.mk be oe none))) (n.ents.drop k).length (ce-k)],
  Is.row _ bD 101 (n.ents.drop k),
  Is.node _ (Nd.aG (n.ents.drop k)),
  Is.put _ (w.heap.size+1) (Nd.aG (n.ents.take k)),
  Is.eq _ (.string key),
  Is.put _ (w.heap.size+2) (Nd.aG (n.ents.drop k))] (by kernel_rfl) (by kernel_rfl) (by kernel_rfl) [w.heap.size+1,w.heap.size+2] rfl (by omega) (by simp<;>omega) (by simp) ⟨fun i=>if i=21 then .string ⟨#[]⟩else undef,rfl⟩ ?_ ?_
 ·intro i o ho u W hf hold aj
  have hS:∀k,k∈ [w.heap.size+1,w.heap.size+2]->k=w.heap.size+1\/k=w.heap.size+2:=fun k hk=>by simpa using hk
  have hsz:w.heap.size+3<=W.heap.size:=by have:=hf.size;omega
  have hbw:Below w.heap.size w W:=hb0.trans (hf.low (by omega) (fun k a=>by have:=hS k a;omega))
  have hBn:=hf.blk hB1 (fun a=>by have:=hS _ a;omega)
  have cn0:=hBn.cell 0
  have cn1:=hBn.cell 1
  have cn2:=hBn.cell 2
  have cn3:=hBn.cell 3
  match i,ho with
  |0,ho=>obtain rfl:=Option.some.inj ho;exact Does.val (nO rfl rfl) ⟨rfl,rfl,Fr.refl _⟩
  |1,ho=>obtain rfl:=Option.some.inj ho;exact Does.val (iK rfl (aj 0 rfl) cn1) ⟨rfl,rfl,Fr.refl _⟩
  |2,ho=>obtain rfl:=Option.some.inj ho;exact Does.val (dL rfl rfl) ⟨rfl,rfl,Fr.refl _⟩
  |3,ho=>obtain rfl:=Option.some.inj ho;exact Does.val (Ee rfl (aj 1 rfl) (aj 2 rfl) (by have:=h1.le;omega)) ⟨rfl,by show _=_;rw[hkt],Fr.refl _⟩
  |4,ho=>obtain rfl:=Option.some.inj ho;exact Does.val (qY rfl (aj 3 rfl)) ⟨rfl,⟨W.heap.size,hsz,rfl,Blk.new _ _ _⟩, .of_below ((Below.refl _ _).alloc (Nat.le_refl _) _)⟩
  |5,ho=>
   obtain rfl:=Option.some.inj ho
   obtain⟨bq,hq0,hq1,hq2⟩:=aj 4 rfl
   have e1:ig [((some (Addr.mk be oe none)),ce,n.ents.take k)]=n.ents.take k:=by simp[ig]
   refine Does.call (dP JH rfl hq1) (Calls.mono (oQ bq 1 [((some (Addr.mk be oe none)),ce,n.ents.take k)] rfl (by decide) W hq2 (fun p hp=>by
    simp only[List.mem_cons,List.not_mem_nil,or_false]at hp
    rcases hp with rfl
    all_goals first | exact((h1.up hbw).ls).mG _) (by rw[e1];first | omega | (simp;omega))) ?_)
   rintro e w' ⟨v,rfl,ho,hbl⟩
   rw[e1]at ho
   exact⟨v,rfl,rfl,⟨ho.lower hsz,ho.form⟩, .of_below hbl⟩
  |6,ho=>
   obtain rfl:=Option.some.inj ho
   obtain⟨r1,A1,k1,e1⟩:=aj 5 rfl
   exact Does.val (BO rfl rfl e1) ⟨rfl,⟨A1,k1,none,0,none,0,rfl,e1 ▸ r1,LO.nil_ _ _,LO.nil_ _ _⟩,Fr.refl _⟩
  |7,ho=>obtain rfl:=Option.some.inj ho;exact Does.val (nO rfl rfl) ⟨rfl,rfl,Fr.refl _⟩
  |8,ho=>obtain rfl:=Option.some.inj ho;exact Does.val (iK rfl (aj 7 rfl) cn1) ⟨rfl,rfl,Fr.refl _⟩
  |9,ho=>obtain rfl:=Option.some.inj ho;exact Does.val (dL rfl rfl) ⟨rfl,rfl,Fr.refl _⟩
  |10,ho=>obtain rfl:=Option.some.inj ho;exact Does.val (NP rfl (aj 8 rfl) (aj 9 rfl) hkl) ⟨rfl,rfl,Fr.refl _⟩
  |11,ho=>obtain rfl:=Option.some.inj ho;exact Does.val (abx rfl (aj 10 rfl)) ⟨rfl,rfl,Fr.refl _⟩
  |12,ho=>obtain rfl:=Option.some.inj ho;exact Does.val (BM rfl (aj 11 rfl) ((hbw.cell (p:=⟨be,oe+k*2,none⟩) hbe).trans hce)) ⟨rfl,rfl,Fr.refl _⟩
  |13,ho=>obtain rfl:=Option.some.inj ho;exact Does.val (nO rfl rfl) ⟨rfl,rfl,Fr.refl _⟩
  |14,ho=>obtain rfl:=Option.some.inj ho;exact Does.val (iK rfl (aj 13 rfl) cn1) ⟨rfl,rfl,Fr.refl _⟩
  |15,ho=>obtain rfl:=Option.some.inj ho;exact Does.val (dL rfl rfl) ⟨rfl,rfl,Fr.refl _⟩
  |16,ho=>obtain rfl:=Option.some.inj ho;exact Does.val (zQ rfl (aj 14 rfl) (aj 15 rfl) (Nat.le_of_lt hkl)) ⟨rfl,by show _=_;rw[List.length_drop],Fr.refl _⟩
  |17,ho=>obtain rfl:=Option.some.inj ho;exact Does.val (qY rfl (aj 16 rfl)) ⟨rfl,⟨W.heap.size,hsz,rfl,Blk.new _ _ _⟩, .of_below ((Below.refl _ _).alloc (Nat.le_refl _) _)⟩
  |18,ho=>
   obtain rfl:=Option.some.inj ho
   obtain⟨bq,hq0,hq1,hq2⟩:=aj 17 rfl
   have e1:ig [((if ce=k then(some (Addr.mk be oe none))else Option.map (·.add (k*2)) (some (Addr.mk be oe none))),(ce-k),n.ents.drop k)]=n.ents.drop k:=by simp[ig]
   refine Does.call (dP JH rfl hq1) (Calls.mono (oQ bq 1 [((if ce=k then(some (Addr.mk be oe none))else Option.map (·.add (k*2)) (some (Addr.mk be oe none))),(ce-k),n.ents.drop k)] rfl (by decide) W hq2 (fun p hp=>by
    simp only[List.mem_cons,List.not_mem_nil,or_false]at hp
    rcases hp with rfl
    all_goals first | exact((h1.up hbw).ls).cut (Nat.le_of_lt hkl) h1.le) (by rw[e1];first | omega | (simp;omega))) ?_)
   rintro e w' ⟨v,rfl,ho,hbl⟩
   rw[e1]at ho
   exact⟨v,rfl,rfl,⟨ho.lower hsz,ho.form⟩, .of_below hbl⟩
  |19,ho=>
   obtain rfl:=Option.some.inj ho
   obtain⟨r1,A1,k1,e1⟩:=aj 18 rfl
   exact Does.val (BO rfl rfl e1) ⟨rfl,⟨A1,k1,none,0,none,0,rfl,e1 ▸ r1,LO.nil_ _ _,LO.nil_ _ _⟩,Fr.refl _⟩
  |20,ho=>
   obtain rfl:=Option.some.inj ho
   obtain⟨A1,k1,A2,k2,A3,k3,e,r⟩:=aj 6 rfl
   refine fF rfl rfl e ⟨_,_,_,_,_,_,_,_,_,_,rfl⟩ (Eq.trans (hold _ rfl) hB2) rfl fun w' hB hfr=> ?_
   exact⟨rfl,⟨_,NF.fr ⟨A1,k1,A2,k2,A3,k3,rfl,r⟩ hfr (fun k a=>by omega),hB⟩,hfr.more (fun k hk=>by rw[hk];rfl)⟩
  |21,ho=>obtain rfl:=Option.some.inj ho;exact Does.val (JG rfl (aj 12 rfl)) ⟨rfl,rfl,Fr.refl _⟩
  |22,ho=>
   obtain rfl:=Option.some.inj ho
   obtain⟨A1,k1,A2,k2,A3,k3,e,r⟩:=aj 19 rfl
   refine fF rfl rfl e ⟨_,_,_,_,_,_,_,_,_,_,rfl⟩ (Eq.trans (hold _ rfl) hB4) rfl fun w' hB hfr=> ?_
   exact⟨rfl,⟨_,NF.fr ⟨A1,k1,A2,k2,A3,k3,rfl,r⟩ hfr (fun k a=>by omega),hB⟩,hfr.more (fun k hk=>by rw[hk];rfl)⟩
  |n+23,ho=>exact absurd ho (by simp)
 ·intro u W hf hall
  have hS:∀k,k∈ [w.heap.size+1,w.heap.size+2]->k=w.heap.size+1\/k=w.heap.size+2:=fun k hk=>by simpa using hk
  have hbw:Below w.heap.size w W:=hb0.trans (hf.low (by omega) (fun k a=>by have:=hS k a;omega))
  obtain⟨cs,⟨A1,k1,A2,k2,A3,k3,e,r⟩,hBk⟩:=hall 20 (by decide)
  obtain⟨cs',⟨A1',k1',A2',k2',A3',k3',e',r'⟩,abz⟩:=hall 22 (by decide)
  have hkey:u 21= .string key:=hall 21 (by decide)
  injection e with e
  subst e
  injection e' with e'
  subst e'
  have hend:NF w.heap.size W (.agg _) (Nd.aG (n.ents.take k)):=NF.lower ⟨A1,k1,A2,k2,A3,k3,rfl,r⟩ (by omega)
  have hend':NF w.heap.size W (.agg _) (Nd.aG (n.ents.drop k)):=NF.lower ⟨A1',k1',A2',k2',A3',k3',rfl,r'⟩ (by omega)
  have aZ:=Lib.hid hend
  have Wy:=Lib.hid hend'
  clear hall hend hend' hf
  go_wp2
  try simp only[Exit.inBlock,Exit.then]
  refine bodyPost_ret (jK aN aN rfl rfl hBk rfl rfl abz rfl) rfl ?_
  exact⟨_,_,congrArg (fun s=>Ending.returned (.tuple #[_,s,_])) hkey,HND.out ▸ aZ.out,HNE.out ▸ Wy.out,hbw⟩
theorem JM(v:Value)(n:Nd.Node)(hlf:n.leaf=false)(hrt:Nd.right n=true)(hnk:n.keys.length+1=n.kids.length)(h2e:2<=n.kids.length)(hne:n.ents.length=0)(k j:Nat)(hk:n.kids.length / 2=k)(hj:k=j+1)(hjl:j<n.keys.length)(key:ByteArray)(hkey:key=n.keys[j])(w:World)(h:NS w v n)(hb:NB n):
  Calls Tryz.prog 265 #[v] w fun e w'=>∃va vb,e= .returned (.tuple #[va, .string key,vb])/\NF w.heap.size w' va (Nd.ah (n.kids.take k) (n.keys.take j))/\NF w.heap.size w' vb (Nd.ah (n.kids.drop k) (n.keys.drop k))/\Below w.heap.size w w':=by
 obtain⟨Ae,ce,Ai,ci,Ay,cy,rfl,h1,h2,h3⟩:=h
 obtain⟨be,oe,rfl,hbe,hce⟩:=h3.ls.key hjl
 rw[<-hkey]at hce
 have hkl:k<=n.kids.length:=by omega
 have hkl2:k<=n.keys.length:=by omega
 have hkt:(n.kids.take k).length=k:=by rw[List.length_take];omega
 have hjt:(n.keys.take j).length=j:=by rw[List.length_take];omega
 have hsub:IntKind.i64.wrap ((k:Int)-1)=((j:Nat):Int):=by rw[show((k:Nat):Int)-1=(j:Int)by omega];exact IntWalk.i64_in _ (by have:=hb.k;omega)
 have e1:((n.kids.length:Int)<2)=False:=by simp;omega
 have e2:((n.ents.length:Int)<2)=True:=by simp;omega
 have e3:(n.kids.length:Int) / 2=((k:Nat):Int):=by omega
 clear hkey hj hk hne
 obtain⟨ND,hND⟩:∃x:Nd.Node,x=(Nd.ah (n.kids.take k) (n.keys.take j)):=⟨_,rfl⟩
 obtain⟨NE,hNE⟩:∃x:Nd.Node,x=(Nd.ah (n.kids.drop k) (n.keys.drop k)):=⟨_,rfl⟩
 rw[<-hND, <-hNE]
 have HND:=Lib.hid hND
 have HNE:=Lib.hid hNE
 clear hND hNE
 unfold aP
 rw[hlf]
 have hB1:=((Blk.new w 146 #[.bool false, .slice Ae n.ents.length ce, .slice Ai n.kids.length ci, .slice (some ⟨be,oe,none⟩) n.keys.length cy]).alloc (.cells #[.bool false, .slice none 0 0, .slice none 0 0, .slice none 0 0] 146)).alloc (.cells #[.bool false, .slice none 0 0, .slice none 0 0, .slice none 0 0] 146)
 have hB2:=(Blk.new (w.alloc (.cells #[.bool false, .slice Ae n.ents.length ce, .slice Ai n.kids.length ci, .slice (some ⟨be,oe,none⟩) n.keys.length cy] 146)) 146 #[.bool false, .slice none 0 0, .slice none 0 0, .slice none 0 0]).alloc (.cells #[.bool false, .slice none 0 0, .slice none 0 0, .slice none 0 0] 146)
 have hB4:=Blk.new ((w.alloc (.cells #[.bool false, .slice Ae n.ents.length ce, .slice Ai n.kids.length ci, .slice (some ⟨be,oe,none⟩) n.keys.length cy] 146)).alloc (.cells #[.bool false, .slice none 0 0, .slice none 0 0, .slice none 0 0] 146)) 146 #[.bool false, .slice none 0 0, .slice none 0 0, .slice none 0 0]
 have hx1:=(Below.refl w.heap.size w).alloc (Nat.le_refl _) (.cells #[.bool false, .slice Ae n.ents.length ce, .slice Ai n.kids.length ci, .slice (some ⟨be,oe,none⟩) n.keys.length cy] 146)
 have hx2:=hx1.alloc hx1.size (.cells #[.bool false, .slice none 0 0, .slice none 0 0, .slice none 0 0] 146)
 have hx3:=hx2.alloc hx2.size (.cells #[.bool false, .slice none 0 0, .slice none 0 0, .slice none 0 0] 146)
 have hns:∀W,Below w.heap.size w W->NS W (.agg #[.bool false, .slice Ae n.ents.length ce, .slice Ai n.kids.length ci, .slice (some ⟨be,oe,none⟩) n.keys.length cy]) n:=fun W hbW=>⟨Ae,ce,Ai,ci,(some ⟨be,oe,none⟩),cy,by unfold aP;rw[hlf],h1.up hbW,h2.up hbW,h3.up hbW⟩
 have HR:=Lib.hid (fun W hbW=>jT _ n W (hns W hbW) hb)
 rw[hrt]at HR
 simp only[World.size_alloc]at hB2 hB4
 have hzz:(((w.alloc (.cells #[.bool false, .slice Ae n.ents.length ce, .slice Ai n.kids.length ci, .slice (some ⟨be,oe,none⟩) n.keys.length cy] 146)).alloc (.cells #[.bool false, .slice none 0 0, .slice none 0 0, .slice none 0 0] 146)).alloc (.cells #[.bool false, .slice none 0 0, .slice none 0 0, .slice none 0 0] 146)).heap.size=w.heap.size+3:=by simp
 have be_:=hb.e
 have bi:=hb.i
 have bk:=hb.k
 have HX:=Lib.hid hx3
 have HB1:=Lib.hid hB1
 have HB2:=Lib.hid hB2
 have HB4:=Lib.hid hB4
 have hl1:=hB1.lt
 have cc0:=hB1.cell 0
 have cc1:=hB1.cell 1
 have cc2:=hB1.cell 2
 have cc3:=hB1.cell 3
 clear hlf hb hns hrt hB1 hB2 hB4 hx1 hx2
 go_enter Tryz.func265,Tryz.ntmps265
 go_wp2_with fail
 refine(HR.out _ (by exact hx3)).mono ?_
 rintro e w1 ⟨rfl,hb1⟩
 have hz1:w.heap.size+3<=w1.heap.size:=by have:=hb1.size;omega
 have mW:Below w.heap.size w w1:=HX.out.trans (hb1.mono (by omega))
 have hB1:=HB1.out.below hb1 (by omega)
 have hB2:=HB2.out.below hb1 (by omega)
 have hB4:=HB4.out.below hb1 (by omega)
 have hl1:=hB1.lt
 have cc0:=hB1.cell 0
 have cc1:=hB1.cell 1
 have cc2:=hB1.cell 2
 have cc3:=hB1.cell 3
 clear hb1
 go_wp2_with fail
 have hb0:=mW
 have hz:=hz1
 clear cc0 cc1 cc2 cc3 mW
 refine bY (base:=w.heap.size+3) (fun u=>⟨#[_,_,_,u 34,_,_,_,_,_,_,_,_,_,_,_,_,_,_,_,_,_,_,_,_,_,_,_,_,_,_,_,_,_,_,_,_,_,_,_,_,_,_,_,_,_,_,_,_,_,_,_,_,_,_,_,_,u 0,u 1,u 2,u 3,u 4,u 5,u 6,u 7,u 8,u 9,u 10,u 11,u 12,u 13,u 14,u 15,u 16,u 17,u 18,u 19,u 20,u 21,u 22,u 23,u 24,u 25,u 26,u 27,u 28,u 29,u 30,u 31,u 32],_⟩)
  [Is.eq _ (.pointer (some ⟨w.heap.size,2,none⟩)),
  Is.eq _ (.slice Ai (n.kids).length ci),
  Is.eq _ (.int .i64 (k:Nat)),
  Is.eq _ (.slice Ai (n.kids.take k).length ci),
  Is.blk _ 49 1 #[.slice Ai (n.kids.take k).length ci],
  Is.row _ aV 3 (n.kids.take k),
  Is.eq _ (.pointer (some ⟨w.heap.size,3,none⟩)),
  Is.eq _ (.slice (some (Addr.mk be oe none)) (n.keys).length cy),
  Is.eq _ (.int .i64 (k:Nat)),
  Is.eq _ (.int .i64 (j:Nat)),
  Is.eq _ (.slice (some (Addr.mk be oe none)) (n.keys.take j).length cy),
  Is.blk _ 107 1 #[.slice (some (Addr.mk be oe none)) (n.keys.take j).length cy],
  Is.row _ keyE 9 (n.keys.take j),
  Is.node _ (Nd.ah (n.kids.take k) (n.keys.take j)),
  Is.eq _ (.pointer (some ⟨w.heap.size,3,none⟩)),
  Is.eq _ (.slice (some (Addr.mk be oe none)) (n.keys).length cy),
  Is.eq _ (.int .i64 (k:Nat)),
  Is.eq _ (.int .i64 (j:Nat)),
  Is.eq _ (.pointer (some ⟨be,oe+j,none⟩)),
  Is.eq _ (.string key),
  Is.eq _ (.pointer (some ⟨w.heap.size,2,none⟩)),
  Is.eq _ (.slice Ai (n.kids).length ci),
  Is.eq _ (.int .i64 (k:Nat)),
  Is.eq _ (.slice (if ci=k then Ai else Option.map (·.add (k*1)) Ai) (n.kids.drop k).length (ci-k)),
  Is.blk _ 49 1 #[.slice (if ci=k then Ai else Option.map (·.add (k*1)) Ai) (n.kids.drop k).length (ci-k)],
  Is.row _ aV 3 (n.kids.drop k),
  Is.eq _ (.pointer (some ⟨w.heap.size,3,none⟩)),
  Is.eq _ (.slice (some (Addr.mk be oe none)) (n.keys).length cy),
  Is.eq _ (.int .i64 (k:Nat)),
  Is.eq _ (.slice (if cy=k then(some (Addr.mk be oe none))else Option.map (·.add (k*1)) (some (Addr.mk be oe none))) (n.keys.drop k).length (cy-k)),
  Is.blk _ 107 1 #[.slice (if cy=k then(some (Addr.mk be oe none))else Option.map (·.add (k*1)) (some (Addr.mk be oe none))) (n.keys.drop k).length (cy-k)],
  Is.row _ keyE 9 (n.keys.drop k),
  Is.node _ (Nd.ah (n.kids.drop k) (n.keys.drop k)),
  Is.put _ (w.heap.size+1) (Nd.ah (n.kids.take k) (n.keys.take j)),
  Is.eq _ (.string key),
  Is.put _ (w.heap.size+2) (Nd.ah (n.kids.drop k) (n.keys.drop k))] (by kernel_rfl) (by kernel_rfl) (by kernel_rfl) [w.heap.size+1,w.heap.size+2] rfl (by omega) (by simp<;>omega) (by simp) ⟨fun i=>if i=34 then .string ⟨#[]⟩else undef,rfl⟩ ?_ ?_
 ·intro i o ho u W hf hold aj
  have hS:∀k,k∈ [w.heap.size+1,w.heap.size+2]->k=w.heap.size+1\/k=w.heap.size+2:=fun k hk=>by simpa using hk
  have hsz:w.heap.size+3<=W.heap.size:=by have:=hf.size;omega
  have hbw:Below w.heap.size w W:=hb0.trans (hf.low (by omega) (fun k a=>by have:=hS k a;omega))
  have hBn:=hf.blk hB1 (fun a=>by have:=hS _ a;omega)
  have cn0:=hBn.cell 0
  have cn1:=hBn.cell 1
  have cn2:=hBn.cell 2
  have cn3:=hBn.cell 3
  match i,ho with
  |0,ho=>obtain rfl:=Option.some.inj ho;exact Does.val (fB rfl rfl) ⟨rfl,rfl,Fr.refl _⟩
  |1,ho=>obtain rfl:=Option.some.inj ho;exact Does.val (bI rfl (aj 0 rfl) cn2) ⟨rfl,rfl,Fr.refl _⟩
  |2,ho=>obtain rfl:=Option.some.inj ho;exact Does.val (dL rfl rfl) ⟨rfl,rfl,Fr.refl _⟩
  |3,ho=>obtain rfl:=Option.some.inj ho;exact Does.val (kC rfl (aj 1 rfl) (aj 2 rfl) (by have:=h2.le;omega)) ⟨rfl,by show _=_;rw[hkt],Fr.refl _⟩
  |4,ho=>obtain rfl:=Option.some.inj ho;exact Does.val (qZ rfl (aj 3 rfl)) ⟨rfl,⟨W.heap.size,hsz,rfl,Blk.new _ _ _⟩, .of_below ((Below.refl _ _).alloc (Nat.le_refl _) _)⟩
  |5,ho=>
   obtain rfl:=Option.some.inj ho
   obtain⟨bq,hq0,hq1,hq2⟩:=aj 4 rfl
   have e1:cZ [(Ai,ci,n.kids.take k)]=n.kids.take k:=by simp[cZ]
   refine Does.call (dP yY rfl hq1) (Calls.mono (jy bq 1 [(Ai,ci,n.kids.take k)] rfl (by decide) W hq2 (fun p hp=>by
    simp only[List.mem_cons,List.not_mem_nil,or_false]at hp
    rcases hp with rfl
    all_goals first | exact((h2.up hbw).ls).mG _) (by rw[e1];first | omega | (simp;omega))) ?_)
   rintro e w' ⟨v,rfl,ho,hbl⟩
   rw[e1]at ho
   exact⟨v,rfl,rfl,⟨ho.lower hsz,ho.form⟩, .of_below hbl⟩
  |6,ho=>obtain rfl:=Option.some.inj ho;exact Does.val (fP rfl rfl) ⟨rfl,rfl,Fr.refl _⟩
  |7,ho=>obtain rfl:=Option.some.inj ho;exact Does.val (bU rfl (aj 6 rfl) cn3) ⟨rfl,rfl,Fr.refl _⟩
  |8,ho=>obtain rfl:=Option.some.inj ho;exact Does.val (dL rfl rfl) ⟨rfl,rfl,Fr.refl _⟩
  |9,ho=>obtain rfl:=Option.some.inj ho;exact Does.val (Wx rfl (aj 8 rfl) rfl) ⟨rfl,by show _=_;rw[hsub],Fr.refl _⟩
  |10,ho=>obtain rfl:=Option.some.inj ho;exact Does.val (kD rfl (aj 7 rfl) (aj 9 rfl) (by have:=h3.le;omega)) ⟨rfl,by show _=_;rw[hjt],Fr.refl _⟩
  |11,ho=>obtain rfl:=Option.some.inj ho;exact Does.val (rD rfl (aj 10 rfl)) ⟨rfl,⟨W.heap.size,hsz,rfl,Blk.new _ _ _⟩, .of_below ((Below.refl _ _).alloc (Nat.le_refl _) _)⟩
  |12,ho=>
   obtain rfl:=Option.some.inj ho
   obtain⟨bq,hq0,hq1,hq2⟩:=aj 11 rfl
   have e1:dh [((some (Addr.mk be oe none)),cy,n.keys.take j)]=n.keys.take j:=by simp[dh]
   refine Does.call (dP yZ rfl hq1) (Calls.mono (jA bq 1 [((some (Addr.mk be oe none)),cy,n.keys.take j)] rfl (by decide) W hq2 (fun p hp=>by
    simp only[List.mem_cons,List.not_mem_nil,or_false]at hp
    rcases hp with rfl
    all_goals first | exact((h3.up hbw).ls).mG _) (by rw[e1];first | omega | (simp;omega))) ?_)
   rintro e w' ⟨v,rfl,ho,hbl⟩
   rw[e1]at ho
   exact⟨v,rfl,rfl,⟨ho.lower hsz,ho.form⟩, .of_below hbl⟩
  |13,ho=>
   obtain rfl:=Option.some.inj ho
   obtain⟨r2,A2,k2,e2⟩:=aj 5 rfl
   obtain⟨r3,A3,k3,e3⟩:=aj 12 rfl
   exact Does.val (rE rfl e2 e3) ⟨rfl,⟨none,0,A2,k2,A3,k3,rfl,LO.nil_ _ _,e2 ▸ r2,e3 ▸ r3⟩,Fr.refl _⟩
  |14,ho=>obtain rfl:=Option.some.inj ho;exact Does.val (fP rfl rfl) ⟨rfl,rfl,Fr.refl _⟩
  |15,ho=>obtain rfl:=Option.some.inj ho;exact Does.val (bU rfl (aj 14 rfl) cn3) ⟨rfl,rfl,Fr.refl _⟩
  |16,ho=>obtain rfl:=Option.some.inj ho;exact Does.val (dL rfl rfl) ⟨rfl,rfl,Fr.refl _⟩
  |17,ho=>obtain rfl:=Option.some.inj ho;exact Does.val (Wx rfl (aj 16 rfl) rfl) ⟨rfl,by show _=_;rw[hsub],Fr.refl _⟩
  |18,ho=>obtain rfl:=Option.some.inj ho;exact Does.val (BN rfl (aj 15 rfl) (aj 17 rfl) hjl) ⟨rfl,rfl,Fr.refl _⟩
  |19,ho=>obtain rfl:=Option.some.inj ho;exact Does.val (BM rfl (aj 18 rfl) ((hbw.cell (p:=⟨be,oe+j,none⟩) hbe).trans hce)) ⟨rfl,rfl,Fr.refl _⟩
  |20,ho=>obtain rfl:=Option.some.inj ho;exact Does.val (fB rfl rfl) ⟨rfl,rfl,Fr.refl _⟩
  |21,ho=>obtain rfl:=Option.some.inj ho;exact Does.val (bI rfl (aj 20 rfl) cn2) ⟨rfl,rfl,Fr.refl _⟩
  |22,ho=>obtain rfl:=Option.some.inj ho;exact Does.val (dL rfl rfl) ⟨rfl,rfl,Fr.refl _⟩
  |23,ho=>obtain rfl:=Option.some.inj ho;exact Does.val (iq rfl (aj 21 rfl) (aj 22 rfl) hkl) ⟨rfl,by show _=_;rw[List.length_drop],Fr.refl _⟩
  |24,ho=>obtain rfl:=Option.some.inj ho;exact Does.val (qZ rfl (aj 23 rfl)) ⟨rfl,⟨W.heap.size,hsz,rfl,Blk.new _ _ _⟩, .of_below ((Below.refl _ _).alloc (Nat.le_refl _) _)⟩
  |25,ho=>
   obtain rfl:=Option.some.inj ho
   obtain⟨bq,hq0,hq1,hq2⟩:=aj 24 rfl
   have e1:cZ [((if ci=k then Ai else Option.map (·.add (k*1)) Ai),(ci-k),n.kids.drop k)]=n.kids.drop k:=by simp[cZ]
   refine Does.call (dP yY rfl hq1) (Calls.mono (jy bq 1 [((if ci=k then Ai else Option.map (·.add (k*1)) Ai),(ci-k),n.kids.drop k)] rfl (by decide) W hq2 (fun p hp=>by
    simp only[List.mem_cons,List.not_mem_nil,or_false]at hp
    rcases hp with rfl
    all_goals first | exact((h2.up hbw).ls).cut (hkl) h2.le) (by rw[e1];first | omega | (simp;omega))) ?_)
   rintro e w' ⟨v,rfl,ho,hbl⟩
   rw[e1]at ho
   exact⟨v,rfl,rfl,⟨ho.lower hsz,ho.form⟩, .of_below hbl⟩
  |26,ho=>obtain rfl:=Option.some.inj ho;exact Does.val (fP rfl rfl) ⟨rfl,rfl,Fr.refl _⟩
  |27,ho=>obtain rfl:=Option.some.inj ho;exact Does.val (bU rfl (aj 26 rfl) cn3) ⟨rfl,rfl,Fr.refl _⟩
  |28,ho=>obtain rfl:=Option.some.inj ho;exact Does.val (dL rfl rfl) ⟨rfl,rfl,Fr.refl _⟩
  |29,ho=>obtain rfl:=Option.some.inj ho;exact Does.val (ji rfl (aj 27 rfl) (aj 28 rfl) hkl2) ⟨rfl,by show _=_;rw[List.length_drop],Fr.refl _⟩
  |30,ho=>obtain rfl:=Option.some.inj ho;exact Does.val (rD rfl (aj 29 rfl)) ⟨rfl,⟨W.heap.size,hsz,rfl,Blk.new _ _ _⟩, .of_below ((Below.refl _ _).alloc (Nat.le_refl _) _)⟩
  |31,ho=>
   obtain rfl:=Option.some.inj ho
   obtain⟨bq,hq0,hq1,hq2⟩:=aj 30 rfl
   have e1:dh [((if cy=k then(some (Addr.mk be oe none))else Option.map (·.add (k*1)) (some (Addr.mk be oe none))),(cy-k),n.keys.drop k)]=n.keys.drop k:=by simp[dh]
   refine Does.call (dP yZ rfl hq1) (Calls.mono (jA bq 1 [((if cy=k then(some (Addr.mk be oe none))else Option.map (·.add (k*1)) (some (Addr.mk be oe none))),(cy-k),n.keys.drop k)] rfl (by decide) W hq2 (fun p hp=>by
    simp only[List.mem_cons,List.not_mem_nil,or_false]at hp
    rcases hp with rfl
    all_goals first | exact((h3.up hbw).ls).cut (hkl2) h3.le) (by rw[e1];first | omega | (simp;omega))) ?_)
   rintro e w' ⟨v,rfl,ho,hbl⟩
   rw[e1]at ho
   exact⟨v,rfl,rfl,⟨ho.lower hsz,ho.form⟩, .of_below hbl⟩
  |32,ho=>
   obtain rfl:=Option.some.inj ho
   obtain⟨r2,A2,k2,e2⟩:=aj 25 rfl
   obtain⟨r3,A3,k3,e3⟩:=aj 31 rfl
   exact Does.val (rE rfl e2 e3) ⟨rfl,⟨none,0,A2,k2,A3,k3,rfl,LO.nil_ _ _,e2 ▸ r2,e3 ▸ r3⟩,Fr.refl _⟩
  |33,ho=>
   obtain rfl:=Option.some.inj ho
   obtain⟨A1,k1,A2,k2,A3,k3,e,r⟩:=aj 13 rfl
   refine fF rfl rfl e ⟨_,_,_,_,_,_,_,_,_,_,rfl⟩ (Eq.trans (hold _ rfl) hB2) rfl fun w' hB hfr=> ?_
   exact⟨rfl,⟨_,NF.fr ⟨A1,k1,A2,k2,A3,k3,rfl,r⟩ hfr (fun k a=>by omega),hB⟩,hfr.more (fun k hk=>by rw[hk];rfl)⟩
  |34,ho=>obtain rfl:=Option.some.inj ho;exact Does.val (JG rfl (aj 19 rfl)) ⟨rfl,rfl,Fr.refl _⟩
  |35,ho=>
   obtain rfl:=Option.some.inj ho
   obtain⟨A1,k1,A2,k2,A3,k3,e,r⟩:=aj 32 rfl
   refine fF rfl rfl e ⟨_,_,_,_,_,_,_,_,_,_,rfl⟩ (Eq.trans (hold _ rfl) hB4) rfl fun w' hB hfr=> ?_
   exact⟨rfl,⟨_,NF.fr ⟨A1,k1,A2,k2,A3,k3,rfl,r⟩ hfr (fun k a=>by omega),hB⟩,hfr.more (fun k hk=>by rw[hk];rfl)⟩
  |n+36,ho=>exact absurd ho (by simp)
 ·intro u W hf hall
  have hS:∀k,k∈ [w.heap.size+1,w.heap.size+2]->k=w.heap.size+1\/k=w.heap.size+2:=fun k hk=>by simpa using hk
  have hbw:Below w.heap.size w W:=hb0.trans (hf.low (by omega) (fun k a=>by have:=hS k a;omega))
  obtain⟨cs,⟨A1,k1,A2,k2,A3,k3,e,r⟩,hBk⟩:=hall 33 (by decide)
  obtain⟨cs',⟨A1',k1',A2',k2',A3',k3',e',r'⟩,abz⟩:=hall 35 (by decide)
  have hkey:u 34= .string key:=hall 34 (by decide)
  injection e with e
  subst e
  injection e' with e'
  subst e'
  have hend:NF w.heap.size W (.agg _) (Nd.ah (n.kids.take k) (n.keys.take j)):=NF.lower ⟨A1,k1,A2,k2,A3,k3,rfl,r⟩ (by omega)
  have hend':NF w.heap.size W (.agg _) (Nd.ah (n.kids.drop k) (n.keys.drop k)):=NF.lower ⟨A1',k1',A2',k2',A3',k3',rfl,r'⟩ (by omega)
  have aZ:=Lib.hid hend
  have Wy:=Lib.hid hend'
  clear hall hend hend' hf
  go_wp2
  try simp only[Exit.inBlock,Exit.then]
  refine bodyPost_ret (jK aN aN rfl rfl hBk rfl rfl abz rfl) rfl ?_
  exact⟨_,_,congrArg (fun s=>Ending.returned (.tuple #[_,s,_])) hkey,HND.out ▸ aZ.out,HNE.out ▸ Wy.out,hbw⟩
end Go.Proofs.YteppebbmnojapaaGreatDoor
