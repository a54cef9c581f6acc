/-
  The claim SoloPlays: every run by a schedule on a ring with one writer leaves the trace that the document's machine leaves: for every size, number of readers, threads, schedule and most; no condition.
-/
import Derived.Test.YtlcplealnbekeaaGh
import Derived.Test.YtlcplealnbekeaaGm
import Derived.SizedLaws
import Derived.Test.YtlcplealnbekeaaGl
import Derived.Test.YtlcplealnbekeaaGp
import Derived.Test.YtlcplealnbekeaaGi
import Derived.Test.YtlcplealnbekeaaGo
import Derived.Test.YtlcplealnbekeaaGd
import Derived.Conc.LeavingOf
set_option linter.unusedVariables false
set_option linter.unusedSectionVars false
set_option linter.unusedSimpArgs false
set_option maxHeartbeats 4000000
set_option maxRecDepth 100000
namespace Go.Proofs.Ytlcplealnbekeaa
open Go.ChangeShapes Go.WideShapes Go.ChangeAt Go.RowKit Go.Deep
theorem list_ofT {α:Type}{Q:Nat->α->Prop}(m:Nat) (h:∀ j,j<m->∃ x,Q j x):∃ l:List α,l.length=m/\∀ j x,l[j]?=some x->Q j x:=by
 induction m with
 | zero=>exact⟨[],rfl,λj x hx=>by simp at hx⟩
 | succ m ih =>
   obtain⟨l,hl,hq⟩:=ih λj hj=>h j (by omega);obtain⟨y,hy⟩:=h m (by omega);refine⟨l++[y],by simp[hl],λj x hx=>?_⟩
   rcases Nat.lt_or_ge j m with hlt | hge
   ·rw [List.getElem?_append_left (by omega)] at hx
    exact hq j x hx
   ·have hj:j<(l++[y]).length:=(List.getElem?_eq_some_iff.1 hx).1
    have:j=m:=by simp[hl] at hj;omega
    subst this;rw[List.getElem?_append_right (by omega),hl] at hx
    simp at hx
    subst hx;exact hy
section
variable {H:Type}{enc:TypeId × Value->H}
theorem lK {k:Int}(h:(Lit.int .i64 k).wf=true):qV k:=by
 simp[Lit.wf,IntKind.min,IntKind.max,IntKind.signed,IntKind.bits] at h
 unfold qV
 omega
theorem open_nums {W:World}{sp:Nat->Bool}{fuel:Nat}{cs:List Value}{x:DataW H × List MemPlace}{t e:TypeId}(ht:Try.prog.underlying t=some (.slice e)) (he:Try.prog.underlying e=some (.int .i64)) (hc:Try.prog.cellsOf e=1) (h:DataW.trod enc Try.prog W 0 sp true fuel t cs=some x) :
  ∃ (A:Option Addr) (cap:Nat) (xs:List Int),cs=[.slice A xs.length cap]/\xs.length<=cap/\cap<=maxLen/\(A=none->cap=0)/\(∀ i,i<xs.length->∃ b o,A=some ⟨b,o,none⟩/\b<W.heap.size/\W.cell? ⟨b,o+i,none⟩=some (.int .i64 (xs.getD i 0)))/\(∀ y∈xs,qV y)/\(xs.length=0\/∃ el spa,x.1=.slice el spa/\xs.length<=el.length+spa.length):=by
 rcases open_slice1 ht hc h with⟨rfl,rfl⟩ | ⟨a,len,cap,m,n,V,D,Pl,rfl,hb,hl,hm,hmm,rfl,hx⟩
 ·exact ⟨none,0,[],rfl,Nat.le_refl _,by unfold maxLen;omega,λ_=>rfl,λi hi=>(by simp at hi),λy hy=>(by cases hy),.inl rfl⟩
 have hlm:len<=m:=by rw[hmm];split <;> omega
 obtain ⟨xs,hxl,hxs⟩:=list_ofT (α:=Int) (Q:=λj y=>qV y/\∃ b o,a=⟨b,o,none⟩/\b<W.heap.size/\W.cell? ⟨b,o+j,none⟩=some (.int .i64 y)) len λj hj=>by
  obtain⟨c1,c2⟩:=hx j (by omega);obtain⟨y,e0,_,hw⟩:=DataW.trod_int he c2;simp only[List.cons.injEq,and_true] at e0;rw[e0] at c1
  have ha:a.spot=none:=by
   obtain⟨c0,_⟩:=hx 0 (by omega);have:W.cell? a=some (V 0):=by simpa [Addr.add] using c0
   exact(fR this).1
  obtain⟨b,o,s⟩:=a;simp only at ha;subst ha
  have e:(⟨b,o,none⟩:Addr).add j=⟨b,o+j,none⟩:=by
   unfold Addr.add
   by_cases h4:j=0 <;> simp[h4]
  rw[e] at c1;exact⟨y,lK hw,b,o,rfl,(fR c1).2,c1⟩
 refine⟨some a,cap,xs,by rw[hxl],by omega,hm,λh=>(by cases h),λi hi=>?_,λy hy=>?_,.inr ⟨_,_,rfl,?_⟩⟩
 ·obtain ⟨_,b,o,e1,e2,e3⟩:=hxs i xs[i] (List.getElem?_eq_getElem hi)
  exact⟨b,o,by rw[e1],e2,by rw[e3,List.getD_eq_getElem?_getD,List.getElem?_eq_getElem hi];rfl⟩
 ·obtain ⟨j,hj,e⟩:=List.mem_iff_getElem.1 hy
  exact(hxs j y (by rw[List.getElem?_eq_getElem hj,e])).1
 ·simp [hxl] <;> omega
theorem open_ops2 {W:World}{sp:Nat->Bool}{fuel:Nat}{cs:List Value}{x:DataW H × List MemPlace}(h:DataW.trod enc Try.prog W 0 sp true fuel 44 cs=some x) :
  ∃ (A:Option Addr) (len cap:Nat) (ops:List OpI),cs=[.slice A len cap]/\len<=cap/\cap<=maxLen/\(A=none->cap=0)/\ops.length=min len 65536/\∀ j o,ops[j]?=some o->o.Fits/\∃ b f,A=some ⟨b,f,none⟩/\b<W.heap.size/\W.cell? ⟨b,f+j*4,none⟩=some (.int .i64 o.kind)/\W.cell? ⟨b,f+j*4+1,none⟩=some (.int .i64 o.a)/\W.cell? ⟨b,f+j*4+2,none⟩=some (.int .i64 o.b)/\W.cell? ⟨b,f+j*4+3,none⟩=some (.int .i64 o.c):=by
 rcases open_slice Try.underlying44 h with⟨rfl,rfl⟩ | ⟨a,len,cap,m,n,D,Pl,rfl,hb,hl,hm,hmm,rfl,hx⟩
 ·exact ⟨none,0,0,[],rfl,Nat.le_refl _,by unfold maxLen;omega,λ_=>rfl,rfl,λj o hj=>by simp at hj⟩
 have hlm:len<=m:=by rw[hmm];split <;> omega
 obtain ⟨ops,hol,ho⟩:=list_ofT (α:=OpI) (Q:=λj o=>o.Fits/\∃ b f,a=⟨b,f,none⟩/\b<W.heap.size/\W.cell? ⟨b,f+j*4,none⟩=some (.int .i64 o.kind)/\W.cell? ⟨b,f+j*4+1,none⟩=some (.int .i64 o.a)/\W.cell? ⟨b,f+j*4+2,none⟩=some (.int .i64 o.b)/\W.cell? ⟨b,f+j*4+3,none⟩=some (.int .i64 o.c)) (min len 65536) λj hj=>by
  have ha:a.spot=none:=by
   obtain⟨cs',h1,_⟩:=hx 0 (by omega);rw[Try.opCells] at h1;obtain⟨_,hlen,hcell⟩:=World.cells?_some h1;have c0:=hcell 0 (by omega)
   match cs',hlen with
   | [v0,v1,v2,v3],_ =>
     have c0:W.cell? a=some v0:=by simpa [Addr.add] using c0
     exact(fR c0).1
  obtain⟨b,o,s⟩:=a;simp only at ha;subst ha;obtain⟨cs',h1,h2⟩:=hx j (by omega);rw[Try.opCells] at h1;obtain⟨_,hlen,hcell⟩:=World.cells?_some h1
  match cs',hlen with
  | [v1,v2,v3,v4],_ =>
    obtain⟨xs,k',_,_,_,hlx,hf⟩:=DataW.trod_struct Try.underlying46 h2
    match xs,hlx with
    | [x0,x1,x2,x3],_ =>
      have f0:DataW.trod enc Try.prog W 0 sp true k' 3 [v1]=some x0:=by
       have h:=hf 0 _ rfl;change DataW.trod enc Try.prog W 0 sp true k' 3 (List.take (Try.prog.cellsOf 3) (List.drop 0 [v1,v2,v3,v4]))=some x0 at h;rw[Try.intCells] at h;exact h
      have f1:DataW.trod enc Try.prog W 0 sp true k' 2 [v2]=some x1:=by
       have h:=hf 1 _ rfl;change DataW.trod enc Try.prog W 0 sp true k' 2 (List.take (Try.prog.cellsOf 2) (List.drop 1 [v1,v2,v3,v4]))=some x1 at h;rw[Try.longCells] at h;exact h
      have f2:DataW.trod enc Try.prog W 0 sp true k' 2 [v3]=some x2:=by
       have h:=hf 2 _ rfl;change DataW.trod enc Try.prog W 0 sp true k' 2 (List.take (Try.prog.cellsOf 2) (List.drop 2 [v1,v2,v3,v4]))=some x2 at h;rw[Try.longCells] at h;exact h
      have f3:DataW.trod enc Try.prog W 0 sp true k' 2 [v4]=some x3:=by
       have h:=hf 3 _ rfl;change DataW.trod enc Try.prog W 0 sp true k' 2 (List.take (Try.prog.cellsOf 2) (List.drop 3 [v1,v2,v3,v4]))=some x3 at h;rw[Try.longCells] at h;exact h
      obtain⟨n0,g0,_,_⟩:=DataW.trod_int Try.underlying3 f0;obtain⟨n1,g1,_,hw1⟩:=DataW.trod_int Try.underlying2 f1;obtain⟨n2,g2,_,hw2⟩:=DataW.trod_int Try.underlying2 f2;obtain⟨n3,g3,_,_⟩:=DataW.trod_int Try.underlying2 f3;simp only[List.cons.injEq,and_true] at g0 g1 g2 g3;subst g0;subst g1;subst g2;subst g3;have c0:=hcell 0 (by omega);have c1:=hcell 1 (by omega);have c2:=hcell 2 (by omega);have c3:=hcell 3 (by omega)
      have e:∀ k,((⟨b,o,none⟩:Addr).add (j*4)).add k=⟨b,o+j*4+k,none⟩:=λk=>by
       unfold Addr.add
       by_cases h4:j*4=0 <;> by_cases hk:k=0 <;> simp[h4,hk]
      rw[e] at c0 c1 c2 c3;exact⟨⟨n0,n1,n2,n3⟩,⟨lK hw1,lK hw2⟩,b,o,rfl,(fR c1).2,c0,c1,c2,c3⟩
 refine⟨some a,len,cap,ops,rfl,hl,hm,λh=>(by cases h),hol,λj o hj=>?_⟩;obtain⟨h1,b,f,rfl,h3⟩:=ho j o hj;exact⟨h1,b,f,rfl,h3⟩
theorem Try.sliceCells:Try.prog.cellsOf 44=1:=by kernel_rfl
theorem Try.thrsCells:Try.prog.cellsOf 22=1:=by kernel_rfl
theorem Try.intsCells:Try.prog.cellsOf 23=1:=by kernel_rfl
theorem rL {W:World}{sp:Nat->Bool}{fuel:Nat}{cs:List Value}{x:DataW H × List MemPlace}(h:DataW.trod enc Try.prog W 0 sp true fuel 22 cs=some x) :
  ∃ (tA:Option Addr) (nt cp Tb To:Nat) (A:Nat->Option Addr) (len cap:Nat->Nat) (ops:Nat->List OpI),cs=[.slice tA nt cp]/\nt<=maxLen/\(0<nt->tA=some ⟨Tb,To,none⟩) /\
    (∀ i,i<min nt 64->Tb<W.heap.size/\W.cell? ⟨Tb,To+i,none⟩=some (.slice (A i) (len i) (cap i))/\len i<=cap i/\cap i<=maxLen/\(A i=none->cap i=0))/\(∀ i,i<min nt 64->(ops i).length=min (len i) 65536) /\
    ∀ i,i<min nt 64->∀ j o,(ops i)[j]?=some o->o.Fits/\∃ b f,A i=some ⟨b,f,none⟩/\b<W.heap.size/\W.cell? ⟨b,f+j*4,none⟩=some (.int .i64 o.kind)/\W.cell? ⟨b,f+j*4+1,none⟩=some (.int .i64 o.a)/\W.cell? ⟨b,f+j*4+2,none⟩=some (.int .i64 o.b)/\W.cell? ⟨b,f+j*4+3,none⟩=some (.int .i64 o.c):=by
 rcases open_slice1 Try.underlying22 Try.sliceCells h with⟨rfl,rfl⟩ | ⟨a,nt,cp,m,n,V,D,Pl,rfl,hb,hl,hm,hmm,rfl,hx⟩
 ·exact ⟨none,0,0,0,0,λ_=>none,λ_=>0,λ_=>0,λ_=>[],rfl,Nat.zero_le _,λh=>absurd h (Nat.lt_irrefl _),λi hi=>absurd hi (by omega),λi hi=>absurd hi (by omega),λi hi=>absurd hi (by omega)⟩
 have hlm:nt<=m:=by rw[hmm];split <;> omega
 by_cases h0:nt=0
 ·subst h0
  exact⟨some a,0,cp,0,0,λ_=>none,λ_=>0,λ_=>0,λ_=>[],rfl,Nat.zero_le _,λh=>absurd h (Nat.lt_irrefl _),λi hi=>absurd hi (by omega),λi hi=>absurd hi (by omega),λi hi=>absurd hi (by omega)⟩
 have ha:a.spot=none:=by
  obtain⟨c0,_⟩:=hx 0 (by omega);have:W.cell? a=some (V 0):=by simpa [Addr.add] using c0
  exact(fR this).1
 obtain⟨Tb,To,s⟩:=a;simp only at ha;subst ha
 have hex:∀ i,∃ p:Option Addr × Nat × Nat × List OpI,i<nt->Tb<W.heap.size/\W.cell? ⟨Tb,To+i,none⟩=some (.slice p.1 p.2.1 p.2.2.1)/\p.2.1<=p.2.2.1/\p.2.2.1<=maxLen/\(p.1=none->p.2.2.1=0)/\p.2.2.2.length=min p.2.1 65536/\∀ j o,p.2.2.2[j]?=some o->o.Fits/\∃ b f,p.1=some ⟨b,f,none⟩/\b<W.heap.size/\W.cell? ⟨b,f+j*4,none⟩=some (.int .i64 o.kind)/\W.cell? ⟨b,f+j*4+1,none⟩=some (.int .i64 o.a)/\W.cell? ⟨b,f+j*4+2,none⟩=some (.int .i64 o.b)/\W.cell? ⟨b,f+j*4+3,none⟩=some (.int .i64 o.c):=λi=>by
  by_cases hi:i<nt
  ·obtain ⟨c1,c2⟩:=hx i (by omega)
   obtain⟨A,len,cap,ops,e,h1,h2,h3,h4,h5⟩:=open_ops2 c2;simp only[List.cons.injEq,and_true] at e;rw[e] at c1
   have ea:(⟨Tb,To,none⟩:Addr).add i=⟨Tb,To+i,none⟩:=by
    unfold Addr.add
    by_cases h4:i=0 <;> simp[h4]
   rw[ea] at c1;exact⟨(A,len,cap,ops),λ_=>⟨(fR c1).2,c1,h1,h2,h3,h4,h5⟩⟩
  ·exact ⟨(none,0,0,[]),λh=>absurd h hi⟩
 obtain⟨F,hF⟩:=Classical.axiomOfChoice hex;refine⟨some ⟨Tb,To,none⟩,nt,cp,Tb,To,λi=>(F i).1,λi=>(F i).2.1,λi=>(F i).2.2.1,λi=>(F i).2.2.2,rfl,by omega,λ_=>rfl,λi hi=>?_,λi hi=>?_,λi hi=>?_⟩
 ·obtain ⟨h1,h2,h3,h4,h5,_,_⟩:=hF i (by omega)
  exact⟨h1,h2,h3,h4,h5⟩
 ·exact (hF i (by omega)).2.2.2.2.2.1
 ·exact (hF i (by omega)).2.2.2.2.2.2
structure WorldAt (W w:World) (nt:Nat) (tA:Option Addr) (Tb To:Nat) (A:Nat->Option Addr) (len cap:Nat->Nat) (ops:Nat->List OpI) (sA:Option Addr) (sc:Nat) (xs:List Int):Prop where
 nmx:nt<=maxLen
 ta:0<nt->tA=some ⟨Tb,To,none⟩
 row:∀ i,i<min nt 64->Tb<W.heap.size/\w.cell? ⟨Tb,To+i,none⟩=some (.slice (A i) (len i) (cap i))/\len i<=cap i/\cap i<=maxLen/\(A i=none->cap i=0)
 olen:∀ i,i<min nt 64->(ops i).length=min (len i) 65536
 op:∀ i,i<min nt 64->∀ j o,(ops i)[j]?=some o->o.Fits/\∃ b f,A i=some ⟨b,f,none⟩/\b<W.heap.size/\w.cell? ⟨b,f+j*4,none⟩=some (.int .i64 o.kind)/\w.cell? ⟨b,f+j*4+1,none⟩=some (.int .i64 o.a)/\w.cell? ⟨b,f+j*4+2,none⟩=some (.int .i64 o.b)/\w.cell? ⟨b,f+j*4+3,none⟩=some (.int .i64 o.c)
 sle:xs.length<=sc
 smx:sc<=maxLen
 snil:sA=none->sc=0
 sch:∀ i,i<xs.length->∃ b o,sA=some ⟨b,o,none⟩/\b<W.heap.size/\w.cell? ⟨b,o+i,none⟩=some (.int .i64 (xs.getD i 0))
 slen:xs.length<=17592186044416
theorem Try.worldCells:Try.prog.cellsOf 25=5:=by kernel_rfl
theorem open_world {W:World}{sp:Nat->Bool}{fuel:Nat}{c:Array Value}{x:DataW H × List MemPlace}(h:DataW.trod enc Try.prog W 0 sp true fuel 25 c.toList=some x)
  (hw:(DataW.weights Try.prog 25 x.1).all (·<=reachBytes)=true) :
  ∃ a b nt tA cp Tb To A len cap ops sA sc xs most,c=#[.int .i64 a,.int .i64 b,.slice tA nt cp,.slice sA xs.length sc,.int .i64 most]/\WorldAt W W nt tA Tb To A len cap ops sA sc xs:=by
 obtain⟨ys,k',_,hx1,hcl,hlx,hf⟩:=DataW.trod_struct Try.underlying25 h;rw[Try.worldCells] at hcl;obtain⟨l⟩:=c;simp only at hcl h hf
 match l,hcl with
 | [v0,v1,v2,v3,v4],_ =>
   match ys,hlx with
   | [x0,x1,x2,x3,x4],_ =>
     have f0:DataW.trod enc Try.prog W 0 sp true k' 3 [v0]=some x0:=by
      have h:=hf 0 _ rfl;change DataW.trod enc Try.prog W 0 sp true k' 3 (List.take (Try.prog.cellsOf 3) (List.drop 0 [v0,v1,v2,v3,v4]))=some x0 at h;rw[Try.intCells] at h;exact h
     have f1:DataW.trod enc Try.prog W 0 sp true k' 3 [v1]=some x1:=by
      have h:=hf 1 _ rfl;change DataW.trod enc Try.prog W 0 sp true k' 3 (List.take (Try.prog.cellsOf 3) (List.drop 1 [v0,v1,v2,v3,v4]))=some x1 at h;rw[Try.intCells] at h;exact h
     have f2:DataW.trod enc Try.prog W 0 sp true k' 22 [v2]=some x2:=by
      have h:=hf 2 _ rfl;change DataW.trod enc Try.prog W 0 sp true k' 22 (List.take (Try.prog.cellsOf 22) (List.drop 2 [v0,v1,v2,v3,v4]))=some x2 at h;rw[Try.thrsCells] at h;exact h
     have f3:DataW.trod enc Try.prog W 0 sp true k' 23 [v3]=some x3:=by
      have h:=hf 3 _ rfl;change DataW.trod enc Try.prog W 0 sp true k' 23 (List.take (Try.prog.cellsOf 23) (List.drop 3 [v0,v1,v2,v3,v4]))=some x3 at h;rw[Try.intsCells] at h;exact h
     have f4:DataW.trod enc Try.prog W 0 sp true k' 3 [v4]=some x4:=by
      have h:=hf 4 _ rfl;change DataW.trod enc Try.prog W 0 sp true k' 3 (List.take (Try.prog.cellsOf 3) (List.drop 4 [v0,v1,v2,v3,v4]))=some x4 at h;rw[Try.intCells] at h;exact h
     obtain⟨a,e0,_,_⟩:=DataW.trod_int Try.underlying3 f0;obtain⟨b,e1,_,_⟩:=DataW.trod_int Try.underlying3 f1;obtain⟨tA,nt,cp,Tb,To,A,len,cap,ops,e2,b1,b2,b3,b4,b5⟩:=rL f2;obtain⟨sA,sc,xs,e3,c1,c2,c2',c3,c4,c5⟩:=open_nums Try.underlying23 Try.underlying3 Try.intCells f3;obtain⟨most,e4,_,_⟩:=DataW.trod_int Try.underlying3 f4;simp only[List.cons.injEq,and_true] at e0 e1 e2 e3 e4;subst e0;subst e1;subst e2;subst e3;subst e4;refine⟨a,b,nt,tA,cp,Tb,To,A,len,cap,ops,sA,sc,xs,most,rfl,⟨b1,b2,b3,b4,b5,c1,c2,c2',c3,?_⟩⟩
     rcases c5 with z | ⟨el,spa,z1,z2⟩
     ·omega
     ·have h8:Try.prog.bytesOf 3=8:=by kernel_rfl
      have hm:(el.length+spa.length)*Try.prog.bytesOf 3∈DataW.weights Try.prog 25 x.1:=by
       rw[hx1]
       show _∈DataW.weights Try.prog 25 (.agg [x0.1,x1.1,x2.1,x3.1,x4.1])
       simp only[DataW.weights,Try.underlying25];refine DataW.weights_mem_each (j:=3) (t:=23) (d:=x3.1) rfl rfl _ ?_;rw[z1]
       simp[DataW.weights,Try.underlying23]
      have hle:=of_decide_eq_true (List.all_eq_true.1 hw _ hm);rw[h8] at hle;unfold reachBytes at hle
      omega
end
end Go.Proofs.Ytlcplealnbekeaa
namespace Go.Proofs.Ytlcplealnbekeaa
open Go.RowKit Go.Turn Go.Tame Go.Conc
theorem thrN (i:Nat):∀ (l:List OpI) (own:List Ans) (st:Unit × (Nat->List Ans)),st.2 i=own->thrQ (doN i) i l own st=.ret (st.1,λj=>if j=i then own++List.replicate l.length ⟨false,0,[]⟩ else st.2 j)
 | [],own,st,h=>by
   show Tree.ret st=_
   congr 1
   refine Prod.ext rfl ?_
   funext j
   by_cases e:j=i
   ·subst e;simp[h]
   ·simp [e]
 | o::l,own,st,h=>by
   show (if st.2 i=own then thrQ (doN i) i l (own++[⟨false,0,[]⟩]) (kN i ⟨false,0,[]⟩ st) else .cut)=_
   rw[if_pos h];refine(thrN i l (own++[(⟨false,0,[]⟩:Ans)]) (kN i ⟨false,0,[]⟩ st) (by simp[kN,h])).trans ?_
   congr 1
   refine Prod.ext rfl ?_
   funext j
   by_cases e:j=i
   ·subst e;simp[List.replicate_succ]
   ·simp [e,kN]
theorem bornN (ops:Nat->List OpI):∀ k,(∀ j,(Mach.born (brQ doN ops) ⟨((),λ_=>[]),λ_=>.unborn⟩ k).s.2 j=if j<k then kA ops j else [])/\∀ j,j<k->(Mach.born (brQ doN ops) ⟨((),λ_=>[]),λ_=>.unborn⟩ k).th j=.over
 | 0=>⟨λj=>rfl,λj h=>absurd h (Nat.not_lt_zero _)⟩
 | k + 1=>by
   obtain⟨h1,h2⟩:=bornN ops k
   show (∀ j,((Mach.born (brQ doN ops) ⟨((),λ_=>[]),λ_=>.unborn⟩ k).did k (brQ doN ops k (Mach.born (brQ doN ops) ⟨((),λ_=>[]),λ_=>.unborn⟩ k).s)).s.2 j=_)/\_
   have hk:(Mach.born (brQ doN ops) ⟨((),λ_=>[]),λ_=>.unborn⟩ k).s.2 k=[]:=by rw[h1 k,if_neg (Nat.lt_irrefl _)]
   have e:brQ doN ops k (Mach.born (brQ doN ops) ⟨((),λ_=>[]),λ_=>.unborn⟩ k).s=.ret ((),λj=>if j=k then kA ops k else(Mach.born (brQ doN ops) ⟨((),λ_=>[]),λ_=>.unborn⟩ k).s.2 j):=by
    refine(if_pos hk).trans ((thrN k (ops k) [] _ hk).trans ?_)
    rfl
   have eb:Mach.born (brQ doN ops) ⟨((),λ_=>[]),λ_=>.unborn⟩ (k+1)=⟨((),λj=>if j=k then kA ops k else(Mach.born (brQ doN ops) ⟨((),λ_=>[]),λ_=>.unborn⟩ k).s.2 j),Go.ConcN.upd (Mach.born (brQ doN ops) ⟨((),λ_=>[]),λ_=>.unborn⟩ k).th k .over⟩:=by
    show (Mach.born (brQ doN ops) ⟨((),λ_=>[]),λ_=>.unborn⟩ k).did k _=_
    rw[e]
    rfl
   rw[eb,e];refine⟨λj=>?_,λj hj=>?_⟩
   ·show (if j=k then kA ops k else(Mach.born (brQ doN ops) ⟨((),λ_=>[]),λ_=>.unborn⟩ k).s.2 j)=_
    by_cases ej:j=k
    ·subst ej;rw[if_pos rfl,if_pos (Nat.lt_succ_self _)]
    ·rw [if_neg ej,h1 j]
     by_cases hl:j<k
     ·rw [if_pos hl,if_pos (by omega)]
     ·rw [if_neg hl,if_neg (by omega)]
   ·show Go.ConcN.upd _ k _ j=_
    by_cases ej:j=k
    ·subst ej;exact Go.ConcN.upd_same _ _ _
    ·rw [Go.ConcN.upd_ne _ _ ej];exact h2 j (by omega)
theorem runN (ops:Nat->List OpI) (n most:Nat) (xs:List Int):(bI (brQ doN ops) n most xs ((),λ_=>[])).order=[]/\(bI (brQ doN ops) n most xs ((),λ_=>[])).m.left n=0/\∀ j,j<n->(bI (brQ doN ops) n most xs ((),λ_=>[])).m.s.2 j=kA ops j:=by
 obtain⟨h1,h2⟩:=bornN ops n
 have hl:(Mach.born (brQ doN ops) ⟨((),λ_=>[]),λ_=>.unborn⟩ n).left n=0:=by
  have key:∀ k,k<=n->(Mach.born (brQ doN ops) ⟨((),λ_=>[]),λ_=>.unborn⟩ n).left k=0:=by
   intro k
   induction k with
   | zero=>intro _;rfl
   | succ k ih =>
     intro hk;simp only[Mach.left];rw[ih (by omega),h2 k (by omega)]
     rfl
  exact key n (Nat.le_refl _)
 have hr:bI (brQ doN ops) n most xs ((),λ_=>[])=⟨Mach.born (brQ doN ops) ⟨((),λ_=>[]),λ_=>.unborn⟩ n,[]⟩:=by
  unfold bI;rw[hU (by rw[hl];omega) (Nat.zero_le _)];exact dM (by rw[hl];omega) _
 rw[hr];exact⟨rfl,hl,λj hj=>by rw[h1 j,if_pos hj]⟩
theorem TraceAt.on {w:World}{n:Nat}{ans ans':Nat->List Ans}{ord sta:List Int}{A:Option Addr}{c:Nat}{ov tv:Value}(h:TraceAt w n ans ord sta A c ov tv) (he:∀ i,i<n->ans i=ans' i):TraceAt w n ans' ord sta A c ov tv:=
 ⟨h.ord,h.sta,λi hi=>by rw[<-he i hi];exact h.row i hi⟩
theorem jC {w:World}{b o:Nat}{v:Value}(h:w.cell? ⟨b,o,none⟩=some v):∃ cs t r,w.heap[b]?=some (.cells cs t r)/\cs[o]?=some v:=by
 unfold World.cell? at h;cases ho:w.heap[b]? with
 | none=>simp[ho] at h
 | some x =>
   cases x with
   | cells cs t r =>
     refine⟨cs,t,r,rfl,?_⟩;have:=cell_of_row w b o cs t r ho;unfold World.cell? at this;rw[<-this];exact h
   | _=>simp[ho] at h
section
variable {W w w':World}{nt:Nat}{tA:Option Addr}{Tb To:Nat}{A:Nat->Option Addr}{len cap:Nat->Nat}{ops:Nat->List OpI}{sA:Option Addr}{sc:Nat}{xs:List Int}
theorem WorldAt.keep (h:WorldAt W w nt tA Tb To A len cap ops sA sc xs) (hk:∀ b o v,b<W.heap.size->w.cell? ⟨b,o,none⟩=some v->w'.cell? ⟨b,o,none⟩=some v):WorldAt W w' nt tA Tb To A len cap ops sA sc xs where
 nmx:=h.nmx
 ta:=h.ta
 row i hi:=by obtain⟨h1,h2,h3⟩:=h.row i hi;exact⟨h1,hk _ _ _ h1 h2,h3⟩
 olen:=h.olen
 op i hi j o ho:=by
  obtain⟨h0,b,f,h1,h2,h3,h4,h5,h6⟩:=h.op i hi j o ho;exact⟨h0,b,f,h1,h2,hk _ _ _ h2 h3,hk _ _ _ h2 h4,hk _ _ _ h2 h5,hk _ _ _ h2 h6⟩
 sle:=h.sle
 smx:=h.smx
 snil:=h.snil
 sch i hi:=by obtain⟨b,o,h1,h2,h3⟩:=h.sch i hi;exact⟨b,o,h1,h2,hk _ _ _ h2 h3⟩
 slen:=h.slen
theorem WorldAt.kpt (h:WorldAt W w nt tA Tb To A len cap ops sA sc xs) (k:Kpt W w w'):WorldAt W w' nt tA Tb To A len cap ops sA sc xs:=
 h.keep λb o v hb hc=>by
  obtain⟨cs,t,r,h1,h2⟩:=jC hc;exact(World.cell?_of_block (w:=w) (a:=⟨b,o,none⟩) ((k.near b cs t r (.inl hb) h1).trans h1.symm)).trans hc
theorem WorldAt.fits (h:WorldAt W w nt tA Tb To A len cap ops sA sc xs):∀ i,i<min nt 64->∀ o∈ops i,o.Fits:=λi hi o ho=>by
 obtain⟨j,hj,e⟩:=List.mem_iff_getElem.1 ho;exact(h.op i hi j o (by rw[List.getElem?_eq_getElem hj,e])).1
theorem WorldAt.pl (h:WorldAt W w nt tA Tb To A len cap ops sA sc xs):PlIn w nt tA Tb To A len cap ops sA sc xs:=
 ⟨h.ta,h.nmx,⟨λi hi=>(h.row i hi).2.1,λi hi=>(h.row i hi).2.2.1,λi hi=>(h.row i hi).2.2.2.1,h.olen,λi hi j o ho=>by
   obtain⟨_,b,f,h1,_,h3⟩:=h.op i hi j o ho;exact⟨b,f,h1,h3⟩⟩,h.fits,⟨h.sle,h.smx,λi hi=>by obtain⟨b,o,h1,_,h3⟩:=h.sch i hi;exact⟨b,o,h1,h3⟩⟩,h.snil,h.slen⟩
theorem WorldAt.rows (h:WorldAt W w nt tA Tb To A len cap ops sA sc xs):RowsAt w Tb To (min nt 64) A len cap:=⟨λi hi=>(h.row i hi).2.1,λi hi=>(h.row i hi).2.2.1,λi hi=>(h.row i hi).2.2.2.1,λi hi=>(h.row i hi).2.2.2.2⟩
theorem WorldAt.opc (h:WorldAt W w nt tA Tb To A len cap ops sA sc xs):OpsCells W SG w (min nt 64) A len ops:=⟨h.olen,λi hi o ho=>by
  obtain⟨z1,z2⟩:=h.fits i hi o ho
  exact⟨z1.1,z1.2,z2.1,z2.2⟩,λi hi j hj=>by
  obtain⟨_,b,f,h1,h2,h3,h4,h5,h6⟩:=h.op i hi j _ (List.getElem?_eq_getElem hj);obtain⟨cs,t,r,k1,k2⟩:=jC h3;refine⟨b,f,cs,t,r,h1,k1,.inr h2,λm hm=>?_⟩;have c:∀ k v,w.cell? ⟨b,f+j*4+k,none⟩=some v->cs[f+j*4+k]?=some v:=λk v hc=>(cell_of_row w b _ cs t r k1).symm.trans hc
  rcases m with _ | _ | _ | _ | m
  ·exact k2.trans rfl
  ·exact (c 1 _ h4).trans rfl
  ·exact (c 2 _ h5).trans rfl
  ·exact (c 3 _ h6).trans rfl
  ·omega⟩
theorem WorldAt.schi (h:WorldAt W w nt tA Tb To A len cap ops sA sc xs) (Z:Nat->Prop):SchI W (.slice sA xs.length sc) xs Z w:=⟨⟨sA,sc,rfl,λi hi=>by
  obtain⟨b,o,h1,h2,h3⟩:=h.sch i hi;obtain⟨cs,t,r,k1,k2⟩:=jC h3;exact⟨b,o,cs,t,r,h1,k1,.inl h2,k2⟩⟩,by have:=h.slen;unfold maxLen;omega⟩
theorem both_play (hP:Prog Try.prog) (Post:Value->World->Prop) (a b:Int) (cp:Nat) (most:Int) (hw:WorldAt W w nt tA Tb To A len cap ops sA sc xs):∃ (ans:Nat->List Ans) (ord sta:List Int) (stk:Bool),
  (∀ w0,W.heap.size<=w0.heap.size->WorldAt W w0 nt tA Tb To A len cap ops sA sc xs->Ccalls (lgA hP Post W) 8 #[.int .i64 a,.int .i64 b,.slice tA nt cp,.slice sA xs.length sc,.int .i64 most] () w0 λv _ w'=>∃ ab ov tv,v=.agg #[.slice (some ⟨ab,0,none⟩) (min nt 64:Nat) (min nt 64:Nat),ov,tv,.bool stk]/\TraceAt w' (min nt 64) ans ord sta (some ⟨ab,0,none⟩) (min nt 64) ov tv/\Kpt W w0 w') /\
  ∀ w0,WorldAt W w0 nt tA Tb To A len cap ops sA sc xs->Calls Try.prog 9 #[.int .i64 a,.int .i64 b,.slice tA nt cp,.slice sA xs.length sc,.int .i64 most] w0 λe w'=>∃ Aa ca ov tv,e=.returned (.agg #[.slice Aa (min nt 64) ca,ov,tv,.bool stk])/\TraceAt w' (min nt 64) ans ord sta Aa ca ov tv/\Below w0.heap.size w0 w':=by
 by_cases hv:fits a/\0<=b/\b<=64
 ·obtain ⟨hf,hb0,hb1⟩:=hv
  obtain⟨nn,rfl⟩:=Int.eq_ofNat_of_zero_le (show 0<=a from by have:=hf.1;omega);obtain⟨kk,rfl⟩:=Int.eq_ofNat_of_zero_le hb0;obtain⟨h0,h2,hbt⟩:=fits_nat hf;have hk64:kk<=64:=by omega
  have hl:∀ i,i<min nt 64->(ops i).length<=65536:=λi hi=>by rw[hw.olen i hi];omega
  obtain⟨hrt,hst⟩:=runs_same12 (a:=nn) (b:=kk) h0 h2 hk64 (show min nt 64<=64 by omega) hl hw.fits xs most;refine⟨(gR nn kk (min nt 64) ops xs most).m.ans,(gR nn kk (min nt 64) ops xs most).u.order,fE (I0 nn kk) (bX (gR nn kk (min nt 64) ops xs most).m).1,(gR nn kk (min nt 64) ops xs most).u.stuck,λw0 hW h=>?_,λw0 h=>play12_ok h0 h2 hf hk64 h.pl⟩;refine(solo_play hP Post W nn kk h0 h2 hk64 hbt tA Tb To nt cp h.ta h.nmx A len cap ops (.slice sA xs.length sc) xs most w0 hW h.rows h.opc (h.schi _) (solo_soundA h0 h2 hk64 (by omega) hl h.fits)).mono λv _ w' hp=>?_;obtain⟨ab,ov,tv,H,hab,rfl,how,htw,hans,-,-⟩:=hp.ex;refine⟨ab,ov,tv,by rw[hst],?_,hp.size,hp.near,hp.io⟩;have ht:=AnsAll.trace hans how htw;rw[hrt.m.s,hrt.order] at ht;exact ht
 ·refine ⟨kA ops,[],[],false,λw0 hW h=>?_,λw0 h=>(play12_bad hv h.pl).mono λe w' ⟨Aa,ca,h1,h2,h3⟩=>⟨Aa,ca,_,_,h1,h2,h3⟩⟩
  have hbad:¬fits a\/b<0\/64<b:=by
   by_cases hf:fits a
   ·right
    by_cases hb:b<0
    ·exact .inl hb
    ·by_cases hb2:64<b
     ·exact .inr hb2
     ·exact absurd ⟨hf,by omega,by omega⟩ hv
   ·exact .inl hf
  refine(solo_playB hP Post W a b hbad tA Tb To nt cp h.ta h.nmx A len cap ops (.slice sA xs.length sc) xs most w0 hW h.rows h.opc (h.schi _)).mono λv _ w' hp=>?_;obtain⟨r1,r2,r3⟩:=runN ops (min nt 64) (cH most 1048576).toNat xs;obtain⟨ab,ov,tv,H,hab,rfl,how,htw,hans,-,-⟩:=hp.ex;refine⟨ab,ov,tv,by rw[r2];rfl,?_,hp.size,hp.near,hp.io⟩;have ht:=AnsAll.trace hans how htw;rw[r1] at ht;exact ht.on r3
end
section
variable {W w w':World}{a b:Int}{nt:Nat}{tA:Option Addr}{cp Tb To:Nat}{A:Nat->Option Addr}{len cap:Nat->Nat}{ops:Nat->List OpI}{sA:Option Addr}{sc:Nat}{xs:List Int}{most:Int}
structure PlS (W:World) (a b:Int) (nt:Nat) (tA:Option Addr) (cp Tb To:Nat) (A:Nat->Option Addr) (len cap:Nat->Nat) (ops:Nat->List OpI) (sA:Option Addr) (sc:Nat) (xs:List Int) (most:Int) (b1:Nat) (w:World):Prop where
 box:∃ t,w.heap[b1]?=some (.cells #[.int .i64 a,.int .i64 b,.slice tA nt cp,.slice sA xs.length sc,.int .i64 most] t (0,0))
 sc_:WorldAt W w nt tA Tb To A len cap ops sA sc xs
 size:W.heap.size<=w.heap.size
 io:w.os=W.os/\w.output=W.output
theorem PlS.re {b1:Nat}{y:World}{τ:Nat->Question->Nat}{n:Nat}(h:PlS W a b nt tA cp Tb To A len cap ops sA sc xs most b1 (y.re τ n)):PlS W a b nt tA cp Tb To A len cap ops sA sc xs most b1 y:=⟨h.box,h.sc_.keep λ_ _ _ _ z=>z,h.size,h.io⟩
theorem PlS.kpt {b1:Nat}(h:PlS W a b nt tA cp Tb To A len cap ops sA sc xs most b1 w) (k:Kpt W w w'):PlS W a b nt tA cp Tb To A len cap ops sA sc xs most b1 w':=by
 obtain⟨t,hb⟩:=h.box;exact⟨⟨t,k.near b1 _ t (0,0) (.inr (by decide)) hb⟩,h.sc_.kpt k,Nat.le_trans h.size k.size,k.io.1.trans h.io.1,k.io.2.trans h.io.2⟩
theorem PlS.cells {b1:Nat}(h:PlS W a b nt tA cp Tb To A len cap ops sA sc xs most b1 w):w.cell? ⟨b1,0,none⟩=some (.int .i64 a)/\w.cell? ⟨b1,1,none⟩=some (.int .i64 b)/\w.cell? ⟨b1,2,none⟩=some (.slice tA nt cp)/\w.cell? ⟨b1,3,none⟩=some (.slice sA xs.length sc)/\w.cell? ⟨b1,4,none⟩=some (.int .i64 most):=by
 obtain⟨t,hb⟩:=h.box;exact⟨cell_of_row w b1 0 _ t (0,0) hb,cell_of_row w b1 1 _ t (0,0) hb,cell_of_row w b1 2 _ t (0,0) hb,cell_of_row w b1 3 _ t (0,0) hb,cell_of_row w b1 4 _ t (0,0) hb⟩
theorem _root_.Go.Proofs.Ytlcplealnbekeaa.TraceAt.same_re {y:World}{τ:Nat->Question->Nat}{k n:Nat}{ans:Nat->List Ans}{ord sta:List Int}{A:Option Addr}{c:Nat}{ov tv:Value}(h:TraceAt (y.re τ k) n ans ord sta A c ov tv):TraceAt y n ans ord sta A c ov tv:=⟨h.ord,h.sta,h.row⟩
theorem bR {P:Program}{κ:Type}{L:Lg P κ}{md:Region.Mode}{os:Array Oper}{S:World->Prop}{Q:κ->Act->World->Prop}{i:Nat}{oi:Oper}{fuel:Nat}{listed:Array Bool}{t:κ}{a:Act}{w:World}(d:Option Tmp) (hi:os[i]?=some oi) (hd:oi.dst=d) (hre:∀ y τ n,S (World.re y τ n)->S y) (hQ:∀ t a y τ n,Q t a (World.re y τ n)->Q t a y)
  (hs:Region.noSelect os=true) (hf:Region.free md os listed i=true) (hr:(Region.ready md os listed).contains i=true) (hg:Region.wanted oi (yielded os a.tmps)=true) (hS:S w)
  (h:∃ v,(∀ wq,S wq->(execOp a.eval oi).run P wq=.ok (.value v) wq)/\AnyT L md os S Q fuel (listed.setIfInBounds i true) t (a.put d v) w):AnyT L md os S Q (fuel+1) listed t a w:=by
 obtain⟨v,h1,h2⟩:=h;subst hd;exact AnyT.take hi hre hQ hs hf hr (.inl ⟨hg,h1⟩) hS h2
theorem splays_true (a b:Int) (cp:Nat) (most:Int) (hsc:WorldAt W W nt tA Tb To A len cap ops sA sc xs) :
  (lgA Try.tame (PostT (.bool true) W) W).T () (Frame.enter Try.prog 3 #[.agg #[.int .i64 a,.int .i64 b,.slice tA nt cp,.slice sA xs.length sc,.int .i64 most]] .normal) [] (iN W):=by
 have hs:¬(lgA Try.tame (PostT (.bool true) W) W).strict:=λh=>h;obtain⟨ans,ord,sta,stk,hprog,hdoc⟩:=both_play Try.tame (PostT (.bool true) W) a b cp most hsc;have HPROG:=qd hprog;have HDOC:=qd hdoc;clear hprog hdoc;have hsz:(iN W).heap.size=W.heap.size:=seen0_size W;have hio:(iN W).os=W.os/\(iN W).output=W.output:=seen0_io W;have hsc0:WorldAt W (iN W) nt tA Tb To A len cap ops sA sc xs:=hsc.keep λb o v _ h=>by rw[seen0_cell];exact h
 generalize iN W=x at hsz hio hsc0 ⊢;rw[show Frame.enter Try.prog 3 #[.agg #[.int .i64 a,.int .i64 b,.slice tA nt cp,.slice sA xs.length sc,.int .i64 most]] .normal=Frame.at { (default:Frame) with fn:=3,kind:=.normal } ⟨#[.agg #[.int .i64 a,.int .i64 b,.slice tA nt cp,.slice sA xs.length sc,.int .i64 most]]++Array.replicate (Try.f3.ntmps-1) undef,[]⟩ [.code (Try.f3.body.getD .skip)] from by simp[Frame.enter,Frame.at,Try.func3];rfl];simp only[Try.f3,Option.getD_some,Nat.reduceSub,Array.replicate_succ,Array.replicate_zero,List.push_toArray,List.append_toArray,List.nil_append,List.cons_append];refine Lg.move _ (λ_ _=>step_seq) (λh=>h) ?_;refine Lg.code λK hK y τ n' hy=>?_;subst hy;go_wp2;refine hK _ _ (λh=>absurd h hs) ?_;clear hK K;have hsc1:WorldAt W y nt tA Tb To A len cap ops sA sc xs:=hsc0.keep λ_ _ _ _ h=>h;have hsz:y.heap.size=W.heap.size:=hsz;have hio:y.os=W.os/\y.output=W.output:=hio;clear hsc0 hsc;obtain⟨b1,hb1⟩:∃ b1,b1=y.heap.size:=⟨_,rfl⟩
 have hpl:PlS W a b nt tA cp Tb To A len cap ops sA sc xs most b1 (y.alloc (.cells #[.int .i64 a,.int .i64 b,.slice tA nt cp,.slice sA xs.length sc,.int .i64 most] 25)):=
  ⟨⟨_,hb1▸Blk.new y 25 #[.int .i64 a,.int .i64 b,.slice tA nt cp,.slice sA xs.length sc,.int .i64 most]⟩,hsc1.keep λb o v hb h=>(World.cell?_of_block (a:=⟨b,o,none⟩) (Below.heap_alloc _ _ b (by omega))).trans h,by simp;omega,hio⟩
 have HP:=qd hpl;clear hpl hsc1;rw[<-hb1];clear hb1;generalize y.alloc _=z at *;refine Lg.move _ (λ_ _=>step_seq) (λh=>h) ?_;refine Lg.move _ (λ_ _=>step_seq) (λh=>h) ?_;refine Lg.code λK hK y τ n' hy=>?_;subst hy;have HP1:=qd HP.out.re;clear HP
 go_wp2_with fail
 refine(writes_true y).mono ?_;rintro e w1 ⟨rfl,hk1⟩;dsimp only;have HP2:=qd (HP1.out.kpt (Kpt.old ⟨hk1.size,λb hb=>hk1.block b hb,hk1.os,hk1.output⟩));clear hk1 HP1;go_wp2;refine hK _ _ (λh=>absurd h hs) ?_;clear hK K;refine Lg.move _ (λ_ _=>step_cond (t:=false) rfl) (λh=>h) ?_;refine Lg.move _ (λ_ _=>step_skip) (λh=>h) ?_;refine Lg.move _ (λ_ _=>step_seq) (λh=>h) ?_;refine Lg.any hs (PlS W a b nt tA cp Tb To A len cap ops sA sc xs most b1) (by kernel_rfl) ?_;simp only[List.size_toArray,List.length_cons,List.length_nil,Nat.reduceAdd];refine bR (i:=0) (fuel:=23) (some 5) rfl rfl (λ_ _ _=>PlS.re) (λ_ _ _ _ _=>(Lg.re_iff _).1) (by kernel_rfl) (by kernel_rfl) (by kernel_rfl) rfl HP2.out ?_;apply Exists.intro;refine⟨λwq hw=>?_,?_⟩
 ·obtain ⟨hw1,hw2,hw3,hw4,hw5⟩:=hw.cells
  go_simp
  rfl
 simp only[Act.put,zA];refine bR (i:=1) (fuel:=22) (some 6) rfl rfl (λ_ _ _=>PlS.re) (λ_ _ _ _ _=>(Lg.re_iff _).1) (by kernel_rfl) (by kernel_rfl) (by kernel_rfl) rfl HP2.out ?_;apply Exists.intro;refine⟨λwq hw=>?_,?_⟩
 ·obtain ⟨hw1,hw2,hw3,hw4,hw5⟩:=hw.cells
  go_simp
  rfl
 simp only[Act.put,zA];refine bR (i:=2) (fuel:=21) (some 7) rfl rfl (λ_ _ _=>PlS.re) (λ_ _ _ _ _=>(Lg.re_iff _).1) (by kernel_rfl) (by kernel_rfl) (by kernel_rfl) rfl HP2.out ?_;apply Exists.intro;refine⟨λwq hw=>?_,?_⟩
 ·obtain ⟨hw1,hw2,hw3,hw4,hw5⟩:=hw.cells
  go_simp
  rfl
 simp only[Act.put,zA];refine bR (i:=3) (fuel:=20) (some 8) rfl rfl (λ_ _ _=>PlS.re) (λ_ _ _ _ _=>(Lg.re_iff _).1) (by kernel_rfl) (by kernel_rfl) (by kernel_rfl) rfl HP2.out ?_;apply Exists.intro;refine⟨λwq hw=>?_,?_⟩
 ·obtain ⟨hw1,hw2,hw3,hw4,hw5⟩:=hw.cells
  go_simp
  rfl
 simp only[Act.put,zA];refine bR (i:=4) (fuel:=19) (some 9) rfl rfl (λ_ _ _=>PlS.re) (λ_ _ _ _ _=>(Lg.re_iff _).1) (by kernel_rfl) (by kernel_rfl) (by kernel_rfl) rfl HP2.out ?_;apply Exists.intro;refine⟨λwq hw=>?_,?_⟩
 ·obtain ⟨hw1,hw2,hw3,hw4,hw5⟩:=hw.cells
  go_simp
  rfl
 simp only[Act.put,zA];refine bR (i:=5) (fuel:=18) (some 10) rfl rfl (λ_ _ _=>PlS.re) (λ_ _ _ _ _=>(Lg.re_iff _).1) (by kernel_rfl) (by kernel_rfl) (by kernel_rfl) rfl HP2.out ?_;apply Exists.intro;refine⟨λwq hw=>?_,?_⟩
 ·obtain ⟨hw1,hw2,hw3,hw4,hw5⟩:=hw.cells
  go_simp
  rfl
 simp only[Act.put,zA];refine bR (i:=6) (fuel:=17) (some 11) rfl rfl (λ_ _ _=>PlS.re) (λ_ _ _ _ _=>(Lg.re_iff _).1) (by kernel_rfl) (by kernel_rfl) (by kernel_rfl) rfl HP2.out ?_;apply Exists.intro;refine⟨λwq hw=>?_,?_⟩
 ·obtain ⟨hw1,hw2,hw3,hw4,hw5⟩:=hw.cells
  go_simp
  rfl
 simp only[Act.put,zA];refine bR (i:=7) (fuel:=16) (some 12) rfl rfl (λ_ _ _=>PlS.re) (λ_ _ _ _ _=>(Lg.re_iff _).1) (by kernel_rfl) (by kernel_rfl) (by kernel_rfl) rfl HP2.out ?_;apply Exists.intro;refine⟨λwq hw=>?_,?_⟩
 ·obtain ⟨hw1,hw2,hw3,hw4,hw5⟩:=hw.cells
  go_simp
  rfl
 simp only[Act.put,zA];refine bR (i:=8) (fuel:=15) (some 13) rfl rfl (λ_ _ _=>PlS.re) (λ_ _ _ _ _=>(Lg.re_iff _).1) (by kernel_rfl) (by kernel_rfl) (by kernel_rfl) rfl HP2.out ?_;apply Exists.intro;refine⟨λwq hw=>?_,?_⟩
 ·obtain ⟨hw1,hw2,hw3,hw4,hw5⟩:=hw.cells
  go_simp
  rfl
 simp only[Act.put,zA];refine bR (i:=9) (fuel:=14) (some 14) rfl rfl (λ_ _ _=>PlS.re) (λ_ _ _ _ _=>(Lg.re_iff _).1) (by kernel_rfl) (by kernel_rfl) (by kernel_rfl) rfl HP2.out ?_;apply Exists.intro;refine⟨λwq hw=>?_,?_⟩
 ·obtain ⟨hw1,hw2,hw3,hw4,hw5⟩:=hw.cells
  go_simp
  rfl
 simp only[Act.put,zA];refine bR (i:=11) (fuel:=13) (some 16) rfl rfl (λ_ _ _=>PlS.re) (λ_ _ _ _ _=>(Lg.re_iff _).1) (by kernel_rfl) (by kernel_rfl) (by kernel_rfl) rfl HP2.out ?_;apply Exists.intro;refine⟨λwq hw=>?_,?_⟩
 ·obtain ⟨hw1,hw2,hw3,hw4,hw5⟩:=hw.cells
  go_simp
  rfl
 simp only[Act.put,zA];refine bR (i:=12) (fuel:=12) (some 17) rfl rfl (λ_ _ _=>PlS.re) (λ_ _ _ _ _=>(Lg.re_iff _).1) (by kernel_rfl) (by kernel_rfl) (by kernel_rfl) rfl HP2.out ?_;apply Exists.intro;refine⟨λwq hw=>?_,?_⟩
 ·obtain ⟨hw1,hw2,hw3,hw4,hw5⟩:=hw.cells
  go_simp
  rfl
 simp only[Act.put,zA];refine bR (i:=13) (fuel:=11) (some 18) rfl rfl (λ_ _ _=>PlS.re) (λ_ _ _ _ _=>(Lg.re_iff _).1) (by kernel_rfl) (by kernel_rfl) (by kernel_rfl) rfl HP2.out ?_;apply Exists.intro;refine⟨λwq hw=>?_,?_⟩
 ·obtain ⟨hw1,hw2,hw3,hw4,hw5⟩:=hw.cells
  go_simp
  rfl
 simp only[Act.put,zA];refine bR (i:=14) (fuel:=10) (some 19) rfl rfl (λ_ _ _=>PlS.re) (λ_ _ _ _ _=>(Lg.re_iff _).1) (by kernel_rfl) (by kernel_rfl) (by kernel_rfl) rfl HP2.out ?_;apply Exists.intro;refine⟨λwq hw=>?_,?_⟩
 ·obtain ⟨hw1,hw2,hw3,hw4,hw5⟩:=hw.cells
  go_simp
  rfl
 simp only[Act.put,zA];refine bR (i:=15) (fuel:=9) (some 20) rfl rfl (λ_ _ _=>PlS.re) (λ_ _ _ _ _=>(Lg.re_iff _).1) (by kernel_rfl) (by kernel_rfl) (by kernel_rfl) rfl HP2.out ?_;apply Exists.intro;refine⟨λwq hw=>?_,?_⟩
 ·obtain ⟨hw1,hw2,hw3,hw4,hw5⟩:=hw.cells
  go_simp
  rfl
 simp only[Act.put,zA];refine bR (i:=16) (fuel:=8) (some 21) rfl rfl (λ_ _ _=>PlS.re) (λ_ _ _ _ _=>(Lg.re_iff _).1) (by kernel_rfl) (by kernel_rfl) (by kernel_rfl) rfl HP2.out ?_;apply Exists.intro;refine⟨λwq hw=>?_,?_⟩
 ·obtain ⟨hw1,hw2,hw3,hw4,hw5⟩:=hw.cells
  go_simp
  rfl
 simp only[Act.put,zA];refine bR (i:=17) (fuel:=7) (some 22) rfl rfl (λ_ _ _=>PlS.re) (λ_ _ _ _ _=>(Lg.re_iff _).1) (by kernel_rfl) (by kernel_rfl) (by kernel_rfl) rfl HP2.out ?_;apply Exists.intro;refine⟨λwq hw=>?_,?_⟩
 ·obtain ⟨hw1,hw2,hw3,hw4,hw5⟩:=hw.cells
  go_simp
  rfl
 simp only[Act.put,zA];refine bR (i:=18) (fuel:=6) (some 23) rfl rfl (λ_ _ _=>PlS.re) (λ_ _ _ _ _=>(Lg.re_iff _).1) (by kernel_rfl) (by kernel_rfl) (by kernel_rfl) rfl HP2.out ?_;apply Exists.intro;refine⟨λwq hw=>?_,?_⟩
 ·obtain ⟨hw1,hw2,hw3,hw4,hw5⟩:=hw.cells
  go_simp
  rfl
 simp only[Act.put,zA];refine bR (i:=19) (fuel:=5) (some 24) rfl rfl (λ_ _ _=>PlS.re) (λ_ _ _ _ _=>(Lg.re_iff _).1) (by kernel_rfl) (by kernel_rfl) (by kernel_rfl) rfl HP2.out ?_;apply Exists.intro;refine⟨λwq hw=>?_,?_⟩
 ·obtain ⟨hw1,hw2,hw3,hw4,hw5⟩:=hw.cells
  go_simp
  rfl
 simp only[Act.put,zA];refine bR (i:=20) (fuel:=4) (some 25) rfl rfl (λ_ _ _=>PlS.re) (λ_ _ _ _ _=>(Lg.re_iff _).1) (by kernel_rfl) (by kernel_rfl) (by kernel_rfl) rfl HP2.out ?_;apply Exists.intro;refine⟨λwq hw=>?_,?_⟩
 ·obtain ⟨hw1,hw2,hw3,hw4,hw5⟩:=hw.cells
  go_simp
  rfl
 simp only[Act.put,zA];refine AnyT.one (i:=10) (fuel:=3) (by kernel_rfl) (.inr ⟨_,8,#[.int .i64 a,.int .i64 b,.slice tA nt cp,.slice sA xs.length sc,.int .i64 most],rfl,rfl,λy=>by go_simp,(HPROG.out _ HP2.out.size HP2.out.sc_).mono ?_⟩);rintro v t2 w2 ⟨ab,ov,tv,rfl,htr,hk2⟩;have HP3:=qd (HP2.out.kpt hk2);refine⟨HP3.out,?_⟩;have HT:=qd htr;clear hk2 htr HP2 HPROG;simp only[Act.put,zA];refine AnyT.one (i:=21) (fuel:=2) (by kernel_rfl) (.inl λy τ n hy=>mJ rfl rfl ?_);subst hy;have HP4:=qd HP3.out.re;have HT2:Hid (TraceAt y _ _ _ _ _ _ _ _):=qd (HT.out.same_re);clear HP3 HT;have HRP:=qd (HDOC.out y HP4.out.sc_);clear HDOC;unfold Oper.wp;go_simp;refine HRP.out.mono ?_;rintro e w3 ⟨Aa,ca,ov2,tv2,rfl,htr2,hb3⟩;dsimp only;have hk3:Kpt W y w3:=Kpt.old ⟨hb3.size,λb hb=>hb3.block b hb,hb3.os,hb3.output⟩;have HP5:=qd (HP4.out.kpt hk3);have HT3:=qd (HT2.out.below hb3);have HT4:=qd htr2;clear hk3 hb3 htr2 HRP HT2 HP4;refine⟨HP5.out,?_⟩;refine AnyT.one (i:=22) (fuel:=1) (by kernel_rfl) (.inl λy2 τ n hy=>mJ rfl rfl ?_);subst hy;have HP6:=qd HP5.out.re;have hnm:=HP6.out.sc_.nmx;have HTE:=qd (same3_eq y2 (min nt 64) ans ord sta _ _ (min nt 64) _ _ _ _ _ stk HT3.out.same_re HT4.out.same_re (by unfold maxLen;omega));clear HP5 HT3 HT4 hnm;unfold Oper.wp;go_simp;refine HTE.out.mono ?_;rintro e w4 ⟨rfl,hb4⟩;dsimp only;have hk4:Kpt W y2 w4:=Kpt.old ⟨hb4.size,λb hb=>hb4.block b hb,hb4.os,hb4.output⟩;have HP7:=qd (HP6.out.kpt hk4);clear hk4 hb4 HTE HP6;refine⟨HP7.out,?_⟩;refine AnyT.one (i:=23) (fuel:=0) (by kernel_rfl) (.inl λy3 τ n hy=>mJ rfl rfl ?_);subst hy;have HP8:=qd HP7.out.re;clear HP7;unfold Oper.wp;go_simp;refine⟨HP8.out,?_⟩;refine AnyT.done (by kernel_rfl) ?_ _;refine lgA_rest Try.tame rfl Try.func3 (by kernel_rfl) (λtm w v h w'=>?_) λu τ2 n2 hu=>?_
 ·simp [results,Try.f3] at h ⊢
  exact h
 subst hu;have hio2:=HP8.out.io;clear HP8;refine wp_ret ?_;refine bodyPost_ret (results_tmp rfl _ _ _) rfl ?_;exact⟨rfl,hio2.1,hio2.2⟩
end
end Go.Proofs.Ytlcplealnbekeaa
namespace Go.Proofs.Ytlcplealnbekeaa.soloPlays
open Go.ChangeShapes Go.WideShapes Go.ChangeAt Go.RowKit Go.Deep Go.Turn
theorem own:ownKnob Try.prog.godebug=none:=by kernel_rfl
theorem laidOut:laidOutB Try.prog=true:=by kernel_rfl
theorem lifted (os:Os) (started:os.Started) (H:Type) (enc:TypeId × Value->H) :
  ReturnsInLeavingWide {} Try.checked os 3 .any (Rows.soloPlaysSpec.pre6 enc Try.prog Try.f3 Rows.soloPlaysRow.domain false) (Rows.soloPlaysSpec.post enc Try.prog Try.f3 false true false false):=by
 refine returnsInLeavingWide_of_change_sized (C:=Try.checked) own started Try.func3
  (ChangeSpec.witness6 (enc:=enc) (C:=Try.checked) false ⟨#[],#[.agg #[.int .i64 0,.int .i64 0,.slice none 0 0,.slice none 0 0,.int .i64 0]],[]⟩ 8 (by kernel_rfl) (by kernel_rfl) (by kernel_rfl) (by kernel_rfl)) ?_
 intro W base args ds gs before hval0 hW _ hsz _;have hval:∀ (j:Nat) t v,Try.f3.params[j]?=some t->args[j]?=some v->Value.okWide Try.prog W .any base t v:=hval0;have hW':=hW;obtain⟨p,q,hA0,hV,rfl,hfz,hnd⟩:=hW;have hA:DataW.TrodAll enc Try.prog W 0 (λ_=>true) true Try.f3.params.toList args.toList ds p:=hA0;rw[Try.params3] at hA hval hsz;obtain⟨v0,vs0,d0,ds0,p0,q0,hargs,rfl,rfl,h0,r0⟩:=trodAll_cons hA;obtain⟨rfl,rfl,rfl⟩:=trodAll_nil r0;obtain rfl:args=#[v0]:=by cases args;simp_all
 obtain⟨rfl,rfl⟩:=trodVars_none hV;have hst:=hval 0 25 v0 rfl rfl;unfold Value.okWide at hst;rw[Try.underlying25] at hst;obtain⟨c,rfl,_,_⟩:=hst;have h0k:=h0;have hlt:∀ x∈p0,x.block<W.heap.size:=λx hx=>by simpa using hW'.lt x (by simpa using hx)
 obtain⟨fuel,h0⟩:=h0
 have hw:(DataW.weights Try.prog 25 d0).all (·<=reachBytes)=true:=by
  refine List.all_eq_true.2 λn hn=>?_;exact List.all_eq_true.1 hsz n (DataW.weights_mem_each (j:=0) (t:=25) (d:=d0) rfl rfl n hn)
 obtain⟨a,b,nt,tA,cp,Tb,To,A,len,cap,ops,sA,sc,xs,most,rfl,hscr⟩:=open_world h0 hw;simp only[List.append_nil] at hW';obtain⟨M,last,o,w',t',r1,r2,r3,r4⟩:=run_good Try.tame (splays_true a b cp most hscr);refine⟨M,last,o,w',t',r1,r2,r3,r4.mono λv hF=>?_⟩;have hb:Below W.heap.size W { w' with tape:=W.tape }:=⟨hF.os,rfl,hF.output,hF.size,hF.old⟩;obtain rfl:=hF.val
 exact ⟨_,_,_,[],_,[],hW',trodAll_cons_mk (shut_bool Try.underlying4 _) trodAll_mk0,
  trodAll_cons_mk ((Below.trod laidOut (by kernel_rfl) (of_decide_eq_true (by kernel_rfl)) h0k hb hlt).of_heap (by rfl)) trodAll_mk0,rfl,hF.frame _,λh=>by cases h⟩
theorem over:Rows.soloPlaysRow.holds Try.pinned (OpenSpec.ofChange Rows.soloPlaysSpec):=
 OpenClaim.holds_of_wide_leaving 3 Try.f3 rfl rfl rfl rfl rfl rfl rfl ⟨rfl,rfl,rfl,rfl,rfl⟩ rfl rfl rfl rfl rfl (by kernel_rfl) Try.func3 (by kernel_rfl)
  (of_decide_eq_true (by kernel_rfl)) (by unfold Func.isWrapper;first |(rw[if_pos (by decide +kernel)];kernel_rfl) |(rw[if_neg (by decide +kernel)];exact⟨rfl,rfl⟩))
  (λos started H enc _=>lifted os started H enc)
theorem proved:Rows.SoloPlaysSaid:=over
end Go.Proofs.Ytlcplealnbekeaa.soloPlays
