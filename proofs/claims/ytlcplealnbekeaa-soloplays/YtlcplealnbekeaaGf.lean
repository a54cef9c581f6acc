/- DERIVED. The turnstile (package turn): Over's rounds behind its schedule. -/
import Derived.Test.YtlcplealnbekeaaGe
import Derived.Deep.AppendLies
import Derived.Deep.RegionLaw
import Derived.Test.YtlcplealnbekeaaGd
import Derived.Defers
import Derived.Recover
import Derived.Conc.QuitsD
import Derived.LaidEql
set_option linter.unusedVariables false
set_option maxHeartbeats 2000000
set_option maxRecDepth 100000
namespace Go.Proofs.Ytlcplealnbekeaa
open Go.RowKit Go.Turn Go.Tame Go.Conc
theorem Try.infoStandP:(Try.prog.info? 141).map (λi=>(i.zero,i.size,i.bytes))=some (some (.pointer none),1,8):=by kernel_rfl
structure Stood (j n tb tvb bk rb base:Nat) (w0:World) (v:Value) (sb ps:Nat->Nat) (w:World):Prop where
 ht:Blk w tb 140 #[.chan (some bk),v,.slice (some ⟨rb,0,none⟩) n n]
 own:w.ownsRow base 141 1 v j ((List.range j).map λi=>Value.pointer (some ⟨sb i,0,none⟩))
 s:∀ i,i<j->Blk w (sb i) 144 #[.pointer (some ⟨tb,0,none⟩),.chan (some (ps i)),.bool false]
 p:∀ i,i<j->w.heap[ps i]?=some (.chan 0 #[] false 0 0 false)
 lo:∀ i,i<j->base<=sb i/\base<=ps i
 inj:∀ i k,i<j->k<j->ps i=ps k->i=k
 old:w0.heap.size<=w.heap.size/\(∀ b,b<base->b≠tb->w.heap[b]?=w0.heap[b]?)/\w.os=w0.os/\w.output=w0.output
 le:base<=w.heap.size
structure Sl (f:Nat->Value) (tvb bn bo bm:Nat):Prop where
 f5:f 5=.pointer (some ⟨bm,0,none⟩)
 f6:f 6=.pointer (some ⟨bo,0,none⟩)
 f7:f 7=.bool false
 f9:f 9=.pointer (some ⟨bn,0,none⟩)
 f10:f 10=.pointer (some ⟨tvb,0,none⟩)
def lS (j n tb tvb bk rb base:Nat) (w0 w:World):Prop:=∃ v sb ps,Stood j n tb tvb bk rb base w0 v sb ps w
theorem three_last (v:World) (o1 o2 o3:Obj):(((v.alloc o1).alloc o2).alloc o3).drew.heap[v.heap.size+1+1]?=some o3:=by
 have e2:((v.alloc o1).alloc o2).heap.size=v.heap.size+1+1:=by simp
 rw[<-e2];exact heap_alloc_new _ o3
theorem jF (v:World) (o1 o2 o3:Obj):(((v.alloc o1).alloc o2).alloc o3).drew.heap.size=v.heap.size+3:=by
 show (((v.alloc o1).alloc o2).alloc o3).heap.size=_
 simp
theorem lG (v:World) (o1 o2 o3:Obj) (b:Nat) (hb:b<v.heap.size):(((v.alloc o1).alloc o2).alloc o3).drew.heap[b]?=v.heap[b]?:=by
 show (((v.alloc o1).alloc o2).alloc o3).heap[b]?=_
 rw[Below.heap_alloc _ _ _ (by simp;omega),Below.heap_alloc _ _ _ (by simp;omega),Below.heap_alloc _ _ _ hb]
theorem hZ (v:World) (o1 o2 o3:Obj) (b i:Nat) (hb:b<v.heap.size):(((v.alloc o1).alloc o2).alloc o3).drew.cell? ⟨b,i,none⟩=v.cell? ⟨b,i,none⟩:=World.cell?_of_block (lG v o1 o2 o3 b hb)
theorem three_froz (v:World) (o1 o2 o3:Obj) (b i:Nat) (hb:b<v.heap.size):(((v.alloc o1).alloc o2).alloc o3).drew.frozen? ⟨b,i,none⟩=v.frozen? ⟨b,i,none⟩:=World.frozen?_of_block (lG v o1 o2 o3 b hb)
theorem two_old (v:World) (o1 o2:Obj) (b:Nat) (hb:b<v.heap.size):((v.alloc o1).alloc o2).drew.heap[b]?=v.heap[b]?:=by
 show ((v.alloc o1).alloc o2).heap[b]?=_
 rw[Below.heap_alloc _ _ _ (by simp;omega),Below.heap_alloc _ _ _ hb]
theorem two_cell (v:World) (o1 o2:Obj) (b i:Nat) (hb:b<v.heap.size):((v.alloc o1).alloc o2).drew.cell? ⟨b,i,none⟩=v.cell? ⟨b,i,none⟩:=World.cell?_of_block (two_old v o1 o2 b hb)
theorem cC (v:World) (o1:Obj) (b i:Nat) (hb:b<v.heap.size):(v.alloc o1).drew.cell? ⟨b,i,none⟩=v.cell? ⟨b,i,none⟩:=World.cell?_of_block (show (v.alloc o1).heap[b]?=_ from Below.heap_alloc _ _ _ hb)
theorem Stood.snoc {j n tb tvb bk rb base:Nat}{w0 wr w1:World}{A:Option Addr}{c gg cap':Nat}{sb ps:Nat->Nat}{o:Obj}(st:Stood j n tb tvb bk rb base w0 (.slice A j c) sb ps wr) (hlt:tb<base)
  (hown:w1.ownsRow base 141 1 (.slice (some ⟨gg,0,none⟩) (j+1) cap') (j+1) (((List.range j).map λi=>Value.pointer (some ⟨sb i,0,none⟩))++[.pointer (some ⟨wr.heap.size+1,0,none⟩)]))
  (hgrow:((((wr.alloc (Obj.chan 0 #[] false 0 0 false)).alloc (Obj.cells #[.pointer (some ⟨tb,0,none⟩),.chan (some wr.heap.size),.bool false] 144)).alloc o).drew).grownBy w1 (Value.slice A j c).ownBlock):lS (j+1) n tb tvb bk rb base w0 (w1.setCell ⟨tb,1,none⟩ (.slice (some ⟨gg,0,none⟩) (j+1) cap')):=by
 have hg:∀ b,(Value.slice A j c).ownBlock=some b->base<=b/\b<wr.heap.size/\∃ cur,wr.heap[b]?=some (.cells cur 141 (0,0)):=λb hb=>by
  rcases st.own.2 with⟨h1,_⟩ | ⟨g,c',cur,h1,h2,h3,_⟩
  ·rw [h1] at hb;simp[Value.ownBlock] at hb
  ·rw [h1] at hb
   simp only[Value.ownBlock,Option.some.injEq] at hb;subst hb;exact⟨h2,aB h3,cur,h3⟩
 have hsz:=jF wr (Obj.chan 0 #[] false 0 0 false) (Obj.cells #[.pointer (some ⟨tb,0,none⟩),.chan (some wr.heap.size),.bool false] 144) o;have hsize:=hgrow.size;rw[hsz] at hsize;have key:∀ b,b<wr.heap.size->(Value.slice A j c).ownBlock≠some b->w1.heap[b]?=wr.heap[b]?:=λb hb hne=>(hgrow.block b (by rw[hsz];omega) (λz=>hne z.symm)).trans (lG _ _ _ _ _ hb);have far:∀ b,b≠tb->(w1.setCell ⟨tb,1,none⟩ (.slice (some ⟨gg,0,none⟩) (j+1) cap')).heap[b]?=w1.heap[b]?:=λb hb=>Below.heap_setCell _ _ _ _ hb;have e1:((wr.alloc (Obj.chan 0 #[] false 0 0 false)).alloc (Obj.cells #[.pointer (some ⟨tb,0,none⟩),.chan (some wr.heap.size),.bool false] 144)).heap.size=wr.heap.size+2:=by simp
 have e0:(wr.alloc (Obj.chan 0 #[] false 0 0 false)).heap.size=wr.heap.size+1:=by simp
 have n1:w1.heap[wr.heap.size]?=some (.chan 0 #[] false 0 0 false):=by
  refine(hgrow.block _ (by rw[hsz];omega) (λz=>by have:=hg _ z.symm;omega)).trans ?_
  show (((wr.alloc (Obj.chan 0 #[] false 0 0 false)).alloc _).alloc o).heap[wr.heap.size]?=_
  rw[Below.heap_alloc _ _ _ (by rw[e1];omega),Below.heap_alloc _ _ _ (by rw[e0];omega)];exact heap_alloc_new _ _
 have n2:w1.heap[wr.heap.size+1]?=some (.cells #[.pointer (some ⟨tb,0,none⟩),.chan (some wr.heap.size),.bool false] 144 (0,0)):=by
  refine(hgrow.block _ (by rw[hsz];omega) (λz=>by have:=hg _ z.symm;omega)).trans ?_
  show (((wr.alloc (Obj.chan 0 #[] false 0 0 false)).alloc _).alloc o).heap[wr.heap.size+1]?=_
  rw[Below.heap_alloc _ _ _ (by rw[e1];omega),<-e0];exact heap_alloc_new _ _
 have htl:tb<wr.heap.size:=st.ht.lt;have hle:=st.le;have slt:∀ i,i<j->sb i<wr.heap.size:=λi hi=>(st.s i hi).lt;have plt:∀ i,i<j->ps i<wr.heap.size:=λi hi=>aB (st.p i hi)
 have sne:∀ i,i<j->(Value.slice A j c).ownBlock≠some (sb i):=λi hi z=>by
  obtain⟨_,_,cur,h⟩:=hg _ z;have:=st.s i hi;unfold Blk at this;rw[h] at this
  simp at this
 have pne:∀ i,i<j->(Value.slice A j c).ownBlock≠some (ps i):=λi hi z=>by
  obtain⟨_,_,cur,h⟩:=hg _ z;have:=st.p i hi;rw[h] at this;cases this
 refine⟨.slice (some ⟨gg,0,none⟩) (j+1) cap',λi=>if i=j then wr.heap.size+1 else sb i,λi=>if i=j then wr.heap.size else ps i,?_,?_,λi hi=>?_,λi hi=>?_,λi hi=>?_,λi k hi hk h=>?_,?_,?_⟩
 ·exact (show Blk w1 tb _ _ from (key tb htl (λz=>by have:=hg _ z;omega)).trans st.ht).set_ 1 _
 ·have e:((List.range (j+1)).map λi=>Value.pointer (some ⟨if i=j then wr.heap.size+1 else sb i,0,none⟩))=((List.range j).map λi=>Value.pointer (some ⟨sb i,0,none⟩))++[.pointer (some ⟨wr.heap.size+1,0,none⟩)]:=by
   rw[List.range_succ,List.map_append,List.map_cons,List.map_nil,if_pos rfl]
   congr 1
   apply List.map_congr_left;intro i hi;rw[if_neg (by have:=List.mem_range.1 hi;omega)]
  rw[e];exact dI (Z:=λb=>b=tb) hown (Kept.setCell (S:=λb=>b=tb) w1 (p:=⟨tb,1,none⟩) rfl _) (λb h1 h2=>by omega)
 ·by_cases e:i=j
  ·subst e
   simp only[if_true];exact(far _ (by omega)).trans n2
  ·simp only [e,if_false]
   have h1:=st.lo i (by omega);exact((far _ (by omega)).trans (key _ (slt i (by omega)) (sne i (by omega)))).trans (st.s i (by omega))
 ·by_cases e:i=j
  ·subst e
   simp only[if_true];exact(far _ (by omega)).trans n1
  ·simp only [e,if_false]
   have h1:=st.lo i (by omega);exact((far _ (by omega)).trans (key _ (plt i (by omega)) (pne i (by omega)))).trans (st.p i (by omega))
 ·by_cases e:i=j
  ·simp only [e,if_true];omega
  ·simp only [e,if_false];exact st.lo i (by omega)
 ·by_cases e1:i=j <;> by_cases e2:k=j
  ·omega
  ·simp only [e1,e2,if_true,if_false] at h
   have:=plt k (by omega);omega
  ·simp only [e1,e2,if_true,if_false] at h
   have:=plt i (by omega);omega
  ·simp only [e1,e2,if_false] at h
   exact st.inj i k (by omega) (by omega) h
 ·refine ⟨?_,λb hb hne=>?_,hgrow.os.trans st.old.2.2.1,hgrow.output.trans st.old.2.2.2⟩
  ·have:=st.old.1; simp[World.setCell];omega
  ·exact ((far b hne).trans (key b (by omega) (λz=>by have:=hg _ z;omega))).trans (st.old.2.1 b hb hne)
 ·simp [World.setCell];omega
theorem Stood.zero {n tb tvb bk rb:Nat}{w:World}(ht:Blk w tb 140 #[.chan (some bk),.slice none 0 0,.slice (some ⟨rb,0,none⟩) n n]):lS 0 n tb tvb bk rb w.heap.size w w:=
 ⟨_,λ_=>0,λ_=>0,ht,⟨rfl,.inl ⟨rfl,rfl⟩⟩,λ_ h=>by omega,λ_ h=>by omega,λ_ h=>by omega,λ_ _ h=>by omega,⟨Nat.le_refl _,λ_ _ _=>rfl,rfl,rfl⟩,Nat.le_refl _⟩
theorem pV {κ:Type}(L:Lg Try.prog κ) (hs:¬L.strict) {b:Frame}{k:List Item}{mid:List Frame}{t:κ}(tA:Option Addr) (nt cap:Nat) (sv:Value) (most:Int) {w0 w:World}{f:Nat->Value}{n mm tvb tb bk rb bn bo bm:Nat}(hn:n<=64) (M:Made n mm w0 f w tvb tb bk rb bn bo bm) (hb:Blk w tb 140 #[.chan (some bk),.slice none 0 0,.slice (some ⟨rb,0,none⟩) n n])
  (hT:∀ w',lS n n tb tvb bk rb w.heap.size w w'->∀ f',Sl f' tvb bn bo bm->L.T t (b.at ⟨iH f' (#[.slice tA nt cap,sv,.int .i64 most]++Array.replicate (Try.f42.ntmps-3) undef) ns1,[]⟩ (.code (aF (aF (aF (aF (aF (Try.f42.body.getD .skip))))))::k)) mid w') :
  L.T t (b.at ⟨iH f (#[.slice tA nt cap,sv,.int .i64 most]++Array.replicate (Try.f42.ntmps-3) undef) ns1,[]⟩ (.code (aF (aF (aF (aF (Try.f42.body.getD .skip)))))::k)) mid w:=by
 simp only[Try.f42,Option.getD_some,Nat.reduceSub,Array.replicate_succ,Array.replicate_zero,List.push_toArray,List.append_toArray,List.nil_append,List.cons_append,aF] at hT ⊢;have HT:=qd hT;clear hT;simp only[iH,fK,ns1,List.range',List.cons_append,List.nil_append,List.set_cons_zero,List.set_cons_succ,Nat.reduceAdd];simp only[M.f5,M.f6,M.f7,M.f9,M.f10];refine Lg.move _ (λ_ _=>step_seq) id ?_;refine Lg.qU hs (List.range' 29 17) (λf' w'=>lS n n tb tvb bk rb w.heap.size w w') (λv τ' n' hv=>?_) ?_
 ·have hN:Blk v bn 3 #[.int .i64 n]:=by have:=M.hn;rw[hv] at this;exact this
  have hV:Blk v tvb 136 #[.pointer (some ⟨tb,0,none⟩)]:=by have:=M.tv;rw[hv] at this;exact this
  have hB:Blk v tb 140 #[.chan (some bk),.slice none 0 0,.slice (some ⟨rb,0,none⟩) n n]:=by have:=hb;rw[hv] at this;exact this
  have h0:lS 0 n tb tvb bk rb w.heap.size w v:=by
   obtain⟨v0,sb,ps,h⟩:=Stood.zero (tvb:=tvb) hb;rw[hv] at h ⊢;exact⟨v0,sb,ps,⟨h.ht,h.own,h.s,h.p,h.lo,h.inj,h.old,h.le⟩⟩
  have hlt:tvb<w.heap.size/\tb<w.heap.size/\bn<w.heap.size:=⟨M.tv.lt,hb.lt,M.hn.lt⟩;have hne:tvb≠tb:=λe=>by have:=M.tv;unfold Blk at this;rw[e,show w.heap[tb]?=_ from hb] at this;cases this
  have htv:w.heap[tvb]?=some (.cells #[.pointer (some ⟨tb,0,none⟩)] 136 (0,0)):=M.tv;have c1:v.cell? ⟨bn,0,none⟩=some (.int .i64 n):=hN.cell 0;have H0:=qd h0;have HN:=qd hN;have HV:=qd hV;have HB:=qd hB;have hS:=qd hlt;have HW:=qd htv;generalize w.heap.size=base at *;clear hv h0 hN hV hB M hlt hb HT htv;go_wp2
  go_loopw [30] (λi wr=>∃ j:Nat,j<=n/\i=.int .i64 j/\lS j n tb tvb bk rb base w wr) (λi _=>n-(intOf i).toNat)
  case atStart=>exact⟨0,Nat.zero_le _,rfl,H0.out⟩
  case round =>
   obtain⟨j,hj,rfl,hst⟩:=hrel;obtain⟨hl1,hl2,hl3⟩:=hS.out;obtain⟨sv',sb,ps,st⟩:=hst
   by_cases hlt:j<n
   ·obtain ⟨i0,hi0,hz0,hz1,hz2⟩:=info_parts Try.infoStandP
    have hown:=st.own
    have htv:wr.cell? ⟨tvb,0,none⟩=some (.pointer (some ⟨tb,0,none⟩)):=by
     have:=st.old.2.1 tvb hl1 hne;rw[HW.out] at this;exact(show Blk wr tvb _ _ from this).cell 0
    have hts:wr.cell? ⟨tb,1,none⟩=some sv':=st.ht.cell 1;have htf:wr.frozen? ⟨tb,1,none⟩=false:=st.ht.frozen 1;have hle:=st.le;have hj64:j<64:=by omega
    obtain⟨A,c,rfl⟩:=jI hown;have ST:=qd st;have HO:=qd hown;have hmk:=make_pass;clear st hown;have hcap:j+1<=maxLen:=by unfold maxLen;omega
    have hby:(j+1)*8<=140737488355328:=by omega
    have hbl:base<=wr.heap.size+3:=by omega
    have hob:∀ i,i<base->(Value.slice A j c).ownBlock≠some i:=λi hi=>by
     rcases HO.out.2 with⟨h1,_⟩ | ⟨g,c',cur,h1,h2,_⟩
     ·rw [h1];simp[Value.ownBlock]
     ·rw [h1];simp[Value.ownBlock];omega
    have ob1:=hob tvb hl1;have ob2:=hob tb hl2;have gl1:tvb<wr.heap.size:=by omega
    have gl2:tb<wr.heap.size:=by omega
    have gl3:tvb<wr.heap.size+1:=by omega
    have gl4:tb<wr.heap.size+1:=by omega
    have gl5:tvb<wr.heap.size+1+1:=by omega
    have gl6:tb<wr.heap.size+1+1:=by omega
    clear hob;have kv:=λo1 o2 o3=>(hZ wr o1 o2 o3 _ 0 gl1).trans htv;have kf:=λo1 o2 o3=>(three_froz wr o1 o2 o3 _ 1 gl2).trans htf;have kt:=λo1 o2 o3=>(hZ wr o1 o2 o3 _ 1 gl2).trans hts;go_wp2;refine fV (S:=λw'=>w'.cell? ⟨tvb,0,none⟩=some (.pointer (some ⟨tb,0,none⟩))/\w'.cell? ⟨tb,1,none⟩=some (.slice A j c)) 13 (by kernel_rfl) (by kernel_rfl) (by kernel_rfl) ?_;simp only[idle,zB,Nat.reduceAdd];have HS:wr.drew.cell? ⟨tvb,0,none⟩=some (.pointer (some ⟨tb,0,none⟩))/\wr.drew.cell? ⟨tb,1,none⟩=some (.slice A j c):=⟨htv,hts⟩;refine aU (i:=0) (some 32) rfl rfl (by kernel_rfl) (by kernel_rfl) (by kernel_rfl) (λ_ _ _ h=>h) rfl HS ?_;apply Exists.intro;refine⟨λwq hw=>?_,?_⟩
    ·obtain ⟨hw1,hw2⟩:=hw
     go_simp
     rfl
    simp only[Act.put,zA];refine aU (i:=1) (some 33) rfl rfl (by kernel_rfl) (by kernel_rfl) (by kernel_rfl) (λ_ _ _ h=>h) rfl HS ?_;apply Exists.intro;refine⟨λwq hw=>?_,?_⟩
    ·obtain ⟨hw1,hw2⟩:=hw
     go_simp
     rfl
    simp only[Act.put,zA];refine aU (i:=2) (some 34) rfl rfl (by kernel_rfl) (by kernel_rfl) (by kernel_rfl) (λ_ _ _ h=>h) rfl HS ?_;apply Exists.intro;refine⟨λwq hw=>?_,?_⟩
    ·obtain ⟨hw1,hw2⟩:=hw
     go_simp
     rfl
    simp only[Act.put,zA];refine aU (i:=3) (some 35) rfl rfl (by kernel_rfl) (by kernel_rfl) (by kernel_rfl) (λ_ _ _ h=>h) rfl HS ?_;apply Exists.intro;refine⟨λwq hw=>?_,?_⟩
    ·obtain ⟨hw1,hw2⟩:=hw
     go_simp
     rfl
    simp only[Act.put,zA];refine aU (i:=4) (some 36) rfl rfl (by kernel_rfl) (by kernel_rfl) (by kernel_rfl) (λ_ _ _ h=>h) rfl HS ?_;apply Exists.intro;refine⟨λwq hw=>?_,?_⟩
    ·obtain ⟨hw1,hw2⟩:=hw
     go_simp
     rfl
    simp only[Act.put,zA];refine aU (i:=5) (some 37) rfl rfl (by kernel_rfl) (by kernel_rfl) (by kernel_rfl) (λ_ _ _ h=>h) rfl HS ?_;apply Exists.intro;refine⟨λwq hw=>?_,?_⟩
    ·obtain ⟨hw1,hw2⟩:=hw
     go_simp
     rfl
    simp only[Act.put,zA];clear HS;refine dU (i:=6) (by kernel_rfl) rfl rfl λK hK=>?_;go_simp;refine hK _ _ ⟨(cC wr _ tvb 0 gl1).trans htv,(cC wr _ tb 1 gl2).trans hts⟩ ?_;clear hK K;have HS:(wr.alloc (Obj.chan 0 #[] false 0 0 false)).drew.cell? ⟨tvb,0,none⟩=some (.pointer (some ⟨tb,0,none⟩))/\(wr.alloc (Obj.chan 0 #[] false 0 0 false)).drew.cell? ⟨tb,1,none⟩=some (.slice A j c):=⟨(cC wr _ tvb 0 gl1).trans htv,(cC wr _ tb 1 gl2).trans hts⟩;refine aU (i:=7) (some 39) rfl rfl (by kernel_rfl) (by kernel_rfl) (by kernel_rfl) (λ_ _ _ h=>h) rfl HS ?_;apply Exists.intro;refine⟨λwq hw=>?_,?_⟩
    ·obtain ⟨hw1,hw2⟩:=hw
     go_simp
     rfl
    simp only[Act.put,zA];clear HS;refine dU (i:=8) (by kernel_rfl) rfl rfl λK hK=>?_;go_simp;refine hK _ _ ⟨(two_cell wr _ _ tvb 0 gl1).trans htv,(two_cell wr _ _ tb 1 gl2).trans hts⟩ ?_;clear hK K;refine dU (i:=9) (by kernel_rfl) rfl rfl λK hK=>?_;go_simp;refine hK _ _ ⟨(hZ wr _ _ _ tvb 0 gl1).trans htv,(hZ wr _ _ _ tb 1 gl2).trans hts⟩ ?_;clear hK K;refine dU (i:=10) (by kernel_rfl) rfl rfl λK hK=>?_;refine wp_append_lies _ _ _ _ rfl base 141 i0 _ 1 8 Try.underlying138 hi0 hz0 hz1 hz2 rfl (by omega) (.slice A j c) j ((List.range j).map λi=>Value.pointer (some ⟨sb i,0,none⟩)) rfl (((HO.out.alloc _).alloc _).alloc _).drew ⟨wr.heap.size+1+1,0,none⟩ 1 1 [.pointer (some ⟨wr.heap.size+1,0,none⟩)] rfl rfl (World.news_of_block (cs:=#[.pointer (some ⟨wr.heap.size+1,0,none⟩)]) (t:=141) (fr:=(0,0)) (three_last _ _ _ _)) (by simp[Value.oneCell']) (by omega) hcap hby (by rw[jF];exact hbl) (wr.heap.size+3) (jF _ _ _ _) λgg cap' w1 hown1 hgrow hat hgl=>?_;have ln1:=(jF wr (Obj.chan 0 #[] false 0 0 false) (Obj.cells #[.pointer (some ⟨tb,0,none⟩),.chan (some wr.heap.size),.bool false] 144) (Obj.cells #[.pointer (some ⟨wr.heap.size+1,0,none⟩)] 141));have kv1:=(hgrow.cell_far ⟨tvb,0,none⟩ (by rw[ln1];show tvb<_;omega) ob1.symm).trans (kv _ _ _);have kt1:=(hgrow.cell_far ⟨tb,1,none⟩ (by rw[ln1];show tb<_;omega) ob2.symm).trans (kt _ _ _);have kf1:=(hgrow.frozen_far ⟨tb,1,none⟩ (by rw[ln1];show tb<_;omega) ob2.symm).trans (kf _ _ _);refine hK _ _ ⟨kv1,kt1⟩ ?_;clear hK K;have HS:w1.cell? ⟨tvb,0,none⟩=some (.pointer (some ⟨tb,0,none⟩))/\w1.cell? ⟨tb,1,none⟩=some (.slice A j c):=⟨kv1,kt1⟩;simp only[Act.put,zA,List.getElem_toArray,List.getElem_cons_zero,List.getElem_cons_succ];refine aU (i:=11) (some 43) rfl rfl (by kernel_rfl) (by kernel_rfl) (by kernel_rfl) (λ_ _ _ h=>h) rfl HS ?_;apply Exists.intro;refine⟨λwq hw=>?_,?_⟩
    ·obtain ⟨hw1,hw2⟩:=hw
     go_simp
     rfl
    simp only[Act.put,zA];refine aU (i:=12) (some 44) rfl rfl (by kernel_rfl) (by kernel_rfl) (by kernel_rfl) (λ_ _ _ h=>h) rfl HS ?_;apply Exists.intro;refine⟨λwq hw=>?_,?_⟩
    ·obtain ⟨hw1,hw2⟩:=hw
     go_simp
     rfl
    simp only[Act.put,zA];refine aU (i:=13) none rfl rfl (by kernel_rfl) (by kernel_rfl) (by kernel_rfl) (λ_ _ _ h=>h) rfl HS ?_;apply Exists.intro;refine⟨λwq hw=>?_,?_⟩
    ·go_simp
     rfl
    simp only[Act.put];clear HS;refine wpAnyH_done (by kernel_rfl) ?_ _;simp only[Exit.then];refine aX (m:=13) rfl ?_;have HG:=qd hgrow;have HO1:=qd hown1;clear hgrow hown1 kv kt kf hat;go_wp2;refine⟨⟨j+1,by omega,by go_num,?_⟩,by simp[intOf];omega⟩;exact Stood.snoc ST.out hl2 HO1.out HG.out
   ·go_wp2
    have hjn:j=n:=by omega
    subst hjn;refine⟨rfl,?_,?_⟩
    ·simp only [era,pC,List.range',List.set_cons_zero,List.set_cons_succ,Nat.reduceAdd]
    ·exact ⟨_,sb,ps,st⟩
 intro f' w' hst;simp only[iH,fK,List.range',List.set_cons_zero,List.set_cons_succ,Nat.reduceAdd];refine Lg.reframe ns1 (λf2 hR=>HT.out w' hst f2 hR) ?_ ?_
 ·simp only [era,pC,ns1,List.cons_append,List.nil_append,List.range',List.set_cons_zero,List.set_cons_succ,Nat.reduceAdd]
 exact⟨rfl,rfl,rfl,rfl,rfl⟩
noncomputable def gbot:Frame:={ (default:Frame) with fn:=Try.prog.funcs.size,defers:=[],mode:=.panicking [goexitEntry] }
noncomputable def finD (b3 b6 b4:Nat):Deferred:={ target:=.fn (.func 74) #[.pointer (some ⟨b3,0,none⟩),.pointer (some ⟨b6,0,none⟩),.pointer (some ⟨b4,0,none⟩)],args:=#[] }
theorem lgTo_end {P:Program}{tail:List Frame}{GS:Frame->List Frame->World->Prop}{fr:Frame}{mid:List Frame}{x:World}(hre:∀ τ n,GS fr mid (x.re τ n)):(lgTo P tail GS).T () fr mid x:=λτ n=>⟨fr,mid,x.re τ n,.refl ..,hre τ n⟩
theorem Lg.deferred {P:Program}{κ:Type}{L:Lg P κ}(hs:¬L.strict) {t:κ}{fr:Frame}{mid:List Frame}{x:World}{d:Deferred}{ds:List Deferred}{fv:Fn}{cap:Array Value}{f:FuncId}{args:Array Value}(hm:fr.mode≠.run) (hd:fr.defers=d::ds) (ht:d.target=.fn fv cap)
  (hi:∀ w,(invoke d.target d.args).run P w=.ok (.enter f args) w) (hT:L.T t (Frame.enter P f args .deferred) ({ fr with defers:=ds }::mid) x):L.T t fr mid x:=by
 refine L.steps λy τ n hy=>⟨_,{ fr with defers:=ds }::mid,y,.one (step_defer hm hd ht (hi y)),λz=>absurd z hs,?_⟩;rw[hy] at hT;exact L.re_iff.1 hT
theorem Lg.recovered {P:Program}{κ:Type}{L:Lg P κ}(hs:¬L.strict) {t:κ}{b c c':Frame}{a:Act}{ops:Array Oper}{i:Nat}{rest:List Nat}{k:List Item}{mid:List Frame}{x:World}{o:Oper}{v:Value}(ho:ops[i]?=some o) (hw:Region.wanted o (yielded ops a.tmps)=true) (hb:b.kind=.deferred)
  (hr:∀ w,(execOp a.eval o).run P w=.ok .recover w) (hv:(∀ cs,tryRecover (b.at a (.inRegion ops (i::rest)::k)) (c::cs)=some (v,c'::cs))\/((∀ cs,tryRecover (b.at a (.inRegion ops (i::rest)::k)) (c::cs)=none)/\c'=c/\v=.nilIface)) (hT:L.T t (b.at (a.put o.dst v) (.inRegion ops rest::k)) (c'::mid) x):L.T t (b.at a (.inRegion ops (i::rest)::k)) (c::mid) x:=by
 refine L.steps λy τ n hy=>⟨_,c'::mid,y,.one (step_lone_go (fr':=b.at (a.put o.dst v) (.inRegion ops rest::k)) (cs':=c'::mid++L.tail) ?_),λz=>absurd z hs,?_⟩
 ·rw [stepG_op ho hw]
  have hround:(b.at a (.inRegion ops (i::rest)::k)).roundOf=none:=rfl;rw[<-eU (b:=b) (rest:=rest) (k:=k) ho]
  rcases hv with hv | ⟨hv,rfl,rfl⟩
  ·have:=hv (mid++L.tail)
   simp[stepG.apply,hr,hround,this]
  ·have:=hv (mid++L.tail)
   simp[stepG.apply,hr,hround,this]
 ·rw [hy] at hT
  exact L.re_iff.1 hT
@[go_sem] theorem re_cell (w:World) (τ:Nat->Question->Nat) (n:Nat) (a:Addr):(w.re τ n).cell? a=w.cell? a:=rfl
@[go_sem] theorem re_froz (w:World) (τ:Nat->Question->Nat) (n:Nat) (a:Addr):(w.re τ n).frozen? a=w.frozen? a:=rfl
theorem fM (w:World) (τ:Nat->Question->Nat) (n:Nat):(w.re τ n).heap=w.heap:=rfl
theorem cF {w:World}{a:Addr}{v:Value}{o:Obj}(h:w.cell? a=some v):(w.alloc o).cell? a=some v:=by
 rw[World.cell?_of_block (Below.heap_alloc w o a.block (block_lt_of_cell h)),h]
theorem mS {w:World}{a:Addr}{v:Value}{o:Obj}(h:w.cell? a=some v) (hf:w.frozen? a=false):(w.alloc o).frozen? a=false:=by
 rw[World.frozen?_of_block (Below.heap_alloc w o a.block (block_lt_of_cell h)),hf]
theorem assert_nil (w:World):(Instr.typeAssert .nilIface 20 151 true).run Try.prog w=.ok (.tuple #[.agg #[.nilIface],.bool false]) w:=by kernel_rfl
theorem assert_end (v:Value) (w:World):(Instr.typeAssert (.iface 151 (.agg #[v])) 20 151 true).run Try.prog w=.ok (.tuple #[.agg #[v],.bool true]) w:=by kernel_rfl
theorem run_fin (hP:Prog Try.prog) (e:Env Try.prog) (i:Nat) (tm:Array Value) (todo:List Item) (b3 b6 b4:Nat) {s:e.S}{H₀:Nat->Prop}{x:World}(hrep:e.Rep s H₀ x)
  (h3:x.heap[b3]?=some (.cells #[.pointer (some ⟨e.g.tb,0,none⟩)] 136 (0,0))) (h6:x.heap[b6]?=some (.cells #[.bool true] 4 (0,0))) (h4:x.heap[b4]?=some (.cells #[.int .i64 i] 3 (0,0))) (hn:e.g.n<=64) :
  Th e i (.ret s) { (baseD 66).at ⟨tm,[finD b3 b6 b4]⟩ todo with mode:=.returning } [gbot] x:=by
 refine th_end hP hrep λov br x' tv hi f1 f2 hsame hns1 hns2=>?_;have g3:x'.cell? ⟨b3,0,none⟩=some (.pointer (some ⟨e.g.tb,0,none⟩)):=by simp[World.cell?,(hsame _ _ _ _ h3 (by decide)).trans h3]
 have g6:x'.cell? ⟨b6,0,none⟩=some (.bool true):=by simp[World.cell?,(hsame _ _ _ _ h6 (by decide)).trans h6]
 have g4:x'.cell? ⟨b4,0,none⟩=some (.int .i64 i):=by simp[World.cell?,(hsame _ _ _ _ h4 (by decide)).trans h4]
 have m3:b3≠e.g.sb i:=λh=>by
  have:=tv.s1 i hi;rw[<-h] at this
  simp[World.cell?,(hsame _ _ _ _ h3 (by decide)).trans h3] at this
 have tb0:=tv.b 0 (by omega);have hne:e.g.sb i≠e.g.rb:=λh=>by have:=tv.s0 i hi;rw[h,tb0] at this;cases this
 have r3:b3≠e.g.rb:=λh=>by have:=g3;rw[h,tb0] at this;cases this
 have r4:b4≠e.g.rb:=λh=>by have:=g4;rw[h,tb0] at this;cases this
 have rt:e.g.tb≠e.g.rb:=λh=>by have:=tv.t0;rw[h,tb0] at this;cases this
 have ra:e.g.ab≠e.g.rb:=λh=>by have:=tv.a i hi;rw[h,tv.b i hi] at this;cases this
 suffices H:(lgTo Try.prog [aV Try.prog] λf m y=>∃ m0,m=m0/\Fin Try.prog e.g f m/\Eff e i H₀ x' y).T () { (baseD 66).at ⟨tm,[finD b3 b6 b4]⟩ todo with mode:=.returning } [gbot] x' by
  intro τ m;obtain⟨f,md,y,h1,_,_,h2,h3⟩:=H τ m;exact⟨f,md,y,h1,h2,h3⟩
 refine Lg.deferred id (by simp) (d:=finD b3 b6 b4) (f:=74) (args:=#[.pointer (some ⟨b3,0,none⟩),.pointer (some ⟨b6,0,none⟩),.pointer (some ⟨b4,0,none⟩)]) rfl rfl (λw=>by simp[finD,invoke,callFunc,Try.func74,Try.f74]) ?_;rw[enter_atD _ Try.func74 rfl];simp only[Try.f74,List.size_toArray,List.length_cons,List.length_nil,Nat.reduceAdd,Nat.reduceSub,Array.replicate_succ,Array.replicate_zero,List.push_toArray,List.append_toArray,List.nil_append,List.cons_append];refine Lg.move _ (λ_ _=>step_seq) id ?_;refine Lg.move _ (λ_ _=>step_region) id ?_;refine Lg.recovered id (i:=0) (rest:=[1]) rfl rfl rfl (λw=>by simp[execOp,go_sem,resolve]) (.inr ⟨λcs=>by simp[tryRecover,Frame.at,baseD],rfl,rfl⟩) ?_;refine Lg.pre 1 1 0 (by simp) λK hK y τ n hy=>?_;subst hy;simp only[Act.put,List.drop_succ_cons,List.drop_zero,List.take_succ_cons,List.take_zero];walk_nrm;go_wp2;refine hK _ _ (λh=>h.elim) ?_;clear hK K;refine Lg.move _ (λ_ _=>step_region_end) id ?_;refine Lg.move _ (λ_ _=>step_seq) id ?_;refine Lg.move _ (λ_ _=>step_seq) id ?_;have ha:=assert_nil;refine Lg.code λK hK u τ2 n2 hu=>?_;subst hu;go_wp2;refine hK _ _ (λh=>h.elim) ?_;clear hK K ha;have k3:=cF (o:=.cells #[.nilIface] 151) (show u.cell? _=_ from g3);have k6:=cF (o:=.cells #[.nilIface] 151) (show u.cell? _=_ from g6);have k4:=cF (o:=.cells #[.nilIface] 151) (show u.cell? _=_ from g4);have kt0:=cF (o:=.cells #[.nilIface] 151) (show u.cell? _=_ from tv.t0);have kt1:=cF (o:=.cells #[.nilIface] 151) (show u.cell? _=_ from tv.t1);have kt2:=cF (o:=.cells #[.nilIface] 151) (show u.cell? _=_ from tv.t2);have ka:=cF (o:=.cells #[.nilIface] 151) (show u.cell? _=_ from tv.a i hi);have ks:=cF (o:=.cells #[.nilIface] 151) (show u.cell? _=_ from tv.s2 i hi);have kb:=cF (o:=.cells #[.nilIface] 151) (show u.cell? _=_ from tv.b i hi);have ks0:=cF (o:=.cells #[.nilIface] 151) (show u.cell? _=_ from tv.s0 i hi);have hlt:e.g.rb<u.heap.size:=block_lt_of_cell (show u.cell? _=_ from tv.b i hi);have ko:∀ j,(u.alloc (.cells #[.nilIface] 151)).cell? ⟨e.g.rb,j,none⟩=u.cell? ⟨e.g.rb,j,none⟩:=λj=>World.cell?_of_block (Below.heap_alloc u _ e.g.rb hlt)
 have ksh:∀ b,H₀ b->(u.alloc (.cells #[.nilIface] 151)).heap[b]?=u.heap[b]?:=λb hb=>Below.heap_alloc u _ b (by
  obtain⟨c,t,r,h1,h2⟩:=e.near s H₀ x b hrep hb;exact aB (show u.heap[b]?=_ from (hsame b c t r h1 h2).trans h1))
 have kf1:=mS (o:=.cells #[.nilIface] 151) (show u.cell? _=_ from tv.s2 i hi) f1;have kf2:=mS (o:=.cells #[.nilIface] 151) (show u.cell? _=_ from tv.b i hi) (f2 i);generalize hw1:u.alloc (.cells #[.nilIface] 151)=w1 at k3 k6 k4 kt0 kt1 kt2 ka ks ks0 kb kf1 kf2 ko ksh ⊢;refine Lg.move _ (λ_ _=>step_seq) id ?_;refine Lg.code λK hK v τ3 n3 hv=>?_;subst hv;go_wp2;refine hK _ _ (λh=>h.elim) ?_;clear hK K;refine Lg.move _ (λ_ _=>step_cond rfl) id ?_;refine Lg.drawn 8 (by kernel_rfl) (by decide) (by kernel_rfl) (by kernel_rfl) (by kernel_rfl) λv τ3 n3 hv K hK=>?_;subst hv;simp only[re_cell,re_froz,fM] at k3 k6 k4 kt0 kt1 kt2 ka ks ks0 kb kf1 kf2 ko ksh;simp only[idle,List.modify_toArray,List.modify_succ_cons,List.modify_zero_cons]
 repeat (quiet_step (fail))
 refine wpQuiet_nil (hK _ (λh=>h.elim) ?_);clear hK K;refine Lg.pre 8 1 0 (by simp) λK hK z τ4 n4 hz=>?_;subst hz;simp only[re_cell,re_froz,fM] at k3 k6 k4 kt0 kt1 kt2 ka ks ks0 kb kf1 kf2 ko ksh;simp only[zC];go_wp2;refine hK _ _ (λh=>h.elim) ?_;clear hK K;refine Lg.move _ (λ_ _=>step_region_end) id ?_;have q3:(z.setCell ⟨e.g.rb,i,none⟩ (.bool false)).cell? ⟨b3,0,none⟩=some (.pointer (some ⟨e.g.tb,0,none⟩)):=(World.cell?_setCell_other _ _ _ _ (by intro q;injection q with q;exact r3 q.symm)).trans k3;have q4:(z.setCell ⟨e.g.rb,i,none⟩ (.bool false)).cell? ⟨b4,0,none⟩=some (.int .i64 i):=(World.cell?_setCell_other _ _ _ _ (by intro q;injection q with q;exact r4 q.symm)).trans k4;have qt0:(z.setCell ⟨e.g.rb,i,none⟩ (.bool false)).cell? ⟨e.g.tb,0,none⟩=some (.chan (some e.g.bk)):=(World.cell?_setCell_other _ _ _ _ (by intro q;injection q with q;exact rt q.symm)).trans kt0;have qt1:(z.setCell ⟨e.g.rb,i,none⟩ (.bool false)).cell? ⟨e.g.tb,1,none⟩=some (.slice (some ⟨e.g.ab,0,none⟩) e.g.n e.g.cap):=(World.cell?_setCell_other _ _ _ _ (by intro q;injection q with q;exact rt q.symm)).trans kt1;have qa:(z.setCell ⟨e.g.rb,i,none⟩ (.bool false)).cell? ⟨e.g.ab,i,none⟩=some (.pointer (some ⟨e.g.sb i,0,none⟩)):=(World.cell?_setCell_other _ _ _ _ (by intro q;injection q with q;exact ra q.symm)).trans ka;have qs:(z.setCell ⟨e.g.rb,i,none⟩ (.bool false)).cell? ⟨e.g.sb i,2,none⟩=some (.bool (ov i)):=(World.cell?_setCell_other _ _ _ _ (by intro q;injection q with q;exact hne q.symm)).trans ks;have qs0:(z.setCell ⟨e.g.rb,i,none⟩ (.bool false)).cell? ⟨e.g.sb i,0,none⟩=some (.pointer (some ⟨e.g.tb,0,none⟩)):=(World.cell?_setCell_other _ _ _ _ (by intro q;injection q with q;exact hne q.symm)).trans ks0;have qf:(z.setCell ⟨e.g.rb,i,none⟩ (.bool false)).frozen? ⟨e.g.sb i,2,none⟩=false:=by rw[World.frozen?_setCell];exact kf1
 have qb:∃ zb,(z.setCell ⟨e.g.rb,i,none⟩ (.bool false)).cell? ⟨e.g.rb,i,none⟩=some (.bool zb):=⟨false,World.cell?_setCell_same _ _ _ kb⟩;have qo:∀ j,j≠i->(z.setCell ⟨e.g.rb,i,none⟩ (.bool false)).cell? ⟨e.g.rb,j,none⟩=u.cell? ⟨e.g.rb,j,none⟩:=λj hj=>(World.cell?_setCell_other _ _ _ _ (by intro q;injection q with q1 q2;omega)).trans (ko j);have qsh:∀ b,H₀ b->(z.setCell ⟨e.g.rb,i,none⟩ (.bool false)).heap[b]?=u.heap[b]?:=λb hb=>(Below.heap_setCell z ⟨e.g.rb,i,none⟩ _ b (λh=>hns2 ((show b=e.g.rb from h)▸hb))).trans (ksh b hb);generalize z.setCell ⟨e.g.rb,i,none⟩ (.bool false)=z1 at q3 q4 qt0 qt1 qa qs qs0 qf qb qo qsh ⊢;clear k3 k6 k4 kt0 kt1 kt2 ka ks ks0 kb kf1 kf2 ko ksh;have mt:e.g.tb≠e.g.sb i:=λh=>by rw[h] at qt0;rw[qs0] at qt0;cases qt0
 refine Lg.move _ (λ_ _=>step_seq) id ?_;refine Lg.drawn 9 (by kernel_rfl) (by decide) (by kernel_rfl) (by kernel_rfl) (by kernel_rfl) λv τ5 n5 hv K hK=>?_;subst hv;simp only[re_cell,re_froz,fM] at q3 q4 qt0 qt1 qa qs qf qb qo qsh;simp only[idle,List.modify_toArray,List.modify_succ_cons,List.modify_zero_cons]
 repeat (quiet_step (fail))
 refine wpQuiet_nil (hK _ (λh=>h.elim) ?_);clear hK K;refine Lg.pre 9 1 0 (by simp) λK hK z τ6 n6 hz=>?_;subst hz;simp only[re_cell,re_froz,fM] at q3 q4 qt0 qt1 qa qs qf qb qo qsh;simp only[zC];go_wp2;refine hK _ _ (λh=>h.elim) ?_;clear hK K;have p3:(z.setCell ⟨e.g.sb i,2,none⟩ (.bool true)).cell? ⟨b3,0,none⟩=some (.pointer (some ⟨e.g.tb,0,none⟩)):=(World.cell?_setCell_other _ _ _ _ (by intro q;injection q with q;exact m3 q.symm)).trans q3;have pt:(z.setCell ⟨e.g.sb i,2,none⟩ (.bool true)).cell? ⟨e.g.tb,0,none⟩=some (.chan (some e.g.bk)):=(World.cell?_setCell_other _ _ _ _ (by intro q;injection q with q;exact mt q.symm)).trans qt0;have po:(z.setCell ⟨e.g.sb i,2,none⟩ (.bool true)).cell? ⟨e.g.sb i,2,none⟩=some (.bool true):=World.cell?_setCell_same _ _ _ qs;have pb:∀ j,(z.setCell ⟨e.g.sb i,2,none⟩ (.bool true)).cell? ⟨e.g.rb,j,none⟩=z.cell? ⟨e.g.rb,j,none⟩:=λj=>World.cell?_setCell_other _ _ _ _ (by intro q;injection q with q;exact hne q);have psh:∀ b,H₀ b->(z.setCell ⟨e.g.sb i,2,none⟩ (.bool true)).heap[b]?=z.heap[b]?:=λb hb=>Below.heap_setCell _ _ _ _ (λh=>hns1 ((show b=e.g.sb i from h)▸hb));generalize z.setCell ⟨e.g.sb i,2,none⟩ (.bool true)=z9 at p3 pt po pb psh ⊢;refine Lg.move _ (λ_ _=>step_region_end) id ?_;refine Lg.move _ (λ_ _=>step_region) id ?_;refine Lg.pre 0 5 1 (by simp) λK hK v τ7 n7 hv=>?_;subst hv;simp only[re_cell,fM] at p3 pt po pb psh;simp only[zC];go_wp2;refine hK _ _ (λh=>h.elim) ?_;clear hK K;refine lgTo_end λτ8 n8=>⟨_,rfl,⟨5,.tuple #[],jG (i:=5) (rest:=[]) rfl rfl (by decide) (λw=>by simp[execOp,scase,Act.eval]) (λw=>by simp[go_sem,execOp,Act.eval]),?_⟩,⟨po,?_,?_,?_⟩⟩
 ·refine (show QuitsD _ 5 0 (G (Frame.finish (Frame.at _ _ [Item.inRegion _ [5]]) undef) _) from ?_)
  rw[Frame.finish_at];walk_nrm;refine QuitsD.ctl rfl (λw=>stepG_region_end) ?_;refine QuitsD.ctl rfl (λw=>stepG_end) ?_;refine QuitsD.ctl rfl (λw=>stepG_leave_deferred (v:=.tuple #[]) rfl rfl Try.func74 (by simp[results,Try.f74]) (by simp[results,Try.f74]) rfl) ?_;refine QuitsD.ctl (g':=G gbot []) rfl (λw=>by simp[G,stepG,unwind,doReturn,results,Frame.at,baseD,gbot,Try.func66,Try.f66,seen,GStep.after,goexitEntry]) ?_;refine QuitsD.ctl (g':={ G gbot [] with status:=.finished }) rfl (λw=>by simp[G,stepG,unwind,gbot,goexitEntry,Frame.catches];rfl) ⟨rfl,rfl⟩
 ·obtain ⟨zb,hzb⟩:=qb
  exact⟨zb,(pb i).trans hzb⟩
 ·exact λj hj=>(pb j).trans (qo j hj)
 ·exact λb hb=>(psh b hb).trans (qsh b hb)
theorem neq_same (a:Addr) (w:World):(binOp .neq 20 (.iface 136 (.pointer (some a))) (.iface 136 (.pointer (some a)))).run Try.prog w=.ok (.bool false) w:=by
 have h1:((Try.prog.info? 136).map (·.comparable))=some true:=by kernel_rfl
 have h2:(Try.prog.info? (Try.prog.pointee 136)).isSome=true:=by kernel_rfl
 obtain⟨i,hi,hc⟩:=Option.map_eq_some_iff.1 h1;obtain⟨j,hj⟩:=Option.isSome_iff_exists.1 h2;have h3:Try.prog.underlying 20=some (.interface (Try.prog.methodsAt 20)):=by kernel_rfl
 have h4:Try.prog.underlying 136=some (.pointer (Try.prog.pointee 136)):=by kernel_rfl
 simp only[binOp]
 simp[Op.equal,Op.maxDepth,run_equalIn_iface_ptr_same w 9998 a h3 h4 hi hc hj]
theorem cell_new (u:World) (t:TypeId) (v:Value):(u.alloc (.cells #[v] t)).cell? ⟨u.heap.size,0,none⟩=some v:=(Blk.new u t #[v]).cell 0
theorem run_fin2 (hP:Prog Try.prog) (e:Env Try.prog) (i:Nat) (tm:Array Value) (todo:List Item) (b3 b6 b4:Nat) (wh:Bool) {s:e.S}{H₀:Nat->Prop}{x:World}(hrep:e.Rep s H₀ x)
  (h3:x.heap[b3]?=some (.cells #[.pointer (some ⟨e.g.tb,0,none⟩)] 136 (0,0))) (h6:x.heap[b6]?=some (.cells #[.bool wh] 4 (0,0))) (h4:x.heap[b4]?=some (.cells #[.int .i64 i] 3 (0,0))) (hn:e.g.n<=64) :
  Th e i (.ret s) { (baseD 66).at ⟨tm,[finD b3 b6 b4]⟩ todo with mode:=.panicking [rV e.g] } [gbot] x:=by
 refine th_end hP hrep λov br x' tv hi f1 f2 hsame hns1 hns2=>?_;have g3:x'.cell? ⟨b3,0,none⟩=some (.pointer (some ⟨e.g.tb,0,none⟩)):=by simp[World.cell?,(hsame _ _ _ _ h3 (by decide)).trans h3]
 have g6:x'.cell? ⟨b6,0,none⟩=some (.bool wh):=by simp[World.cell?,(hsame _ _ _ _ h6 (by decide)).trans h6]
 have g4:x'.cell? ⟨b4,0,none⟩=some (.int .i64 i):=by simp[World.cell?,(hsame _ _ _ _ h4 (by decide)).trans h4]
 have m3:b3≠e.g.sb i:=λh=>by
  have:=tv.s1 i hi;rw[<-h] at this
  simp[World.cell?,(hsame _ _ _ _ h3 (by decide)).trans h3] at this
 have tb0:=tv.b 0 (by omega);have hne:e.g.sb i≠e.g.rb:=λh=>by have:=tv.s0 i hi;rw[h,tb0] at this;cases this
 have r3:b3≠e.g.rb:=λh=>by have:=g3;rw[h,tb0] at this;cases this
 have r4:b4≠e.g.rb:=λh=>by have:=g4;rw[h,tb0] at this;cases this
 have rt:e.g.tb≠e.g.rb:=λh=>by have:=tv.t0;rw[h,tb0] at this;cases this
 have ra:e.g.ab≠e.g.rb:=λh=>by have:=tv.a i hi;rw[h,tv.b i hi] at this;cases this
 suffices H:(lgTo Try.prog [aV Try.prog] λf m y=>∃ m0,m=m0/\Fin Try.prog e.g f m/\Eff e i H₀ x' y).T () { (baseD 66).at ⟨tm,[finD b3 b6 b4]⟩ todo with mode:=.panicking [rV e.g] } [gbot] x' by
  intro τ m;obtain⟨f,md,y,h1,_,_,h2,h3⟩:=H τ m;exact⟨f,md,y,h1,h2,h3⟩
 refine Lg.deferred id (by simp) (d:=finD b3 b6 b4) (f:=74) (args:=#[.pointer (some ⟨b3,0,none⟩),.pointer (some ⟨b6,0,none⟩),.pointer (some ⟨b4,0,none⟩)]) rfl rfl (λw=>by simp[finD,invoke,callFunc,Try.func74,Try.f74]) ?_;rw[enter_atD _ Try.func74 rfl];simp only[Try.f74,List.size_toArray,List.length_cons,List.length_nil,Nat.reduceAdd,Nat.reduceSub,Array.replicate_succ,Array.replicate_zero,List.push_toArray,List.append_toArray,List.nil_append,List.cons_append];refine Lg.move _ (λ_ _=>step_seq) id ?_;refine Lg.move _ (λ_ _=>step_region) id ?_;refine Lg.recovered id (i:=0) (rest:=[1]) rfl rfl rfl (λw=>by simp[execOp,go_sem,resolve]) (v:=(rV e.g).v) (c':={ (baseD 66).at ⟨tm,[]⟩ todo with mode:=.panicking [{ v:=(rV e.g).v,recovered:=true }] }) (.inl λcs=>by simp[tryRecover,Frame.at,baseD,rV]) ?_;simp only[rV];refine Lg.pre 1 1 0 (by simp) λK hK y τ n hy=>?_;subst hy;simp only[Act.put,List.drop_succ_cons,List.drop_zero,List.take_succ_cons,List.take_zero];walk_nrm;go_wp2;refine hK _ _ (λh=>h.elim) ?_;clear hK K;refine Lg.move _ (λ_ _=>step_region_end) id ?_;refine Lg.move _ (λ_ _=>step_seq) id ?_;refine Lg.move _ (λ_ _=>step_seq) id ?_;have ha:=assert_end (.iface 136 (.pointer (some ⟨e.g.tb,0,none⟩)));refine Lg.code λK hK u τ2 n2 hu=>?_;subst hu;go_wp2;refine hK _ _ (λh=>h.elim) ?_;clear hK K ha;have k3:=cF (o:=.cells #[.iface 136 (.pointer (some ⟨e.g.tb,0,none⟩))] 151) (show u.cell? _=_ from g3);have k6:=cF (o:=.cells #[.iface 136 (.pointer (some ⟨e.g.tb,0,none⟩))] 151) (show u.cell? _=_ from g6);have k4:=cF (o:=.cells #[.iface 136 (.pointer (some ⟨e.g.tb,0,none⟩))] 151) (show u.cell? _=_ from g4);have kt0:=cF (o:=.cells #[.iface 136 (.pointer (some ⟨e.g.tb,0,none⟩))] 151) (show u.cell? _=_ from tv.t0);have kt1:=cF (o:=.cells #[.iface 136 (.pointer (some ⟨e.g.tb,0,none⟩))] 151) (show u.cell? _=_ from tv.t1);have kt2:=cF (o:=.cells #[.iface 136 (.pointer (some ⟨e.g.tb,0,none⟩))] 151) (show u.cell? _=_ from tv.t2);have ka:=cF (o:=.cells #[.iface 136 (.pointer (some ⟨e.g.tb,0,none⟩))] 151) (show u.cell? _=_ from tv.a i hi);have ks:=cF (o:=.cells #[.iface 136 (.pointer (some ⟨e.g.tb,0,none⟩))] 151) (show u.cell? _=_ from tv.s2 i hi);have kb:=cF (o:=.cells #[.iface 136 (.pointer (some ⟨e.g.tb,0,none⟩))] 151) (show u.cell? _=_ from tv.b i hi);have ks0:=cF (o:=.cells #[.iface 136 (.pointer (some ⟨e.g.tb,0,none⟩))] 151) (show u.cell? _=_ from tv.s0 i hi);have hlt:e.g.rb<u.heap.size:=block_lt_of_cell (show u.cell? _=_ from tv.b i hi);have ko:∀ j,(u.alloc (.cells #[.iface 136 (.pointer (some ⟨e.g.tb,0,none⟩))] 151)).cell? ⟨e.g.rb,j,none⟩=u.cell? ⟨e.g.rb,j,none⟩:=λj=>World.cell?_of_block (Below.heap_alloc u _ e.g.rb hlt)
 have ksh:∀ b,H₀ b->(u.alloc (.cells #[.iface 136 (.pointer (some ⟨e.g.tb,0,none⟩))] 151)).heap[b]?=u.heap[b]?:=λb hb=>Below.heap_alloc u _ b (by
  obtain⟨c,t,r,h1,h2⟩:=e.near s H₀ x b hrep hb;exact aB (show u.heap[b]?=_ from (hsame b c t r h1 h2).trans h1))
 have kf1:=mS (o:=.cells #[.iface 136 (.pointer (some ⟨e.g.tb,0,none⟩))] 151) (show u.cell? _=_ from tv.s2 i hi) f1;have kf2:=mS (o:=.cells #[.iface 136 (.pointer (some ⟨e.g.tb,0,none⟩))] 151) (show u.cell? _=_ from tv.b i hi) (f2 i);have kn:(u.alloc (.cells #[.iface 136 (.pointer (some ⟨e.g.tb,0,none⟩))] 151)).cell? ⟨u.heap.size,0,none⟩=some (.iface 136 (.pointer (some ⟨e.g.tb,0,none⟩))):=cell_new u _ _;generalize hw1:u.alloc (.cells #[.iface 136 (.pointer (some ⟨e.g.tb,0,none⟩))] 151)=w1 at k3 k6 k4 kt0 kt1 kt2 ka ks ks0 kb kf1 kf2 ko ksh kn ⊢;refine Lg.move _ (λ_ _=>step_seq) id ?_;refine Lg.code λK hK v τ3 n3 hv=>?_;subst hv;simp only[re_cell,re_froz,fM] at k3 k6 k4 kt0 kt1 kt2 ka ks ks0 kb kf1 kf2 ko ksh kn;have hq:=neq_same ⟨e.g.tb,0,none⟩;go_wp2;refine hK _ _ (λh=>h.elim) ?_;clear hK K hq;refine Lg.move _ (λ_ _=>step_cond rfl) id ?_;refine Lg.move _ (λ_ _=>step_skip) id ?_;have q3:=k3;have q4:=k4;have qt0:=kt0;have qt1:=kt1;have qa:=ka;have qs:=ks;have qs0:=ks0;have qf:=kf1;have qb:∃ zb,v.cell? ⟨e.g.rb,i,none⟩=some (.bool zb):=⟨_,kb⟩;have qo:∀ j,j≠i->v.cell? ⟨e.g.rb,j,none⟩=u.cell? ⟨e.g.rb,j,none⟩:=λj _=>ko j;have qsh:=ksh;clear k3 k6 k4 kt0 kt1 kt2 ka ks ks0 kb kf1 kf2 ko ksh kn;have mt:e.g.tb≠e.g.sb i:=λh=>by rw[h] at qt0;rw[qs0] at qt0;cases qt0
 refine Lg.move _ (λ_ _=>step_seq) id ?_;refine Lg.drawn 9 (by kernel_rfl) (by decide) (by kernel_rfl) (by kernel_rfl) (by kernel_rfl) λv τ5 n5 hv K hK=>?_;subst hv;simp only[re_cell,re_froz,fM] at q3 q4 qt0 qt1 qa qs qf qb qo qsh;simp only[idle,List.modify_toArray,List.modify_succ_cons,List.modify_zero_cons]
 repeat (quiet_step (fail))
 refine wpQuiet_nil (hK _ (λh=>h.elim) ?_);clear hK K;refine Lg.pre 9 1 0 (by simp) λK hK z τ6 n6 hz=>?_;subst hz;simp only[re_cell,re_froz,fM] at q3 q4 qt0 qt1 qa qs qf qb qo qsh;simp only[zC];go_wp2;refine hK _ _ (λh=>h.elim) ?_;clear hK K;have p3:(z.setCell ⟨e.g.sb i,2,none⟩ (.bool true)).cell? ⟨b3,0,none⟩=some (.pointer (some ⟨e.g.tb,0,none⟩)):=(World.cell?_setCell_other _ _ _ _ (by intro q;injection q with q;exact m3 q.symm)).trans q3;have pt:(z.setCell ⟨e.g.sb i,2,none⟩ (.bool true)).cell? ⟨e.g.tb,0,none⟩=some (.chan (some e.g.bk)):=(World.cell?_setCell_other _ _ _ _ (by intro q;injection q with q;exact mt q.symm)).trans qt0;have po:(z.setCell ⟨e.g.sb i,2,none⟩ (.bool true)).cell? ⟨e.g.sb i,2,none⟩=some (.bool true):=World.cell?_setCell_same _ _ _ qs;have pb:∀ j,(z.setCell ⟨e.g.sb i,2,none⟩ (.bool true)).cell? ⟨e.g.rb,j,none⟩=z.cell? ⟨e.g.rb,j,none⟩:=λj=>World.cell?_setCell_other _ _ _ _ (by intro q;injection q with q;exact hne q);have psh:∀ b,H₀ b->(z.setCell ⟨e.g.sb i,2,none⟩ (.bool true)).heap[b]?=z.heap[b]?:=λb hb=>Below.heap_setCell _ _ _ _ (λh=>hns1 ((show b=e.g.sb i from h)▸hb));generalize z.setCell ⟨e.g.sb i,2,none⟩ (.bool true)=z9 at p3 pt po pb psh ⊢;refine Lg.move _ (λ_ _=>step_region_end) id ?_;refine Lg.move _ (λ_ _=>step_region) id ?_;refine Lg.pre 0 5 1 (by simp) λK hK v τ7 n7 hv=>?_;subst hv;simp only[re_cell,fM] at p3 pt po pb psh;simp only[zC];go_wp2;refine hK _ _ (λh=>h.elim) ?_;clear hK K;refine lgTo_end λτ8 n8=>⟨_,rfl,⟨5,.tuple #[],jG (i:=5) (rest:=[]) rfl rfl (by decide) (λw=>by simp[execOp,scase,Act.eval]) (λw=>by simp[go_sem,execOp,Act.eval]),?_⟩,⟨po,?_,?_,?_⟩⟩
 ·refine (show QuitsD _ 5 0 (G (Frame.finish (Frame.at _ _ [Item.inRegion _ [5]]) undef) _) from ?_)
  rw[Frame.finish_at];walk_nrm;refine QuitsD.ctl rfl (λw=>stepG_region_end) ?_;refine QuitsD.ctl rfl (λw=>stepG_end) ?_;refine QuitsD.ctl (g':=G { (baseD 66).at ⟨tm,[]⟩ todo with mode:=.returning } [gbot]) rfl (λw=>by simp[G,stepG,unwind,doReturn,results,Frame.at,baseD,Try.func74,Try.f74,seen,GStep.after]) ?_;refine QuitsD.ctl (g':=G gbot []) rfl (λw=>by simp[G,stepG,unwind,doReturn,results,Frame.at,baseD,gbot,Try.func66,Try.f66,seen,GStep.after,goexitEntry]) ?_;refine QuitsD.ctl (g':={ G gbot [] with status:=.finished }) rfl (λw=>by simp[G,stepG,unwind,gbot,goexitEntry,Frame.catches];rfl) ⟨rfl,rfl⟩
 ·obtain ⟨zb,hzb⟩:=qb
  exact⟨zb,(pb i).trans hzb⟩
 ·exact λj hj=>(pb j).trans (qo j hj)
 ·exact λb hb=>(psh b hb).trans (qsh b hb)
theorem cfun_base {P:Program}{hP:Prog P}{e:Env P}{i:Nat}{botR:Frame}{rest:List Frame}{f:FuncId}{args:Array Value}{t:Tree e.S e.S}{w:World}{R:Value->Tree e.S e.S->World->Prop}(h:Cfun (lgTh hP e i (botR::rest)) f args t w R)
  (hR:∀ v t' w',R v t' w'->Th e i t' (botR.finish v) rest w'):Th e i t (Frame.enter P f args .normal) (botR::rest) w:=by
 obtain⟨fn,c,hf,hb,hc⟩:=h
 let b:Frame:={ (default:Frame) with fn:=f,kind:=.normal }
 have he:Frame.enter P f args .normal=b.at { tmps:=args++Array.replicate (fn.ntmps-args.size) undef,defers:=[] } [.code c]:=by
  simp[Frame.enter,Frame.at,hf,hb,b]
 have leave:∀ (a':Act) (t':Tree e.S e.S) (w':World) todo,a'.defers=[]->(∃ v,(∀ y τ n,w'=y.re τ n->(results fn a'.tmps).run P y=.ok v y)/\R v t' w')->(lgTh hP e i (botR::rest)).T t' { b.at a' todo with mode:=.returning } [] w':=by
  rintro a' t' w' todo hd ⟨v,hv,hr⟩ _;refine kE hP λτ n=>⟨1,botR.finish v,rest,w'.re τ n,?_,(hR v t' w' hr).re τ n⟩;have:=step_leave_returned (P:=P) (fr:={ b.at a' todo with mode:=.returning }) (c:=botR) (cs:=rest++[aV P]) (w:=w'.re τ n) (v:=v) ⟨rfl,hd,rfl,fn,hf,hv _ w'.tape w'.drawn rfl⟩
  show runN P (0+1) (lone _ ([]++(botR::rest)++[aV P]) _)=_
  simp only[runN,List.nil_append,List.cons_append,this]
 rw[he];refine hc b [] [] (λe t' a' w' q=>?_) ⟨rfl,by simp⟩;cases e with
 | normal=>exact Lg.move _ (λ_ _=>step_end) (λh=>h) (leave a' t' w' _ q.1 q.2)
 | ret=>exact λtodo=>leave a' t' w' todo q.1 q.2
 | exit id=>exact q.elim
 | goto l=>exact q.elim
 | panic ch=>exact q.elim
 | outgrown=>exact q.elim
theorem lg_tu0 {P:Program}{hP:Prog P}{e:Env P}{i:Nat}{bot:List Frame}{t:Tree e.S e.S}{fr:Frame}{mid:List Frame}{x:World}(h:∀ ov br,Tv e.g ov br x->i<e.g.n->(∀ b,e.RB b->b<x.heap.size)->(qC hP e i bot).T t fr mid x):(qC hP e i bot).T t fr mid x:=
 th_tu λov br tv hi _ hr=>h ov br tv hi hr
theorem Tv.blocks {g:Gs}{ov br:Nat->Bool}{x w:World}(h:Tv g ov br x) (ho:∀ b,b<x.heap.size->w.heap[b]?=x.heap[b]?):Tv g ov br w:=by
 have key:∀ {a:Addr}{v:Value},x.cell? a=some v->w.cell? a=some v:=λ{a v} hc=>(World.cell?_of_block (ho a.block (block_lt_of_cell hc))).trans hc;exact⟨key h.v,key h.t0,key h.t1,key h.t2,λi hi=>key (h.a i hi),λi hi=>key (h.s0 i hi),λi hi=>key (h.s1 i hi),λi hi=>key (h.s2 i hi),λi hi=>key (h.b i hi)⟩
def StandLaw (e:Env Try.prog) (i:Nat) (L:Lg Try.prog (Tree e.S e.S)) (Cap:(Nat->Prop)->World->Prop):Prop:=
 ∀ s H k w,e.Rep s H w->Cap H w->Ccalls L 93 #[.pointer (some ⟨e.g.sb i,0,none⟩)] (.yield s k) w λu t' w'=>u=.tuple #[]/\∃ s' H',t'=k s'/\(e.Rep s' H' w'/\Cap H' w')/\Held H w H' w'
def fU (e:Env Try.prog) (i:Nat) (caps:Array Value) (s:e.S) (tr:Tree e.S e.S) (x:World):Prop:=
 ∀ (L:Lg Try.prog (Tree e.S e.S)) (Cap:(Nat->Prop)->World->Prop),(∀ H w τ n,Cap H w->Cap H (w.re τ n))->(∀ H w H' w',Cap H w->Held H w H' w'->Cap H' w')->StandLaw e i L Cap->(∀ fr mid x,L.T .cut fr mid x)->∀ H w,e.Rep s H w->(∀ b,b<x.heap.size->w.heap[b]?=x.heap[b]?)->Cap H w ->
   Cfun L 64 (#[.iface 141 (.pointer (some ⟨e.g.sb i,0,none⟩))]++caps) tr w λ_ t' w'=>∃ s' H',t'=.ret s'/\e.Rep s' H' w'/\Cap H' w'
structure CapR (e:Env Try.prog) (i b3 b6 b4:Nat) (H:Nat->Prop) (w:World):Prop where
 c3:w.heap[b3]?=some (.cells #[.pointer (some ⟨e.g.tb,0,none⟩)] 136 (0,0))
 c6:w.heap[b6]?=some (.cells #[.bool false] 4 (0,0))
 c4:w.heap[b4]?=some (.cells #[.int .i64 i] 3 (0,0))
 n3:¬H b3
 n6:¬H b6
 n4:¬H b4
 r6:¬e.RB b6
theorem CapR.held {e:Env Try.prog}{i b3 b6 b4:Nat}{H H':Nat->Prop}{w w':World}(h:CapR e i b3 b6 b4 H w) (k:Held H w H' w'):CapR e i b3 b6 b4 H' w':=by
 obtain⟨h1,k1⟩:=k.block _ _ _ _ h.c3 h.n3 (.inl (by decide));obtain⟨h2,k2⟩:=k.block _ _ _ _ h.c6 h.n6 (.inl (by decide));obtain⟨h3,k3⟩:=k.block _ _ _ _ h.c4 h.n4 (.inl (by decide));exact⟨h1,h2,h3,k1,k2,k3,h.r6⟩
theorem neq_fn (c:Array Value) (w:World):(binOp BinOp.neq 100 (.func (.func 64) #[] c) .nilFunc).run Try.prog w=.ok (.bool true) w:=by kernel_rfl
theorem lE {u u2:World}{A B:Obj}{τ:Nat->Question->Nat}{n:Nat}(hu:(u.alloc A).alloc B=u2.re τ n):u.heap.size<=u2.heap.size:=by
 have e2:u2.heap=(u.heap.push A).push B:=(congrArg World.heap hu).symm;rw[e2,Array.size_push,Array.size_push];omega
theorem three_boxes {u u2 u3:World}{A B C:Obj}{τ τ':Nat->Question->Nat}{n n':Nat}(hu:(u.alloc A).alloc B=u2.re τ n) (hu3:u2.alloc C=u3.re τ' n'):u3.heap[u.heap.size]?=some A/\u3.heap[u.heap.size+1]?=some B/\u3.heap[u2.heap.size]?=some C/\∀ b,b<u.heap.size->u3.heap[b]?=u.heap[b]?:=by
 have e2:u2.heap=(u.heap.push A).push B:=(congrArg World.heap hu).symm;have e3:u3.heap=u2.heap.push C:=(congrArg World.heap hu3).symm;rw[e3,e2];refine⟨?_,?_,?_,λb hb=>?_⟩
 ·rw [Array.getElem?_push_lt (by rw[Array.size_push,Array.size_push];omega),Array.getElem_push_lt (by rw[Array.size_push];omega),Array.getElem_push_eq]
 ·have h:u.heap.size+1=(u.heap.push A).size:=(Array.size_push ..).symm
  rw[Array.getElem?_push_lt (by rw[Array.size_push,Array.size_push];omega)];simp only[h,Array.getElem_push_eq]
 ·exact Array.getElem?_push_size
 ·rw [Array.getElem?_push_lt (by rw[Array.size_push,Array.size_push];omega),Array.getElem_push_lt (by rw[Array.size_push];omega),Array.getElem_push_lt hb,Array.getElem?_eq_getElem hb]
noncomputable def runD (e:Gs) (i:Nat) (fv:Value):Deferred:={ target:=.fn (.func 66) #[],args:=#[.pointer (some ⟨e.tb,0,none⟩),.int .i64 i,fv] }
theorem run_born (hP:Prog Try.prog) (e:Env Try.prog) (i:Nat) (caps:Array Value) {s:e.S}{H₀:Nat->Prop}{tr:Tree e.S e.S}{x:World}(hrep:e.Rep s H₀ x) (hn:e.g.n<=64) (hth:fU e i caps s tr x) :
  Th e i tr { (default:Frame) with fn:=Try.prog.funcs.size,defers:=[runD e.g i (.func (.func 64) #[] caps)],mode:=.panicking [goexitEntry] } [] x:=by
 show (qC hP e i []).T tr _ [] x
 refine Lg.deferred id (by simp) (d:=runD e.g i (.func (.func 64) #[] caps)) (f:=66) (args:=#[.pointer (some ⟨e.g.tb,0,none⟩),.int .i64 i,.func (.func 64) #[] caps]) rfl rfl (λw=>by simp[runD,invoke,callFunc,Try.func66,Try.f66]) ?_;refine lg_tu0 λov br tv hi hrb=>?_;rw[enter_atD _ Try.func66 rfl];simp only[Try.f66,List.size_toArray,List.length_cons,List.length_nil,Nat.reduceAdd,Nat.reduceSub,Array.replicate_succ,Array.replicate_zero,List.push_toArray,List.append_toArray,List.nil_append,List.cons_append];refine Lg.move _ (λ_ _=>step_seq) id ?_;refine Lg.code λK hK u τ n hu=>?_;subst hu;go_wp2;refine hK _ _ (λh=>h.elim) ?_;clear hK K;refine Lg.move _ (λ_ _=>step_seq) id ?_;refine Lg.code λK hK u2 τ2 n2 hu=>?_;go_wp2;refine hK _ _ (λh=>h.elim) ?_;clear hK K;refine Lg.move _ (λ_ _=>step_seq) id ?_;refine Lg.code λK hK u3 τ3 n3 hu3=>?_;go_wp2;refine hK _ _ (λh=>h.elim) ?_;clear hK K;obtain⟨c3,c4,c6,old⟩:=three_boxes hu hu3
 have hlt:∀ b,H₀ b->b<u.heap.size:=λb hb=>by
  obtain⟨c,t,r,h1,h2⟩:=e.near s H₀ _ b hrep hb;exact aB h1
 have hrep3:e.Rep s H₀ u3:=e.rep s H₀ _ u3 hrep (λb hb=>old b (hlt b hb)) (λb c t r _ h=>⟨r,(old b (aB h)).trans h⟩);have tv3:Tv e.g ov br u3:=Tv.blocks tv old;have hcap:CapR e i u.heap.size u2.heap.size (u.heap.size+1) H₀ u3:=⟨c3,c6,c4,λh=>by have:=hlt _ h;omega,λh=>by have:=hlt _ h;have:=lE hu;omega,λh=>by have:=hlt _ h;omega,λh=>by have h1:=hrb _ h;have h2:=lE hu;have h3:u2.heap.size<u.heap.size:=h1;omega⟩;have hold:∀ b,b<(u.re τ n).heap.size->u3.heap[b]?=(u.re τ n).heap[b]?:=old;have hz:u.heap.size<=u2.heap.size:=lE hu;clear c3 c4 c6 hu hu3 old hlt tv hrep hz hrb;generalize u.heap.size+1=b4 at hcap ⊢;generalize u.heap.size=b3 at hcap ⊢;generalize u2.heap.size=b6 at hcap ⊢;refine Lg.move _ (λ_ _=>step_seq) id ?_;refine Lg.move _ (λ_ _=>step_seq) id ?_;refine Lg.code λK hK v τ4 n4 hv=>?_;subst hv;have hq:=neq_fn caps;go_wp2;refine hK _ _ (λh=>h.elim) ?_;clear hK K hq;refine Lg.move _ (λ_ _=>step_cond rfl) id ?_;refine Lg.drawn 9 (by kernel_rfl) (by decide) (by kernel_rfl) (by kernel_rfl) (by kernel_rfl) λy τ5 n5 hy K hK=>?_;subst hy;have g1:y.cell? ⟨e.g.tb,1,none⟩=some (.slice (some ⟨e.g.ab,0,none⟩) e.g.n e.g.cap):=tv3.t1;have g2:y.cell? ⟨e.g.ab,i,none⟩=some (.pointer (some ⟨e.g.sb i,0,none⟩)):=tv3.a i hi;have g3:y.cell? ⟨b3,0,none⟩=some (.pointer (some ⟨e.g.tb,0,none⟩)):=(show Blk y b3 _ _ from hcap.c3).cell 0;have g4:y.cell? ⟨b4,0,none⟩=some (.int .i64 i):=(show Blk y b4 _ _ from hcap.c4).cell 0;simp only[idle,List.modify_toArray,List.modify_succ_cons,List.modify_zero_cons]
 repeat (quiet_step (fail))
 refine wpQuiet_nil (hK _ (λh=>h.elim) ?_);clear hK K;have hold':∀ b,b<(u.re τ n).heap.size->y.heap[b]?=(u.re τ n).heap[b]?:=hold;have hcap':CapR e i b3 b6 b4 H₀ y:=⟨hcap.c3,hcap.c6,hcap.c4,hcap.n3,hcap.n6,hcap.n4,hcap.r6⟩;have hrep':e.Rep s H₀ y:=e.rep s H₀ _ y hrep3 (λ_ _=>rfl) (λb c t r _ h=>⟨r,h⟩);clear hold hcap hrep3 g1 g2 g3 g4 tv3;refine(show (qC hP e i []).T tr (Frame.at _ _ (.inRegion _ [9]::_)) _ y from ?_);refine Lg.steps (qC hP e i []) λv τ6 n6 hv=>⟨_,_::_,v,.one (eY (f:=64) (args:=#[.iface 141 (.pointer (some ⟨e.g.sb i,0,none⟩))]++caps) rfl rfl ?_),λz=>z.elim,?_⟩
 ·go_simp
 subst hv;have hrep2:e.Rep s H₀ v:=e.rep s H₀ _ v hrep' (λ_ _=>rfl) (λb c t r _ h=>⟨r,h⟩);have hcap2:CapR e i b3 b6 b4 H₀ v:=⟨hcap'.c3,hcap'.c6,hcap'.c4,hcap'.n3,hcap'.n6,hcap'.n4,hcap'.r6⟩;change Th e i tr _ (_::_) v;refine cfun_base (hP:=hP) (R:=λ_ t' w'=>∃ s' H',t'=.ret s'/\e.Rep s' H' w'/\CapR e i b3 b6 b4 H' w') ?_ ?_
 ·refine hth _ (CapR e i b3 b6 b4) (λs w τ n h=>⟨h.c3,h.c6,h.c4,h.n3,h.n6,h.n4,h.r6⟩) (λs w s' w' h k=>h.held k) ?_ (λfr mid x _ d _ _ _=>trivial) H₀ v hrep2 hold' hcap2
  intro s H k w hr hc;refine stand_step hP e i _ _ (CapR e i b3 b6 b4) (λs w τ n h=>⟨h.c3,h.c6,h.c4,h.n3,h.n6,h.n4,h.r6⟩) (λs w s' w' h k=>h.held k) ?_ s H k w hr hc;exact λσ H x hr hc=>run_fin2 hP e i _ _ b3 b6 b4 false hr hc.c3 hc.c6 hc.c4 hn
 ·rintro r t' w' ⟨s',H₁,rfl,hr,hc⟩
  refine(show (qC hP e i [gbot]).T (.ret s') (Frame.finish (Frame.at _ _ (.inRegion _ [9]::_)) r) [] w' from ?_);rw[Frame.finish_at];walk_nrm;refine Lg.move _ (λ_ _=>step_region_end) id ?_;refine Lg.code λK hK z τ7 n7 hz=>?_;subst hz;have k6:z.cell? ⟨b6,0,none⟩=some (.bool false):=(show Blk z b6 _ _ from hc.c6).cell 0;have f6:z.frozen? ⟨b6,0,none⟩=false:=(show Blk z b6 _ _ from hc.c6).frozen 0;go_wp2;refine hK _ _ (λh=>h.elim) ?_;clear hK K;refine Lg.move _ (λ_ _=>step_end) (λh=>h) ?_;have h6:=(show Blk z b6 4 #[.bool false] from hc.c6).set_ 0 (.bool true);have n36:b3≠b6:=λh=>by have:=hc.c3;rw[h,hc.c6] at this;cases this
  have n46:b4≠b6:=λh=>by have:=hc.c4;rw[h,hc.c6] at this;cases this
  exact run_fin hP e i _ _ b3 b6 b4 (e.rep s' H₁ _ _ hr (λb hb=>Below.heap_setCell z ⟨b6,0,none⟩ _ b (λh=>hc.n6 ((show b=b6 from h)▸hb))) (λb c t r hb h=>⟨r,(Below.heap_setCell z ⟨b6,0,none⟩ _ b (λh=>hc.r6 ((show b=b6 from h)▸hb))).trans h⟩)) ((show Blk z b3 _ _ from hc.c3).far n36 _) h6 ((show Blk z b4 _ _ from hc.c4).far n46 _) hn
def frO (ts sv:Value) (mo:Int) (f:Nat->Value):Array Value:=#[ts,sv,.int .i64 mo,undef,undef,f 5,f 6,f 7,f 8,f 9,f 10,f 11,f 12,f 13,f 14,f 15,f 16,f 17,f 18,f 19,f 20,f 21,f 22,f 23,f 24,f 25,f 26,f 27,f 28,f 29,f 30,f 31,f 32,f 33,f 34,f 35,f 36,f 37,f 38,f 39,f 40,f 41,f 42,f 43,f 44,f 45,f 46,f 47,f 48,f 49,f 50,f 51,f 52,f 53,f 54,f 55,f 56,f 57,f 58,f 59,f 60,f 61,f 62,f 63,f 64,f 65,f 66,f 67,f 68,f 69,f 70,f 71,f 72,f 73,f 74,f 75,f 76,f 77,f 78,f 79,f 80,f 81,f 82,f 83,f 84,f 85,f 86,f 87,f 88,f 89,f 90,f 91,f 92,f 93,f 94,f 95,f 96,f 97,f 98,f 99,f 100,f 101,f 102,f 103,f 104,f 105,f 106,f 107,f 108,f 109,f 110,f 111,f 112,f 113,f 114,f 115,f 116,f 117,f 118,f 119,f 120,f 121,f 122,f 123,f 124,f 125,f 126,f 127,f 128]
theorem spawn_step {P:Program}{b:Frame}{a:Act}{kk:List Item}{cs:List Frame}{ops:Array Oper}{i:Nat}{rest:List Nat}{o:Oper}{d:Deferred}{fv:Fn}{c:Array Value}(ho:ops[i]?=some o) (hw:Region.wanted o (yielded ops a.tmps)=true) (hk:b.kind≠.early)
  (hr:∀ w,(execOp a.eval o).run P w=.ok (.spawn d) w) (he:∀ w,(execOp a.eval o).events P w #[]=#[]) (hd:d.target=.fn fv c) (main:Bool) (w:World) :
  stepG P main (G (b.at a (.inRegion ops (i::rest)::kk)) cs) w=.spawn (G (b.at (a.put o.dst undef) (.inRegion ops rest::kk)) cs) (born P d) w #[]:=by
 rw[stepG_spawn ho hw hk (hr w) hd,listed_none (he w)]
structure Funs (n:Nat) (ta:Addr) (caps:Nat->Array Value) (w:World):Prop where
 blk:∃ c t r,w.heap[ta.block]?=some (.cells c t r)/\r.2<big/\∀ i,i<n->c[ta.off+i]?=some (.func (.func 64) #[] (caps i))
 spot:ta.spot=none
structure Sl2 (f:Nat->Value) (g:Gs) (bn bo bm bl:Nat):Prop where
 sl:Sl f g.tv bn bo bm
 f11:f 11=.pointer (some ⟨bl,0,none⟩)
structure Hires (e:Env Try.prog) (birth:Nat->e.S->Tree e.S e.S) (m0:Mach e.S) (x0:World) (bl j:Nat) (w:World):Prop where
 l:Blk w bl 3 #[.int .i64 ((m0.born birth j).left j)]
 held:HeldX (λb=>b=bl) x0 w
theorem pX (hP:Prog Try.prog) (e:Env Try.prog) (hn:e.g.n<=64) (birth:Nat->e.S->Tree e.S e.S) (s0:e.S) (hwh:∀ j,j<e.g.n->birth j (Mach.born birth ⟨s0,λ_=>.unborn⟩ j).s≠.cut) (caps:Nat->Array Value) (hlaw:∀ i,i<e.g.n->∀ s H x,e.Rep s H x->fU e i (caps i) s (birth i s) x)
  {k:List Item}{mid:List Frame}{c':Frame}(hmid:cZ Try.prog true k) (ta:Addr) (nt cap:Nat) (sv:Value) (mo:Int) {f:Nat->Value}{bn bo bm bl:Nat}{x0:World}(hnt:e.g.n<=nt) (hf:Sl2 f e.g bn bo bm bl)
  (hbn:Blk x0 bn 3 #[.int .i64 e.g.n]) (hbl:Blk x0 bl 3 #[.int .i64 0]) (hne:bn≠bl) (hfun:Funs e.g.n ta caps x0) (hta:ta.block≠bl)
  (hT:∀ f' w',Sl2 f' e.g bn bo bm bl->Hires e birth ⟨s0,λ_=>.unborn⟩ x0 bl e.g.n w'->(lgM hP e).T (e.b+e.g.n,Mach.born birth ⟨s0,λ_=>.unborn⟩ e.g.n) (Frame.at { (default:Frame) with fn:=42,kind:=.normal } ⟨frO (.slice (some ta) nt cap) sv mo f',[]⟩ k) (c'::mid) w') :
  (lgM hP e).T (e.b,⟨s0,λ_=>.unborn⟩) (Frame.at { (default:Frame) with fn:=42,kind:=.normal } ⟨frO (.slice (some ta) nt cap) sv mo f,[]⟩ (.code (fY (aF (aF (aF (aF (aF (aF (Try.f42.body.getD .skip))))))))::k)) (c'::mid) x0:=by
 simp only[Try.f42,Option.getD_some,aF,fY];have HT:=qd hT;clear hT;refine Lg.move _ (λ_ _=>step_seq) id ?_;refine Lg.code λK hK y τ n hy=>?_;subst hy;have c1:y.cell? ⟨bn,0,none⟩=some (.int .i64 e.g.n):=(show Blk y bn _ _ from hbn).cell 0;have h9:=hf.sl.f9;simp only[frO,h9];go_wp2;refine hK _ _ (λh=>h.elim) ?_;clear hK K c1;refine Lg.bP (frO (.slice (some ta) nt cap) sv mo) (R:=λf'=>Sl2 f' e.g bn bo bm bl/\f' 46=.int .i64 e.g.n/\f' 47=.int .i64 0) ?_ (by rfl) ⟨⟨⟨hf.sl.f5,hf.sl.f6,hf.sl.f7,rfl,hf.sl.f10⟩,hf.f11⟩,rfl,rfl⟩;rintro f1 ⟨hf1,h46,h47⟩;refine Lg.move _ (λ_ _=>step_block) id ?_;refine Lg.eZ (frO (.slice (some ta) nt cap) sv mo) (λf t w=>∃ j:Nat,j<=e.g.n/\f 47=.int .i64 j/\f 46=.int .i64 e.g.n/\Sl2 f e.g bn bo bm bl/\t=(e.b+j,Mach.born birth ⟨s0,λ_=>.unborn⟩ j)/\Hires e birth ⟨s0,λ_=>.unborn⟩ y bl j w) (λf _ _=>e.g.n-(intOf (f 47)).toNat) ⟨0,Nat.zero_le _,h47,h46,hf1,rfl,⟨hbl,HeldX.refl _ _⟩⟩ ?_;rintro f2 t w ⟨j,hj,k47,k46,hf2,rfl,hh⟩ hnext;have hNext:=qd hnext;clear hnext h46 h47 hf1 hf h9 f1 f;have h9:=hf2.sl.f9;have h10:=hf2.sl.f10;have h11:=hf2.f11;simp only[frO,k46,k47,h9,h10,h11];refine Lg.move _ (λ_ _=>step_seq) id ?_;refine Lg.code λK hK u τ n hu=>?_;subst hu;go_wp2;refine hK _ _ (λh=>h.elim) ?_;clear hK K;refine Lg.move _ (λ_ _=>step_seq) id ?_
 by_cases hlt:j<e.g.n
 ·have hd:decide (j<e.g.n)=true:=by simpa using hlt
  simp only[hd];refine Lg.move _ (λ_ _=>step_cond rfl) id ?_;refine Lg.move _ (λ_ _=>step_skip) id ?_;refine Lg.move _ (λ_ _=>step_seq) id ?_;refine Lg.move _ (λ_ _=>step_block) id ?_;refine Lg.move _ (λ_ _=>step_seq) id ?_;refine Lg.code λK hK v τ2 n2 hv=>?_;subst hv;go_wp2;refine hK _ _ (λh=>h.elim) ?_;clear hK K;refine Lg.move _ (λ_ _=>step_seq) id ?_;refine gM λov br tv ho=>?_
  have hfun':Funs e.g.n ta caps v:=by
   obtain⟨⟨cs,t,r,q1,q2,q3⟩,q4⟩:=hfun;exact⟨⟨cs,t,r,hh.held.block _ _ _ _ hta q1 (.inl q2),q2,q3⟩,q4⟩
  refine Lg.drawn 6 (by kernel_rfl) (by decide) (by kernel_rfl) (by kernel_rfl) (by kernel_rfl) λz τ3 n3 hz K hK=>?_;subst hz;have g1:z.cell? ⟨e.g.tv,0,none⟩=some (.pointer (some ⟨e.g.tb,0,none⟩)):=tv.v
  have g2:z.cell? ⟨ta.block,ta.off+j,none⟩=some (.func (.func 64) #[] (caps j)):=by
   obtain⟨⟨cs,t,r,q1,q2,q3⟩,q4⟩:=hfun';exact(cell_of_row z ta.block (ta.off+j) cs t r q1).trans (q3 j hlt)
  have g3:j<nt:=by omega
  have gsp:=hfun'.spot;obtain⟨tab,tao,tas⟩:=ta;simp only at gsp g2;subst gsp;have Hho:=qd ho;clear ho;simp only[idle,List.modify_toArray,List.modify_succ_cons,List.modify_zero_cons]
  repeat (quiet_step (fail))
  refine wpQuiet_nil (hK _ (λh=>h.elim) ?_);clear hK K g1 g2
  show Mn e (e.b+j) (Mach.born birth ⟨s0,λ_=>.unborn⟩ j) (Frame.at _ _ (.inRegion _ [6]::_)) (c'::mid) z
  have hubt:(Mach.born birth ⟨s0,λ_=>.unborn⟩ j).th j=.unborn:=oS birth _ j j (Nat.le_refl _);have hwj:=hwh j hlt;apply mn_hire (i:=j) (N:=e.b+j) (bf:={ (default:Frame) with fn:=Try.prog.funcs.size,defers:=[runD e.g j (.func (.func 64) #[] (caps j))],mode:=.panicking [goexitEntry] }) hlt hubt rfl (birth j (Mach.born birth ⟨s0,λ_=>.unborn⟩ j).s) hwj
  case hspawn=>exact spawn_step rfl rfl (by decide) (λw=>by go_simp;rfl) (λw=>by simp[go_sem,execOp,Act.eval]) rfl
  case hborn=>exact λH x' hr=>run_born hP e j (caps j) hr hn (hlaw j hlt _ H x' hr)
  case hinvb =>
   refine⟨⟨.inl rfl,rfl,λi hi=>(by cases hi),λd hd=>?_⟩,.inl rfl⟩;simp only[List.mem_singleton] at hd;subst hd;exact trivial
  case hway =>
   intro B b1 b2 b3;refine .inl ⟨7,default,rfl,?_⟩;walk_nrm
   k_c stepG_region_end
   k_c stepG_seq
   k_reg
   (k_in;refine goes_oper_k rfl rfl (by decide) (λK hK=>?_);have:=h₁.v;go_simp;refine hK _ _ ⟨⟨rfl,λe he=>by(have hm:=mem_listed he;simp[go_sem, *] at hm;subst hm;exact evC_read _ ⟨_,rfl,.inl rfl⟩ b1)⟩,?_⟩;clear hK K)
   (k_in;refine goes_oper_k rfl rfl (by decide) (λK hK=>?_);go_simp;refine hK _ _ ⟨⟨rfl,λe he=>by(have hm:=mem_listed he;simp[go_sem] at hm)⟩,?_⟩;clear hK K)
   (k_in;refine goes_oper_k rfl rfl (by decide) (λK hK=>?_);go_simp;refine hK _ _ ⟨⟨rfl,λe he=>by(have hm:=mem_listed he;simp[go_sem] at hm)⟩,?_⟩;clear hK K)
   (k_in;refine goes_oper_k rfl rfl (by decide) (λK hK=>?_);have:=h₁.t;go_simp;refine hK _ _ ⟨⟨rfl,λe he=>by(have hm:=mem_listed he;simp[go_sem, *] at hm;subst hm;exact evC_read _ ⟨_,rfl,.inr (.inl rfl)⟩ b2)⟩,?_⟩;clear hK K)
   exact λ_ _=>⟨_,atIn_of (s:=bF e.g _) rfl rfl (by decide) (λw=>by simp[go_sem,execOp,rcase,Act.eval,bF,Seat.one]) (λw=>by simp[go_sem,execOp,Act.eval]) rfl⟩
  case hinv =>
   refine λhI=>rQ (.inl rfl) rfl ?_ rfl _ hI;simp only[Frame.at,cZ,List.forall_mem_cons]
   repeat' (first | exact hmid | refine And.intro ?_ ?_ | exact True.intro |(simp only[gC];kernel_rfl))
  case hgo =>
   intro m' hm' x' hhm;rw[Mach.put_did hwj] at hm';cases hm';rw[Frame.finish_at];walk_nrm;refine(show (lgM hP e).T (e.b+(j+1),Mach.born birth ⟨s0,λ_=>.unborn⟩ (j+1)) _ _ x' from ?_);refine Lg.move _ (λ_ _=>step_region_end) id ?_;refine Lg.move _ (λ_ _=>step_seq) id ?_;have hl1:Blk x' bl 3 #[.int .i64 ((Mach.born birth ⟨s0,λ_=>.unborn⟩ j).left j)]:=hhm.block _ _ _ _ hh.l (.inl (by decide));have hh1:HeldX (λb=>b=bl) y x':=HeldX.trans (b:=z) ⟨hh.held.size,hh.held.block⟩ hhm.x;clear tv Hho hfun';refine gM λov br tv ho=>?_;refine Lg.move _ (λ_ _=>step_region) id ?_;refine Lg.pre 0 11 0 (by simp) λK hK u τ4 n4 hu=>?_;subst hu;have q1:u.cell? ⟨e.g.tv,0,none⟩=some (.pointer (some ⟨e.g.tb,0,none⟩)):=tv.v;have q2:u.cell? ⟨e.g.tb,1,none⟩=some (.slice (some ⟨e.g.ab,0,none⟩) e.g.n e.g.cap):=tv.t1;have q3:u.cell? ⟨e.g.ab,j,none⟩=some (.pointer (some ⟨e.g.sb j,0,none⟩)):=tv.a j hlt;have q4:u.cell? ⟨e.g.sb j,2,none⟩=some (.bool ((Mach.born birth ⟨s0,λ_=>.unborn⟩ (j+1)).th j).isOver):=by rw[<-ho j hlt];exact tv.s2 j hlt
   clear ho;simp only[zC];go_wp2;refine hK _ _ (λh=>h.elim) ?_;clear hK K q1 q2 q3 q4;refine Lg.move _ (λ_ _=>step_region_end) id ?_;have hl2:Blk u bl 3 #[.int .i64 ((Mach.born birth ⟨s0,λ_=>.unborn⟩ j).left j)]:=hl1;have hh2:HeldX (λb=>b=bl) y u:=⟨hh1.size,hh1.block⟩;have e0:(Mach.born birth ⟨s0,λ_=>.unborn⟩ (j+1)).left j=(Mach.born birth ⟨s0,λ_=>.unborn⟩ j).left j:=oC (λi hi=>gX hi) j (Nat.le_refl _);have e1:(Mach.born birth ⟨s0,λ_=>.unborn⟩ (j+1)).left (j+1)=(Mach.born birth ⟨s0,λ_=>.unborn⟩ j).left j+if ((Mach.born birth ⟨s0,λ_=>.unborn⟩ (j+1)).th j).isOver then 0 else 1:=by rw[<-e0];rfl
   have eb:(Mach.born birth ⟨s0,λ_=>.unborn⟩ j).left j<=64:=Nat.le_trans (left_le _ _) (by omega);clear hl1 hh1 hh tv e0;cases hov:((Mach.born birth ⟨s0,λ_=>.unborn⟩ (j+1)).th j).isOver with
   | true =>
     have e2:(Mach.born birth ⟨s0,λ_=>.unborn⟩ (j+1)).left (j+1)=(Mach.born birth ⟨s0,λ_=>.unborn⟩ j).left j:=by rw[e1,hov];rfl
     simp only[Bool.not_true];refine Lg.move _ (λ_ _=>step_cond rfl) id ?_;refine Lg.move _ (λ_ _=>step_skip) id ?_;refine Lg.move _ (λ_ _=>step_inBlock) id ?_;clear e1 hov;have e2:=qd e2;have hl2:=qd hl2;refine Lg.code λK hK v τ n hv=>?_;subst hv;go_wp2;refine hK _ _ (λh=>h.elim) ?_;clear hK K;refine Lg.bP (frO (.slice (some ⟨tab,tao,none⟩) nt cap) sv mo) (R:=λf'=>Sl2 f' e.g bn bo bm bl/\f' 47=.int .i64 ((j+1:Nat):Int)/\f' 46=.int .i64 e.g.n) ?_ (by rfl) ⟨⟨⟨hf2.sl.f5,hf2.sl.f6,hf2.sl.f7,rfl,rfl⟩,rfl⟩,by go_num,rfl⟩;intro f' hR;exact hNext.out f' _ _ ⟨j+1,by omega,hR.2.1,hR.2.2,hR.1,rfl,⟨by rw[e2.out];exact hl2.out,⟨hh2.size,hh2.block⟩⟩⟩ (by rw[hR.2.1,k47];simp[intOf];omega)
   | false =>
     have e2:(Mach.born birth ⟨s0,λ_=>.unborn⟩ (j+1)).left (j+1)=(Mach.born birth ⟨s0,λ_=>.unborn⟩ j).left j+1:=by rw[e1,hov];rfl
     simp only[Bool.not_false];refine Lg.move _ (λ_ _=>step_cond rfl) id ?_;refine Lg.code λK hK v τ n hv=>?_;subst hv;have c1:v.cell? ⟨bl,0,none⟩=some (.int .i64 ((Mach.born birth ⟨s0,λ_=>.unborn⟩ j).left j)):=(show Blk v bl _ _ from hl2).cell 0;have c2:v.frozen? ⟨bl,0,none⟩=false:=(show Blk v bl _ _ from hl2).frozen 0;have hl3:Blk (v.setCell ⟨bl,0,none⟩ (.int .i64 (((Mach.born birth ⟨s0,λ_=>.unborn⟩ j).left j:Nat)+1))) bl 3 #[.int .i64 (((Mach.born birth ⟨s0,λ_=>.unborn⟩ j).left j:Nat)+1)]:=(show Blk v bl _ _ from hl2).set_ 0 _;have hh3:HeldX (λb=>b=bl) y (v.setCell ⟨bl,0,none⟩ (.int .i64 (((Mach.born birth ⟨s0,λ_=>.unborn⟩ j).left j:Nat)+1))):=HeldX.trans (b:=v) ⟨hh2.size,hh2.block⟩ (oF (by simp[World.setCell]) λb hb _=>Below.heap_setCell _ _ _ _ hb);have hl3:=qd hl3;have e2:=qd e2;have h0:(0:Int)<=((Mach.born birth ⟨s0,λ_=>.unborn⟩ j).left j:Int):=by omega
     have h64:((Mach.born birth ⟨s0,λ_=>.unborn⟩ j).left j:Int)<=64:=by omega
     clear e1 hov hl2 hh2;go_wp2;refine hK _ _ (λh=>h.elim) ?_;clear hK K c1 c2;refine Lg.move _ (λ_ _=>step_inBlock) id ?_;generalize v.setCell ⟨bl,0,none⟩ (.int .i64 (((Mach.born birth ⟨s0,λ_=>.unborn⟩ j).left j:Nat)+1))=v' at hl3 hh3 ⊢;have hl2:=hl3;have hh2:=hh3;clear hl3 hh3;refine Lg.code λK hK v τ n hv=>?_;subst hv;go_wp2;refine hK _ _ (λh=>h.elim) ?_;clear hK K;refine Lg.bP (frO (.slice (some ⟨tab,tao,none⟩) nt cap) sv mo) (R:=λf'=>Sl2 f' e.g bn bo bm bl/\f' 47=.int .i64 ((j+1:Nat):Int)/\f' 46=.int .i64 e.g.n) ?_ (by rfl) ⟨⟨⟨hf2.sl.f5,hf2.sl.f6,hf2.sl.f7,rfl,rfl⟩,rfl⟩,by go_num,rfl⟩;intro f' hR;exact hNext.out f' _ _ ⟨j+1,by omega,hR.2.1,hR.2.2,hR.1,rfl,⟨by rw[e2.out];exact hl2.out,⟨hh2.size,hh2.block⟩⟩⟩ (by rw[hR.2.1,k47];simp[intOf];omega)
 ·have hd:decide (j<e.g.n)=false:=by simpa using hlt
  simp only[hd];refine Lg.move _ (λ_ _=>step_cond rfl) id ?_;refine Lg.move _ (λ_ _=>step_exit rfl) (λh=>h) ?_;have hjn:j=e.g.n:=by omega
  subst hjn;refine Lg.bP (frO (.slice (some ta) nt cap) sv mo) (R:=λf'=>Sl2 f' e.g bn bo bm bl) (λf' hf'=>HT.out f' _ hf' ⟨hh.l,⟨hh.held.size,hh.held.block⟩⟩) (by rfl) ⟨⟨hf2.sl.f5,hf2.sl.f6,hf2.sl.f7,rfl,rfl⟩,rfl⟩
theorem pU (hP:Prog Try.prog) (e:Env Try.prog) (hn:e.g.n<=64) {MI:Mach e.S->Prop}(hM:MInv MI e.g.n) {base bn bo bm bl most N:Nat}{c:Run e.S}{i:Int}{w:World}(hmost:most<=1048576) (hle:c.order.length<=most) (hgood:∀ j,j<e.g.n->(c.m.th j).Good) (hmi:MI c.m) (h:OvS e base bn bo bm bl most c w) :
  Ccalls (lgM hP e) 67 #[.int .i64 i,.pointer (some ⟨bn,0,none⟩),.pointer (some ⟨e.g.tv,0,none⟩),.pointer (some ⟨bo,0,none⟩),.pointer (some ⟨bm,0,none⟩),.pointer (some ⟨bl,0,none⟩)] (N,c.m) w λu t' w'=>u=.tuple #[]/\t'=(N,(c.turn e.g.n most i).m)/\OvS e base bn bo bm bl most (c.turn e.g.n most i) w'/\HeldX (OvZ base bo bl) w w':=by
 cases hmay:c.may e.g.n most i with
 | false =>
   refine(over_idle hP e hn h hmay).mono λu t' w' ⟨h1,h2,h3,h4⟩=>?_;have:c.turn e.g.n most i=c:=by simp[Run.turn,hmay]
   rw[this];exact⟨h1,h2,h3,h4.x⟩
 | true =>
   obtain⟨j,rfl⟩:∃ j:Nat,i=j:=⟨i.toNat,by simp only[Run.may,Bool.and_eq_true,decide_eq_true_eq] at hmay;omega⟩;have hj:j<e.g.n:=by simp only[Run.may,Bool.and_eq_true,decide_eq_true_eq] at hmay;omega
   refine(over_turn hP e hn hmost hle hgood (λk hk=>(hM.step _ _ _ hmi hj hk).1) h hmay).mono λu t' w' ⟨h1,h2,h3,h4⟩=>?_;have:c.turn e.g.n most j=⟨c.m.go j,c.order++[(j:Int)]⟩:=by simp[Run.turn,hmay]
   rw[this];exact⟨h1,h2,h3,h4⟩
structure Sl3 (f:Nat->Value) (g:Gs) (bn bo bm bl:Nat):Prop where
 sl:Sl2 f g bn bo bm bl
 f13:f 13=.func (.func 67) #[] #[.pointer (some ⟨bn,0,none⟩),.pointer (some ⟨g.tv,0,none⟩),.pointer (some ⟨bo,0,none⟩),.pointer (some ⟨bm,0,none⟩),.pointer (some ⟨bl,0,none⟩)]
structure Sch (sv:Value) (xs:List Int) (Z:Nat->Prop) (x:World):Prop where
 at_:∃ A c,sv=.slice A xs.length c/\∀ i,i<xs.length->∃ b o cs t r,A=some ⟨b,o,none⟩/\x.heap[b]?=some (.cells cs t r)/\(r.2<big\/r.2%2=1)/\¬Z b/\cs[o+i]?=some (.int .i64 (xs.getD i 0))
 len:xs.length<=maxLen
structure OvL (e:Env Try.prog) (MI:Mach e.S->Prop) (base bn bo bm bl most:Nat) (x0:World) (c:Run e.S) (w:World):Prop where
 s:OvS e base bn bo bm bl most c w
 held:HeldX (OvZ base bo bl) x0 w
 le:c.order.length<=most
 good:∀ j,j<e.g.n->(c.m.th j).Good
 mi:MI c.m
theorem OvL.re {e:Env Try.prog}{MI:Mach e.S->Prop}{base bn bo bm bl most:Nat}{x0 y:World}{c:Run e.S}{τ:Nat->Question->Nat}{n:Nat}(h:OvL e MI base bn bo bm bl most x0 c (y.re τ n)):OvL e MI base bn bo bm bl most x0 c y:=⟨h.s.re,⟨h.held.size,h.held.block⟩,h.le,h.good,h.mi⟩
theorem over_sched (hP:Prog Try.prog) (e:Env Try.prog) (hn:e.g.n<=64) {MI:Mach e.S->Prop}(hM:MInv MI e.g.n) {N base bn bo bm bl most:Nat}(hmost:most<=1048576) {k:List Item}{mid:List Frame}(ts sv:Value) (mo:Int) (xs:List Int) {f:Nat->Value}{x0:World}{c0:Run e.S}(hf:Sl3 f e.g bn bo bm bl) (hsch:Sch sv xs (OvZ base bo bl) x0) (h0:OvL e MI base bn bo bm bl most x0 c0 x0)
  (hT:∀ f' w',Sl3 f' e.g bn bo bm bl->OvL e MI base bn bo bm bl most x0 (c0.turns e.g.n most xs) w'->(lgM hP e).T (N,(c0.turns e.g.n most xs).m) (Frame.at { (default:Frame) with fn:=42,kind:=.normal } ⟨frO ts sv mo f',[]⟩ k) mid w') :
  (lgM hP e).T (N,c0.m) (Frame.at { (default:Frame) with fn:=42,kind:=.normal } ⟨frO ts sv mo f,[]⟩ (.code (fY (aF (aF (aF (aF (aF (aF (aF (aF (Try.f42.body.getD .skip))))))))))::k)) mid x0:=by
 simp only[Try.f42,Option.getD_some,aF,fY];have HT:=qd hT;clear hT;obtain⟨A,cp,rfl,hcell⟩:=hsch.at_;have hlen:=hsch.len;unfold maxLen at hlen;refine Lg.move _ (λ_ _=>step_seq) id ?_;refine Lg.code λK hK y τ n hy=>?_;have h0':OvL e MI base bn bo bm bl most x0 c0 y:=by have:=h0;rw[hy] at this ⊢;exact OvL.re this
 have hcell':=hcell;have Hy:=qd hy;clear hy;simp only[frO];have Hc:=qd hcell;clear hcell hcell';go_wp2;refine hK _ _ (λh=>h.elim) ?_;clear hK K;refine Lg.bP (frO ts (.slice A xs.length cp) mo) (R:=λf'=>Sl3 f' e.g bn bo bm bl/\f' 76=.slice A xs.length cp/\f' 77=.int .i64 xs.length/\f' 78=.int .i64 0) ?_ (by rfl) ⟨⟨⟨⟨hf.sl.sl.f5,hf.sl.sl.f6,hf.sl.sl.f7,hf.sl.sl.f9,hf.sl.sl.f10⟩,hf.sl.f11⟩,hf.f13⟩,rfl,rfl,rfl⟩;rintro f1 ⟨hf1,m76,m77,m78⟩;refine Lg.move _ (λ_ _=>step_block) id ?_;refine Lg.eZ (frO ts (.slice A xs.length cp) mo) (λf t w=>∃ j:Nat,j<=xs.length/\f 78=.int .i64 j/\f 76=.slice A xs.length cp/\f 77=.int .i64 xs.length/\Sl3 f e.g bn bo bm bl/\t=(N,(c0.turns e.g.n most (xs.take j)).m)/\OvL e MI base bn bo bm bl most x0 (c0.turns e.g.n most (xs.take j)) w) (λf _ _=>xs.length-(intOf (f 78)).toNat) ⟨0,Nat.zero_le _,m78,m76,m77,hf1,rfl,h0'⟩ ?_;rintro f2 t w ⟨j,hj,k78,k76,k77,hf2,rfl,hL⟩ hnext;have hNext:=qd hnext;clear hnext m76 m77 m78 hf1 hf f1 f h0' h0;have k13:=hf2.f13;simp only[frO,k78,k76,k77,k13];refine Lg.move _ (λ_ _=>step_seq) id ?_;refine Lg.code λK hK u τ n hu=>?_;subst hu;go_wp2;refine hK _ _ (λh=>h.elim) ?_;clear hK K;refine Lg.move _ (λ_ _=>step_seq) id ?_;have hL:=hL.re
 by_cases hlt:j<xs.length
 ·have hd:decide (j<xs.length)=true:=by simpa using hlt
  simp only[hd];refine Lg.move _ (λ_ _=>step_cond rfl) id ?_;refine Lg.move _ (λ_ _=>step_skip) id ?_;refine Lg.move _ (λ_ _=>step_seq) id ?_;refine Lg.move _ (λ_ _=>step_block) id ?_;refine Lg.move _ (λ_ _=>step_seq) id ?_;refine Lg.code λK hK v τ2 n2 hv=>?_;subst hv;have hL:=hL.re;obtain⟨b,o,cs,ct,r,rfl,hb1,hb2,hb3,hb4⟩:=Hc.out j hlt;have c1:v.cell? ⟨b,o+j,none⟩=some (.int .i64 (xs.getD j 0)):=(cell_of_row v b (o+j) cs ct r (hL.held.block _ _ _ _ hb3 hb1 hb2)).trans hb4;have HL:=qd hL
  have Htk:c0.turns e.g.n most (xs.take (j+1))=(c0.turns e.g.n most (xs.take j)).turn e.g.n most (xs.getD j 0):=by
   rw[List.take_succ_eq_append_getElem hlt,mY]
   congr 1
   simp[hlt]
  have HTk:=qd Htk;clear hL hb1 hb4 Htk;go_wp2;refine hK _ _ (λh=>h.elim) ?_;clear hK K c1;refine Lg.move _ (λ_ _=>step_region) id ?_;refine Lg.pre 0 2 1 (by simp) λK hK z τ3 n3 hz=>?_;have hL:OvL e MI base bn bo bm bl most x0 (c0.turns e.g.n most (xs.take j)) z:=by have:=HL.out;rw[hz] at this;exact this.re
  clear HL hz;simp only[zC];go_wp2;refine hK _ _ (λh=>h.elim) ?_;clear hK K;refine Lg.call (i:=2) (rest:=[]) (t:=(N,(c0.turns e.g.n most (xs.take j)).m)) rfl rfl (λy=>by go_simp) (pU hP e hn hM (N:=N) (i:=xs.getD j 0) hmost hL.le hL.good hL.mi hL.s) ?_;rintro uu t' w' ⟨rfl,rfl,hs',hh'⟩
  have hL':OvL e MI base bn bo bm bl most x0 (c0.turns e.g.n most (xs.take (j+1))) w':=by
   rw[HTk.out];exact⟨hs',hL.held.trans hh',(gJ hL.le).1,pK hL.good,turn_mi hM hL.mi _⟩
  rw[Frame.finish_at];walk_nrm;refine Lg.move _ (λ_ _=>step_region_end) id ?_;refine Lg.move _ (λ_ _=>step_inBlock) id ?_;clear hL hs' hh';refine Lg.code λK hK v τ n hv=>?_;subst hv;have hL':=hL'.re;have HL':=qd hL';clear hL';go_wp2;refine hK _ _ (λh=>h.elim) ?_;clear hK K;refine Lg.bP (frO ts (.slice (some ⟨b,o,none⟩) xs.length cp) mo) (R:=λf'=>Sl3 f' e.g bn bo bm bl/\f' 78=.int .i64 ((j+1:Nat):Int)/\f' 76=.slice (some ⟨b,o,none⟩) xs.length cp/\f' 77=.int .i64 xs.length) ?_ (by rfl) ⟨⟨⟨⟨hf2.sl.sl.f5,hf2.sl.sl.f6,hf2.sl.sl.f7,hf2.sl.sl.f9,hf2.sl.sl.f10⟩,hf2.sl.f11⟩,rfl⟩,by go_num,rfl,rfl⟩;intro f' hR;rw[<-HTk.out];exact hNext.out f' _ _ ⟨j+1,by omega,hR.2.1,hR.2.2.1,hR.2.2.2,hR.1,rfl,HL'.out⟩ (by rw[hR.2.1,k78];simp[intOf];omega)
 ·have hd:decide (j<xs.length)=false:=by simpa using hlt
  simp only[hd];refine Lg.move _ (λ_ _=>step_cond rfl) id ?_;refine Lg.move _ (λ_ _=>step_exit rfl) (λh=>h) ?_;have hjn:j=xs.length:=by omega
  rw[hjn,List.take_length] at hL ⊢;refine Lg.bP (frO ts (.slice A xs.length cp) mo) (R:=λf'=>Sl3 f' e.g bn bo bm bl) (λf' hf'=>HT.out f' _ hf' hL) (by rfl) ⟨⟨⟨hf2.sl.sl.f5,hf2.sl.sl.f6,hf2.sl.sl.f7,hf2.sl.sl.f9,hf2.sl.sl.f10⟩,hf2.sl.f11⟩,rfl⟩
def rng (j:Nat):List Int:=(List.range j).map λ(i:Nat)=>(i:Int)
theorem rng_succ (j:Nat):rng (j+1)=rng j++[(j:Int)]:=by simp[rng,List.range_succ]
def lenAt (w:World) (b:Nat):Nat:=match w.cell? ⟨b,0,none⟩ with
 | some (.slice _ n _)=>n
 | _=>0
theorem OvS.lenAt {e:Env Try.prog}{base bn bo bm bl most:Nat}{c:Run e.S}{w:World}(h:OvS e base bn bo bm bl most c w):lenAt w bo=c.order.length:=by
 obtain⟨v,h1,h2⟩:=h.o;obtain⟨A,cap,rfl⟩:=jI h2;have:w.cell? ⟨bo,0,none⟩=some (.slice A c.order.length cap):=h1.cell 0
 simp[Proofs.Ytlcplealnbekeaa.lenAt,this]
theorem over_round (hP:Prog Try.prog) (e:Env Try.prog) (hn:e.g.n<=64) {MI:Mach e.S->Prop}(hM:MInv MI e.g.n) {N base bn bo bm bl most:Nat}(hmost:most<=1048576) {k:List Item}{mid:List Frame}(ts sv:Value) (mo:Int) {f:Nat->Value}{x0:World}{c0:Run e.S}{lc:Code}(hlc:lc=match (match fY (aF (aF (aF (aF (aF (aF (aF (aF (aF (Try.f42.body.getD .skip)))))))))) with | .block _ (.loop c)=>aF c | c=>c) with | .block _ c=>c | c=>c) (hf:Sl3 f e.g bn bo bm bl) (h0:OvL e MI base bn bo bm bl most x0 c0 x0)
  (hT:∀ f' w',Sl3 f' e.g bn bo bm bl->OvL e MI base bn bo bm bl most x0 (c0.turns e.g.n most (rng e.g.n)) w'->(lgM hP e).T (N,(c0.turns e.g.n most (rng e.g.n)).m) (Frame.at { (default:Frame) with fn:=42,kind:=.normal } ⟨frO ts sv mo f',[]⟩ k) mid w') :
  (lgM hP e).T (N,c0.m) (Frame.at { (default:Frame) with fn:=42,kind:=.normal } ⟨frO ts sv mo f,[]⟩ (.code lc::k)) mid x0:=by
 simp only[Try.f42,Option.getD_some,aF,fY] at hlc;subst hlc;have HT:=qd hT;clear hT;refine Lg.move _ (λ_ _=>step_seq) id ?_;refine Lg.code λK hK y τ n hy=>?_;have h0':OvL e MI base bn bo bm bl most x0 c0 y:=by have:=h0;rw[hy] at this ⊢;exact OvL.re this
 clear hy;have c1:y.cell? ⟨bn,0,none⟩=some (.int .i64 e.g.n):=h0'.s.n.cell 0;have h9:=hf.sl.sl.f9;have H0:=qd h0';clear h0';simp only[frO,h9];go_wp2;refine hK _ _ (λh=>h.elim) ?_;clear hK K c1;refine Lg.bP (frO ts sv mo) (R:=λf'=>Sl3 f' e.g bn bo bm bl/\f' 94=.int .i64 e.g.n/\f' 95=.int .i64 0) ?_ (by rfl) ⟨⟨⟨⟨hf.sl.sl.f5,hf.sl.sl.f6,hf.sl.sl.f7,rfl,hf.sl.sl.f10⟩,hf.sl.f11⟩,hf.f13⟩,rfl,rfl⟩;rintro f1 ⟨hf1,m94,m95⟩;refine Lg.move _ (λ_ _=>step_block) id ?_;refine Lg.eZ (frO ts sv mo) (λf t w=>∃ j:Nat,j<=e.g.n/\f 95=.int .i64 j/\f 94=.int .i64 e.g.n/\Sl3 f e.g bn bo bm bl/\t=(N,(c0.turns e.g.n most (rng j)).m)/\OvL e MI base bn bo bm bl most x0 (c0.turns e.g.n most (rng j)) w) (λf _ _=>e.g.n-(intOf (f 95)).toNat) ⟨0,Nat.zero_le _,m95,m94,hf1,rfl,H0.out⟩ ?_;rintro f2 t w ⟨j,hj,k95,k94,hf2,rfl,hL⟩ hnext;have hNext:=qd hnext;clear hnext m94 m95 hf1 hf h9 f1 f H0 h0;have k13:=hf2.f13;simp only[frO,k95,k94,k13];refine Lg.move _ (λ_ _=>step_seq) id ?_;refine Lg.code λK hK u τ n hu=>?_;subst hu;go_wp2;refine hK _ _ (λh=>h.elim) ?_;clear hK K;refine Lg.move _ (λ_ _=>step_seq) id ?_;have hL:=hL.re
 by_cases hlt:j<e.g.n
 ·have hd:decide (j<e.g.n)=true:=by simpa using hlt
  simp only[hd];refine Lg.move _ (λ_ _=>step_cond rfl) id ?_;refine Lg.move _ (λ_ _=>step_skip) id ?_;refine Lg.move _ (λ_ _=>step_seq) id ?_;refine Lg.move _ (λ_ _=>step_block) id ?_;refine Lg.move _ (λ_ _=>step_seq) id ?_;refine Lg.code λK hK v τ2 n2 hv=>?_;subst hv;have hL:=hL.re;have HL:=qd hL
  have Htk:c0.turns e.g.n most (rng (j+1))=(c0.turns e.g.n most (rng j)).turn e.g.n most j:=by
   rw[rng_succ,mY]
  have HTk:=qd Htk;clear hL Htk;go_wp2;refine hK _ _ (λh=>h.elim) ?_;clear hK K;refine Lg.move _ (λ_ _=>step_region) id ?_;refine Lg.pre 0 2 1 (by simp) λK hK z τ3 n3 hz=>?_;have hL:OvL e MI base bn bo bm bl most x0 (c0.turns e.g.n most (rng j)) z:=by have:=HL.out;rw[hz] at this;exact this.re
  clear HL hz;simp only[zC];go_wp2;refine hK _ _ (λh=>h.elim) ?_;clear hK K;refine Lg.call (i:=2) (rest:=[]) (t:=(N,(c0.turns e.g.n most (rng j)).m)) rfl rfl (λy=>by go_simp) (pU hP e hn hM (N:=N) (i:=(j:Int)) hmost hL.le hL.good hL.mi hL.s) ?_;rintro uu t' w' ⟨rfl,rfl,hs',hh'⟩
  have hL':OvL e MI base bn bo bm bl most x0 (c0.turns e.g.n most (rng (j+1))) w':=by
   rw[HTk.out];exact⟨hs',hL.held.trans hh',(gJ hL.le).1,pK hL.good,turn_mi hM hL.mi _⟩
  rw[Frame.finish_at];walk_nrm;refine Lg.move _ (λ_ _=>step_region_end) id ?_;refine Lg.move _ (λ_ _=>step_inBlock) id ?_;clear hL hs' hh';refine Lg.code λK hK v τ n hv=>?_;subst hv;have hL':=hL'.re;have HL':=qd hL';clear hL';go_wp2;refine hK _ _ (λh=>h.elim) ?_;clear hK K;refine Lg.bP (frO ts sv mo) (R:=λf'=>Sl3 f' e.g bn bo bm bl/\f' 95=.int .i64 ((j+1:Nat):Int)/\f' 94=.int .i64 e.g.n) ?_ (by rfl) ⟨⟨⟨⟨hf2.sl.sl.f5,hf2.sl.sl.f6,hf2.sl.sl.f7,hf2.sl.sl.f9,hf2.sl.sl.f10⟩,hf2.sl.f11⟩,rfl⟩,by go_num,rfl⟩;intro f' hR;rw[<-HTk.out];exact hNext.out f' _ _ ⟨j+1,by omega,hR.2.1,hR.2.2,hR.1,rfl,HL'.out⟩ (by rw[hR.2.1,k95];simp[intOf];omega)
 ·have hd:decide (j<e.g.n)=false:=by simpa using hlt
  simp only[hd];refine Lg.move _ (λ_ _=>step_cond rfl) id ?_;refine Lg.move _ (λ_ _=>step_exit rfl) (λh=>h) ?_;have hjn:j=e.g.n:=by omega
  rw[hjn] at hL ⊢;refine Lg.bP (frO ts sv mo) (R:=λf'=>Sl3 f' e.g bn bo bm bl) (λf' hf'=>HT.out f' _ hf' hL) (by rfl) ⟨⟨⟨hf2.sl.sl.f5,hf2.sl.sl.f6,hf2.sl.sl.f7,hf2.sl.sl.f9,hf2.sl.sl.f10⟩,hf2.sl.f11⟩,rfl⟩
theorem over_rounds (hP:Prog Try.prog) (e:Env Try.prog) (hn:e.g.n<=64) {MI:Mach e.S->Prop}(hM:MInv MI e.g.n) {N base bn bo bm bl most:Nat}(hmost:most<=1048576) {k:List Item}{mid:List Frame}(ts sv:Value) (mo:Int) {f:Nat->Value}{x0:World}{c0:Run e.S}(hf:Sl3 f e.g bn bo bm bl) (h0:OvL e MI base bn bo bm bl most x0 c0 x0)
  (hT:∀ f' w',Sl3 f' e.g bn bo bm bl->OvL e MI base bn bo bm bl most x0 (c0.rounds e.g.n most most) w'->(lgM hP e).T (N,(c0.rounds e.g.n most most).m) (Frame.at { (default:Frame) with fn:=42,kind:=.normal } ⟨frO ts sv mo f',[]⟩ k) mid w') :
  (lgM hP e).T (N,c0.m) (Frame.at { (default:Frame) with fn:=42,kind:=.normal } ⟨frO ts sv mo f,[]⟩ (.code (fY (aF (aF (aF (aF (aF (aF (aF (aF (aF (Try.f42.body.getD .skip)))))))))))::k)) mid x0:=by
 have hround:=λ{f:Nat->Value}{x1:World}{c1:Run e.S}{k:List Item}=>over_round hP e hn hM (N:=N) (base:=base) (bn:=bn) (bo:=bo) (bm:=bm) (bl:=bl) hmost (k:=k) (mid:=mid) ts sv mo (f:=f) (x0:=x1) (c0:=c1) rfl;simp only[Try.f42,Option.getD_some,aF,fY] at hround ⊢;have HT:=qd hT;have HR:=@hround;clear hT hround;refine Lg.move _ (λ_ _=>step_block) id ?_;refine Lg.eZ (frO ts sv mo) (λf t w=>∃ c:Run e.S,Sl3 f e.g bn bo bm bl/\t=(N,c.m)/\OvL e MI base bn bo bm bl most x0 c w/\c.rounds e.g.n most most=c0.rounds e.g.n most most) (λ_ _ w=>most-lenAt w bo) ⟨c0,hf,rfl,h0,rfl⟩ ?_;rintro f2 t w ⟨c,hf2,rfl,hL,hrr⟩ hnext;have hNext:=qd hnext;have Hr:=qd hrr;clear hnext hf f h0 hrr;refine Lg.move _ (λ_ _=>step_seq) id ?_;refine Lg.move _ (λ_ _=>step_seq) id ?_;have h5:=hf2.sl.sl.f5;have h6:=hf2.sl.sl.f6;have h11:=hf2.sl.f11;simp only[frO,h5,h6,h11];have hlw:=hL.s.lenAt;refine Lg.code λK hK u τ n hu=>?_;subst hu;have hL:=hL.re;obtain⟨v,hv,hown⟩:=hL.s.o;obtain⟨A,cap,rfl⟩:=jI hown;have c1:u.cell? ⟨bl,0,none⟩=some (.int .i64 (c.m.left e.g.n)):=hL.s.l.cell 0;have c2:u.cell? ⟨bo,0,none⟩=some (.slice A c.order.length cap):=hv.cell 0;have c3:u.cell? ⟨bm,0,none⟩=some (.int .i64 most):=hL.s.m.cell 0;have HL:=qd hL;have Hlw:=qd hlw;clear hv hown hL hlw
 by_cases hgo:0<c.m.left e.g.n/\c.order.length<most
 ·have hd1:decide (0<c.m.left e.g.n)=true:=by simpa using hgo.1
  have hd2:decide (c.order.length<most)=true:=by simpa using hgo.2
  have hd3:decide ((0:Int)<(c.m.left e.g.n:Int))=true:=by simp;exact hgo.1
  have Hgo:=qd hgo;clear hgo;go_wp2;refine hK _ _ (λh=>h.elim) ?_;clear hK K c1 c2 c3 hd1 hd2 hd3;refine Lg.move _ (λ_ _=>step_cond rfl) id ?_;refine Lg.move _ (λ_ _=>step_skip) id ?_;refine Lg.move _ (λ_ _=>step_block) id ?_;refine Lg.bP (frO ts sv mo) (R:=λf'=>Sl3 f' e.g bn bo bm bl) (λf' hf'=>?_) (by rfl) ⟨⟨⟨rfl,rfl,hf2.sl.sl.f7,hf2.sl.sl.f9,hf2.sl.sl.f10⟩,rfl⟩,hf2.f13⟩;have hL:=HL.out;refine HR (c1:=c) hf' ⟨hL.s,HeldX.refl _ _,hL.le,hL.good,hL.mi⟩ λf3 w3 hf3 hL3=>?_;refine Lg.move _ (λ_ _=>step_inBlock) id ?_;obtain⟨i,hi,ho⟩:=left_pos _ Hgo.out.1;have hmv:=jR (n:=e.g.n) (most:=most) (rng e.g.n) c Hgo.out.2 ⟨i,hi,List.mem_map.2 ⟨i,List.mem_range.2 hi,rfl⟩,ho⟩;refine hNext.out f3 _ w3 ⟨c.turns e.g.n most (rng e.g.n),hf3,rfl,⟨hL3.s,hL.held.trans hL3.held,hL3.le,hL3.good,hL3.mi⟩,?_⟩ ?_
  ·rw [<-Hr.out]
   obtain⟨mm,rfl⟩:∃ mm,most=mm+1:=⟨most-1,by have:=Hgo.out.2;omega⟩;rw[show Run.rounds e.g.n (mm+1) (mm+1) c=Run.rounds e.g.n (mm+1) mm (c.turns e.g.n (mm+1) (rng e.g.n)) from by simp only[Run.rounds];rw[if_pos Hgo.out];rfl];exact lX _ _ _ (by have:=hL3.le;omega) (by omega) hL3.le
  ·rw [hL3.s.lenAt,Hlw.out]
   have:=Hgo.out.2
   omega
 ·have key:(c.m.left e.g.n=0\/(0<c.m.left e.g.n/\most<=c.order.length)):=by omega
  have hend:c.rounds e.g.n most most=c:=dM hgo most;have Hend:=qd hend;clear hend hgo
  have fin:∀ f',Sl3 f' e.g bn bo bm bl->(lgM hP e).T (N,c.m) (Frame.at { (default:Frame) with fn:=42,kind:=.normal } ⟨frO ts sv mo f',[]⟩ k) mid u:=λf' hf'=>by
   have:=HT.out f' u hf' (by rw[<-Hr.out,Hend.out];exact HL.out);rw[<-Hr.out,Hend.out] at this;exact this
  have Fin:=qd fin;clear fin
  rcases key with hk | ⟨hk,hk2⟩
  ·have hd1:decide (0<c.m.left e.g.n)=false:=by simp[hk]
   have hd3:decide ((0:Int)<(c.m.left e.g.n:Int))=false:=by simp[hk]
   clear hk;go_wp2;refine hK _ _ (λh=>h.elim) ?_;clear hK K c1 c2 c3 hd1 hd3;refine Lg.move _ (λ_ _=>step_cond rfl) id ?_;refine Lg.move _ (λ_ _=>step_exit rfl) (λh=>h) ?_;exact Lg.bP (frO ts sv mo) (R:=λf'=>Sl3 f' e.g bn bo bm bl) (λf' hf'=>Fin.out f' hf') (by rfl) ⟨⟨⟨rfl,rfl,hf2.sl.sl.f7,hf2.sl.sl.f9,hf2.sl.sl.f10⟩,rfl⟩,hf2.f13⟩
  ·have hd1:decide (0<c.m.left e.g.n)=true:=by simpa using hk
   have hd3:decide ((0:Int)<(c.m.left e.g.n:Int))=true:=by simp;exact hk
   have hd2:decide (c.order.length<most)=false:=by simpa using hk2
   clear hk hk2;go_wp2;refine hK _ _ (λh=>h.elim) ?_;clear hK K c1 c2 c3 hd1 hd3 hd2;refine Lg.move _ (λ_ _=>step_cond rfl) id ?_;refine Lg.move _ (λ_ _=>step_exit rfl) (λh=>h) ?_;exact Lg.bP (frO ts sv mo) (R:=λf'=>Sl3 f' e.g bn bo bm bl) (λf' hf'=>Fin.out f' hf') (by rfl) ⟨⟨⟨rfl,rfl,hf2.sl.sl.f7,hf2.sl.sl.f9,hf2.sl.sl.f10⟩,rfl⟩,hf2.f13⟩
end Go.Proofs.Ytlcplealnbekeaa
