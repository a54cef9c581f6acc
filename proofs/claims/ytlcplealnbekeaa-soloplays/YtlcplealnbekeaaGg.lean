/- DERIVED. Threads of operations as trees, with no fixed data in sight; what a run's answers are in memory. -/
import Derived.Test.YtlcplealnbekeaaGf
import Derived.Test.YtlcplealnbekeaaGd
set_option linter.unusedVariables false
set_option maxHeartbeats 4000000
set_option maxRecDepth 100000
namespace Go.Proofs.Ytlcplealnbekeaa
open Go.RowKit Go.Turn Go.Tame Go.Conc
structure Sl4 (f:Nat->Value) (g:Gs) (bo:Nat) (st:Bool):Prop where
 f6:f 6=.pointer (some ⟨bo,0,none⟩)
 f7:f 7=.bool st
 f10:f 10=.pointer (some ⟨g.tv,0,none⟩)
theorem over_stuck (hP:Prog Try.prog) (e:Env Try.prog) {N base bn bo bm bl most:Nat}{k:List Item}{mid:List Frame}(ts sv:Value) (mo:Int) {f:Nat->Value}{x0:World}{c:Run e.S}(hf:Sl3 f e.g bn bo bm bl) (h0:OvS e base bn bo bm bl most c x0)
  (hT:∀ f' w',Sl4 f' e.g bo (decide (0<c.m.left e.g.n))->HeldM x0 w'->(lgM hP e).T (N,c.m) (Frame.at { (default:Frame) with fn:=42,kind:=.normal } ⟨frO ts sv mo f',[]⟩ k) mid w') :
  (lgM hP e).T (N,c.m) (Frame.at { (default:Frame) with fn:=42,kind:=.normal } ⟨frO ts sv mo f,[]⟩ (.code (fY (aF (aF (aF (aF (aF (aF (aF (aF (aF (aF (Try.f42.body.getD .skip))))))))))))::k)) mid x0:=by
 simp only[Try.f42,Option.getD_some,aF,fY];have HT:=qd hT;clear hT;have h11:=hf.sl.f11;simp only[frO,h11];refine Lg.code λK hK u τ n hu=>?_;subst hu;have c1:u.cell? ⟨bl,0,none⟩=some (.int .i64 (c.m.left e.g.n)):=(show Blk u bl _ _ from h0.l).cell 0;clear h0;go_wp2;refine hK _ _ (λh=>h.elim) ?_;clear hK K c1;refine Lg.bP (frO ts sv mo) (R:=λf'=>Sl4 f' e.g bo (decide (0<c.m.left e.g.n))) (λf' hf'=>HT.out f' _ hf' ⟨Nat.le_refl _,λ_ _ _ _ h _=>h⟩) (by rfl) ⟨hf.sl.sl.f6,?_,hf.sl.sl.f10⟩
 first
  | rfl
  | (show Value.bool _=_;congr 1;simp)
theorem over_loose (hP:Prog Try.prog) (e:Env Try.prog) (hn:e.g.n<=64) {N bo:Nat}{st:Bool}{k:List Item}{mid:List Frame}(ts sv:Value) (mo:Int) {f:Nat->Value}{x0:World}{m0:Mach e.S}(hgood:∀ j,j<e.g.n->(m0.th j).Good) (hf:Sl4 f e.g bo st)
  (hT:∀ f' w',Sl4 f' e.g bo st->HeldM x0 w'->(lgM hP e).T (N,m0.ended e.g.n) (Frame.at { (default:Frame) with fn:=42,kind:=.normal } ⟨frO ts sv mo f',[]⟩ k) mid w') :
  (lgM hP e).T (N,m0) (Frame.at { (default:Frame) with fn:=42,kind:=.normal } ⟨frO ts sv mo f,[]⟩ (.code (fY (aF (aF (aF (aF (aF (aF (aF (aF (aF (aF (aF (Try.f42.body.getD .skip)))))))))))))::k)) mid x0:=by
 simp only[Try.f42,Option.getD_some,aF,fY];have HT:=qd hT;clear hT;have h10:=hf.f10;simp only[frO,h10];refine gM λov br tv ho=>?_;refine Lg.move _ (λ_ _=>step_seq) id ?_;refine Lg.code λK hK y τ n hy=>?_;subst hy;have q1:y.cell? ⟨e.g.tv,0,none⟩=some (.pointer (some ⟨e.g.tb,0,none⟩)):=tv.v;have q2:y.cell? ⟨e.g.tb,1,none⟩=some (.slice (some ⟨e.g.ab,0,none⟩) e.g.n e.g.cap):=tv.t1;clear tv ho;go_wp2;refine hK _ _ (λh=>h.elim) ?_;clear hK K q1 q2;refine Lg.bP (frO ts sv mo) (R:=λf'=>Sl4 f' e.g bo st/\f' 107=.slice (some ⟨e.g.ab,0,none⟩) e.g.n e.g.cap/\f' 108=.int .i64 e.g.n/\f' 109=.int .i64 0) ?_ (by rfl) ⟨⟨hf.f6,hf.f7,rfl⟩,rfl,rfl,rfl⟩;rintro f1 ⟨hf1,m107,m108,m109⟩;refine Lg.move _ (λ_ _=>step_block) id ?_;refine Lg.eZ (frO ts sv mo) (λf t w=>∃ j:Nat,j<=e.g.n/\f 109=.int .i64 j/\f 107=.slice (some ⟨e.g.ab,0,none⟩) e.g.n e.g.cap/\f 108=.int .i64 e.g.n/\Sl4 f e.g bo st/\t=(N,m0.ended j)/\HeldM y w) (λf _ _=>e.g.n-(intOf (f 109)).toNat) ⟨0,Nat.zero_le _,m109,m107,m108,hf1,rfl,HeldM.refl _⟩ ?_;rintro f2 t w ⟨j,hj,k109,k107,k108,hf2,rfl,hL⟩ hnext;have hNext:=qd hnext;clear hnext m107 m108 m109 hf1 hf h10 f1 f;have k10:=hf2.f10;simp only[frO,k109,k107,k108,k10];refine Lg.move _ (λ_ _=>step_seq) id ?_;refine Lg.code λK hK u τ n hu=>?_;subst hu;go_wp2;refine hK _ _ (λh=>h.elim) ?_;clear hK K;refine Lg.move _ (λ_ _=>step_seq) id ?_;have hL:HeldM y u:=⟨hL.size,hL.block⟩
 by_cases hlt:j<e.g.n
 ·have hd:decide (j<e.g.n)=true:=by simpa using hlt
  simp only[hd];refine Lg.move _ (λ_ _=>step_cond rfl) id ?_;refine Lg.move _ (λ_ _=>step_skip) id ?_;refine Lg.move _ (λ_ _=>step_seq) id ?_;refine Lg.move _ (λ_ _=>step_block) id ?_;refine Lg.move _ (λ_ _=>step_seq) id ?_;refine gM λov br tv ho=>?_;have hth:(m0.ended j).th j=m0.th j:=iZ m0 j j (Nat.le_refl _);refine Lg.code λK hK v τ2 n2 hv=>?_;subst hv;have hL:HeldM y v:=⟨hL.size,hL.block⟩;have q3:v.cell? ⟨e.g.ab,j,none⟩=some (.pointer (some ⟨e.g.sb j,0,none⟩)):=tv.a j hlt;have q4:v.cell? ⟨e.g.sb j,2,none⟩=some (.bool (m0.th j).isOver):=by rw[<-hth,<-ho j hlt];exact tv.s2 j hlt
  have Hth:=qd hth;clear ho tv hth;go_wp2;refine hK _ _ (λh=>h.elim) ?_;clear hK K q3;refine Lg.move _ (λ_ _=>step_seq) id ?_;refine Lg.code λK hK z τ3 n3 hz=>?_;subst hz;have hL:HeldM y z:=⟨hL.size,hL.block⟩;have q4:z.cell? ⟨e.g.sb j,2,none⟩=some (.bool (m0.th j).isOver):=q4;go_wp2;refine hK _ _ (λh=>h.elim) ?_;clear hK K q4;have hgj:=hgood j hlt;cases hst:m0.th j with
  | unborn=>rw[hst] at hgj;exact hgj.elim
  | over =>
    have he:m0.ended (j+1)=m0.ended j:=by
     show (m0.ended j).fin j=_
     simp[Mach.fin,Hth.out,hst]
    simp only[Stg.isOver,Bool.not_true];refine Lg.move _ (λ_ _=>step_cond rfl) id ?_;refine Lg.move _ (λ_ _=>step_skip) id ?_;refine Lg.move _ (λ_ _=>step_inBlock) id ?_;have he:=qd he;refine Lg.code λK hK v τ n hv=>?_;subst hv;go_wp2;refine hK _ _ (λh=>h.elim) ?_;clear hK K;refine Lg.bP (frO ts sv mo) (R:=λf'=>Sl4 f' e.g bo st/\f' 109=.int .i64 ((j+1:Nat):Int)/\f' 107=.slice (some ⟨e.g.ab,0,none⟩) e.g.n e.g.cap/\f' 108=.int .i64 e.g.n) ?_ (by rfl) ⟨⟨hf2.f6,hf2.f7,rfl⟩,by go_num,rfl,rfl⟩;intro f' hR;exact hNext.out f' _ _ ⟨j+1,by omega,hR.2.1,hR.2.2.1,hR.2.2.2,hR.1,by rw[he.out],⟨hL.size,hL.block⟩⟩ (by rw[hR.2.1,k109];simp[intOf];omega)
  | wait kk =>
    have he:m0.ended (j+1)=(m0.ended j).did j (.ret (m0.ended j).s):=by
     show (m0.ended j).fin j=_
     simp[Mach.fin,Hth.out,hst,Mach.did]
    simp only[Stg.isOver,Bool.not_false];refine Lg.move _ (λ_ _=>step_cond rfl) id ?_;refine gM λov br tv ho=>?_;refine Lg.move _ (λ_ _=>step_region) id ?_;refine Lg.pre 0 2 1 (by simp) λK hK v2 τ4 n4 hv=>?_;subst hv;have q1:v2.cell? ⟨e.g.tv,0,none⟩=some (.pointer (some ⟨e.g.tb,0,none⟩)):=tv.v;have he:=qd he;have hst:=qd hst;clear tv ho;simp only[zC];go_wp2;refine hK _ _ (λh=>h.elim) ?_;clear hK K q1;refine Lg.call (i:=2) (rest:=[]) (t:=(N,m0.ended j)) rfl rfl (λy=>by go_simp) (qD hP e hn N (m0.ended j) j hlt kk (Hth.out.trans hst.out) false (.ret (m0.ended j).s) rfl (λh=>by cases h) v2) ?_;rintro uu t' w' ⟨rfl,rfl,hh'⟩;rw[Frame.finish_at];walk_nrm;refine Lg.move _ (λ_ _=>step_region_end) id ?_;refine Lg.move _ (λ_ _=>step_inBlock) id ?_;have hL:HeldM y w':=HeldM.trans (b:=v2) ⟨hL.size,hL.block⟩ hh';clear hh';refine Lg.code λK hK v τ n hv=>?_;subst hv;go_wp2;refine hK _ _ (λh=>h.elim) ?_;clear hK K;refine Lg.bP (frO ts sv mo) (R:=λf'=>Sl4 f' e.g bo st/\f' 109=.int .i64 ((j+1:Nat):Int)/\f' 107=.slice (some ⟨e.g.ab,0,none⟩) e.g.n e.g.cap/\f' 108=.int .i64 e.g.n) ?_ (by rfl) ⟨⟨hf2.f6,hf2.f7,rfl⟩,by go_num,rfl,rfl⟩;intro f' hR;rw[<-he.out];exact hNext.out f' _ _ ⟨j+1,by omega,hR.2.1,hR.2.2.1,hR.2.2.2,hR.1,rfl,⟨hL.size,hL.block⟩⟩ (by rw[hR.2.1,k109];simp[intOf];omega)
 ·have hd:decide (j<e.g.n)=false:=by simpa using hlt
  simp only[hd];refine Lg.move _ (λ_ _=>step_cond rfl) id ?_;refine Lg.move _ (λ_ _=>step_exit rfl) (λh=>h) ?_;have hjn:j=e.g.n:=by omega
  rw[hjn];exact Lg.bP (frO ts sv mo) (R:=λf'=>Sl4 f' e.g bo st) (λf' hf'=>HT.out f' _ hf' ⟨hL.size,hL.block⟩) (by rfl) ⟨hf2.f6,hf2.f7,rfl⟩
theorem over_last {κ:Type}(L:Lg Try.prog κ) (hs:¬L.strict) {t:κ}{mid:List Frame}{c':Frame}(ts sv:Value) (mo:Int) {f:Nat->Value}{g:Gs}{bo:Nat}{st:Bool}{ov bv:Value}{x:World}(hf:Sl4 f g bo st) (ho:Blk x bo 23 #[ov]) (hv:x.cell? ⟨g.tv,0,none⟩=some (.pointer (some ⟨g.tb,0,none⟩))) (h2:x.cell? ⟨g.tb,2,none⟩=some bv) (hn1:bo≠g.tv) (hn2:bo≠g.tb) (hov:∃ A n c,ov=.slice A n c)
  (hT:∀ w',(∀ b,b≠bo->w'.heap[b]?=x.heap[b]?)->w'.heap.size=x.heap.size->w'.os=x.os->w'.output=x.output->L.T t (c'.finish (.tuple #[ov,.bool st,bv])) mid w') :
  L.T t (Frame.at { (default:Frame) with fn:=42,kind:=.normal } ⟨frO ts sv mo f,[]⟩ (.code (aF (aF (aF (aF (aF (aF (aF (aF (aF (aF (aF (aF (Try.f42.body.getD .skip)))))))))))))::[])) (c'::mid) x:=by
 simp only[Try.f42,Option.getD_some,aF];have HT:=qd hT;clear hT;have h6:=hf.f6;have h7:=hf.f7;have h10:=hf.f10;simp only[frO,h6,h7,h10];refine Lg.move _ (λ_ _=>step_seq) id ?_;obtain⟨A,ln,cp,rfl⟩:=hov;refine Lg.qU hs (List.range' 123 6++[7,8]) (λf' w'=>f' 7=.bool st/\f' 8=bv/\w'=(w'.re w'.tape w'.drawn)/\(∀ b,b≠bo->w'.heap[b]?=x.heap[b]?)/\w'.heap.size=x.heap.size/\w'.os=x.os/\w'.output=x.output/\w'.cell? ⟨bo,0,none⟩=some (.slice A ln cp)) (λu τ n hu=>?_) ?_
 ·subst hu
  have c1:u.cell? ⟨bo,0,none⟩=some (.slice A ln cp):=(show Blk u bo _ _ from ho).cell 0;have c2:u.frozen? ⟨bo,0,none⟩=false:=(show Blk u bo _ _ from ho).frozen 0;have c3:u.cell? ⟨g.tv,0,none⟩=some (.pointer (some ⟨g.tb,0,none⟩)):=hv;have c4:u.cell? ⟨g.tb,2,none⟩=some bv:=h2;have hsame:=World.cell?_setCell_same u ⟨bo,0,none⟩ (.slice A ln cp) c1;have hf3:=World.cell?_setCell_other u ⟨bo,0,none⟩ ⟨g.tv,0,none⟩ (.slice A ln cp) (by intro q;injection q with q;exact hn1 q);have hf4:=World.cell?_setCell_other u ⟨bo,0,none⟩ ⟨g.tb,2,none⟩ (.slice A ln cp) (by intro q;injection q with q;exact hn2 q);rw[c3] at hf3;rw[c4] at hf4;clear ho hv h2
  go_region_held3 (λw'=>w'.cell? ⟨bo,0,none⟩=some (.slice A ln cp)/\w'.frozen? ⟨bo,0,none⟩=false/\w'.cell? ⟨g.tv,0,none⟩=some (.pointer (some ⟨g.tb,0,none⟩))/\w'.cell? ⟨g.tb,2,none⟩=some bv) (first | exact⟨c1,c2,c3,c4⟩ | exact⟨hsame,by simp;exact c2,hf3,hf4⟩ | go_keep) (fail)
  all_goals
   refine⟨rfl,rfl,rfl,rfl,rfl,λb hb=>?_,?_,rfl,rfl,hsame⟩
   ·exact Below.heap_setCell u ⟨bo,0,none⟩ _ b hb
   ·show (u.setCell _ _).heap.size=u.heap.size
    simp[World.setCell]
 rintro f' w' ⟨k7,k8,_,kb,ks,ko,kp,kc⟩;simp only[iH,fK,List.range',List.cons_append,List.nil_append,List.set_cons_zero,List.set_cons_succ,Nat.reduceAdd];simp only[k7,k8];refine Lg.move _ (λ_ _=>step_ret) id ?_;refine Lg.leave rfl Try.func42 rfl (v:=.tuple #[.slice A ln cp,.bool st,bv]) (λy τ n hy=>?_) (HT.out w' kb ks ko kp);have c1:y.cell? ⟨bo,0,none⟩=some (.slice A ln cp):=by rw[hy] at kc;exact kc
 simp[results,Try.f42,go_sem,c1]
theorem eD {w:World}{base base':Nat}{e:TypeId}{size n:Nat}{v:Value}{xs:List Value}(h:w.ownsRow base e size v n xs) (hb:base'<=base):w.ownsRow base' e size v n xs:=by
 obtain⟨h1,h2⟩:=h;refine⟨h1,?_⟩
 rcases h2 with h2 | ⟨g,cap,cur,hv,hg,r⟩
 ·exact .inl h2
 ·exact .inr ⟨g,cap,cur,hv,by omega,r⟩
structure Ready (n mm:Nat) (w:World) (g:Gs) (bn bo bm:Nat) (x:World):Prop where
 gn:g.n=n
 tu:TuAt g (λ_=>false) (λ_=>false) x
 ch:∀ c,iK g c->x.heap[c]?=some (.chan 0 #[] false 0 0 false)
 apart:∀ j,j<g.n->g.ps j≠g.bk
 inj:∀ i j,i<g.n->j<g.n->g.ps i=g.ps j->i=j
 new:∀ b,Tn g b->w.heap.size<=b/\b<x.heap.size
 old:Old w.heap.size w x
 hn:Blk x bn 3 #[.int .i64 n]
 hm:Blk x bm 3 #[.int .i64 mm]
 ho:Blk x bo 23 #[.slice none 0 0]
 lo:w.heap.size<=bn/\w.heap.size<=bm/\w.heap.size<=bo
 tn:¬Tn g bn/\¬Tn g bm/\¬Tn g bo
 ne:bn≠bm/\bo≠bn/\bo≠bm
theorem cK {x:World}{a b:Nat}{s t:TypeId}{c d:Array Value}(ha:Blk x a s c) (hb:Blk x b t d) (h:s≠t):a≠b:=λe=>by
 subst e;unfold Blk at ha hb;rw[ha] at hb;simp only[Option.some.injEq,Obj.cells.injEq] at hb;exact h hb.2.1
theorem blk_chan {x:World}{a b:Nat}{s:TypeId}{c:Array Value}{cap n m:Nat}{bf:Array Value}{cl tm:Bool}(ha:Blk x a s c) (hb:x.heap[b]?=some (.chan cap bf cl n m tm)):a≠b:=λe=>by
 subst e;unfold Blk at ha;rw[ha] at hb;cases hb
theorem made_ready {n mm tvb tb bk rb bn bo bm:Nat}{w w1 w2:World}{f:Nat->Value}{v:Value}{sb ps:Nat->Nat}(hn:0<n) (M:Made n mm w f w1 tvb tb bk rb bn bo bm) (hb:Blk w1 tb 140 #[.chan (some bk),.slice none 0 0,.slice (some ⟨rb,0,none⟩) n n]) (st:Stood n n tb tvb bk rb w1.heap.size w1 v sb ps w2) :
  ∃ g:Gs,g.tv=tvb/\Ready n mm w g bn bo bm w2:=by
 rcases st.own.2 with⟨_,h0⟩ | ⟨g0,cp,cur,rfl,hg0,hh0,hle,hmx,hsz,htk⟩
 ·omega
 have key:∀ {b:Nat}{o:Obj},w1.heap[b]?=some o->b≠tb->w2.heap[b]?=some o:=λ{b o} h hne=>(st.old.2.1 b (aB h) hne).trans h;obtain⟨n1,n2,n3,n4,n5,n6,n7,n8⟩:=M.new;have tne:∀ {b:Nat}{t:TypeId}{c:Array Value},Blk w1 b t c->t≠140->b≠tb:=λh ht=>cK h hb ht;have hn':Blk w2 bn 3 #[.int .i64 n]:=key M.hn (tne M.hn (by decide));have hm':Blk w2 bm 3 #[.int .i64 mm]:=key M.hm (tne M.hm (by decide));have ho':Blk w2 bo 23 #[.slice none 0 0]:=key M.ho (tne M.ho (by decide));have hv':Blk w2 tvb 136 #[.pointer (some ⟨tb,0,none⟩)]:=key M.tv (tne M.tv (by decide));have hr':Blk w2 rb 4 (Array.replicate n (.bool false)):=key M.hr (tne M.hr (by decide));have hk':w2.heap[bk]?=some (.chan 0 #[] false 0 0 false):=key M.hk (λe=>by have:=M.hk;rw[e,show w1.heap[tb]?=_ from hb] at this;cases this);have ha':Blk w2 g0 141 cur:=hh0;have hlt1:=M.hn.lt;have hlt2:=M.hm.lt;have hlt3:=M.ho.lt;have hlk:bk<w1.heap.size:=aB M.hk
 have hch:∀ c,iK (⟨n,cp,tvb,tb,g0,rb,bk,sb,ps,136,140,141,144,4⟩:Gs) c->w2.heap[c]?=some (.chan 0 #[] false 0 0 false):=λc hc=>by
  rcases hc with rfl | ⟨i,hi,rfl⟩
  ·exact hk'
  ·exact st.p i hi
 have notTn:∀ {b:Nat}{t:TypeId}{c:Array Value},Blk w2 b t c->b<w1.heap.size->t≠136->t≠140->t≠4->¬Tn (⟨n,cp,tvb,tb,g0,rb,bk,sb,ps,136,140,141,144,4⟩:Gs) b:=λ{b t c} hB hlt t1 t2 t3 hT=>by
  rcases hT with rfl | rfl | rfl | rfl | ⟨i,hi,rfl⟩ | hc
  ·exact cK hB hv' t1 rfl
  ·exact cK hB st.ht t2 rfl
  ·exact absurd hg0 (by first | omega |(simp only at hlt;omega))
  ·exact cK hB hr' t3 rfl
  ·have:=(st.lo i hi).1;first | omega |(simp only at hlt;omega)
  ·exact blk_chan hB (hch _ hc) rfl
 refine⟨⟨n,cp,tvb,tb,g0,rb,bk,sb,ps,136,140,141,144,4⟩,rfl,⟨rfl,⟨hv',st.ht,⟨cur,ha',λi hi=>?_⟩,λi hi=>st.s i hi,⟨_,hr',by simp,λi hi=>?_⟩⟩,hch,λj hj e=>?_,λi j hi hj e=>st.inj i j hi hj e,λb hT=>?_,?_,hn',hm',ho',⟨n2,n4,n3⟩,⟨notTn hn' hlt1 (by decide) (by decide) (by decide),notTn hm' hlt2 (by decide) (by decide) (by decide),notTn ho' hlt3 (by decide) (by decide) (by decide)⟩,⟨M.ne,cK ho' hn' (by decide),cK ho' hm' (by decide)⟩⟩⟩
 ·have h1:=congrArg (·[i]?) htk
  simp only[Nat.mul_one,List.getElem?_take,List.getElem?_map,List.getElem?_range hi,hi,if_true,Option.map_some] at h1
  simpa using h1
 ·simp [show i<n from hi]
 ·have:=(st.lo j hj).2
  simp only at e
  omega
 ·rcases hT with rfl | rfl | rfl | rfl | ⟨i,hi,rfl⟩ | hc
  ·exact ⟨n5,hv'.lt⟩
  ·exact ⟨n6,st.ht.lt⟩
  ·have:=n1.size; exact⟨by first | omega |(simp only;omega),ha'.lt⟩
  ·exact ⟨n8,hr'.lt⟩
  ·have:=(st.lo i hi).1;have:=n1.size;exact⟨by first | omega |(simp only;omega),(st.s i hi).lt⟩
  ·refine ⟨?_,aB (hch _ hc)⟩
   rcases hc with rfl | ⟨i,hi,rfl⟩
   ·exact n7
   ·have:=(st.lo i hi).2;have:=n1.size;first | omega |(simp only;omega)
 ·exact n1.trans ⟨st.old.1,λb hb'=>st.old.2.1 b (by have:=n1.size;omega) (λe=>by omega),st.old.2.2⟩
structure SchI (W0:World) (sv:Value) (xs:List Int) (Z:Nat->Prop) (x:World):Prop where
 at_:∃ A c,sv=.slice A xs.length c/\∀ i,i<xs.length->∃ b o cs t r,A=some ⟨b,o,none⟩/\x.heap[b]?=some (.cells cs t r)/\(b<W0.heap.size\/(r.2<big/\¬Z b))/\cs[o+i]?=some (.int .i64 (xs.getD i 0))
 len:xs.length<=maxLen
structure OverDone (q:Shd) (W0:World) (n:Nat) (cc:Run q.S) (H₀:Nat->Prop) (w:World) (v:Value) (w':World):Prop where
 val:∃ ov bv,v=.tuple #[ov,.bool (decide (0<cc.m.left n)),bv]/\w'.ownsRow w.heap.size 3 1 ov cc.order.length (cc.order.map (Value.int .i64))
 rep:∃ H,q.Rep cc.m.s H w'/\∀ (b:Nat) (c:Array Value) (t:TypeId) (r:Nat × Nat),(b<W0.heap.size\/(r.2<big/\¬H₀ b/\¬q.RB b))->w.heap[b]?=some (.cells c t r)->¬H b
 rb:∀ b,q.RB b->W0.heap.size<=b->∀ c t r,q.rv b=.cells c t r->w'.heap[b]?=some (q.rv b)
 size:w.heap.size<=w'.heap.size
 near:∀ (b:Nat) (c:Array Value) (t:TypeId) (r:Nat × Nat),(b<W0.heap.size\/(r.2<big/\¬H₀ b/\¬q.RB b))->w.heap[b]?=some (.cells c t r)->w'.heap[b]?=some (.cells c t r)
 io:w'.os=w.os/\w'.output=w.output
structure OverAsks (q:Shd) (W0:World) (s0:q.S) (H₀:Nat->Prop) (w:World):Prop where
 rep:q.Rep s0 H₀ w
 sh:∀ b,H₀ b->b<w.heap.size
 rb:∀ b,q.RB b->b<w.heap.size/\¬H₀ b/\∃ c t r,q.rv b=.cells c t r/\w.heap[b]?=some (.cells c t r)/\(r.2<big\/b<W0.heap.size)
 io:w.os=q.os/\w.output=q.out
theorem Ready.re {n mm:Nat}{w:World}{g:Gs}{bn bo bm:Nat}{y:World}{τ:Nat->Question->Nat}{d:Nat}(h:Ready n mm w g bn bo bm (y.re τ d)):Ready n mm w g bn bo bm y:=
 ⟨h.gn,⟨h.tu.v,h.tu.t,h.tu.a,h.tu.s,h.tu.b⟩,h.ch,h.apart,h.inj,h.new,h.old.re,h.hn,h.hm,h.ho,h.lo,h.tn,h.ne⟩
theorem Ready.alloc {n mm:Nat}{w:World}{g:Gs}{bn bo bm:Nat}{y:World}(h:Ready n mm w g bn bo bm y) (o:Obj):Ready n mm w g bn bo bm (y.alloc o):=by
 have key:∀ {b:Nat}{x:Obj},y.heap[b]?=some x->(y.alloc o).heap[b]?=some x:=λ{b x} hb=>(Below.heap_alloc y o b (aB hb)).trans hb;exact⟨h.gn,tuAt_of h.tu λb c t hb=>key hb,λc hc=>key (h.ch c hc),h.apart,h.inj,λb hb=>⟨(h.new b hb).1,by have:=(h.new b hb).2;simp;omega⟩,h.old.new h.old.size o,h.hn.alloc o,h.hm.alloc o,h.ho.alloc o,h.lo,h.tn,h.ne⟩
theorem Old.keep {B:Nat}{a b:World}(h:Old B a b) {i:Nat}{o:Obj}(hi:i<B) (ha:a.heap[i]?=some o):b.heap[i]?=some o:=(h.block i hi).trans ha
theorem over_close (hP:Prog Try.prog) (e:Env Try.prog) {t:Nat × Mach e.S}{bn bo bm bl:Nat}{k:List Item}{mid:List Frame}(ts sv:Value) (mo:Int) {f:Nat->Value}{x0:World}(hf:Sl2 f e.g bn bo bm bl)
  (hT:∀ f' w',Sl3 f' e.g bn bo bm bl->HeldM x0 w'->x0.heap.size=w'.heap.size->(lgM hP e).T t (Frame.at { (default:Frame) with fn:=42,kind:=.normal } ⟨frO ts sv mo f',[]⟩ k) mid w') :
  (lgM hP e).T t (Frame.at { (default:Frame) with fn:=42,kind:=.normal } ⟨frO ts sv mo f,[]⟩ (.code (fY (aF (aF (aF (aF (aF (aF (aF (Try.f42.body.getD .skip)))))))))::k)) mid x0:=by
 simp only[Try.f42,Option.getD_some,aF,fY];have HT:=qd hT;clear hT;have h5:=hf.sl.f5;have h6:=hf.sl.f6;have h9:=hf.sl.f9;have h10:=hf.sl.f10;have h11:=hf.f11;simp only[frO,h5,h6,h9,h10,h11];refine Lg.code λK hK u τ n hu=>?_;subst hu;go_wp2;refine hK _ _ (λh=>h.elim) ?_;clear hK K;exact Lg.bP (frO ts sv mo) (R:=λf'=>Sl3 f' e.g bn bo bm bl) (λf' hf'=>HT.out f' _ hf' ⟨Nat.le_refl _,λ_ _ _ _ h _=>h⟩ rfl) (by rfl) ⟨⟨⟨rfl,rfl,hf.sl.f7,rfl,rfl⟩,rfl⟩,rfl⟩
theorem over_main (hP:Prog Try.prog) (Post:Value->World->Prop) (W0:World) (q:Shd) (birth:Nat->q.S->Tree q.S q.S) (MI:Mach q.S->Prop) (caps:Nat->Array Value) (ta:Addr) (nt cap n mm:Nat) (hM:MInv MI n) (hn64:n<=64) (hn0:0<n) (hnt:n<=nt) (hmost:mm<=1048576) (sv:Value) (xs:List Int) (most:Int) (s0:q.S) (hwh:∀ j,j<n->birth j (Mach.born birth ⟨s0,λ_=>.unborn⟩ j).s≠.cut) (hM0:MI (Mach.born birth ⟨s0,λ_=>.unborn⟩ n)) (H₀:Nat->Prop) (w:World)
  (hask:OverAsks q W0 s0 H₀ w) (hfun:Funs n ta caps w) (hta:¬H₀ ta.block/\¬q.RB ta.block) (hsch:SchI W0 sv xs (λb=>H₀ b\/q.RB b) w)
  (hlaw:∀ g b pos apart inj i,i<g.n->g.n=n->∀ s H x,q.Rep s H x->fU (q.env Try.prog Post W0 g b pos apart inj) i (caps i) s (birth i s) x)
  {c':Frame}{mid:List Frame}(hR:∀ v w',OverDone q W0 n (bI birth n mm xs s0) H₀ w v w'->(lgA hP Post W0).T () (c'.finish v) mid w')
  {g:Gs}{bn bo bm bl:Nat}{f:Nat->Value}{x:World}(R:Ready n mm w g bn bo bm x) (hl:Blk x bl 3 #[.int .i64 0]) (hll:w.heap.size<=bl/\bl≠bn/\bl≠bm/\bl≠bo/\¬Tn g bl) (hf:Sl2 f g bn bo bm bl) :
  (lgA hP Post W0).T () (Frame.at { (default:Frame) with fn:=42,kind:=.normal } ⟨frO (.slice (some ta) nt cap) sv most f,[]⟩ (.code (aF (aF (aF (aF (aF (aF (Try.f42.body.getD .skip)))))))::[])) (c'::mid) x:=by
 have hH:=λ(e:Env Try.prog) (hn:e.g.n<=64)=>pX hP e hn;intro N
 by_cases hN:N=0
 ·intro d hl2 hK0 hI gs sl T q' B hL hp ha hsz
  have:=(Array.getElem?_eq_some_iff.1 ha).1
  omega
 have pos:0<N:=by omega
 have hgn:=R.gn;have oldc:∀ (b:Nat) (c:Array Value) (t:TypeId) (r:Nat × Nat),w.heap[b]?=some (.cells c t r)->x.heap[b]?=some (.cells c t r):=λb c t r h=>R.old.keep (aB h) h;refine begin_run (q:=q) (W0:=W0) (N:=N) (B:=w.heap.size) pos R.apart R.inj (s0:=s0) (H₀:=H₀) ?_ hask.sh (λb hb=>?_) (λb hb=>(R.new b hb).1) R.tu R.ch ⟨R.old.io.1.trans hask.io.1,R.old.io.2.trans hask.io.2⟩ λx' hx=>?_
 ·exact q.rep s0 H₀ w x hask.rep (λb hb=>R.old.block b (hask.sh b hb)) λb c t r hb h=>⟨r,oldc _ _ _ _ h⟩
 ·obtain ⟨h1,h2,c,t,r,h3,h4,h5⟩:=hask.rb b hb
  exact⟨h1,h2,c,t,r,h3,oldc _ _ _ _ h4,h5⟩
-- goroutine 0 among the threads
 have newb:∀ b,w.heap.size<=b->¬H₀ b/\¬q.RB b:=λb hb=>⟨λz=>by have:=hask.sh b z;omega,λz=>by have:=(hask.rb b z).1;omega⟩;have nearx:∀ {b:Nat}{t:TypeId}{c:Array Value},Blk x b t c->w.heap.size<=b->¬Tn g b->Blk x' b t c:=λ{b t c} hB hb ht=>hx.own b c t (0,0) (.inr ⟨by decide,(newb b hb).1,(newb b hb).2,ht⟩) hB;have oldn:∀ (b:Nat) (c:Array Value) (t:TypeId) (r:Nat × Nat),(b<W0.heap.size\/(r.2<big/\¬H₀ b/\¬q.RB b))->w.heap[b]?=some (.cells c t r)->x'.heap[b]?=some (.cells c t r):=λb c t r hc h3=>hx.own b c t r (hc.imp id λz=>⟨z.1,z.2.1,z.2.2,λz=>by have:=(R.new b z).1;have:=aB h3;omega⟩) (oldc _ _ _ _ h3)
 have nrw:∀ (b:Nat) (c:Array Value) (t:TypeId) (r:Nat × Nat),(b<W0.heap.size\/(r.2<big/\¬H₀ b/\¬q.RB b))->w.heap[b]?=some (.cells c t r)->(r.2<big\/r.2%2=1):=λb c t r hc h3=>by
  rcases hc with hc | hc
  ·exact .inr (hx.odd b c t r hc (oldc _ _ _ _ h3))
  ·exact .inl hc.1
 have xn:Blk x' bn 3 #[.int .i64 n]:=nearx R.hn R.lo.1 R.tn.1;have xm:Blk x' bm 3 #[.int .i64 mm]:=nearx R.hm R.lo.2.1 R.tn.2.1;have xo:Blk x' bo 23 #[.slice none 0 0]:=nearx R.ho R.lo.2.2 R.tn.2.2;have xl:Blk x' bl 3 #[.int .i64 0]:=nearx hl hll.1 hll.2.2.2.2
 let e:Env Try.prog:=q.env Try.prog Post W0 g N pos R.apart R.inj
 show (lgM hP e).T (e.b,⟨s0,λ_=>.unborn⟩) _ _ x'
 rw[show aF (aF (aF (aF (aF (aF (Try.f42.body.getD .skip))))))=.seq (fY (aF (aF (aF (aF (aF (aF (Try.f42.body.getD .skip)))))))) (aF (aF (aF (aF (aF (aF (aF (Try.f42.body.getD .skip)))))))) from rfl];refine Lg.move _ (λ_ _=>step_seq) id ?_;have hgn':e.g.n=n:=hgn;refine pX hP e (by rw[hgn'];exact hn64) birth s0 (by rw[hgn'];exact hwh) caps (λi hi s H x hr=>hlaw g N pos R.apart R.inj i hi hgn s H x hr) ?_ ta nt cap sv most (by rw[hgn'];exact hnt) hf (by rw[hgn'];exact xn) xl (Ne.symm hll.2.1) ?_ ?_ ?_
 ·intro i hi
  simp only[List.mem_singleton] at hi;subst hi;simp only[gC]
  kernel_rfl
 ·obtain ⟨⟨c,t,r,k1,k2,k3⟩,k4⟩:=hfun
  exact⟨⟨c,t,r,oldn _ _ _ _ (.inr ⟨k2,hta.1,hta.2⟩) k1,k2,by rw[hgn'];exact k3⟩,k4⟩
 ·obtain ⟨⟨c,t,r,k1,k2,k3⟩,k4⟩:=hfun
  have:=aB k1
  omega
 intro f2 w4 hf2 hh;rw[show aF (aF (aF (aF (aF (aF (aF (Try.f42.body.getD .skip)))))))=.seq (fY (aF (aF (aF (aF (aF (aF (aF (Try.f42.body.getD .skip))))))))) (aF (aF (aF (aF (aF (aF (aF (aF (Try.f42.body.getD .skip))))))))) from rfl];refine Lg.move _ (λ_ _=>step_seq) id ?_;refine over_close hP e (.slice (some ta) nt cap) sv most hf2 λf3 w5 hf3 h5 hs5=>?_
-- the state at the loops
 have hh5:HeldX (λb=>b=bl) x' w5:=hh.held.trans h5.x;have hsz5:x.heap.size<=w5.heap.size:=by have:=hx.size;have:=hh5.size;omega
 have wn:Blk w5 bn 3 #[.int .i64 e.g.n]:=by rw[hgn'];exact eA hh5 xn (Ne.symm hll.2.1)
 have wm:Blk w5 bm 3 #[.int .i64 mm]:=eA hh5 xm (Ne.symm hll.2.2.1);have wo:Blk w5 bo 23 #[.slice none 0 0]:=eA hh5 xo (Ne.symm hll.2.2.2.1);have wl:Blk w5 bl 3 #[.int .i64 ((Mach.born birth ⟨s0,λ_=>.unborn⟩ e.g.n).left e.g.n)]:=h5.block _ _ _ _ hh.l (.inl (by decide))
 have hO:OvL e MI w5.heap.size bn bo bm bl mm w5 ⟨Mach.born birth ⟨s0,λ_=>.unborn⟩ e.g.n,[]⟩ w5:=by
  refine⟨⟨wn,wm,wl,⟨_,wo,rfl,.inl ⟨rfl,rfl⟩⟩,⟨wn.lt,wo.lt,wm.lt,wl.lt,Nat.le_refl _⟩,⟨R.ne.2.1,R.ne.2.2,Ne.symm hll.2.2.2.1,hll.2.1,hll.2.2.1⟩⟩,HeldX.refl _ _,Nat.zero_le _,λj hj=>qQ _ _ (by rw[hgn'];exact hwh) j hj,by rw[hgn'];exact hM0⟩
 have hnear5:∀ (b:Nat) (c:Array Value) (t:TypeId) (r:Nat × Nat),(b<W0.heap.size\/(r.2<big/\¬H₀ b/\¬q.RB b))->w.heap[b]?=some (.cells c t r)->w5.heap[b]?=some (.cells c t r):=λb c t r hc h3=>hh5.block b c t r (λz=>by have:=aB h3;omega) (oldn b c t r hc h3) (nrw b c t r hc h3)
 have hS5:Sch sv xs (OvZ w5.heap.size bo bl) w5:=by
  refine⟨?_,hsch.len⟩;obtain⟨A,cp,hsv,hcs⟩:=hsch.at_;refine⟨A,cp,hsv,λi hi=>?_⟩;obtain⟨b,o,cs,t,r,h1,h2,h3,h6⟩:=hcs i hi;have hbw:=aB h2;have hc:b<W0.heap.size\/(r.2<big/\¬H₀ b/\¬q.RB b):=h3.imp id λz=>⟨z.1,λy=>z.2 (.inl y),λy=>z.2 (.inr y)⟩;refine⟨b,o,cs,t,r,h1,hnear5 b cs t r hc h2,nrw b cs t r hc h2,λz=>?_,h6⟩;have:=R.lo;have:=R.old.size;have:=hsz5
  rcases z with z | z | z <;> omega
 rw[show aF (aF (aF (aF (aF (aF (aF (aF (Try.f42.body.getD .skip))))))))=.seq (fY (aF (aF (aF (aF (aF (aF (aF (aF (Try.f42.body.getD .skip)))))))))) (aF (aF (aF (aF (aF (aF (aF (aF (aF (Try.f42.body.getD .skip)))))))))) from rfl];refine Lg.move _ (λ_ _=>step_seq) id ?_;refine over_sched hP e (by rw[hgn'];exact hn64) (MI:=MI) (by rw[hgn'];exact hM) hmost (.slice (some ta) nt cap) sv most xs hf3 hS5 hO λf4 w6 hf4 hO6=>?_;rw[show aF (aF (aF (aF (aF (aF (aF (aF (aF (Try.f42.body.getD .skip)))))))))=.seq (fY (aF (aF (aF (aF (aF (aF (aF (aF (aF (Try.f42.body.getD .skip))))))))))) (aF (aF (aF (aF (aF (aF (aF (aF (aF (aF (Try.f42.body.getD .skip))))))))))) from rfl];refine Lg.move _ (λ_ _=>step_seq) id ?_;refine over_rounds hP e (by rw[hgn'];exact hn64) (MI:=MI) (by rw[hgn'];exact hM) hmost (.slice (some ta) nt cap) sv most hf4 ⟨hO6.s,HeldX.refl _ _,hO6.le,hO6.good,hO6.mi⟩ λf5 w7 hf5 hO7=>?_;rw[show aF (aF (aF (aF (aF (aF (aF (aF (aF (aF (Try.f42.body.getD .skip))))))))))=.seq (fY (aF (aF (aF (aF (aF (aF (aF (aF (aF (aF (Try.f42.body.getD .skip)))))))))))) (aF (aF (aF (aF (aF (aF (aF (aF (aF (aF (aF (Try.f42.body.getD .skip)))))))))))) from rfl];refine Lg.move _ (λ_ _=>step_seq) id ?_;refine over_stuck hP e (.slice (some ta) nt cap) sv most hf5 hO7.s λf6 w8 hf6 h8=>?_;rw[show aF (aF (aF (aF (aF (aF (aF (aF (aF (aF (aF (Try.f42.body.getD .skip)))))))))))=.seq (fY (aF (aF (aF (aF (aF (aF (aF (aF (aF (aF (aF (Try.f42.body.getD .skip))))))))))))) (aF (aF (aF (aF (aF (aF (aF (aF (aF (aF (aF (aF (Try.f42.body.getD .skip))))))))))))) from rfl];refine Lg.move _ (λ_ _=>step_seq) id ?_;refine over_loose hP e (by rw[hgn'];exact hn64) (.slice (some ta) nt cap) sv most hO7.good hf6 λf7 w9 hf7 h9=>?_
-- all are over
 have hc:(Run.rounds e.g.n mm mm (Run.turns e.g.n mm ⟨Mach.born birth ⟨s0,λ_=>.unborn⟩ e.g.n,[]⟩ xs))=bI birth n mm xs s0:=by rw[hgn'];rfl
 have hover:∀ i,i<g.n->((Run.rounds e.g.n mm mm (Run.turns e.g.n mm ⟨Mach.born birth ⟨s0,λ_=>.unborn⟩ e.g.n,[]⟩ xs)).m.ended e.g.n).th i=.over:=λi hi=>oM hO7.good e.g.n (Nat.le_refl _) i hi;obtain⟨ov,hov,hown⟩:=hO7.s.o;have hov9:Blk w9 bo 23 #[ov]:=eA (HeldX.trans h8.x h9.x) hov (Z:=λ_=>False) id;have hown9:=pT (h8.trans h9) hown;refine end_run (q:=q) (W0:=W0) (P:=Try.prog) (pos:=pos) (apart:=R.apart) (inj:=R.inj) hover λx2 s1=>?_;have hs:(((Run.rounds e.g.n mm mm (Run.turns e.g.n mm ⟨Mach.born birth ⟨s0,λ_=>.unborn⟩ e.g.n,[]⟩ xs)).m.ended e.g.n)).s=(bI birth n mm xs s0).m.s:=by rw[ended_s,hc]
 obtain⟨ov2,br2,htu⟩:=s1.tu hx.tn;obtain⟨H₁,hre1,hfar⟩:=s1.rep;have hbo:¬H₁ bo:=hfar bo _ _ (0,0) (.inr (by decide)) hov9;have xbo:Blk x2 bo 23 #[ov]:=s1.own bo _ _ (0,0) (.inr (by decide)) hov9;obtain⟨A,ln,rfl⟩:∃ A ln,ov=.slice A _ ln:=aQ hown;have htv:=htu.tv';have nt1:bo≠g.tv:=λz=>R.tn.2.2 (.inl z);have nt2:bo≠g.tb:=λz=>R.tn.2.2 (.inr (.inl z))
 show (lgAl hP Post W0 (e.b+e.g.n)).T () _ _ x2
 refine over_last (lgAl hP Post W0 (e.b+e.g.n)) (λh=>h) (.slice (some ta) nt cap) sv most hf7 xbo htv.v htv.t2 nt1 nt2 ⟨_,_,_,rfl⟩ λw' kb ks ko kp=>?_;have hbw:w.heap.size<=bo:=R.lo.2.2
 have k9:∀ (b:Nat) (c:Array Value) (t:TypeId) (r:Nat × Nat),(b<W0.heap.size\/(r.2<big/\¬H₀ b/\¬q.RB b))->w.heap[b]?=some (.cells c t r)->w9.heap[b]?=some (.cells c t r):=λb c t r hc h3=>by
  have h4:=nrw b c t r hc h3;have hbl:=aB h3;have z2:¬OvZ w5.heap.size bo bl b:=λz=>by have:=hll.1;have:=R.old.size;rcases z with z | z | z <;> omega
  exact(h8.trans h9).block b c t r ((hO6.held.trans hO7.held).block b c t r z2 (hnear5 b c t r hc h3) h4) h4
 refine hR _ w' ?_ (e.b+e.g.n);refine⟨⟨.slice A (Run.rounds e.g.n mm mm (Run.turns e.g.n mm ⟨Mach.born birth ⟨s0,λ_=>.unborn⟩ e.g.n,[]⟩ xs)).order.length ln,.slice (some ⟨g.rb,0,none⟩) g.n g.n,?_,?_⟩,?_,?_,?_,?_,?_⟩
 ·rw [<-hc,<-hgn'];rfl
 ·rw [<-hc]
  obtain⟨e1,e2⟩:=hown9;refine eD (base:=w5.heap.size) ⟨e1,?_⟩ (by have:=R.old.size;omega)
  rcases e2 with e2 | ⟨g0,cp,cur,hv,hg0,hh0,r⟩
  ·exact .inl e2
  ·refine .inr ⟨g0,cp,cur,hv,hg0,(kb g0 (by have:=hO.s.lt;omega)).trans (s1.own _ _ _ (0,0) (.inr (by decide)) hh0),r⟩
 ·have this:q.Rep (((Run.rounds e.g.n mm mm (Run.turns e.g.n mm ⟨Mach.born birth ⟨s0,λ_=>.unborn⟩ e.g.n,[]⟩ xs)).m.ended e.g.n)).s H₁ x2:=hre1
  have this:q.Rep (bI birth n mm xs s0).m.s H₁ x2:=hs▸this;refine⟨H₁,?_,λb c t r hc h3=>hfar b c t r (hc.imp id λz=>z.1) (k9 b c t r hc h3)⟩;exact q.rep _ H₁ x2 w' this (λb hb=>kb b (λz=>hbo (z▸hb))) λb c t r hb h=>⟨r,(kb b (λz=>(newb bo hbw).2 (z▸hb))).trans h⟩
 ·intro b hb hge c t r hv
  exact(kb b (λz=>(newb bo hbw).2 (z▸hb))).trans (s1.rb b hb hge c t r hv)
 ·have:=R.old.size
  have:=hsz5;have:=hO6.held.size;have:=hO7.held.size;have:=h8.size;have:=h9.size;have:=s1.size
  omega
 ·intro b c t r hc h3
  have hbl:=aB h3;have z1:b≠bo:=by omega
  exact(kb b z1).trans (s1.own b c t r (hc.imp id λz=>z.1) (k9 b c t r hc h3))
 ·exact ⟨ko.trans (s1.io.1.trans hask.io.1.symm),kp.trans (s1.io.2.trans hask.io.2.symm)⟩
theorem over_left {κ:Type}(L:Lg Try.prog κ) (hs:¬L.strict) {t:κ}{b:Frame}{k:List Item}{mid:List Frame}(ta:Addr) (nt cap:Nat) (sv:Value) (mo:Int) {f:Nat->Value}{g:Gs}{bn bo bm:Nat}{x0:World}(hf:Sl f g.tv bn bo bm)
  (hT:∀ f' (y:World),(∃ τ n,x0=y.re τ n)->Sl2 f' g bn bo bm y.heap.size->L.T t (b.at ⟨frO (.slice (some ta) nt cap) sv mo f',[]⟩ k) mid (y.alloc (.cells #[.int .i64 0] 3))) :
  L.T t (b.at ⟨iH f (#[.slice (some ta) nt cap,sv,.int .i64 mo]++Array.replicate (Try.f42.ntmps-3) undef) ns1,[]⟩ (.code (fY (aF (aF (aF (aF (aF (Try.f42.body.getD .skip)))))))::k)) mid x0:=by
 have HT:=qd hT;clear hT;simp only[Try.f42,Option.getD_some,Nat.reduceSub,Array.replicate_succ,Array.replicate_zero,List.push_toArray,List.append_toArray,List.nil_append,List.cons_append,aF,fY];simp only[iH,fK,ns1,List.range',List.cons_append,List.nil_append,List.set_cons_zero,List.set_cons_succ,Nat.reduceAdd];refine Lg.code λK hK u τ n hu=>?_;go_wp2;refine hK _ _ (λh=>absurd h hs) ?_;clear hK K;exact Lg.bP (frO (.slice (some ta) nt cap) sv mo) (R:=λf'=>Sl2 f' g bn bo bm u.heap.size) (λf' hf'=>HT.out f' u ⟨τ,n,hu⟩ hf') (by rfl) ⟨⟨hf.f5,hf.f6,hf.f7,hf.f9,hf.f10⟩,rfl⟩
theorem over_calls (hP:Prog Try.prog) (Post:Value->World->Prop) (W0:World) (q:Shd) (birth:Nat->q.S->Tree q.S q.S) (MI:Mach q.S->Prop) (caps:Nat->Array Value) (ta:Addr) (nt cap:Nat) (hM:MInv MI (min nt 64)) (hnt:nt<=maxLen) (hpos:0<nt) (sv:Value) (xs:List Int) (most:Int) (s0:q.S) (hwh:∀ j,j<min nt 64->birth j (Mach.born birth ⟨s0,λ_=>.unborn⟩ j).s≠.cut) (hM0:MI (Mach.born birth ⟨s0,λ_=>.unborn⟩ (min nt 64))) (H₀:Nat->Prop) (w:World)
  (hask:OverAsks q W0 s0 H₀ w) (hfun:Funs (min nt 64) ta caps w) (hta:¬H₀ ta.block/\¬q.RB ta.block) (hsch:SchI W0 sv xs (λb=>H₀ b\/q.RB b) w)
  (hlaw:∀ g b pos apart inj i,i<g.n->g.n=min nt 64->∀ s H x,q.Rep s H x->fU (q.env Try.prog Post W0 g b pos apart inj) i (caps i) s (birth i s) x) :
  Ccalls (lgA hP Post W0) 42 #[.slice (some ta) nt cap,sv,.int .i64 most] () w λv _ w'=>OverDone q W0 (min nt 64) (bI birth (min nt 64) (cH most 1048576).toNat xs s0) H₀ w v w':=by
 intro c' mid hR;have hR:=qd hR;rw[show Frame.enter Try.prog 42 #[.slice (some ta) nt cap,sv,.int .i64 most] .normal=Frame.at { (default:Frame) with fn:=42,kind:=.normal } ⟨#[.slice (some ta) nt cap,sv,.int .i64 most]++Array.replicate (Try.f42.ntmps-3) undef,[]⟩ [.code (Try.f42.body.getD .skip)] from by simp[Frame.enter,Frame.at,Try.func42];rfl];have hs:¬(lgA hP Post W0).strict:=λh=>h;have hn64:min nt 64<=64:=by omega
 have hn0:0<min nt 64:=by omega
 have hmost:(cH most 1048576).toNat<=1048576:=by unfold cH;omega
 refine pW (lgA hP Post W0) hs (some ta) nt cap sv most hnt ?_;rintro f1 w1 ⟨tvb,tb,bk,rb,bn,bo,bm,M,hb⟩;refine pV (lgA hP Post W0) hs (some ta) nt cap sv most hn64 M hb ?_;rintro w2 ⟨v2,sb,ps,st⟩ f2 hf2;obtain⟨g,hgt,R⟩:=made_ready hn0 M hb st;rw[show aF (aF (aF (aF (aF (Try.f42.body.getD .skip)))))=.seq (fY (aF (aF (aF (aF (aF (Try.f42.body.getD .skip))))))) (aF (aF (aF (aF (aF (aF (Try.f42.body.getD .skip))))))) from rfl];refine Lg.move _ (λ_ _=>step_seq) id ?_;refine over_left (lgA hP Post W0) hs ta nt cap sv most (by rw[hgt];exact hf2) ?_;rintro f3 y ⟨τ,d,rfl⟩ hf3;have Ry:=R.re;have hlt:∀ b,Tn g b->b<y.heap.size:=λb hb=>(Ry.new b hb).2;exact over_main hP Post W0 q birth MI caps ta nt cap (min nt 64) (cH most 1048576).toNat hM hn64 hn0 (by omega) hmost sv xs most s0 hwh hM0 H₀ w hask hfun hta hsch hlaw (λv w' h=>hR.out v () w' h) (Ry.alloc _) (Blk.new y 3 #[.int .i64 0]) ⟨Ry.old.size,λz=>by have:=Ry.hn.lt;omega,λz=>by have:=Ry.hm.lt;omega,λz=>by have:=Ry.ho.lt;omega,λz=>by have:=hlt _ z;omega⟩ hf3
theorem turn_none (i:Int) (bn:Nat) (p1 p2 p3 p4:Value) (w:World) (h:w.cell? ⟨bn,0,none⟩=some (.int .i64 0)):Calls Try.prog 67 #[.int .i64 i,.pointer (some ⟨bn,0,none⟩),p1,p2,p3,p4] w λe w'=>e=.returned (.tuple #[])/\w=w':=by
 by_cases hi:i<0
 ·have h1:decide (i<0)=true:=by simpa using hi
  go_enter Try.func67,Try.ntmps67
  go_wp2
  (try simp only[Exit.inBlock,Exit.then]);refine bodyPost_ret (results_none rfl _ _ _) rfl ?_
  exact⟨rfl,rfl⟩
 ·have h1:decide (i<0)=false:=by simpa using hi
  have h2:decide (0<=i)=true:=by simp;omega
  go_enter Try.func67,Try.ntmps67
  go_wp2
  (try simp only[Exit.inBlock,Exit.then]);refine bodyPost_ret (results_none rfl _ _ _) rfl ?_
  exact⟨rfl,rfl⟩
theorem over_none {κ:Type}(L:Lg Try.prog κ) (hs:¬L.strict) (t:κ) (W0:World) (Z:Nat->Prop) (tA:Option Addr) (cp:Nat) (sv:Value) (most:Int) (xs:List Int) (w:World) (hsch:SchI W0 sv xs Z w) :
  Ccalls L 42 #[.slice tA 0 cp,sv,.int .i64 most] t w λv t' w'=>t'=t/\(∃ bv,v=.tuple #[.slice none 0 0,.bool false,bv])/\Old w.heap.size w w':=by
 intro c' mid hR;have hR:=qd hR;rw[show Frame.enter Try.prog 42 #[.slice tA 0 cp,sv,.int .i64 most] .normal=Frame.at { (default:Frame) with fn:=42,kind:=.normal } ⟨#[.slice tA 0 cp,sv,.int .i64 most]++Array.replicate (Try.f42.ntmps-3) undef,[]⟩ [.code (Try.f42.body.getD .skip)] from by simp[Frame.enter,Frame.at,Try.func42];rfl];refine pW L hs tA 0 cp sv most (by decide) ?_;rintro f1 w1 ⟨tvb,tb,bk,rb,bn,bo,bm,M,hb⟩;refine pV L hs tA 0 cp sv most (by decide) M hb ?_;rintro w2 ⟨v2,sb,ps,st⟩ f2 hf2;have e0:min 0 64=0:=rfl;rw[e0] at M st hb;have tne:∀ {b:Nat}{u:TypeId}{c:Array Value},Blk w1 b u c->u≠140->b≠tb:=λh ht=>cK h hb ht;have key:∀ {b:Nat}{o:Obj},w1.heap[b]?=some o->b≠tb->w2.heap[b]?=some o:=λ{b o} h hne=>(st.old.2.1 b (aB h) hne).trans h;have hold:Old w.heap.size w w2:=M.new.1.trans ⟨st.old.1,λb hb'=>st.old.2.1 b (by have:=M.new.1.size;omega) (λe=>by have:=M.new.2.2.2.2.2.1;omega),st.old.2.2⟩
 have hcell:∀ i,i<xs.length->∃ A c b o,sv=.slice A xs.length c/\A=some ⟨b,o,none⟩/\w2.cell? ⟨b,o+i,none⟩=some (.int .i64 (xs.getD i 0)):=λi hi=>by
  obtain⟨A,c,h1,h2⟩:=hsch.at_;obtain⟨b,o,cs,u,r,h3,h4,h5,h6⟩:=h2 i hi;exact⟨A,c,b,o,h1,h3,(cell_of_row w2 b (o+i) cs u r ((hold.block b (aB h4)).trans h4)).trans h6⟩
 obtain⟨A,c,rfl,-⟩:=hsch.at_
 have hcell:∀ i,i<xs.length->∃ b o,A=some ⟨b,o,none⟩/\w2.cell? ⟨b,o+i,none⟩=some (.int .i64 (xs.getD i 0)):=λi hi=>by
  obtain⟨A',c',b,o,h1,h2,h3⟩:=hcell i hi;cases h1;exact⟨b,o,h2,h3⟩
 have hlen:=hsch.len;unfold maxLen at hlen;have hn':Blk w2 bn 3 #[.int .i64 0]:=key M.hn (tne M.hn (by decide));have hm':Blk w2 bm 3 #[.int .i64 (cH most 1048576).toNat]:=key M.hm (tne M.hm (by decide));have ho':Blk w2 bo 23 #[.slice none 0 0]:=key M.ho (tne M.ho (by decide));have hv':Blk w2 tvb 136 #[.pointer (some ⟨tb,0,none⟩)]:=key M.tv (tne M.tv (by decide));have ht':=st.ht;have hobb:w.heap.size<=bo:=M.new.2.2.1;have hvo:=st.own;generalize (cH most 1048576).toNat=mm at *;obtain⟨vA,vc,rfl⟩:=aQ hvo;have hvo':=qd hvo;have hn1:bo≠tvb:=cK ho' hv' (by decide);have hn2:bo≠tb:=cK ho' ht' (by decide);clear hsch key tne st M hb hvo;have g5:=hf2.f5;have g6:=hf2.f6;have g7:=hf2.f7;have g9:=hf2.f9;have g10:=hf2.f10;simp only[Try.f42,Option.getD_some,Nat.reduceSub,Array.replicate_succ,Array.replicate_zero,List.push_toArray,List.append_toArray,List.nil_append,List.cons_append,aF];simp only[iH,fK,ns1,List.range',List.cons_append,List.nil_append,List.set_cons_zero,List.set_cons_succ,Nat.reduceAdd];simp only[g5,g6,g7,g9,g10];refine Lg.move _ (λ_ _=>step_seq) id ?_;refine Lg.code λK hK y τ n hy=>?_;subst hy;go_wp2;refine hK _ _ (λh=>absurd h hs) ?_;clear hK K;have hl:=Blk.new y 3 #[.int .i64 0];have hn2:Blk (y.alloc (.cells #[.int .i64 0] 3)) bn _ _:=(show Blk y bn _ _ from hn').alloc _;have hm2:Blk (y.alloc (.cells #[.int .i64 0] 3)) bm _ _:=(show Blk y bm _ _ from hm').alloc _;have ho2:Blk (y.alloc (.cells #[.int .i64 0] 3)) bo _ _:=(show Blk y bo _ _ from ho').alloc _;have hv2:Blk (y.alloc (.cells #[.int .i64 0] 3)) tvb _ _:=(show Blk y tvb _ _ from hv').alloc _;have ht2:Blk (y.alloc (.cells #[.int .i64 0] 3)) tb _ _:=(show Blk y tb _ _ from ht').alloc _
 have hc2:∀ i,i<xs.length->∃ b o,A=some ⟨b,o,none⟩/\(y.alloc (.cells #[.int .i64 0] 3)).cell? ⟨b,o+i,none⟩=some (.int .i64 (xs.getD i 0)):=λi hi=>by
  obtain⟨b,o,h1,h2⟩:=hcell i hi;exact⟨b,o,h1,(World.cell?_of_block (w:=y) (a:=⟨b,o+i,none⟩) (Below.heap_alloc _ _ _ (bG h2))).trans h2⟩
 have hold2:=hold.re.new (show w.heap.size<=y.heap.size from hold.size) (.cells #[.int .i64 0] 3);have hlo:∀ b,b<y.heap.size->y.heap.size≠b:=λb hb=>by omega
 have hbl:=hlo bo (show Blk y bo _ _ from ho').lt;generalize y.alloc (.cells #[.int .i64 0] 3)=z at *;generalize y.heap.size=bl at *;clear hn' hm' ho' hv' ht' hcell hold hlo;have HC:=qd hc2;have HOLD:=qd hold2;have HN:=qd hn2;have HM:=qd hm2;have HO:=qd ho2;have HV:=qd hv2;have HT:=qd ht2;have HL:=qd hl;clear hc2 hold2 hn2 hm2 ho2 hv2 ht2 hl g5 g6 g7 g9 g10;refine Lg.rest (R:=λv w'=>(∃ bv,v=.tuple #[.slice none 0 0,.bool false,bv])/\Old w.heap.size w w') hs rfl Try.func42 (λq τ' n' hq=>?_) (λv w' h=>hR.out v t w' ⟨rfl,h⟩);subst hq;have c1:q.cell? ⟨bn,0,none⟩=some (.int .i64 0):=(show Blk q bn _ _ from HN.out).cell 0;have c2:q.cell? ⟨bm,0,none⟩=some (.int .i64 mm):=(show Blk q bm _ _ from HM.out).cell 0;have c3:q.cell? ⟨bl,0,none⟩=some (.int .i64 0):=(show Blk q bl _ _ from HL.out).cell 0;have c4:q.cell? ⟨tvb,0,none⟩=some (.pointer (some ⟨tb,0,none⟩)):=(show Blk q tvb _ _ from HV.out).cell 0;have c5:q.cell? ⟨tb,1,none⟩=some (.slice vA 0 vc):=(show Blk q tb _ _ from HT.out).cell 1;have c6:q.cell? ⟨tb,2,none⟩=some (.slice (some ⟨rb,0,none⟩) 0 0):=(show Blk q tb _ _ from HT.out).cell 2;have c7:q.cell? ⟨bo,0,none⟩=some (.slice none 0 0):=(show Blk q bo _ _ from HO.out).cell 0;have c8:q.frozen? ⟨bo,0,none⟩=false:=(show Blk q bo _ _ from HO.out).frozen 0;have hcq:∀ i,i<xs.length->∃ b o,A=some ⟨b,o,none⟩/\q.cell? ⟨b,o+i,none⟩=some (.int .i64 (xs.getD i 0)):=HC.out;have HQ:=qd hcq;have HOQ:Old w.heap.size w q:=HOLD.out.re;have HOQ':=qd HOQ;clear hcq HC HOLD HOQ HN HM HO HV HT HL;go_wp2
 go_loopw [47] (λi wr=>i=.int .i64 0/\wr=q) (λ_ _=>0)
 case atStart=>exact⟨rfl,rfl⟩
 case round =>
  obtain⟨rfl,rfl⟩:=hrel;go_wp2;rename World=>wq
  go_loopw [78] (λi wr=>∃ j:Nat,j<=xs.length/\i=.int .i64 j/\wr=wq) (λi _=>xs.length-(intOf i).toNat)
  case atStart=>exact⟨0,Nat.zero_le _,rfl,rfl⟩
  case round =>
   obtain⟨j,hj,rfl,rfl⟩:=hrel
   by_cases hlt:j<xs.length
   ·have hd:decide (j<xs.length)=true:=by simpa using hlt
    obtain⟨b,o,hA,hcj⟩:=HQ.out j hlt;subst hA
    go_wp2_with (go_at_call 67;refine(turn_none _ _ _ _ _ _ _ c1).mono ?_;rintro e w' ⟨rfl,rfl⟩)
    exact⟨⟨j+1,by omega,by go_num,by trivial⟩,by simp[intOf];omega⟩
   ·have hd:decide (j<xs.length)=false:=by simpa using hlt
    go_wp2;rename World=>wp
    go_loopw [86] (λ_ wr=>wr=wp) (λ_ _=>0)
    case atStart=>exact rfl
    case round =>
     obtain rfl:=hrel;go_wp2;rename World=>wo
     go_loopw [109] (λi wr=>i=.int .i64 0/\wr=wo) (λ_ _=>0)
     case atStart=>exact⟨rfl,rfl⟩
     case round =>
      obtain⟨rfl,rfl⟩:=hrel;go_wp2;have hsame:=World.cell?_setCell_same wr ⟨bo,0,none⟩ (.slice none 0 0) c7;have hf3:=World.cell?_setCell_other wr ⟨bo,0,none⟩ ⟨tvb,0,none⟩ (.slice none 0 0) (by intro q;injection q with q;exact hn1 q);have hf4:=World.cell?_setCell_other wr ⟨bo,0,none⟩ ⟨tb,2,none⟩ (.slice none 0 0) (by intro q;injection q with q;exact hn2 q);rw[c4] at hf3;rw[c6] at hf4;clear c1 c2 c3 c5
      go_region_held3 (λw'=>w'.cell? ⟨bo,0,none⟩=some (.slice none 0 0)/\w'.frozen? ⟨bo,0,none⟩=false/\w'.cell? ⟨tvb,0,none⟩=some (.pointer (some ⟨tb,0,none⟩))/\w'.cell? ⟨tb,2,none⟩=some (.slice (some ⟨rb,0,none⟩) 0 0)) (first | exact⟨c7,c8,c4,c6⟩ | exact⟨hsame,by simp;exact c8,hf3,hf4⟩ | go_keep) (fail)
      all_goals
       go_wp2
       (try simp only[Exit.inBlock,Exit.then]);refine bodyPost_ret (v:=.tuple #[.slice none 0 0,.bool false,.slice (some ⟨rb,0,none⟩) 0 0]) (by simp[results,Try.f42,go_sem,hsame]) rfl ?_
       exact⟨_,rfl,⟨_,rfl⟩,(HOQ'.out.set_ (show w.heap.size<=(⟨bo,0,none⟩:Addr).block from hobb) _).drew⟩
theorem mZ {S:Type}(c:Run S) (most:Nat):∀ l,c.turns 0 most l=c
 | []=>rfl
 | i :: l=>by
   have : c.turn 0 most i=c:=by
    unfold Run.turn Run.may;rw[if_neg];simp only[Bool.and_eq_true,decide_eq_true_eq,not_and];intro h;omega
   show Run.turns 0 most (c.turn 0 most i) l=c
   rw[this];exact mZ c most l
theorem run_none {S:Type}(birth:Nat->S->Tree S S) (most:Nat) (xs:List Int) (s:S):bI birth 0 most xs s=⟨⟨s,λ_=>.unborn⟩,[]⟩:=by
 unfold bI;rw[mZ];cases most with
 | zero=>rfl
 | succ m =>
   unfold Run.rounds;rw[if_neg]
   ·rfl
   ·simp [Mach.left]
theorem over_any (hP:Prog Try.prog) (Post:Value->World->Prop) (W0:World) (q:Shd) (birth:Nat->q.S->Tree q.S q.S) (MI:Mach q.S->Prop) (caps:Nat->Array Value) (tA:Option Addr) (nt cap:Nat) (hM:MInv MI (min nt 64)) (hnt:nt<=maxLen) (sv:Value) (xs:List Int) (most:Int) (s0:q.S) (hwh:∀ j,j<min nt 64->birth j (Mach.born birth ⟨s0,λ_=>.unborn⟩ j).s≠.cut) (hM0:MI (Mach.born birth ⟨s0,λ_=>.unborn⟩ (min nt 64))) (H₀:Nat->Prop) (w:World)
  (hask:OverAsks q W0 s0 H₀ w) (hW:∀ b,H₀ b->W0.heap.size<=b) (hfun:0<nt->∃ ta,tA=some ta/\Funs (min nt 64) ta caps w/\¬H₀ ta.block/\¬q.RB ta.block) (hsch:SchI W0 sv xs (λb=>H₀ b\/q.RB b) w)
  (hlaw:∀ g b pos apart inj i,i<g.n->g.n=min nt 64->∀ s H x,q.Rep s H x->fU (q.env Try.prog Post W0 g b pos apart inj) i (caps i) s (birth i s) x) :
  Ccalls (lgA hP Post W0) 42 #[.slice tA nt cap,sv,.int .i64 most] () w λv _ w'=>OverDone q W0 (min nt 64) (bI birth (min nt 64) (cH most 1048576).toNat xs s0) H₀ w v w':=by
 by_cases hpos:0<nt
 ·obtain ⟨ta,rfl,h1,h2⟩:=hfun hpos
  exact over_calls hP Post W0 q birth MI caps ta nt cap hM hnt hpos sv xs most s0 hwh hM0 H₀ w hask h1 h2 hsch hlaw
 ·obtain rfl:nt=0:=by omega
  refine(over_none (lgA hP Post W0) (λh=>h) () W0 _ tA cap sv most xs w hsch).mono ?_;rintro v u w' ⟨-,⟨bv,rfl⟩,hold⟩;rw[show min 0 64=0 from rfl,run_none];refine⟨⟨_,bv,rfl,⟨rfl,.inl ⟨rfl,rfl⟩⟩⟩,⟨H₀,?_,λb c t r hc h3 hb=>?_⟩,λb hb hge c t r hv=>?_,hold.size,λb c t r hc h3=>hold.keep (aB h3) h3,hold.io⟩
  ·exact q.rep s0 H₀ w w' hask.rep (λb hb=>hold.block b (hask.sh b hb)) λb c t r hb h=>⟨r,hold.keep (aB h) h⟩
  ·rcases hc with hc | hc
   ·have:=hW b hb;omega
   ·exact hc.2.1 hb
  ·obtain ⟨h1,h2,c',t',r',h3,h4,h5⟩:=hask.rb b hb
   rw[h3];exact hold.keep h1 h4
structure OpI where
 kind:Int
 a:Int
 b:Int
 c:Int
structure Ans where
 ok:Bool
 n:Int
 ls:List Int
 deriving DecidableEq
def OpI.val (o:OpI):Value:=.agg #[.int .i64 o.kind,.int .i64 o.a,.int .i64 o.b,.int .i64 o.c]
def OpI.cells (o:OpI):List Value:=[.int .i64 o.kind,.int .i64 o.a,.int .i64 o.b,.int .i64 o.c]
structure OpsD where
 n:Nat
 ab:Nat
 dob:Nat
 anb:Nat
 opb:Nat->Nat
 ib:Nat->Nat
 fv:Value
 ops:Nat->List OpI
 opv:Nat->Value
 good:OpI->Prop
 RB:Nat->Prop
 rv:Nat->Obj
 A:Type
 At:A->World->Prop
 BI:Nat->Prop
 at_ : ∀ a w w',At a w->(∀ b,BI b->w'.heap[b]?=w.heap[b]?)->At a w'
  /-- What lies in blocks that the run has chosen. -/
 Box:A->(Nat->Prop)->World->Prop
 box_:∀ a G w w',Box a G w->(∀ b,G b\/BI b->w'.heap[b]?=w.heap[b]?)->Box a G w'
 rbc:∀ b,RB b->∃ c t r,rv b=.cells c t r
def LsAt (w:World) (v:Value) (ls:List Int):Prop:=w.ownsRow 0 2 1 v ls.length (ls.map (Value.int .i64))
def AnsRow (w:World) (G:Nat->Prop):List Ans->List Value->Prop
 | [],xs=>xs=[]
 | a::l,xs=>∃ lv xs',xs=.bool a.ok::.int .i64 a.n::lv::xs'/\LsAt w lv a.ls/\(∀ b,lv.ownBlock=some b->G b)/\AnsRow w G l xs'
abbrev OpsD.St (D:OpsD):Type:=D.A × (Nat->List Ans)
structure RepO (D:OpsD) (st:D.St) (H:Nat->Prop) (w:World):Prop where
 at_:D.At st.1 w
 bi:∀ b,D.BI b->H b
 abH:H D.ab/\¬D.BI D.ab
 near:∀ b,H b->∃ c t r,w.heap[b]?=some (.cells c t r)/\r.2<big
 rows : ∃ (rw_:Nat->Value) (c:Array Value),w.heap[D.ab]?=some (.cells c 43 (0,0))/\c.size=D.n/\(∀ i,i<D.n->c[i]?=some (rw_ i)) /\
  (∀ i,i<D.n->∃ xs,w.ownsRow 0 48 3 (rw_ i) (st.2 i).length xs/\AnsRow w (λb=>H b/\¬D.BI b) (st.2 i) xs/\∀ b,(rw_ i).ownBlock=some b->H b/\¬D.BI b) /\
  ∀ i j b,i<D.n->j<D.n->(rw_ i).ownBlock=some b->(rw_ j).ownBlock=some b->i=j
 rb:∀ b c t r,D.RB b->D.rv b=.cells c t r->∃ r',w.heap[b]?=some (.cells c t r')
 rbH:∀ b,D.RB b->¬H b
 box:∃ G:Nat->Prop,D.Box st.1 G w/\∀ b,G b->H b/\¬D.BI b/\∃ c t,w.heap[b]?=some (.cells c t (0,0))/\t≠43/\t≠48
theorem bT {w w':World}{base:Nat}{e:TypeId}{size n:Nat}{v:Value}{xs:List Value}(h:w.ownsRow base e size v n xs) (hs:∀ b,v.ownBlock=some b->w'.heap[b]?=w.heap[b]?):w'.ownsRow base e size v n xs:=by
 obtain⟨h1,h2⟩:=h;refine⟨h1,?_⟩
 rcases h2 with h2 | ⟨g,cap,cur,rfl,hg,hh,r⟩
 ·exact .inl h2
 ·exact .inr ⟨g,cap,cur,rfl,hg,(hs g rfl).trans hh,r⟩
theorem AnsRow.same {w w':World}{G G':Nat->Prop}:∀ {l:List Ans}{xs:List Value},AnsRow w G l xs->(∀ b,G b->w'.heap[b]?=w.heap[b]?)->(∀ b,G b->G' b)->AnsRow w' G' l xs
 | [],_,h,_,_=>h
 | a::l,xs,⟨lv,xs',e,h1,h2,h3⟩,hs,hg=>⟨lv,xs',e,bT h1 λb hb=>hs b (h2 b hb),λb hb=>hg b (h2 b hb),h3.same hs hg⟩
theorem AnsRow.snoc {w:World}{G:Nat->Prop}{a:Ans}{lv:Value}(h1:LsAt w lv a.ls) (h2:∀ b,lv.ownBlock=some b->G b):∀ {l:List Ans}{xs:List Value},AnsRow w G l xs->AnsRow w G (l++[a]) (xs++[.bool a.ok,.int .i64 a.n,lv])
 | [],xs,h=>by
   have h:xs=[]:=h;subst h;exact⟨lv,[],rfl,h1,h2,rfl⟩
 | b::l,xs,⟨lv',xs',e,h3,h4,h5⟩=>⟨lv',xs'++[.bool a.ok,.int .i64 a.n,lv],by rw[e];rfl,h3,h4,h5.snoc h1 h2⟩
theorem RepO.law (D:OpsD) (st:D.St) (H:Nat->Prop) (w w':World) (h:RepO D st H w) (hs:∀ b,H b->w'.heap[b]?=w.heap[b]?) (hr:∀ (b:Nat) (c:Array Value) (t:TypeId) (r:Nat × Nat),D.RB b->w.heap[b]?=some (Obj.cells c t r)->∃ r',w'.heap[b]?=some (Obj.cells c t r')):RepO D st H w':=by
 refine⟨D.at_ _ _ _ h.at_ λb hb=>hs b (h.bi b hb),h.bi,h.abH,λb hb=>?_,?_,λb c t r hb hv=>?_,h.rbH,?_⟩
 ·obtain ⟨c,t,r,h1,h2⟩:=h.near b hb
  exact⟨c,t,r,(hs b hb).trans h1,h2⟩
 ·obtain ⟨rw_,c,h1,h2,h3,h4,h5⟩:=h.rows
  refine⟨rw_,c,(hs _ h.abH.1).trans h1,h2,h3,λi hi=>?_,h5⟩;obtain⟨xs,k1,k2,k3⟩:=h4 i hi;exact⟨xs,bT k1 λb hb=>hs b (k3 b hb).1,k2.same (λb hb=>hs b hb.1) λb hb=>hb,k3⟩
 ·obtain ⟨r',h1⟩:=h.rb b c t r hb hv
  exact hr b c t r' hb h1
 ·obtain ⟨G,g1,g2⟩:=h.box
  refine⟨G,D.box_ _ _ _ _ g1 λb hb=>hs b (hb.elim (λz=>(g2 b z).1) (h.bi b)),λb hb=>?_⟩;obtain⟨e1,e2,c,t,e3,e4⟩:=g2 b hb;exact⟨e1,e2,c,t,(hs b e1).trans e3,e4⟩
theorem RepO.inner {D:OpsD}{st:D.St}{H:Nat->Prop}{w w':World}(h:RepO D st H w) {a':D.A}(ha:D.At a' w') (hs:∀ b,b<w.heap.size->¬D.BI b->w'.heap[b]?=w.heap[b]?) (hn:∀ b,D.BI b->∃ c t r,w'.heap[b]?=some (.cells c t r)/\r.2<big) (hbox:∀ G:Nat->Prop,(∀ b,G b->b<w.heap.size/\¬D.BI b)->D.Box st.1 G w->D.Box a' G w'):RepO D (a',st.2) H w':=by
 have hlt:∀ b,H b->b<w.heap.size:=λb hb=>by obtain⟨c,t,r,h1,_⟩:=h.near b hb;exact aB h1
 refine⟨ha,h.bi,h.abH,λb hb=>?_,?_,λb c t r hb hv=>?_,h.rbH,?_⟩
 ·by_cases hbi:D.BI b
  ·exact hn b hbi
  ·obtain ⟨c,t,r,h1,h2⟩:=h.near b hb
   exact⟨c,t,r,(hs b (hlt b hb) hbi).trans h1,h2⟩
 ·obtain ⟨rw_,c,h1,h2,h3,h4,h5⟩:=h.rows
  refine⟨rw_,c,(hs _ (aB h1) h.abH.2).trans h1,h2,h3,λi hi=>?_,h5⟩;obtain⟨xs,k1,k2,k3⟩:=h4 i hi;exact⟨xs,bT k1 λb hb=>hs b (hlt b (k3 b hb).1) (k3 b hb).2,k2.same (λb hb=>hs b (hlt b hb.1) hb.2) λb hb=>hb,k3⟩
 ·obtain ⟨r',h1⟩:=h.rb b c t r hb hv
  exact⟨r',(hs b (aB h1) (λz=>h.rbH b hb (h.bi b z))).trans h1⟩
 ·obtain ⟨G,g1,g2⟩:=h.box
  refine⟨G,hbox G (λb hb=>⟨hlt b (g2 b hb).1,(g2 b hb).2.1⟩) g1,λb hb=>?_⟩;obtain⟨e1,e2,c,t,e3,e4⟩:=g2 b hb;exact⟨e1,e2,c,t,(hs b (hlt b e1) e2).trans e3,e4⟩
def OpsD.push (D:OpsD) (i:Nat) (a:Ans) (st:D.St):D.St:=(st.1,λj=>if j=i then st.2 j++[a] else st.2 j)
theorem RepO.push {D:OpsD}{st:D.St}{H:Nat->Prop}{w w':World}(h:RepO D st H w) {i:Nat}(hi:i<D.n) {a:Ans}{lv v':Value}{rw_:Nat->Value}{c:Array Value}{xs:List Value}
  (h1:w.heap[D.ab]?=some (.cells c 43 (0,0))) (h2:c.size=D.n) (h3:∀ i,i<D.n->c[i]?=some (rw_ i)) (h4:∀ i,i<D.n->∃ xs,w.ownsRow 0 48 3 (rw_ i) (st.2 i).length xs/\AnsRow w (λb=>H b/\¬D.BI b) (st.2 i) xs/\∀ b,(rw_ i).ownBlock=some b->H b/\¬D.BI b) (h5:∀ i j b,i<D.n->j<D.n->(rw_ i).ownBlock=some b->(rw_ j).ownBlock=some b->i=j)
  (hxs:w.ownsRow 0 48 3 (rw_ i) (st.2 i).length xs) (hans:AnsRow w (λb=>H b/\¬D.BI b) (st.2 i) xs)
  (hls:LsAt w lv a.ls) (hlv:∀ b,lv.ownBlock=some b->¬H b) (hlr:∀ b,lv.ownBlock=some b->¬D.RB b)
  (hown:w'.ownsRow 0 48 3 v' ((st.2 i).length+1) (xs++[.bool a.ok,.int .i64 a.n,lv])) (hv':∀ b,v'.ownBlock=some b->(rw_ i).ownBlock=some b\/w.heap.size<=b)
  (hab:w'.heap[D.ab]?=some (.cells (c.setIfInBounds i v') 43 (0,0)))
  (hs:∀ b,b<w.heap.size->b≠D.ab->(rw_ i).ownBlock≠some b->w'.heap[b]?=w.heap[b]?) :
  RepO D (D.push i a st) (λb=>(H b/\(rw_ i).ownBlock≠some b)\/v'.ownBlock=some b\/lv.ownBlock=some b) w':=by
 have hlt:∀ b,H b->b<w.heap.size:=λb hb=>by obtain⟨c,t,r,h1,_⟩:=h.near b hb;exact aB h1
 have hlb:∀ b,lv.ownBlock=some b->∃ cur,w.heap[b]?=some (.cells cur 2 (0,0)):=λb hb=>by
  rcases hls.2 with⟨e,_⟩ | ⟨g,cap,cur,e,_,k,_⟩
  ·rw [e] at hb;simp[Value.ownBlock] at hb
  ·rw [e] at hb;simp only[Value.ownBlock,Option.some.injEq] at hb;subst hb;exact⟨cur,k⟩
 have hrb:∀ j,j<D.n->∀ b,(rw_ j).ownBlock=some b->∃ cur,w.heap[b]?=some (.cells cur 48 (0,0)):=λj hj b hb=>by
  obtain⟨xs,k1,_⟩:=h4 j hj
  rcases k1.2 with⟨e,_⟩ | ⟨g,cap,cur,e,_,k,_⟩
  ·rw [e] at hb;simp[Value.ownBlock] at hb
  ·rw [e] at hb;simp only[Value.ownBlock,Option.some.injEq] at hb;subst hb;exact⟨cur,k⟩
 have lvi:∀ b,lv.ownBlock=some b->(rw_ i).ownBlock≠some b/\b≠D.ab/\b<w.heap.size:=λb hb=>by
  obtain⟨cur,k⟩:=hlb b hb;refine⟨λz=>?_,λz=>hlv b hb (z▸h.abH.1),aB k⟩;obtain⟨cur',k'⟩:=hrb i hi b z;rw[k] at k'
  simp at k'
-- what was shared,other than row i and the array,is as it was
 have keep:∀ b,H b->b≠D.ab->(rw_ i).ownBlock≠some b->w'.heap[b]?=w.heap[b]?:=λb hb h1 h2=>hs b (hlt b hb) h1 h2;have bab:∀ b,D.BI b->b≠D.ab/\(rw_ i).ownBlock≠some b:=λb hb=>⟨λz=>h.abH.2 (z▸hb),λz=>by obtain⟨_,_,_,k⟩:=h4 i hi;exact(k b z).2 hb⟩
 have lists:∀ (G:Nat->Prop) (l:List Ans) (ys:List Value),AnsRow w (λb=>H b/\¬D.BI b) l ys->AnsRow w' (λb=>((H b/\(rw_ i).ownBlock≠some b)\/v'.ownBlock=some b\/lv.ownBlock=some b)/\¬D.BI b) l ys:=by
  intro G l
  induction l with
  | nil=>exact λys h=>h
  | cons x l ih =>
    rintro ys ⟨lv',ys',e,k1,k2,k3⟩
    have hb':∀ b,lv'.ownBlock=some b->b≠D.ab/\(rw_ i).ownBlock≠some b:=λb hb=>by
     have hb':∃ cur,w.heap[b]?=some (.cells cur 2 (0,0)):=by
      rcases k1.2 with⟨e,_⟩ | ⟨g,cap,cur,e,_,k,_⟩
      ·rw [e] at hb;simp[Value.ownBlock] at hb
      ·rw [e] at hb;simp only[Value.ownBlock,Option.some.injEq] at hb;subst hb;exact⟨cur,k⟩
     obtain⟨cur,k⟩:=hb';refine⟨λz=>?_,λz=>?_⟩
     ·rw [z,h1] at k;simp at k
     ·obtain ⟨cur',k'⟩:=hrb i hi b z
      rw[k] at k';simp at k'
    exact⟨lv',ys',e,bT k1 λb hb=>keep b (k2 b hb).1 (hb' b hb).1 (hb' b hb).2,λb hb=>⟨.inl ⟨(k2 b hb).1,(hb' b hb).2⟩,(k2 b hb).2⟩,ih _ k3⟩
 refine⟨D.at_ _ _ _ h.at_ λb hb=>keep b (h.bi b hb) (bab b hb).1 (bab b hb).2,λb hb=>.inl ⟨h.bi b hb,(bab b hb).2⟩,⟨.inl ⟨h.abH.1,λz=>by obtain⟨cur,k⟩:=hrb i hi _ z;rw[h1] at k;simp at k⟩,h.abH.2⟩,λb hb=>?_,?_,λb c t r hb hv=>?_,λb hb z=>?_,?_⟩
 ·rcases hb with⟨hb,z2⟩ | hb | hb
  ·by_cases z1:b=D.ab
   ·rw [z1];exact⟨_,_,_,hab,by decide⟩
   ·obtain ⟨c,t,r,k1,k2⟩:=h.near b hb
    exact⟨c,t,r,(keep b hb z1 z2).trans k1,k2⟩
  ·rcases hown.2 with⟨e,_⟩ | ⟨g,cap,cur,e,_,k,_⟩
   ·rw [e] at hb;simp[Value.ownBlock] at hb
   ·rw [e] at hb;simp only[Value.ownBlock,Option.some.injEq] at hb;subst hb;exact⟨_,_,_,k,by decide⟩
  ·obtain ⟨cur,k⟩:=hlb b hb
   obtain⟨k1,k2,k3⟩:=lvi b hb;exact⟨_,_,_,(hs b k3 k2 k1).trans k,by decide⟩
 ·have vnew:∀ b,v'.ownBlock=some b->¬D.BI b/\∀ j,j<D.n->j≠i->(rw_ j).ownBlock≠some b:=λb hb=>by
   rcases hv' b hb with z | z
   ·obtain ⟨_,_,_,kk⟩:=h4 i hi
    exact⟨(kk b z).2,λj hj hji z2=>hji (h5 j i b hj hi z2 z)⟩
   ·exact ⟨λz2=>by have:=hlt b (h.bi b z2);omega,λj hj _ z2=>by obtain⟨cur,k⟩:=hrb j hj b z2;have:=aB k;omega⟩
  refine⟨λj=>if j=i then v' else rw_ j,_,hab,by simpa using h2,λj hj=>?_,λj hj=>?_,λj l b hj hl z1 z2=>?_⟩
  ·rw [Array.getElem?_setIfInBounds]
   by_cases e:j=i
   ·subst e;simp[h2,hj]
   ·rw [if_neg (λz=>e z.symm),h3 j hj];simp[e]
  ·by_cases e:j=i
   ·subst e
    refine⟨xs++[.bool a.ok,.int .i64 a.n,lv],by simpa [OpsD.push] using hown,?_,λb hb=>?_⟩
    ·have:=AnsRow.snoc (a:=a) (lv:=lv) (w:=w') (G:=λb=>((H b/\(rw_ j).ownBlock≠some b)\/v'.ownBlock=some b\/lv.ownBlock=some b)/\¬D.BI b) (bT hls λb hb=>hs b (lvi b hb).2.2 (lvi b hb).2.1 (lvi b hb).1) (λb hb=>⟨.inr (.inr hb),λz=>hlv b hb (h.bi b z)⟩) (lists H _ _ hans)
     simpa [OpsD.push] using this
    ·simp only [if_true] at hb
     exact⟨.inr (.inl hb),(vnew b hb).1⟩
   ·obtain ⟨ys,k1,k2,k3⟩:=h4 j hj
    have hne:∀ b,(rw_ j).ownBlock=some b->b≠D.ab/\(rw_ i).ownBlock≠some b:=λb hb=>by
     obtain⟨cur,k⟩:=hrb j hj b hb;refine⟨λz=>?_,λz=>e (h5 j i b hj hi hb z)⟩;rw[z,h1] at k;simp at k
    refine⟨ys,?_,?_,λb hb=>?_⟩
    ·simp only [e,if_false,OpsD.push]
     exact bT k1 λb hb=>keep b (k3 b hb).1 (hne b hb).1 (hne b hb).2
    ·simp only [e,if_false,OpsD.push]
     exact lists H _ _ k2
    ·simp only [e,if_false] at hb
     exact⟨.inl ⟨(k3 b hb).1,(hne b hb).2⟩,(k3 b hb).2⟩
  ·by_cases e1:j=i <;> by_cases e2:l=i
   ·rw [e1,e2]
   ·simp only [e1,e2,if_true,if_false] at z1 z2
    exact absurd z2 ((vnew b z1).2 l hl e2)
   ·simp only [e1,e2,if_true,if_false] at z1 z2
    exact absurd z1 ((vnew b z2).2 j hj e1)
   ·simp only [e1,e2,if_false] at z1 z2
    exact h5 j l b hj hl z1 z2
 ·obtain ⟨r',k⟩:=h.rb b c t r hb hv
  exact⟨r',(hs b (aB k) (λz=>h.rbH b hb (z▸h.abH.1)) (λz=>by obtain⟨_,_,_,kk⟩:=h4 i hi;exact h.rbH b hb (kk b z).1)).trans k⟩
 ·obtain ⟨c0,t0,r0,hv0⟩:=D.rbc b hb
  obtain⟨r',k⟩:=h.rb b c0 t0 r0 hb hv0
  rcases z with z | z | z
  ·exact h.rbH b hb z.1
  ·rcases hv' b z with z | z
   ·obtain ⟨_,_,_,kk⟩:=h4 i hi
    exact h.rbH b hb (kk b z).1
   ·have:=aB k;omega
  ·exact hlr b z hb
 ·obtain ⟨G,g1,g2⟩:=h.box
  have gk:∀ b,G b->b≠D.ab/\(rw_ i).ownBlock≠some b:=λb hb=>by
   obtain⟨e1,e2,c',t',e3,e4,e5⟩:=g2 b hb;refine⟨λz=>?_,λz=>?_⟩
   ·rw [z,h1] at e3;simp at e3;exact e4 e3.2.symm
   ·obtain ⟨cur,k⟩:=hrb i hi b z
    rw[k] at e3;simp at e3;exact e5 e3.2.symm
  refine⟨G,D.box_ _ _ _ _ g1 λb hb=>?_,λb hb=>?_⟩
  ·rcases hb with hb | hb
   ·exact keep b (g2 b hb).1 (gk b hb).1 (gk b hb).2
   ·exact keep b (h.bi b hb) (bab b hb).1 (bab b hb).2
  ·obtain ⟨e1,e2,c',t',e3,e4⟩:=g2 b hb
   exact⟨.inl ⟨e1,(gk b hb).2⟩,e2,c',t',(keep b e1 (gk b hb).1 (gk b hb).2).trans e3,e4⟩
def OpsD.shd (D:OpsD) (os:Os) (out:Array (Nat × ByteArray)):Shd where
 S:=D.St
 RB:=D.RB
 rv:=D.rv
 os:=os
 out:=out
 Rep:=RepO D
 rep:=RepO.law D
 near:=λ_ _ _ b h hb=>h.near b hb
abbrev OpsD.DoT (D:OpsD):Type:=OpI->D.St->(Ans->D.St->Tree D.St D.St)->Tree D.St D.St
def mH (D:OpsD) (doT:D.DoT) (i:Nat):List OpI->List Ans->D.St->Tree D.St D.St
 | [],_,st=>.ret st
 | o::l,own,st=>doT o st λa st'=>if st'.2 i=own then mH D doT i l (own++[a]) (D.push i a st') else .cut
def brT (D:OpsD) (doT:Nat->D.DoT) (i:Nat) (st:D.St):Tree D.St D.St:=if st.2 i=[] then mH D (doT i) i (D.ops i) [] st else .cut
def qT (D:OpsD) (L:Lg Try.prog (Tree D.St D.St)) (Cap:(Nat->Prop)->World->Prop) (sb:Nat):Prop:=
 ∀ s H k w,RepO D s H w->Cap H w->Ccalls L 93 #[.pointer (some ⟨sb,0,none⟩)] (.yield s k) w λu t' w'=>u=.tuple #[]/\∃ s' H',t'=k s'/\(RepO D s' H' w'/\Cap H' w')/\Held H w H' w'
def DoLaw (D:OpsD) (i:Nat) (doT:D.DoT) (f:FuncId) (bound caps:Array Value):Prop:=
 ∀ (sb:Nat) (L:Lg Try.prog (Tree D.St D.St)) (Cap:(Nat->Prop)->World->Prop),(∀ H w τ n,Cap H w->Cap H (w.re τ n))->(∀ H w H' w',Cap H w->Held H w H' w'->Cap H' w')->qT D L Cap sb->(∀ fr mid x,L.T .cut fr mid x)->∀ o st H k w,D.good o->RepO D st H w->Cap H w ->
   Ccalls L f (bound++#[.iface 141 (.pointer (some ⟨sb,0,none⟩)),.int .i64 i,o.val]++caps) (doT o st k) w λv t' w'=>∃ a st' H' lv,t'=k a st'/\v=.agg #[.bool a.ok,.int .i64 a.n,lv]/\RepO D st' H' w'/\Held H w H' w'/\w'.ownsRow w.heap.size 2 1 lv a.ls.length (a.ls.map (Value.int .i64))/\∀ b,lv.ownBlock=some b->¬H' b
structure ThrOk (D:OpsD) (i:Nat):Prop where
 lt:i<D.n
 n64:D.n<=64
 op:D.RB (D.opb i)/\D.rv (D.opb i)=.cells #[D.opv i] 44 (0,0)
 do_:D.RB D.dob/\D.rv D.dob=.cells #[D.fv] 67 (0,0)
 ib:D.RB (D.ib i)/\D.rv (D.ib i)=.cells #[.int .i64 i] 3 (0,0)
 an:D.RB D.anb/\D.rv D.anb=.cells #[.slice (some ⟨D.ab,0,none⟩) D.n D.n] 28 (0,0)
 len:(D.ops i).length<=65536
 gd:∀ o∈D.ops i,D.good o
 ops:∃ A cap,D.opv i=.slice A (D.ops i).length cap/\∀ j (h:j<(D.ops i).length),∃ b o cs t r,A=some ⟨b,o,none⟩/\D.RB b/\D.rv b=.cells cs t r/\∀ m,m<4->cs[o+j*4+m]?=(D.ops i)[j].cells[m]?
theorem RepO.cell {D:OpsD}{st:D.St}{H:Nat->Prop}{w:World}(h:RepO D st H w) {b:Nat}{c:Array Value}{t:TypeId}{r:Nat × Nat}(hb:D.RB b/\D.rv b=.cells c t r) (j:Nat):w.cell? ⟨b,j,none⟩=c[j]?:=by
 obtain⟨r',h1⟩:=h.rb b c t r hb.1 hb.2;exact cell_of_row w b j c t r' h1
theorem Try.infoAns:(Try.prog.info? 48).map (λi=>(i.zero,i.size,i.bytes))=some (some (.agg #[.bool false,.int .i64 0,.slice none 0 0]),3,40):=by kernel_rfl
theorem one_len (v:World) (o1:Obj):(v.alloc o1).drew.heap.size=v.heap.size+1:=by
 show (v.alloc o1).heap.size=_
 simp
theorem news_one (v:World) (cs:Array Value) (t:TypeId):(v.alloc (.cells cs t)).drew.heap[v.heap.size]?=some (.cells cs t (0,0)):=heap_alloc_new v _
theorem RepO.re {D:OpsD}{st:D.St}{H:Nat->Prop}{y:World}{τ:Nat->Question->Nat}{n:Nat}(h:RepO D st H (y.re τ n)):RepO D st H y:=RepO.law D st H _ y h (λ_ _=>rfl) (λb c t r _ h=>⟨r,h⟩)
theorem RepO.lt {D:OpsD}{st:D.St}{H:Nat->Prop}{w:World}(h:RepO D st H w) {b:Nat}(hb:H b):b<w.heap.size:=by
 obtain⟨c,t,r,h1,_⟩:=h.near b hb;exact aB h1
theorem RepO.alloc {D:OpsD}{st:D.St}{H:Nat->Prop}{w:World}(h:RepO D st H w) (o:Obj):RepO D st H (w.alloc o):=
 RepO.law D st H w _ h (λb hb=>Below.heap_alloc _ _ _ (h.lt hb)) λb c t r _ hb=>⟨r,(Below.heap_alloc _ _ _ (aB hb)).trans hb⟩
theorem RepO.set_ {D:OpsD}{st:D.St}{H:Nat->Prop}{w:World}(h:RepO D st H w) {p:Addr}(hp:¬H p.block) (hr:¬D.RB p.block) (v:Value):RepO D st H (w.setCell p v):=
 RepO.law D st H w _ h (λb hb=>Below.heap_setCell _ _ _ _ (λe=>hp (e▸hb))) λb c t r hb hx=>⟨r,(Below.heap_setCell _ _ _ _ (λe=>hr (e▸hb))).trans hx⟩
theorem Held.alloc (H:Nat->Prop) (w:World) (o:Obj):Held H w H (w.alloc o):=⟨by simp,λb c t r hb hn _=>⟨(Below.heap_alloc _ _ _ (aB hb)).trans hb,hn⟩⟩
theorem kX {H0 H:Nat->Prop}{W0 w:World}(h:Held H0 W0 H w) {p:Addr}(hp:W0.heap.size<=p.block) (v:Value):Held H0 W0 H (w.setCell p v):=
 ⟨by have:=h.size;simpa [World.setCell] using this,λb c t r hb hn hr=>by
   have:=aB hb;exact⟨(Below.heap_setCell _ _ _ _ (by omega)).trans (h.block b c t r hb hn hr).1,(h.block b c t r hb hn hr).2⟩⟩
theorem neq_do (f:Nat) (b c:Array Value) (w:World):(binOp BinOp.neq 67 (.func (.func f) b c) .nilFunc).run Try.prog w=.ok (.bool true) w:=by kernel_rfl
theorem neq_nil (w:World):(binOp BinOp.neq 67 .nilFunc .nilFunc).run Try.prog w=.ok (.bool false) w:=by kernel_rfl
inductive DoAt (D:OpsD) (i:Nat) (doT:D.DoT) (fv:Value):Prop
 | fn (fd:FuncId) (bound caps:Array Value) (hfv:fv=.func (.func fd) bound caps) (hcall:∀ args w,(callFunc fd args).run Try.prog w=.ok (.enter fd args) w) (hD:DoLaw D i doT fd bound caps)
 | nil (hfv:fv=.nilFunc) (h:doT=λ_ st k=>k ⟨false,0,[]⟩ st)
theorem seq_merge {κ:Type}{L:Lg Try.prog κ}{b:Frame}{a0:Act}{x y:Code}{S:List Item}{mid:List Frame}{w0:World}{t0:κ}(P:κ->Act->World->Prop) (hx:(∀ t a w,P t a w->L.T t (b.at a (.code y::S)) mid w)->L.T t0 (b.at a0 (.code x::.code y::S)) mid w0)
  (hy:∀ t a w,P t a w->L.T t (b.at a (.code y::S)) mid w):L.T t0 (b.at a0 (.code (.seq x y)::S)) mid w0:=Lg.move _ (λ_ _=>step_seq) (λh=>h) (hx hy)
def frD (s o d ib an:Value) (f:Nat->Value):Array Value:=#[s,o,d,ib,an,f 5,f 6,f 7,f 8,f 9,f 10,f 11,f 12,f 13,f 14,f 15,f 16,f 17,f 18,f 19,f 20,f 21,f 22,f 23,f 24,f 25,f 26,f 27,f 28,f 29,f 30,f 31,f 32]
theorem thread_law (D:OpsD) (os:Os) (out:Array (Nat × ByteArray)) (Post:Value->World->Prop) (W0:World) (g:Gs) (b:Nat) (pos:0<b) (apart) (inj) (i:Nat) (T:ThrOk D i) (doT:Nat->D.DoT) (hdo:DoAt D i (doT i) D.fv) (st:D.St) (x:World) :
  fU ((D.shd os out).env Try.prog Post W0 g b pos apart inj) i #[.pointer (some ⟨D.opb i,0,none⟩),.pointer (some ⟨D.dob,0,none⟩),.pointer (some ⟨D.ib i,0,none⟩),.pointer (some ⟨D.anb,0,none⟩)] st (brT D doT i st) x:=by
 intro L Cap hre hcap hstand hcut H0 w0 hrep0 _ hcap0;have hrep0:RepO D st H0 w0:=hrep0;refine⟨Try.f64,_,Try.func64,rfl,?_⟩;intro bb k mid hQ;have HQ:=qd hQ;clear hQ;simp only[Try.f64,List.size_toArray,List.length_cons,List.length_nil,Nat.reduceAdd,Nat.reduceSub,Array.replicate_succ,Array.replicate_zero,List.push_toArray,List.append_toArray,List.nil_append,List.cons_append];obtain⟨A,cap,hopv,hops⟩:=T.ops;have hlen:=T.len
 by_cases hown0:st.2 i=[]
 rotate_left
 ·have : brT D doT i st=.cut:=by simp[brT,hown0]
  rw[this];exact hcut _ _ _
 rw[show brT D doT i st=mH D (doT i) i (D.ops i) [] st from by simp[brT,hown0]];generalize doT i=doT at hdo ⊢;refine Lg.move _ (λ_ _=>step_seq) id ?_;refine Lg.code λK hK y τ n hy=>?_;subst hy;have hrep:RepO D st H0 y:=RepO.law D st H0 _ y hrep0 (λ_ _=>rfl) (λb c t r _ h=>⟨r,h⟩);have c1:y.cell? ⟨D.opb i,0,none⟩=some (.slice A (D.ops i).length cap):=by have:=hrep.cell T.op 0;rw[hopv] at this;exact this
 have Hops:=qd hops;have Hrep:=qd hrep;clear hops hopv hrep0 hrep;go_wp2;refine hK _ _ (λ_=>rfl) ?_;clear hK K c1
 have hrlt:∀ b,D.RB b->b<y.heap.size:=λb hb=>by
  obtain⟨c0,t0,r0,hv0⟩:=D.rbc b hb;obtain⟨r',k⟩:=Hrep.out.rb b c0 t0 r0 hb hv0;exact aB k
 have hstand':qT D L Cap (g.sb i):=λs H k w hr hc=>hstand s H k w hr hc;have hcapy:Cap H0 y:=hre H0 (y.re τ n) y.tape y.drawn hcap0;clear hstand hcap0;simp only[Shd.env];generalize hsb:g.sb i=sb at *;refine Lg.bP (frD (.iface 141 (.pointer (some ⟨sb,0,none⟩))) (.pointer (some ⟨D.opb i,0,none⟩)) (.pointer (some ⟨D.dob,0,none⟩)) (.pointer (some ⟨D.ib i,0,none⟩)) (.pointer (some ⟨D.anb,0,none⟩))) (R:=λf=>f 9=.slice A (D.ops i).length cap/\f 10=.int .i64 (D.ops i).length/\f 11=.int .i64 0) ?_ (by rfl) ⟨rfl,rfl,rfl⟩;rintro f1 ⟨m9,m10,m11⟩;refine Lg.move _ (λ_ _=>step_block) (λh=>h) ?_;refine Lg.eZ (frD (.iface 141 (.pointer (some ⟨sb,0,none⟩))) (.pointer (some ⟨D.opb i,0,none⟩)) (.pointer (some ⟨D.dob,0,none⟩)) (.pointer (some ⟨D.ib i,0,none⟩)) (.pointer (some ⟨D.anb,0,none⟩))) (λf t w=>∃ j:Nat,j<=(D.ops i).length/\∃ (st':D.St) (H':Nat->Prop) (own:List Ans),own.length=j/\st'.2 i=own/\f 9=.slice A (D.ops i).length cap/\f 10=.int .i64 (D.ops i).length/\f 11=.int .i64 j/\t=mH D doT i ((D.ops i).drop j) own st'/\RepO D st' H' w/\Held H0 y H' w) (λf _ _=>(D.ops i).length-(intOf (f 11)).toNat) ⟨0,Nat.zero_le _,st,H0,[],rfl,hown0,m9,m10,m11,rfl,Hrep.out,Held.refl _ _⟩ ?_;rintro f2 t w ⟨j,hj,st',H',own,hownl,hown,k9,k10,k11,rfl,hR,hH⟩ hnext;have HOL:=qd hownl;have HOW:=qd hown;clear hownl hown;have hNext:=qd hnext;clear hnext m9 m10 m11 f1 Hrep;simp only[frD,k9,k10,k11];refine Lg.move _ (λ_ _=>step_seq) (λh=>h) ?_;refine Lg.code λK hK u τ n hu=>?_;subst hu;have hR:RepO D st' H' u:=RepO.law D st' H' _ u hR (λ_ _=>rfl) (λb c t r _ h=>⟨r,h⟩);have hH:Held H0 y H' u:=held_re.1 hH;have HR:=qd hR;clear hR;go_wp2;refine hK _ _ (λ_=>rfl) ?_;clear hK K;refine Lg.move _ (λ_ _=>step_seq) (λh=>h) ?_
 by_cases hlt:j<(D.ops i).length
 ·have hd:decide (j<(D.ops i).length)=true:=by simpa using hlt
  simp only[hd];refine Lg.move _ (λ_ _=>step_cond rfl) (λh=>h) ?_;refine Lg.move _ (λ_ _=>step_skip) (λh=>h) ?_;refine Lg.move _ (λ_ _=>step_seq) (λh=>h) ?_;refine Lg.move _ (λ_ _=>step_block) (λh=>h) ?_;refine Lg.move _ (λ_ _=>step_seq) (λh=>h) ?_
-- the operation
  obtain⟨ob,oo,cs,ct,cr,rfl,ho1,ho2,ho3⟩:=Hops.out j hlt;generalize hop:(D.ops i)[j]=op at ho3;refine Lg.code λK hK v τ n hv=>?_;subst hv;have hR:RepO D st' H' v:=RepO.law D st' H' _ v HR.out (λ_ _=>rfl) (λb c t r _ h=>⟨r,h⟩);have hH:Held H0 y H' v:=held_re.1 hH;have o0:v.cell? ⟨ob,oo+j*4,none⟩=some (.int .i64 op.kind):=by have:=hR.cell ⟨ho1,ho2⟩ (oo+j*4+0);rw[ho3 0 (by omega)] at this;exact this
  have o1:v.cell? ⟨ob,oo+j*4+1,none⟩=some (.int .i64 op.a):=by have:=hR.cell ⟨ho1,ho2⟩ (oo+j*4+1);rw[ho3 1 (by omega)] at this;exact this
  have o2:v.cell? ⟨ob,oo+j*4+1+1,none⟩=some (.int .i64 op.b):=by have:=hR.cell ⟨ho1,ho2⟩ (oo+j*4+2);rw[ho3 2 (by omega)] at this;exact this
  have o3:v.cell? ⟨ob,oo+j*4+1+1+1,none⟩=some (.int .i64 op.c):=by have:=hR.cell ⟨ho1,ho2⟩ (oo+j*4+3);rw[ho3 3 (by omega)] at this;exact this
  have HR2:=qd hR;clear hR HR;go_wp2;refine hK _ _ (λ_=>rfl) ?_;clear hK K o0 o1 o2 o3;have hR1:=HR2.out.alloc (Obj.cells #[.int .i64 op.kind,.int .i64 op.a,.int .i64 op.b,.int .i64 op.c] 46);have hH1:=hH.trans (Held.alloc H' v (Obj.cells #[.int .i64 op.kind,.int .i64 op.a,.int .i64 op.b,.int .i64 op.c] 46));have hb7:=Blk.new v 46 #[.int .i64 op.kind,.int .i64 op.a,.int .i64 op.b,.int .i64 op.c];have hn7:¬H' v.heap.size:=λz=>by have:=HR2.out.lt z;omega
  have hy7:y.heap.size<=v.heap.size:=hH.size;clear HR2 hH;generalize v.alloc (Obj.cells #[.int .i64 op.kind,.int .i64 op.a,.int .i64 op.b,.int .i64 op.c] 46)=z at hR1 hH1 hb7 ⊢;generalize v.heap.size=b7 at hb7 hn7 hy7 ⊢;refine Lg.move _ (λ_ _=>step_seq) (λh=>h) ?_;refine Lg.code λK hK v τ2 n2 hv=>?_;subst hv;have hR1:=hR1.re;have hH1:Held H0 y H' v:=held_re.1 hH1;have hb7:Blk v b7 _ _:=hb7;have HR1:=qd hR1;have HB7:=qd hb7;clear hR1 hb7;go_wp2;refine hK _ _ (λ_=>rfl) ?_;clear hK K;have hR2:=HR1.out.alloc (Obj.cells #[.bool false,.int .i64 0,.slice none 0 0] 48);have hH2:=hH1.trans (Held.alloc H' v (Obj.cells #[.bool false,.int .i64 0,.slice none 0 0] 48));have hb8:=Blk.new v 48 #[.bool false,.int .i64 0,.slice none 0 0];have hn8:¬H' v.heap.size:=λz=>by have:=HR1.out.lt z;omega
  have hy8:y.heap.size<=v.heap.size:=hH1.size;have hb7:=HB7.out.alloc (Obj.cells #[.bool false,.int .i64 0,.slice none 0 0] 48);clear HR1 hH1 HB7;generalize v.alloc (Obj.cells #[.bool false,.int .i64 0,.slice none 0 0] 48)=z at hR2 hH2 hb7 hb8 ⊢;generalize v.heap.size=b8 at hb8 hn8 hy8 ⊢
  have hdrop:mH D doT i ((D.ops i).drop j) own st'=doT op st' λa s=>if s.2 i=own then mH D doT i ((D.ops i).drop (j+1)) (own++[a]) (D.push i a s) else .cut:=by
   rw[List.drop_eq_getElem_cons hlt,hop];rfl
  rw[hdrop];refine seq_merge (λt a w=>∃ (f:Nat->Value) (an:Ans) (st2:D.St) (H2:Nat->Prop) (lv:Value),a=⟨frD (.iface 141 (.pointer (some ⟨sb,0,none⟩))) (.pointer (some ⟨D.opb i,0,none⟩)) (.pointer (some ⟨D.dob,0,none⟩)) (.pointer (some ⟨D.ib i,0,none⟩)) (.pointer (some ⟨D.anb,0,none⟩)) f,[]⟩/\f 8=.pointer (some ⟨b8,0,none⟩)/\f 9=.slice (some ⟨ob,oo,none⟩) (D.ops i).length cap/\f 10=.int .i64 (D.ops i).length/\f 11=.int .i64 j/\st2.2 i=own/\t=mH D doT i ((D.ops i).drop (j+1)) (own++[an]) (D.push i an st2)/\RepO D st2 H2 w/\Held H0 y H2 w/\Blk w b8 48 #[.bool an.ok,.int .i64 an.n,lv]/\w.ownsRow y.heap.size 2 1 lv an.ls.length (an.ls.map (Value.int .i64))/\(∀ b,lv.ownBlock=some b->¬H2 b)/\¬H2 b8) (λhnx=>?_) ?_
  ·have HNX:=qd hnx
   clear hnx;refine Lg.move _ (λ_ _=>step_seq) (λh=>h) ?_;refine Lg.code λK hK v τ2 n2 hv=>?_;subst hv;have hR2:=hR2.re;have hH2:Held H0 y H' v:=held_re.1 hH2;have hb7:Blk v b7 _ _:=hb7;have hb8:Blk v b8 _ _:=hb8
   rcases hdo with⟨fd,bound,caps,hfv,hcall,hD⟩ | ⟨hfv,hnl⟩
   rotate_left
   ·have c1:v.cell? ⟨D.dob,0,none⟩=some .nilFunc:=by have:=hR2.cell T.do_ 0;rw[hfv] at this;exact this
    have hq:=neq_nil;have HR2:=qd hR2;have HB8:=qd hb8;have HNL:=qd hnl;clear hR2 hb7 hb8 hnl;go_wp2;refine hK _ _ (λ_=>rfl) ?_;clear hK K c1 hq;refine Lg.move _ (λ_ _=>step_cond rfl) (λh=>h) ?_;refine Lg.move _ (λ_ _=>step_skip) (λh=>h) ?_;rw[show doT op st' (λa s=>if s.2 i=own then mH D doT i ((D.ops i).drop (j+1)) (own++[a]) (D.push i a s) else .cut)=(if st'.2 i=own then mH D doT i ((D.ops i).drop (j+1)) (own++[⟨false,0,[]⟩]) (D.push i ⟨false,0,[]⟩ st') else .cut) from congrFun (congrFun (congrFun HNL.out op) st') _]
    by_cases hst2:st'.2 i=own
    rotate_left
    ·rw [if_neg hst2]
     exact hcut _ _ _
    rw[if_pos hst2];refine Lg.bP (frD (.iface 141 (.pointer (some ⟨sb,0,none⟩))) (.pointer (some ⟨D.opb i,0,none⟩)) (.pointer (some ⟨D.dob,0,none⟩)) (.pointer (some ⟨D.ib i,0,none⟩)) (.pointer (some ⟨D.anb,0,none⟩))) (R:=λf=>f 8=.pointer (some ⟨b8,0,none⟩)/\f 9=.slice (some ⟨ob,oo,none⟩) (D.ops i).length cap/\f 10=.int .i64 (D.ops i).length/\f 11=.int .i64 j) ?_ (by rfl) ⟨rfl,rfl,rfl,rfl⟩;rintro f3 ⟨g8,g9,g10,g11⟩;exact HNX.out _ _ _ ⟨f3,⟨false,0,[]⟩,st',H',.slice none 0 0,rfl,g8,g9,g10,g11,hst2,rfl,HR2.out,hH2,HB8.out,⟨rfl,.inl ⟨rfl,rfl⟩⟩,λb hb=>by simp[Value.ownBlock] at hb,hn8⟩
   have c1:v.cell? ⟨D.dob,0,none⟩=some (.func (.func fd) bound caps):=by have:=hR2.cell T.do_ 0;rw[hfv] at this;exact this
   have hq:=neq_do fd bound caps;have HR2:=qd hR2;have HB7:=qd hb7;have HB8:=qd hb8;clear hR2 hb7 hb8;go_wp2;refine hK _ _ (λ_=>rfl) ?_;clear hK K c1 hq;refine Lg.move _ (λ_ _=>step_cond rfl) (λh=>h) ?_;refine Lg.move _ (λ_ _=>step_region) (λh=>h) ?_;refine Lg.pre 0 4 2 (by simp) λK hK z τ3 n3 hz=>?_;subst hz;have hR3:=HR2.out.re;have hH3:Held H0 y H' z:=held_re.1 hH2;have hb7:Blk z b7 _ _:=HB7.out;have hb8:Blk z b8 _ _:=HB8.out;have c1:z.cell? ⟨D.dob,0,none⟩=some (.func (.func fd) bound caps):=by have:=hR3.cell T.do_ 0;rw[hfv] at this;exact this
   have c2:z.cell? ⟨D.ib i,0,none⟩=some (.int .i64 i):=hR3.cell T.ib 0;have o0:z.cell? ⟨b7,0,none⟩=some (.int .i64 op.kind):=hb7.cell 0;have o1:z.cell? ⟨b7,1,none⟩=some (.int .i64 op.a):=hb7.cell 1;have o2:z.cell? ⟨b7,2,none⟩=some (.int .i64 op.b):=hb7.cell 2;have o3:z.cell? ⟨b7,3,none⟩=some (.int .i64 op.c):=hb7.cell 3;have HR3:=qd hR3;have HB8:=qd hb8;clear hR3 hb7 hb8 HR2 HB7 hH2;simp only[zC];go_wp2;refine hK _ _ (λ_=>rfl) ?_;clear hK K c1 c2 o0 o1 o2 o3;refine Lg.call (i:=4) (rest:=[5]) (f:=fd) (args:=bound++#[.iface 141 (.pointer (some ⟨sb,0,none⟩)),.int .i64 i,op.val]++caps) rfl rfl (λy=>?_) (hD sb L Cap hre hcap hstand' hcut op st' H' _ z (T.gd op (hop▸List.getElem_mem hlt)) HR3.out (hcap _ _ _ _ hcapy hH3)) ?_
   ·go_simp
    simp[OpI.val]
   rintro vv t' w' ⟨a,st2,H2,lv,rfl,rfl,hR4,hH4,hlv,hlvn⟩
   by_cases hst2:st2.2 i=own
   rotate_left
   ·rw [if_neg hst2]
    exact hcut _ _ _
   rw[if_pos hst2];rw[Frame.finish_at];walk_nrm;have HST:=qd hst2;clear hst2;obtain⟨hb8',hn8'⟩:=hH4.block b8 _ _ (0,0) HB8.out hn8 (.inl (by decide));have hH5:Held H0 y H2 w':=hH3.trans hH4;have hy8':b8<z.heap.size:=HB8.out.lt;obtain⟨lA,lc,rfl⟩:∃ A c,lv=.slice A a.ls.length c:=aQ hlv
   have hlw:∀ b,(Value.slice lA a.ls.length lc).ownBlock=some b->z.heap.size<=b:=λb hb=>by
    rcases hlv.2 with⟨e,_⟩ | ⟨g,cap,cur,e,k,_⟩
    ·rw [e] at hb;simp[Value.ownBlock] at hb
    ·rw [e] at hb;simp only[Value.ownBlock,Option.some.injEq] at hb;omega
   have hyz:y.heap.size<=z.heap.size:=hH3.size;clear hH3 hH4 HR3 HB8 hn8 hn7;refine(show L.T _ (Frame.at _ ⟨_,[]⟩ (.inRegion _ (List.range' 5 (1+0))::_)) mid w' from ?_);refine Lg.pre 5 1 0 (by simp) λK hK v τ2 n2 hv=>?_;subst hv;have hR5:=hR4.re;have hH5:Held H0 y H2 v:=held_re.1 hH5;have hlv:v.ownsRow z.heap.size 2 1 (.slice lA a.ls.length lc) a.ls.length (a.ls.map (Value.int .i64)):=hlv;have hb8:Blk v b8 48 #[.bool false,.int .i64 0,.slice none 0 0]:=hb8';have o0:v.cell? ⟨b8,0,none⟩=some (.bool false):=hb8.cell 0;have o1:v.cell? ⟨b8,1,none⟩=some (.int .i64 0):=hb8.cell 1;have o2:v.cell? ⟨b8,2,none⟩=some (.slice none 0 0):=hb8.cell 2;have z0:v.frozen? ⟨b8,0,none⟩=false:=hb8.frozen 0;have z1:v.frozen? ⟨b8,1,none⟩=false:=hb8.frozen 1;have z2:v.frozen? ⟨b8,2,none⟩=false:=hb8.frozen 2;have HR5:=qd hR5;have HB8:=qd hb8;have HLV:=qd hlv;have HLW:=qd hlw;have HLN:=qd hlvn;clear hR4 hR5 hb8 hb8' hlv hlw hlvn;simp only[zC];go_wp2;refine hK _ _ (λ_=>rfl) ?_;clear hK K o0 o1 o2 z0 z1 z2;have hnr8:¬D.RB b8:=λz=>by have:=hrlt _ z;omega
   have hR6:=((HR5.out.set_ (p:=⟨b8,0,none⟩) hn8' hnr8 (.bool a.ok)).set_ (p:=⟨b8,1,none⟩) hn8' hnr8 (.int .i64 a.n)).set_ (p:=⟨b8,2,none⟩) hn8' hnr8 (.slice lA a.ls.length lc);have hH6:=kX (kX (kX hH5 (p:=⟨b8,0,none⟩) hy8 (.bool a.ok)) (p:=⟨b8,1,none⟩) hy8 (.int .i64 a.n)) (p:=⟨b8,2,none⟩) hy8 (.slice lA a.ls.length lc);have hb86:=((HB8.out.set_ 0 (.bool a.ok)).set_ 1 (.int .i64 a.n)).set_ 2 (.slice lA a.ls.length lc)
   have hlvne:∀ b,(Value.slice lA a.ls.length lc).ownBlock=some b->b≠b8:=λb hb=>by
    rcases HLV.out.2 with⟨e,_⟩ | ⟨g,cp,cur,e,_,k,_⟩
    ·rw [e] at hb;simp[Value.ownBlock] at hb
    ·rw [e] at hb;simp only[Value.ownBlock,Option.some.injEq] at hb;subst hb
     exact cK (show Blk v _ _ _ from k) HB8.out (by decide)
   have hlv6:=bT (w':=((v.setCell ⟨b8,0,none⟩ (.bool a.ok)).setCell ⟨b8,1,none⟩ (.int .i64 a.n)).setCell ⟨b8,2,none⟩ (.slice lA a.ls.length lc)) HLV.out λb hb=>by
    have:=hlvne b hb;rw[Below.heap_setCell _ _ _ _ this,Below.heap_setCell _ _ _ _ this,Below.heap_setCell _ _ _ _ this]
   clear HR5 hH5 HB8 HLV hlvne;generalize ((v.setCell ⟨b8,0,none⟩ (.bool a.ok)).setCell ⟨b8,1,none⟩ (.int .i64 a.n)).setCell ⟨b8,2,none⟩ (.slice lA a.ls.length lc)=w6 at hR6 hH6 hb86 hlv6 ⊢;refine Lg.move _ (λ_ _=>step_region_end) (λh=>h) ?_;refine Lg.bP (frD (.iface 141 (.pointer (some ⟨sb,0,none⟩))) (.pointer (some ⟨D.opb i,0,none⟩)) (.pointer (some ⟨D.dob,0,none⟩)) (.pointer (some ⟨D.ib i,0,none⟩)) (.pointer (some ⟨D.anb,0,none⟩))) (R:=λf=>f 8=.pointer (some ⟨b8,0,none⟩)/\f 9=.slice (some ⟨ob,oo,none⟩) (D.ops i).length cap/\f 10=.int .i64 (D.ops i).length/\f 11=.int .i64 j) ?_ (by rfl) ⟨rfl,rfl,rfl,rfl⟩;rintro f3 ⟨g8,g9,g10,g11⟩;exact HNX.out _ _ _ ⟨f3,a,st2,H2,_,rfl,g8,g9,g10,g11,HST.out,rfl,hR6,hH6,hb86,eD hlv6 hyz,HLN.out,hn8'⟩
  rintro t6 a6 w6 ⟨f3,a,st2,H2,lv,rfl,g8,g9,g10,g11,hst2,rfl,hR6,hH6,hb86,hlv6,hlvn,hn8'⟩;obtain⟨lA,lc,rfl⟩:∃ A c,lv=.slice A a.ls.length c:=aQ hlv6;have hlw:∀ b,(Value.slice lA a.ls.length lc).ownBlock=some b->y.heap.size<=b:=λb hb=>(hlv6.lt b hb).1;have HST:=qd hst2;have HLW:=qd hlw;have HLN:=qd hlvn;clear hst2 hlw hlvn hR2 hH2 hb7 hb8 hn7 hn8;simp only[frD,g8,g9,g10,g11];refine Lg.code λK hK v τ2 n2 hv=>?_;subst hv;have hR6:=hR6.re;have hH6:Held H0 y H2 v:=held_re.1 hH6;have hb86:Blk v b8 48 #[.bool a.ok,.int .i64 a.n,.slice lA a.ls.length lc]:=hb86;have hlv6:v.ownsRow y.heap.size 2 1 (.slice lA a.ls.length lc) a.ls.length (a.ls.map (Value.int .i64)):=hlv6;obtain⟨rw_,ca,r1,r2,r3,r4,r5⟩:=hR6.rows;obtain⟨xs,q1,q2,q3⟩:=r4 i T.lt;have ti:=T.lt;have tn:=T.n64;obtain⟨rA,rc,hrw⟩:∃ A c,rw_ i=.slice A (st2.2 i).length c:=aQ q1;have c1:v.cell? ⟨D.anb,0,none⟩=some (.slice (some ⟨D.ab,0,none⟩) D.n D.n):=hR6.cell T.an 0;have c2:v.cell? ⟨D.ib i,0,none⟩=some (.int .i64 i):=hR6.cell T.ib 0;have c3:v.cell? ⟨D.ab,i,none⟩=some (rw_ i):=(cell_of_row v D.ab i ca _ _ r1).trans (r3 i ti);have o0:v.cell? ⟨b8,0,none⟩=some (.bool a.ok):=hb86.cell 0;have o1:v.cell? ⟨b8,1,none⟩=some (.int .i64 a.n):=hb86.cell 1;have o2:v.cell? ⟨b8,2,none⟩=some (.slice lA a.ls.length lc):=hb86.cell 2;have z3:v.frozen? ⟨D.ab,i,none⟩=false:=(show Blk v D.ab _ _ from r1).frozen i;have lln:(st2.2 i).length=j:=by rw[HST.out];exact HOL.out
  have hcap1:(st2.2 i).length+1<=maxLen:=by unfold maxLen;omega
  have hby:((st2.2 i).length+1)*40<=140737488355328:=by omega
  have ownb:∀ b cur t,v.heap[b]?=some (.cells cur t (0,0))->t≠48->(rw_ i).ownBlock≠some b:=λb cur t hb ht hz=>by
   rcases q1.2 with⟨e,_⟩ | ⟨g,cp,cur',e,_,k,_⟩
   ·rw [e] at hz;simp[Value.ownBlock] at hz
   ·rw [e] at hz;simp only[Value.ownBlock,Option.some.injEq] at hz;subst hz
    rw[hb] at k;simp only[Option.some.injEq,Obj.cells.injEq] at k;exact ht k.2.1
  have l8:b8<v.heap.size:=hb86.lt;have lab:D.ab<v.heap.size:=aB r1;have lan:D.anb<v.heap.size:=bG c1;have lib:D.ib i<v.heap.size:=bG c2;have nab:(rw_ i).ownBlock≠some D.ab:=ownb _ _ _ r1 (by decide);have nan:(rw_ i).ownBlock≠some D.anb:=λhz=>hR6.rbH _ T.an.1 (q3 _ hz).1;have nib:(rw_ i).ownBlock≠some (D.ib i):=λhz=>hR6.rbH _ T.ib.1 (q3 _ hz).1;have n8:(rw_ i).ownBlock≠some b8:=λhz=>hn8' (q3 _ hz).1;obtain⟨i0,hi0,hz0,hz1,hz2⟩:=info_parts Try.infoAns;rw[hrw] at c3 nab nan nib n8;have hq1:=q1;rw[hrw] at hq1;have HR6:=qd hR6;have HH6:=qd hH6;have HB8:=qd hb86;have HLV:=qd hlv6;have HQ1:=qd hq1;have R1:=qd r1;have R2:=qd r2;have R3:=qd r3;have R4:=qd r4;have R5:=qd r5;have Q1:=qd q1;have Q2:=qd q2;have Q3:=qd q3;have HRW:=qd hrw;have LLN:=qd lln;have OWB:=qd ownb;clear hR6 hH6 hb86 hlv6 r1 r2 r3 r4 r5 q1 q2 q3 hrw lln ownb hq1;refine fV (S:=λw'=>w'.cell? ⟨D.anb,0,none⟩=some (.slice (some ⟨D.ab,0,none⟩) D.n D.n)/\w'.cell? ⟨D.ib i,0,none⟩=some (.int .i64 i)/\w'.cell? ⟨D.ab,i,none⟩=some (.slice rA (st2.2 i).length rc)/\w'.cell? ⟨b8,0,none⟩=some (.bool a.ok)/\w'.cell? ⟨b8,1,none⟩=some (.int .i64 a.n)/\w'.cell? ⟨b8,2,none⟩=some (.slice lA a.ls.length lc)) 10 (by kernel_rfl) (by kernel_rfl) (by kernel_rfl) ?_;simp only[idle,zB,Nat.reduceAdd];have HS:v.drew.cell? ⟨D.anb,0,none⟩=some (.slice (some ⟨D.ab,0,none⟩) D.n D.n)/\v.drew.cell? ⟨D.ib i,0,none⟩=some (.int .i64 i)/\v.drew.cell? ⟨D.ab,i,none⟩=some (.slice rA (st2.2 i).length rc)/\v.drew.cell? ⟨b8,0,none⟩=some (.bool a.ok)/\v.drew.cell? ⟨b8,1,none⟩=some (.int .i64 a.n)/\v.drew.cell? ⟨b8,2,none⟩=some (.slice lA a.ls.length lc):=⟨c1,c2,c3,o0,o1,o2⟩;refine aU (i:=0) (some 22) rfl rfl (by kernel_rfl) (by kernel_rfl) (by kernel_rfl) (λ_ _ _ h=>h) rfl HS ?_;apply Exists.intro;refine⟨λwq hw=>?_,?_⟩
  ·obtain ⟨hw1,hw2,hw3,hw4,hw5,hw6⟩:=hw
   go_simp
   rfl
  simp only[Act.put,zA];refine aU (i:=1) (some 23) rfl rfl (by kernel_rfl) (by kernel_rfl) (by kernel_rfl) (λ_ _ _ h=>h) rfl HS ?_;apply Exists.intro;refine⟨λwq hw=>?_,?_⟩
  ·obtain ⟨hw1,hw2,hw3,hw4,hw5,hw6⟩:=hw
   go_simp
   rfl
  simp only[Act.put,zA];refine aU (i:=2) (some 24) rfl rfl (by kernel_rfl) (by kernel_rfl) (by kernel_rfl) (λ_ _ _ h=>h) rfl HS ?_;apply Exists.intro;refine⟨λwq hw=>?_,?_⟩
  ·obtain ⟨hw1,hw2,hw3,hw4,hw5,hw6⟩:=hw
   go_simp
   rfl
  simp only[Act.put,zA];refine aU (i:=3) (some 25) rfl rfl (by kernel_rfl) (by kernel_rfl) (by kernel_rfl) (λ_ _ _ h=>h) rfl HS ?_;apply Exists.intro;refine⟨λwq hw=>?_,?_⟩
  ·obtain ⟨hw1,hw2,hw3,hw4,hw5,hw6⟩:=hw
   go_simp
   rfl
  simp only[Act.put,zA];refine aU (i:=4) (some 26) rfl rfl (by kernel_rfl) (by kernel_rfl) (by kernel_rfl) (λ_ _ _ h=>h) rfl HS ?_;apply Exists.intro;refine⟨λwq hw=>?_,?_⟩
  ·obtain ⟨hw1,hw2,hw3,hw4,hw5,hw6⟩:=hw
   go_simp
   rfl
  simp only[Act.put,zA];refine aU (i:=5) (some 27) rfl rfl (by kernel_rfl) (by kernel_rfl) (by kernel_rfl) (λ_ _ _ h=>h) rfl HS ?_;apply Exists.intro;refine⟨λwq hw=>?_,?_⟩
  ·obtain ⟨hw1,hw2,hw3,hw4,hw5,hw6⟩:=hw
   go_simp
   rfl
  simp only[Act.put,zA];refine aU (i:=6) (some 28) rfl rfl (by kernel_rfl) (by kernel_rfl) (by kernel_rfl) (λ_ _ _ h=>h) rfl HS ?_;apply Exists.intro;refine⟨λwq hw=>?_,?_⟩
  ·obtain ⟨hw1,hw2,hw3,hw4,hw5,hw6⟩:=hw
   go_simp
   rfl
  simp only[Act.put,zA];clear HS;refine dU (i:=7) (by kernel_rfl) rfl rfl λK hK=>?_;go_simp;refine hK _ _ ⟨(cC v _ _ 0 lan).trans c1,(cC v _ _ 0 lib).trans c2,(cC v _ _ i lab).trans c3,(cC v _ _ 0 l8).trans o0,(cC v _ _ 1 l8).trans o1,(cC v _ _ 2 l8).trans o2⟩ ?_;clear hK K;refine dU (i:=8) (by kernel_rfl) rfl rfl λK hK=>?_;refine wp_append_lies _ _ _ _ rfl 0 48 i0 _ 3 40 Try.underlying43 hi0 hz0 hz1 hz2 rfl (by omega) (.slice rA (st2.2 i).length rc) (st2.2 i).length xs rfl (HQ1.out.alloc _).drew ⟨v.heap.size,0,none⟩ 1 1 [.bool a.ok,.int .i64 a.n,.slice lA a.ls.length lc] rfl rfl (World.news_of_block (cs:=#[.bool a.ok,.int .i64 a.n,.slice lA a.ls.length lc]) (t:=48) (fr:=(0,0)) (news_one v _ _)) (by simp[Value.oneCell']) (by omega) hcap1 hby (by omega) (v.heap.size+1) (one_len _ _) λgg cap' w1 hown1 hgrow hat hgl=>?_;have ln1:=one_len v (Obj.cells #[.bool a.ok,.int .i64 a.n,.slice lA a.ls.length lc] 48);have key:∀ b,b<v.heap.size->(Value.slice rA (st2.2 i).length rc).ownBlock≠some b->w1.heap[b]?=v.heap[b]?:=λb hb hne=>(hgrow.block b (by rw[ln1];omega) (λz=>hne z.symm)).trans (Below.heap_alloc _ _ _ hb);have kan:=(World.cell?_of_block (w:=v) (w':=w1) (a:=⟨D.anb,0,none⟩) (key _ lan nan)).trans c1;have kib:=(World.cell?_of_block (w:=v) (w':=w1) (a:=⟨D.ib i,0,none⟩) (key _ lib nib)).trans c2;have kab:=(World.cell?_of_block (w:=v) (w':=w1) (a:=⟨D.ab,i,none⟩) (key _ lab nab)).trans c3;have k80:=(World.cell?_of_block (w:=v) (w':=w1) (a:=⟨b8,0,none⟩) (key _ l8 n8)).trans o0;have k81:=(World.cell?_of_block (w:=v) (w':=w1) (a:=⟨b8,1,none⟩) (key _ l8 n8)).trans o1;have k82:=(World.cell?_of_block (w:=v) (w':=w1) (a:=⟨b8,2,none⟩) (key _ l8 n8)).trans o2;have kz:=(World.frozen?_of_block (w:=v) (w':=w1) (a:=⟨D.ab,i,none⟩) (key _ lab nab)).trans z3;refine hK _ _ ⟨kan,kib,kab,k80,k81,k82⟩ ?_;clear hK K;have HS:w1.cell? ⟨D.anb,0,none⟩=some (.slice (some ⟨D.ab,0,none⟩) D.n D.n)/\w1.cell? ⟨D.ib i,0,none⟩=some (.int .i64 i)/\w1.cell? ⟨D.ab,i,none⟩=some (.slice rA (st2.2 i).length rc)/\w1.cell? ⟨b8,0,none⟩=some (.bool a.ok)/\w1.cell? ⟨b8,1,none⟩=some (.int .i64 a.n)/\w1.cell? ⟨b8,2,none⟩=some (.slice lA a.ls.length lc):=⟨kan,kib,kab,k80,k81,k82⟩;simp only[Act.put,zA,List.getElem_toArray,List.getElem_cons_zero,List.getElem_cons_succ];refine aU (i:=9) (some 31) rfl rfl (by kernel_rfl) (by kernel_rfl) (by kernel_rfl) (λ_ _ _ h=>h) rfl HS ?_;apply Exists.intro;refine⟨λwq hw=>?_,?_⟩
  ·obtain ⟨hw1,hw2,hw3,hw4,hw5,hw6⟩:=hw
   go_simp
   rfl
  simp only[Act.put,zA];refine aU (i:=10) none rfl rfl (by kernel_rfl) (by kernel_rfl) (by kernel_rfl) (λ_ _ _ h=>h) rfl HS ?_;apply Exists.intro;refine⟨λwq hw=>?_,?_⟩
  ·go_simp
   rfl
  simp only[Act.put];clear HS;refine wpAnyH_done (by kernel_rfl) ?_ _;simp only[Exit.then];refine aX (m:=10) rfl ?_;have HG:=qd hgrow;have HO1:=qd hown1;have HAT:=qd hat;have KEY:=qd key;clear hgrow hown1 hat key kan kib k80 k81 k82 c1 c2 c3 o0 o1 o2;go_wp2;refine hK _ _ (λ_=>rfl) ?_;clear hK K
-- the answer has been laid behind
  have hv':∀ b,(Value.slice (some ⟨gg,0,none⟩) ((st2.2 i).length+1) cap').ownBlock=some b->(rw_ i).ownBlock=some b\/v.heap.size<=b:=λb hb=>by
   simp only[Value.ownBlock,Option.some.injEq] at hb;subst hb
   rcases HAT.out with h | h
   ·exact .inl (by rw[HRW.out];exact h)
   ·exact .inr (by omega)
  have ab1:Blk w1 D.ab 43 ca:=(KEY.out _ lab nab).trans R1.out
  have gne:gg≠D.ab:=by
   rcases HO1.out.2 with⟨e,_⟩ | ⟨g,cp,cur,e,_,k,_⟩
   ·cases e
   ·cases e
    exact cK (show Blk w1 _ _ _ from k) ab1 (by decide)
  have hfin:∀ b,b<v.heap.size->b≠D.ab->(rw_ i).ownBlock≠some b->(w1.setCell ⟨D.ab,i,none⟩ (.slice (some ⟨gg,0,none⟩) ((st2.2 i).length+1) cap')).heap[b]?=v.heap[b]?:=λb hb h1 h2=>(Below.heap_setCell _ _ _ _ h1).trans (KEY.out b hb (by rw[<-HRW.out];exact h2))
  have hRn:=RepO.push HR6.out ti (a:=a) (lv:=.slice lA a.ls.length lc) (v':=.slice (some ⟨gg,0,none⟩) ((st2.2 i).length+1) cap') (w':=w1.setCell ⟨D.ab,i,none⟩ (.slice (some ⟨gg,0,none⟩) ((st2.2 i).length+1) cap')) R1.out R2.out R3.out R4.out R5.out Q1.out Q2.out (eD HLV.out (Nat.zero_le _)) HLN.out (λb hb hrbb=>by have:=HLW.out b hb;have:=hrlt _ hrbb;omega)
   (bT HO1.out λb hb=>by
     simp only[Value.ownBlock,Option.some.injEq] at hb;subst hb;exact Below.heap_setCell _ _ _ _ gne) hv' (ab1.set_ i _) hfin
  have hHn:Held H0 y (λb=>(H2 b/\(rw_ i).ownBlock≠some b)\/(Value.slice (some ⟨gg,0,none⟩) ((st2.2 i).length+1) cap').ownBlock=some b\/(Value.slice lA a.ls.length lc).ownBlock=some b) (w1.setCell ⟨D.ab,i,none⟩ (.slice (some ⟨gg,0,none⟩) ((st2.2 i).length+1) cap')):=by
   have hsz:=HG.out.size;rw[ln1] at hsz;refine⟨by have:=HH6.out.size;simp[World.setCell];omega,λb c t r hb hn hr=>?_⟩;obtain⟨e1,e2⟩:=HH6.out.block b c t r hb hn hr;have hby':=aB hb;have hsv:=HH6.out.size;refine⟨(hfin b (aB e1) (λz=>e2 (z▸HR6.out.abH.1)) (λz=>e2 (Q3.out b z).1)).trans e1,?_⟩;rintro(⟨z,_⟩ | z | z)
   ·exact e2 z
   ·rcases hv' b z with z | z
    ·exact e2 (Q3.out b z).1
    ·omega
   ·have:=HLW.out b z;omega
  have hrow:(D.push i a st2).2 i=own++[a]:=by simp[OpsD.push,HST.out]
  clear HR6 HH6 HB8 HLV HQ1 R1 R2 R3 R4 R5 Q1 Q2 Q3 HRW LLN OWB hfin hv' ab1 KEY HAT HO1 HG HLW HLN;generalize w1.setCell ⟨D.ab,i,none⟩ (.slice (some ⟨gg,0,none⟩) ((st2.2 i).length+1) cap')=w9 at hRn hHn ⊢;refine Lg.move _ (λ_ _=>step_inBlock) (λh=>h) ?_;refine Lg.code λK hK v τ2 n2 hv=>?_;subst hv;have hRn:=hRn.re;have hHn:=held_re.1 hHn;have HRn:=qd hRn;clear hRn;go_wp2;refine hK _ _ (λ_=>rfl) ?_;clear hK K;refine Lg.bP (frD (.iface 141 (.pointer (some ⟨sb,0,none⟩))) (.pointer (some ⟨D.opb i,0,none⟩)) (.pointer (some ⟨D.dob,0,none⟩)) (.pointer (some ⟨D.ib i,0,none⟩)) (.pointer (some ⟨D.anb,0,none⟩))) (R:=λf=>f 9=.slice (some ⟨ob,oo,none⟩) (D.ops i).length cap/\f 10=.int .i64 (D.ops i).length/\f 11=.int .i64 ((j+1:Nat):Int)) ?_ (by rfl) ⟨rfl,rfl,by go_num⟩;rintro f' ⟨e9,e10,e11⟩;exact hNext.out f' _ _ ⟨j+1,by omega,_,_,own++[a],by simp[HOL.out],hrow,e9,e10,e11,rfl,HRn.out,hHn⟩ (by rw[e11,k11];simp[intOf];omega)
 ·have hd:decide (j<(D.ops i).length)=false:=by simpa using hlt
  simp only[hd];refine Lg.move _ (λ_ _=>step_cond rfl) (λh=>h) ?_;refine Lg.move _ (λ_ _=>step_exit rfl) (λh=>h) ?_;have hjn:j=(D.ops i).length:=by omega
  have hdr:mH D doT i ((D.ops i).drop j) own st'=.ret st':=by rw[hjn,List.drop_length];rfl
  rw[hdr];refine HQ.out .normal (.ret st') _ _ ⟨rfl,.tuple #[],λy τ n _=>?_,st',H',rfl,HR.out,hcap _ _ _ _ hcapy hH⟩
  simp[results]
open Go.ConcN (upd upd_ne upd_same)
section
variable {D:OpsD}
def OKt (D:OpsD) (i:Nat):Tree D.St D.St->D.St->Prop
 | .ret s,σ=>∀ l,l≠i->s.2 l=σ.2 l
 | .yield s k,σ=>(∀ l,l≠i->s.2 l=σ.2 l)/\∀ σ',σ'.2 i=s.2 i->OKt D i (k σ') σ'
 | .cut,_=>False
theorem OKt.congr {i:Nat}{t:Tree D.St D.St}{σ σ':D.St}(h:OKt D i t σ) (e:∀ l,l≠i->σ.2 l=σ'.2 l):OKt D i t σ':=by
 cases t with
 | ret s=>exact λl hl=>(h l hl).trans (e l hl)
 | yield s k=>exact⟨λl hl=>(h.1 l hl).trans (e l hl),h.2⟩
 | cut=>exact h
theorem OKt.ne {i:Nat}{t:Tree D.St D.St}{σ:D.St}(h:OKt D i t σ):t≠.cut:=λe=>by rw[e] at h;exact h
def OpsMI (D:OpsD) (m:Mach D.St):Prop:=∀ i,i<D.n->∀ k,m.th i=.wait k->∀ σ:D.St,σ.2 i=m.s.2 i->OKt D i (k σ) σ
theorem OpsMI.did {m:Mach D.St}(h:OpsMI D m) {i:Nat}{t:Tree D.St D.St}(ht:OKt D i t m.s):OpsMI D (m.did i t)/\∀ l,l≠i->(m.did i t).s.2 l=m.s.2 l:=by
 cases t with
 | cut=>exact ht.elim
 | ret s =>
   refine⟨λl hl k hk σ hσ=>?_,ht⟩
   by_cases e:l=i
   ·subst e;simp[Mach.did,upd_same] at hk
   ·simp only [Mach.did,upd_ne _ _ e] at hk
    exact h l hl k hk σ (hσ.trans (ht l e))
 | yield s k0 =>
   refine⟨λl hl k hk σ hσ=>?_,ht.1⟩
   by_cases e:l=i
   ·subst e
    simp only[Mach.did,upd_same,Stg.wait.injEq] at hk;subst hk;exact ht.2 σ hσ
   ·simp only [Mach.did,upd_ne _ _ e] at hk
    exact h l hl k hk σ (hσ.trans (ht.1 l e))
theorem ops_minv (D:OpsD) (n:Nat) (hn:n=D.n):MInv (OpsMI D) n:=by
 subst hn
 exact ⟨λm i k hm hi hk=>by
  have ht:=hm i hi k hk m.s rfl;exact⟨ht.ne,(hm.did ht).1⟩⟩
def DoOk (D:OpsD) (i:Nat) (doT:D.DoT):Prop:=∀ o,D.good o->∀ σ k,(∀ a σ',σ'.2 i=σ.2 i->OKt D i (k a σ') σ')->OKt D i (doT o σ k) σ
theorem thr_ok {i:Nat}{doT:D.DoT}(hD:DoOk D i doT):∀ (l:List OpI) (own:List Ans) (σ:D.St),(∀ o∈l,D.good o)->σ.2 i=own->OKt D i (mH D doT i l own σ) σ
 | [],own,σ,_,_=>λ_ _=>rfl
 | o::l,own,σ,hg,h=>by
   refine hD o (hg o (by simp)) σ _ λa σ' hσ=>?_;have e:σ'.2 i=own:=hσ.trans h;rw[if_pos e];exact(thr_ok hD l (own++[a]) (D.push i a σ') (λo ho=>hg o (by simp[ho])) (by simp[OpsD.push,e])).congr λl hl=>by simp[OpsD.push,hl]
theorem br_ok {doT:Nat->D.DoT}{i:Nat}(hD:DoOk D i (doT i)) (hg:∀ o∈D.ops i,D.good o) {σ:D.St}(h:σ.2 i=[]):OKt D i (brT D doT i σ) σ:=by
 unfold brT;rw[if_pos h];exact thr_ok hD _ _ _ hg h
theorem nS {doT:Nat->D.DoT}(hD:∀ i,i<D.n->DoOk D i (doT i)) (hg:∀ i,i<D.n->∀ o∈D.ops i,D.good o) (s0:D.St) (h0:∀ i,i<D.n->s0.2 i=[]) :
  ∀ j,j<=D.n->OpsMI D (Mach.born (brT D doT) ⟨s0,λ_=>.unborn⟩ j)/\∀ l,l<D.n->j<=l->(Mach.born (brT D doT) ⟨s0,λ_=>.unborn⟩ j).s.2 l=[]
 | 0,_=>⟨λi hi k hk=>by simp[Mach.born] at hk,λl hl _=>h0 l hl⟩
 | j+1,hj=>by
   obtain⟨h1,h2⟩:=nS hD hg s0 h0 j (by omega);obtain⟨h3,h4⟩:=h1.did (br_ok (hD j (by omega)) (hg j (by omega)) (h2 j (by omega) (Nat.le_refl _)));exact⟨h3,λl hl hjl=>(h4 l (by omega)).trans (h2 l hl (by omega))⟩
theorem ops_born_ne {doT:Nat->D.DoT}(hD:∀ i,i<D.n->DoOk D i (doT i)) (hg:∀ i,i<D.n->∀ o∈D.ops i,D.good o) (s0:D.St) (h0:∀ i,i<D.n->s0.2 i=[]) (j:Nat) (hj:j<D.n) :
  brT D doT j (Mach.born (brT D doT) ⟨s0,λ_=>.unborn⟩ j).s≠.cut:=
 (br_ok (hD j hj) (hg j hj) ((nS hD hg s0 h0 j (by omega)).2 j hj (Nat.le_refl _))).ne
end
structure Inner where
 A:Type
 At:A->World->Prop
 BI:Nat->Prop
 at_:∀ a w w',At a w->(∀ b,BI b->w'.heap[b]?=w.heap[b]?)->At a w'
 Box:A->(Nat->Prop)->World->Prop:=λ_ G _=>∀ b,¬G b
 box_:∀ a G w w',Box a G w->(∀ b,G b\/BI b->w'.heap[b]?=w.heap[b]?)->Box a G w':=by exact λ_ _ _ _ h _=>h
structure OpsB where
 n:Nat
 ab:Nat
 dob:Nat
 anb:Nat
 opb:Nat->Nat
 ib:Nat->Nat
 fv:Value
 ops:Nat->List OpI
 opv:Nat->Value
 RB:Nat->Prop
 rv:Nat->Obj
 rbc:∀ b,RB b->∃ c t r,rv b=.cells c t r
def OpsB.on (B:OpsB) (I:Inner) (good:OpI->Prop):OpsD where
 n:=B.n
 ab:=B.ab
 dob:=B.dob
 anb:=B.anb
 opb:=B.opb
 ib:=B.ib
 fv:=B.fv
 ops:=B.ops
 opv:=B.opv
 good:=good
 RB:=B.RB
 rv:=B.rv
 rbc:=B.rbc
 A:=I.A
 At:=I.At
 BI:=I.BI
 at_:=I.at_
 Box:=I.Box
 box_:=I.box_
end Go.Proofs.Ytlcplealnbekeaa
namespace Go.Proofs.Ytlcplealnbekeaa
open Go.RowKit Go.Turn Go.Tame Go.Conc
structure RowsAt (w:World) (Tb To:Nat) (n:Nat) (A:Nat->Option Addr) (len cap:Nat->Nat):Prop where
 row:∀ i,i<n->w.cell? ⟨Tb,To+i,none⟩=some (.slice (A i) (len i) (cap i))
 le:∀ i,i<n->len i<=cap i
 max:∀ i,i<n->cap i<=maxLen
 nil:∀ i,i<n->A i=none->cap i=0
def cG (opb ib:Nat->Nat) (dob anb i:Nat):Value:=.func (.func 64) #[] #[.pointer (some ⟨opb i,0,none⟩),.pointer (some ⟨dob,0,none⟩),.pointer (some ⟨ib i,0,none⟩),.pointer (some ⟨anb,0,none⟩)]
structure MadeT (w0:World) (n j:Nat) (fv:Value) (A:Nat->Option Addr) (len cap:Nat->Nat) (dob ab anb:Nat) (opb ib:Nat->Nat) (lv:Value) (w:World):Prop where
 d:Blk w dob 67 #[fv]
 a:Blk w ab 43 (Array.replicate n (.slice none 0 0))
 an:Blk w anb 28 #[.slice (some ⟨ab,0,none⟩) n n]
 i:∀ i,i<j->Blk w (ib i) 3 #[.int .i64 i]
 o:∀ i,i<j->Blk w (opb i) 44 #[.slice (A i) (min (len i) 65536) (cap i)]
 ge:w0.heap.size<=dob/\w0.heap.size<=ab/\w0.heap.size<=anb/\∀ i,i<j->w0.heap.size<=ib i/\w0.heap.size<=opb i
 own:w.ownsRow w0.heap.size 100 1 lv j ((List.range j).map (cG opb ib dob anb))
 old:Old w0.heap.size w0 w
theorem MadeT.re {w0 y:World}{n j:Nat}{fv:Value}{A:Nat->Option Addr}{len cap:Nat->Nat}{dob ab anb:Nat}{opb ib:Nat->Nat}{lv:Value}{τ:Nat->Question->Nat}{d:Nat}(h:MadeT w0 n j fv A len cap dob ab anb opb ib lv (y.re τ d)):MadeT w0 n j fv A len cap dob ab anb opb ib lv y:=
 ⟨h.d,h.a,h.an,h.i,h.o,h.ge,h.own,h.old.re⟩
theorem MadeT.alloc {w0 w:World}{n j:Nat}{fv:Value}{A:Nat->Option Addr}{len cap:Nat->Nat}{dob ab anb:Nat}{opb ib:Nat->Nat}{lv:Value}(h:MadeT w0 n j fv A len cap dob ab anb opb ib lv w) (o:Obj):MadeT w0 n j fv A len cap dob ab anb opb ib lv (w.alloc o):=
 ⟨h.d.alloc o,h.a.alloc o,h.an.alloc o,λi hi=>(h.i i hi).alloc o,λi hi=>(h.o i hi).alloc o,h.ge,h.own.alloc o,h.old.new h.old.size o⟩
theorem MadeT.snoc {w0 q w1:World}{n j:Nat}{fv:Value}{A:Nat->Option Addr}{len cap:Nat->Nat}{dob ab anb b9 b10 lc g cp':Nat}{LA:Option Addr}{opb ib:Nat->Nat}(h:MadeT w0 n j fv A len cap dob ab anb opb ib (.slice LA j lc) q) (hb9:Blk q b9 3 #[.int .i64 j]) (hb10:Blk q b10 44 #[.slice (A j) (min (len j) 65536) (cap j)]) (g9:w0.heap.size<=b9) (g10:w0.heap.size<=b10)
  (hown:w1.ownsRow w0.heap.size 100 1 (.slice (some ⟨g,0,none⟩) (j+1) cp') (j+1) ((List.range j).map (cG opb ib dob anb)++[cG (λ_=>b10) (λ_=>b9) dob anb 0])) (hgrow:q.grownBy w1 (Value.slice LA j lc).ownBlock) :
  MadeT w0 n (j+1) fv A len cap dob ab anb (λi=>if i=j then b10 else opb i) (λi=>if i=j then b9 else ib i) (.slice (some ⟨g,0,none⟩) (j+1) cp') w1:=by
 have hrow:∀ b,(Value.slice LA j lc).ownBlock=some b->w0.heap.size<=b/\∃ cur,q.heap[b]?=some (.cells cur 100 (0,0)):=λb hb=>by
  rcases h.own.2 with⟨h1,_⟩ | ⟨g,c',cur,h1,h2,h3,_⟩
  ·rw [h1] at hb;simp[Value.ownBlock] at hb
  ·rw [h1] at hb
   simp only[Value.ownBlock,Option.some.injEq] at hb;subst hb;exact⟨h2,cur,h3⟩
 have key:∀ {b:Nat}{t:TypeId}{c:Array Value},Blk q b t c->t≠100->Blk w1 b t c:=λ{b t c} hb ht=>hb.grown hgrow λe=>by
  obtain⟨_,cur,h2⟩:=hrow b e.symm;exact ht (by unfold Blk at hb;rw[hb] at h2;simp at h2;exact h2.2)
 refine⟨key h.d (by decide),key h.a (by decide),key h.an (by decide),λi hi=>?_,λi hi=>?_,⟨h.ge.1,h.ge.2.1,h.ge.2.2.1,λi hi=>?_⟩,?_,⟨Nat.le_trans h.old.size hgrow.size,λb hb=>?_,hgrow.os.trans h.old.io.1,hgrow.output.trans h.old.io.2⟩⟩
 ·by_cases e:i=j
  ·subst e;simp only[if_true];exact key hb9 (by decide)
  ·simp only [e,if_false];exact key (h.i i (by omega)) (by decide)
 ·by_cases e:i=j
  ·subst e;simp only[if_true];exact key hb10 (by decide)
  ·simp only [e,if_false];exact key (h.o i (by omega)) (by decide)
 ·by_cases e:i=j
  ·simp only [e,if_true];exact⟨g9,g10⟩
  ·simp only [e,if_false];exact h.ge.2.2.2 i (by omega)
 ·have e:(List.range (j+1)).map (cG (λi=>if i=j then b10 else opb i) (λi=>if i=j then b9 else ib i) dob anb)=(List.range j).map (cG opb ib dob anb)++[cG (λ_=>b10) (λ_=>b9) dob anb 0]:=by
   rw[List.range_succ,List.map_append,List.map_cons,List.map_nil]
   congr 1
   ·apply List.map_congr_left
    intro i hi;have:i≠j:=by have:=List.mem_range.1 hi;omega
    simp[cG,this]
   ·simp [cG]
  rw[e];exact hown
 ·exact (hgrow.block b (by have:=h.old.size;omega) (λe=>by have:=(hrow b e.symm).1;omega)).trans (h.old.block b hb)
theorem Try.infoFunc:(Try.prog.info? 100).map (λi=>(i.zero,i.size,i.bytes))=some (some .nilFunc,1,8):=by kernel_rfl
theorem Try.infoAnsS:(Try.prog.info? 43).map (λi=>(i.zero,i.size,i.bytes))=some (some (.slice none 0 0),1,24):=by kernel_rfl
theorem new_answers (n:Nat):madeCells (Value.slice none 0 0).cells (n*1)=Array.replicate n (.slice none 0 0):=by
 apply Array.ext (by simp[madeCells]);intro i h1 h2
 simp[madeCells,Value.cells,Nat.mod_one]
theorem rO (w:World) (n:Nat) (hn:n<=64):(Instr.makeSlice 28 (.int .i64 n) (.int .i64 n)).run Try.prog w=.ok (.slice (some ⟨w.heap.size,0,none⟩) n n) (w.alloc (.cells (Array.replicate n (.slice none 0 0)) 43)):=by
 obtain⟨i,hi,h0,h1,h2⟩:=info_parts Try.infoAnsS;have:=run_make w 28 43 i _ Try.underlying28 hi h0 .i64 .i64 n n (by omega) (by omega) (by rw[h2];omega) (by omega);rw[h1] at this;rw[this,new_answers]
 simp
abbrev frM (f:Nat->Value):Array Value:=#[f 0,f 1,f 2,f 3,f 4,f 5,f 6,f 7,f 8,f 9,f 10,f 11,f 12,f 13,f 14,f 15,f 16,f 17,f 18,f 19,f 20,f 21,f 22,f 23,f 24,f 25,f 26,f 27,f 28,f 29,f 30,f 31,f 32,f 33,f 34,f 35,f 36,f 37]
theorem doing_calls {κ:Type}(L:Lg Try.prog κ) (hs:¬L.strict) (t:κ) (tA:Option Addr) (Tb To:Nat) (nt cp:Nat) (htA:0<nt->tA=some ⟨Tb,To,none⟩) (hnt:nt<=maxLen) (fv:Value) (hfv:∀ cs,fv≠.agg cs) (A:Nat->Option Addr) (len cap:Nat->Nat) (w0:World) (hrows:RowsAt w0 Tb To (min nt 64) A len cap) :
  Ccalls L 41 #[.slice tA nt cp,fv] t w0 λv t' w'=>t'=t/\∃ dob ab anb opb ib lv,v=.tuple #[lv,.slice (some ⟨ab,0,none⟩) (min nt 64:Nat) (min nt 64:Nat)]/\MadeT w0 (min nt 64) (min nt 64) fv A len cap dob ab anb opb ib lv w':=by
 intro c mid hR;have HR:=qd hR;clear hR;unfold maxLen at hnt;rw[show Frame.enter Try.prog 41 #[.slice tA nt cp,fv] .normal=Frame.at { (default:Frame) with fn:=41,kind:=.normal } ⟨#[.slice tA nt cp,fv]++Array.replicate (Try.f41.ntmps-2) undef,[]⟩ [.code (Try.f41.body.getD .skip)] from by simp[Frame.enter,Frame.at,Try.func41];rfl];simp only[Try.f41,Option.getD_some,Nat.reduceSub,Array.replicate_succ,Array.replicate_zero,List.push_toArray,List.append_toArray,List.nil_append,List.cons_append];refine Lg.move _ (λ_ _=>step_seq) (λh=>h) ?_;refine Lg.code λK hK y τ n' hy=>?_;have hold:Old w0.heap.size w0 y:=by rw[hy];exact(Old.refl _ (y.re τ n')).re
 have hsz:w0.heap.size=y.heap.size:=by rw[hy];rfl
 clear hy;go_wp2;refine hK _ _ (λh=>absurd h hs) ?_;clear hK K;have hd:=Blk.new y 67 #[fv];have hold:=hold.new (by omega) (.cells #[fv] 67);generalize y.alloc (.cells #[fv] 67)=z at hd hold ⊢;generalize hdob:y.heap.size=dob at hd hsz ⊢;have HSZ:=qd hsz;clear hsz hdob;refine Lg.move _ (λ_ _=>step_seq) (λh=>h) ?_;refine Lg.qU hs ([6]++List.range' 11 3) (λf w'=>f 6=.int .i64 (min nt 64:Nat)/\Blk w' dob 67 #[fv]/\Old w0.heap.size w0 w') (λv τ' n' hv=>?_) ?_
 ·subst hv
  have hd:Blk v dob _ _:=hd;have hold:=hold.re;go_wp2
  all_goals
   refine⟨rfl,rfl,?_,hd,hold⟩
   first
    | (rw[show min nt 64=nt by omega];rfl)
    | (rw[show min nt 64=64 by omega];rfl)
 clear hd hold;rintro f w1 ⟨f6,hd,hold⟩;have hn64:min nt 64<=64:=by omega
 have hnnt:min nt 64<=nt:=by omega
 generalize min nt 64=n at *;simp only[iH,fK,List.range',List.cons_append,List.nil_append,List.set_cons_zero,List.set_cons_succ,Nat.reduceAdd,f6];generalize f 11=u11;generalize f 12=u12;generalize f 13=u13;clear f6 f;refine Lg.move _ (λ_ _=>step_seq) (λh=>h) ?_;refine Lg.code λK hK v τ n' hv=>?_;subst hv;have hd:Blk v dob _ _:=hd;have hold:=hold.re;have HD:=qd hd;have hm:=λw=>rO w n hn64;clear hd;go_wp2;refine hK _ _ (λh=>absurd h hs) ?_;clear hK K hm;have hab:=Blk.new v 43 (Array.replicate n (.slice none 0 0));have hd:=(HD.out.alloc (.cells (Array.replicate n (.slice none 0 0)) 43)).alloc (.cells #[.slice (some ⟨v.heap.size,0,none⟩) n n] 28);have ha:=hab.alloc (.cells #[.slice (some ⟨v.heap.size,0,none⟩) n n] 28);have han:=Blk.new (v.alloc (.cells (Array.replicate n (.slice none 0 0)) 43)) 28 #[.slice (some ⟨v.heap.size,0,none⟩) n n];rw[show (v.alloc (.cells (Array.replicate n (.slice none 0 0)) 43)).heap.size=v.heap.size+1 from by simp] at han;have hsz0:=hold.size;have hold2:=(hold.new hsz0 (.cells (Array.replicate n (.slice none 0 0)) 43)).new (by simp;omega) (.cells #[.slice (some ⟨v.heap.size,0,none⟩) n n] 28);clear hab hold HD;generalize (v.alloc (.cells (Array.replicate n (.slice none 0 0)) 43)).alloc (.cells #[.slice (some ⟨v.heap.size,0,none⟩) n n] 28)=w2 at hd ha han hold2 ⊢;have hlo:w0.heap.size<=v.heap.size+1:=by omega
 generalize v.heap.size+1=anb at han hlo ⊢;generalize v.heap.size=ab at ha han hsz0 ⊢
 have hM:MadeT w0 n 0 fv A len cap dob ab anb (λ_=>0) (λ_=>0) (.slice none 0 0) w2:=
  ⟨hd,ha,han,λ_ h=>by omega,λ_ h=>by omega,⟨by have:=HSZ.out;omega,hsz0,hlo,λ_ h=>by omega⟩,⟨rfl,.inl ⟨rfl,rfl⟩⟩,hold2⟩
 clear hd ha han hsz0 hlo hold2 HSZ;have HM:=qd hM;clear hM;refine Lg.move _ (λ_ _=>step_seq) (λh=>h) ?_;refine Lg.code λK hK v τ n' hv=>?_;subst hv;replace HM:=qd HM.out.re;go_wp2;refine hK _ _ (λh=>absurd h hs) ?_;clear hK K;refine Lg.move _ (λ_ _=>step_seq) (λh=>h) ?_;refine Lg.move _ (λ_ _=>step_seq) (λh=>h) ?_;refine Lg.code λK hK v τ n' hv=>?_;subst hv;replace HM:=qd HM.out.re;go_wp2;refine hK _ _ (λh=>absurd h hs) ?_;clear hK K;refine Lg.move _ (λ_ _=>step_block) (λh=>h) ?_;refine Lg.bP frM (R:=λf=>f 0=.slice tA nt cp/\f 3=.pointer (some ⟨dob,0,none⟩)/\f 7=.pointer (some ⟨anb,0,none⟩)/\f 8=.slice none 0 0/\f 16=.int .i64 n/\f 17=.int .i64 0) ?_ (by rfl) ⟨rfl,rfl,rfl,rfl,rfl,rfl⟩;rintro f1 ⟨m0,m3,m7,m8,m16,m17⟩;refine Lg.eZ frM (λf t' w=>t'=t/\∃ j:Nat,j<=n/\∃ opb ib lv,f 0=.slice tA nt cp/\f 3=.pointer (some ⟨dob,0,none⟩)/\f 7=.pointer (some ⟨anb,0,none⟩)/\f 8=lv/\f 16=.int .i64 n/\f 17=.int .i64 j/\MadeT w0 n j fv A len cap dob ab anb opb ib lv w) (λf _ _=>n-(intOf (f 17)).toNat) ⟨rfl,0,Nat.zero_le _,λ_=>0,λ_=>0,.slice none 0 0,m0,m3,m7,m8,m16,m17,HM.out⟩ ?_;clear HM m0 m3 m7 m8 m16 m17 f1;rintro f2 t' w ⟨rfl,j,hj,opb,ib,lv,k0,k3,k7,k8,k16,k17,hM⟩ hnext;have HX:=qd hnext;have HM:=qd hM;clear hnext hM;simp only[frM,k0,k3,k7,k8,k16,k17];refine Lg.move _ (λ_ _=>step_seq) (λh=>h) ?_;refine Lg.code λK hK v τ n' hv=>?_;subst hv;replace HM:=qd HM.out.re;go_wp2;refine hK _ _ (λh=>absurd h hs) ?_;clear hK K;refine Lg.move _ (λ_ _=>step_seq) (λh=>h) ?_
 by_cases hlt:j<n
 ·have hTA:=htA (by omega)
  clear htA;subst hTA;simp only[hlt,decide_true];refine Lg.move _ (λ_ _=>step_cond (t:=true) rfl) (λh=>h) ?_;refine Lg.move _ (λ_ _=>step_skip) (λh=>h) ?_;refine Lg.move _ (λ_ _=>step_seq) (λh=>h) ?_;refine Lg.move _ (λ_ _=>step_block) (λh=>h) ?_;refine Lg.move _ (λ_ _=>step_seq) (λh=>h) ?_;refine Lg.code λK hK v τ n' hv=>?_;subst hv;replace HM:=qd HM.out.re;go_wp2;refine hK _ _ (λh=>absurd h hs) ?_;clear hK K;have hM:=HM.out;clear HM
  have hTb:Tb<w0.heap.size:=by
   have:=hrows.row j (by omega);exact bG this
  have c1:v.cell? ⟨Tb,To+j,none⟩=some (.slice (A j) (len j) (cap j)):=(World.cell?_of_block (w:=w0) (hM.old.block Tb hTb)).trans (hrows.row j (by omega));have hM1:=hM.alloc (.cells #[.int .i64 j] 3);have hb9:=Blk.new v 3 #[.int .i64 j];have hge9:w0.heap.size<=v.heap.size:=hM.old.size;have c1:(v.alloc (.cells #[.int .i64 j] 3)).cell? ⟨Tb,To+j,none⟩=some (.slice (A j) (len j) (cap j)):=(World.cell?_of_block (w:=v) (Below.heap_alloc _ _ _ (by show Tb<_;omega))).trans c1;clear hM;generalize v.alloc (.cells #[.int .i64 j] 3)=z at hM1 hb9 c1 ⊢;generalize v.heap.size=b9 at hb9 hge9 ⊢;have hM1:=qd hM1;have hjt:j<nt:=by omega
  have hlc:=hrows.le j (by omega);have hcm:=hrows.max j (by omega);refine Lg.move _ (λ_ _=>step_seq) (λh=>h) ?_;refine Lg.code λK hK u τ n' hu=>?_;subst hu;have hb9:Blk u b9 _ _:=hb9;have c1:u.cell? ⟨Tb,To+j,none⟩=some (.slice (A j) (len j) (cap j)):=c1;have hM:=hM1.out.re;clear hM1;have lb9:=hb9.lt;have lTb:Tb<u.heap.size:=bG c1;have c9:=hb9.cell 0;have HM:=qd hM;have HB9:=qd hb9;clear hM hb9;generalize hA:A j=Aj at *;generalize hlen:len j=lj at *;generalize hcap:cap j=cj at *;refine fV (S:=λw'=>w'.cell? ⟨b9,0,none⟩=some (.int .i64 j)/\w'.cell? ⟨Tb,To+j,none⟩=some (.slice Aj lj cj)) 12 (by kernel_rfl) (by kernel_rfl) (by kernel_rfl) ?_;simp only[idle,zB,Nat.reduceAdd];have HS:u.drew.cell? ⟨b9,0,none⟩=some (.int .i64 j)/\u.drew.cell? ⟨Tb,To+j,none⟩=some (.slice Aj lj cj):=⟨c9,c1⟩;refine aU (i:=0) (some 20) rfl rfl (by kernel_rfl) (by kernel_rfl) (by kernel_rfl) (λ_ _ _ h=>h) rfl HS ?_;apply Exists.intro;refine⟨λwq hw=>?_,?_⟩
  ·obtain ⟨hw1,hw2⟩:=hw
   go_simp
   rfl
  simp only[Act.put,zA];refine aU (i:=1) (some 21) rfl rfl (by kernel_rfl) (by kernel_rfl) (by kernel_rfl) (λ_ _ _ h=>h) rfl HS ?_;apply Exists.intro;refine⟨λwq hw=>?_,?_⟩
  ·obtain ⟨hw1,hw2⟩:=hw
   go_simp
   rfl
  simp only[Act.put,zA];refine aU (i:=2) (some 22) rfl rfl (by kernel_rfl) (by kernel_rfl) (by kernel_rfl) (λ_ _ _ h=>h) rfl HS ?_;apply Exists.intro;refine⟨λwq hw=>?_,?_⟩
  ·obtain ⟨hw1,hw2⟩:=hw
   go_simp
   rfl
  simp only[Act.put,zA];refine aU (i:=3) (some 23) rfl rfl (by kernel_rfl) (by kernel_rfl) (by kernel_rfl) (λ_ _ _ h=>h) rfl HS ?_;apply Exists.intro;refine⟨λwq hw=>?_,?_⟩
  ·obtain ⟨hw1,hw2⟩:=hw
   go_simp
   rfl
  simp only[Act.put,zA];refine aU (i:=4) (some 24) rfl rfl (by kernel_rfl) (by kernel_rfl) (by kernel_rfl) (λ_ _ _ h=>h) rfl HS ?_;apply Exists.intro;refine⟨λwq hw=>?_,?_⟩
  ·obtain ⟨hw1,hw2⟩:=hw
   go_simp
   rfl
  simp only[Act.put,zA];refine aU (i:=5) (some 25) rfl rfl (by kernel_rfl) (by kernel_rfl) (by kernel_rfl) (λ_ _ _ h=>h) rfl HS ?_;apply Exists.intro;refine⟨λwq hw=>?_,?_⟩
  ·obtain ⟨hw1,hw2⟩:=hw
   go_simp
   rfl
  simp only[Act.put,zA];refine aU (i:=6) (some 26) rfl rfl (by kernel_rfl) (by kernel_rfl) (by kernel_rfl) (λ_ _ _ h=>h) rfl HS ?_;apply Exists.intro;refine⟨λwq hw=>?_,?_⟩
  ·obtain ⟨hw1,hw2⟩:=hw
   go_simp
   rfl
  simp only[Act.put,zA];refine aU (i:=7) (some 27) rfl rfl (by kernel_rfl) (by kernel_rfl) (by kernel_rfl) (λ_ _ _ h=>h) rfl HS ?_;apply Exists.intro;refine⟨λwq hw=>?_,?_⟩
  ·obtain ⟨hw1,hw2⟩:=hw
   go_simp
   rfl
  simp only[Act.put,zA];refine aU (i:=8) (some 28) rfl rfl (by kernel_rfl) (by kernel_rfl) (by kernel_rfl) (λ_ _ _ h=>h) rfl HS ?_;apply Exists.intro;refine⟨λwq hw=>?_,?_⟩
  ·obtain ⟨hw1,hw2⟩:=hw
   go_simp
   rfl
  simp only[Act.put,zA];refine aU (i:=9) (some 29) rfl rfl (by kernel_rfl) (by kernel_rfl) (by kernel_rfl) (λ_ _ _ h=>h) rfl HS ?_;refine⟨.int .i64 (min lj 65536:Nat),λwq hw=>?_,?_⟩
  ·obtain ⟨hw1,hw2⟩:=hw
   go_simp
   split <;> omega
  simp only[Act.put,zA];refine aU (i:=10) (some 30) rfl rfl (by kernel_rfl) (by kernel_rfl) (by kernel_rfl) (λ_ _ _ h=>h) rfl HS ?_;refine⟨.slice Aj (min lj 65536) cj,λwq hw=>?_,?_⟩
  ·obtain ⟨hw1,hw2⟩:=hw
   go_simp;intro h
   omega
  simp only[Act.put,zA];clear HS;refine dU (i:=11) (by kernel_rfl) rfl rfl λK hK=>?_;go_simp;refine hK _ _ ⟨(cC u _ _ 0 lb9).trans c9,(cC u _ _ _ lTb).trans c1⟩ ?_;clear hK K;have HS:(u.alloc (Obj.cells #[.slice none 0 0] 44)).drew.cell? ⟨b9,0,none⟩=some (.int .i64 j)/\(u.alloc (Obj.cells #[.slice none 0 0] 44)).drew.cell? ⟨Tb,To+j,none⟩=some (.slice Aj lj cj):=⟨(cC u _ _ 0 lb9).trans c9,(cC u _ _ _ lTb).trans c1⟩;refine aU (i:=12) none rfl rfl (by kernel_rfl) (by kernel_rfl) (by kernel_rfl) (λ_ _ _ h=>h) rfl HS ?_;apply Exists.intro;refine⟨λwq hw=>?_,?_⟩
  ·go_simp
   rfl
  simp only[Act.put];clear HS;refine wpAnyH_done (by kernel_rfl) ?_ _;simp only[Exit.then];refine aX (m:=12) rfl ?_;clear lb9 lTb c9 c1;go_wp2;refine hK _ _ (λh=>absurd h hs) ?_;clear hK K;have hb10:=(Blk.new u 44 #[.slice Aj (min lj 65536) cj]).drew;have hb9:=((HB9.out).alloc (Obj.cells #[.slice Aj (min lj 65536) cj] 44)).drew;have hM:=MadeT.re (τ:=u.tape) (d:=u.drawn) (HM.out.alloc (Obj.cells #[.slice Aj (min lj 65536) cj] 44)) (y:=(u.alloc (Obj.cells #[.slice Aj (min lj 65536) cj] 44)).drew);have hge10:w0.heap.size<=u.heap.size:=HM.out.old.size;clear HM HB9;generalize (u.alloc (Obj.cells #[.slice Aj (min lj 65536) cj] 44)).drew=z2 at hM hb9 hb10 ⊢;generalize u.heap.size=b10 at hb10 hge10 ⊢;refine Lg.move _ (λ_ _=>step_region) (λh=>h) ?_;refine Lg.pre 0 3 2 (by simp) λK hK q τ n' hq=>?_;subst hq;have hM:=hM.re;have hb9:Blk q b9 _ _:=hb9;have hb10:Blk q b10 _ _:=hb10;obtain⟨LA,lc,rfl⟩:∃ LA lc,lv=.slice LA j lc:=aQ hM.own;have HM:=qd hM;have HB9:=qd hb9;have HB10:=qd hb10;clear hM hb9 hb10;simp only[zC];go_wp2;refine hK _ _ (λh=>absurd h hs) ?_;clear hK K;have hM:=HM.out.alloc (.cells #[cG (λ_=>b10) (λ_=>b9) dob anb 0] 100);have hb9:=HB9.out.alloc (.cells #[cG (λ_=>b10) (λ_=>b9) dob anb 0] 100);have hb10:=HB10.out.alloc (.cells #[cG (λ_=>b10) (λ_=>b9) dob anb 0] 100);have hnb:=Blk.new q 100 #[cG (λ_=>b10) (λ_=>b9) dob anb 0];have hge:w0.heap.size<=q.heap.size:=HM.out.old.size;clear HM HB9 HB10;simp only[cG] at hM hb9 hb10 hnb;generalize q.alloc (.cells _ 100)=z3 at hM hb9 hb10 hnb ⊢;generalize q.heap.size=nb at hnb hge ⊢;obtain⟨i0,hi0,hz0,hz1,hz2⟩:=info_parts Try.infoFunc;refine Lg.pre 3 2 0 (by simp) λK hK q τ n' hq=>?_;subst hq;have hM:=hM.re;have hb9:Blk q b9 _ _:=hb9;have hb10:Blk q b10 _ _:=hb10;have hnb:Blk q nb _ _:=hnb;simp only[zC];refine wpList_append_lies _ rfl _ _ _ rfl w0.heap.size 100 i0 _ 1 8 Try.underlying103 hi0 hz0 hz1 hz2 rfl (by omega) (.slice LA j lc) j _ rfl hM.own ⟨nb,0,none⟩ 1 1 [cG (λ_=>b10) (λ_=>b9) dob anb 0] rfl rfl (World.news_of_block (cs:=#[cG (λ_=>b10) (λ_=>b9) dob anb 0]) (t:=100) (fr:=(0,0)) hnb) (by simp[cG,Value.oneCell']) (by omega) (by unfold maxLen;omega) (by omega) hM.old.size _ rfl ?_;intro g cp' w1 hown hgrow hat hlt1;go_wp2;refine hK _ _ (λh=>absurd h hs) ?_;clear hK K;have hM:=hM.snoc (by exact hb9) (hA▸hlen▸hcap▸hb10) hge9 hge10 hown hgrow;clear hb9 hb10 hnb hown hgrow hat hlt1;refine Lg.move _ (λ_ _=>step_region_end) (λh=>h) ?_;refine Lg.move _ (λ_ _=>step_inBlock) (λh=>h) ?_;refine Lg.code λK hK q τ n' hq=>?_;subst hq;have hM:=hM.re;have HM:=qd hM;clear hM;go_wp2;refine hK _ _ (λh=>absurd h hs) ?_;clear hK K;refine Lg.bP frM (R:=λf=>f 0=.slice (some ⟨Tb,To,none⟩) nt cp/\f 3=.pointer (some ⟨dob,0,none⟩)/\f 7=.pointer (some ⟨anb,0,none⟩)/\f 8=.slice (some ⟨g,0,none⟩) (j+1) cp'/\f 16=.int .i64 n/\f 17=.int .i64 ((j+1:Nat):Int)) ?_ (by rfl) ⟨rfl,rfl,rfl,rfl,rfl,by first | rfl | simp⟩;rintro f' ⟨m0,m3,m7,m8,m16,m17⟩;exact HX.out f' t' _ ⟨rfl,j+1,by omega,_,_,_,m0,m3,m7,m8,m16,m17,HM.out⟩ (by rw[m17,k17];simp[intOf];omega)
 ·simp only [hlt,decide_false]
  refine Lg.move _ (λ_ _=>step_cond (t:=false) rfl) (λh=>h) ?_;refine Lg.move _ (λ_ _=>step_exit rfl) (λh=>h) ?_;have hjn:j=n:=by omega
  subst hjn;refine Lg.move _ (λ_ _=>step_seq) (λh=>h) ?_;refine Lg.code λK hK v τ n' hv=>?_;subst hv;have hM:=HM.out.re;clear HM;have c7:=hM.an.cell 0;have HM:=qd hM;clear hM
  go_quiet (fail)
  refine hK _ _ (λh=>absurd h hs) ?_;refine Lg.move _ (λ_ _=>step_ret) (λh=>h) ?_;refine Lg.leave rfl Try.func41 rfl (v:=.tuple #[lv,.slice (some ⟨ab,0,none⟩) j j]) (λy τ n hy=>by simp[results,Try.f41]) (HR.out _ _ _ ⟨rfl,dob,ab,anb,opb,ib,lv,rfl,MadeT.re (τ:=v.tape) (d:=v.drawn) HM.out⟩)
structure OpsIn (W0:World) (I:Inner) (good:OpI->Prop) (a0:I.A) (w0:World) (n:Nat) (A:Nat->Option Addr) (len:Nat->Nat) (ops:Nat->List OpI):Prop where
 at_:I.At a0 w0
 bi:∀ b,I.BI b->∃ c t r,w0.heap[b]?=some (.cells c t r)/\r.2<big
 box:I.Box a0 (λ_=>False) w0
 len:∀ i,i<n->(ops i).length=min (len i) 65536
 good:∀ i,i<n->∀ o∈ops i,good o
 cells:∀ i,i<n->∀ j (h:j<(ops i).length),∃ b o cs t r,A i=some ⟨b,o,none⟩/\w0.heap[b]?=some (.cells cs t r)/\(r.2<big\/b<W0.heap.size)/\¬I.BI b/\∀ m,m<4->cs[o+j*4+m]?=(ops i)[j].cells[m]?
def setB (W0 w1:World) (n dob ab anb:Nat) (opb ib:Nat->Nat) (fv:Value) (ops:Nat->List OpI) (opv:Nat->Value) (BI:Nat->Prop) (A:Nat->Option Addr):OpsB where
 n:=n
 ab:=ab
 dob:=dob
 anb:=anb
 opb:=opb
 ib:=ib
 fv:=fv
 ops:=ops
 opv:=opv
 RB:=λb=>(∃ c t r,w1.heap[b]?=some (.cells c t r)/\(r.2<big\/b<W0.heap.size))/\¬BI b/\b≠ab/\(b=dob\/b=anb\/(∃ i,i<n/\(b=ib i\/b=opb i))\/∃ i o,i<n/\A i=some ⟨b,o,none⟩/\ops i≠[])
 rv:=λb=>(w1.heap[b]?).getD (.cells #[] 0 (0,0))
 rbc:=fun b h=>by
  obtain⟨⟨c,t,r,h1,_⟩,_⟩:=h;exact⟨c,t,r,by rw[h1];rfl⟩
section
variable {I:Inner}{good:OpI->Prop}{a0:I.A}{W0 w0 w1:World}{n dob ab anb:Nat}{A:Nat->Option Addr}{len cap:Nat->Nat}{ops:Nat->List OpI}{opb ib:Nat->Nat}{fv lv:Value}
abbrev setD (W0:World) (I:Inner) (good:OpI->Prop) (w1:World) (n dob ab anb:Nat) (opb ib:Nat->Nat) (fv:Value) (ops:Nat->List OpI) (A:Nat->Option Addr) (len cap:Nat->Nat):OpsD:=(setB W0 w1 n dob ab anb opb ib fv ops (λi=>.slice (A i) (min (len i) 65536) (cap i)) I.BI A).on I good
theorem OpsIn.lt (h:OpsIn W0 I good a0 w0 n A len ops) {b:Nat}(hb:I.BI b):b<w0.heap.size:=by
 obtain⟨c,t,r,h1,_⟩:=h.bi b hb;exact aB h1
theorem rF (h:OpsIn W0 I good a0 w0 n A len ops) (M:MadeT w0 n n fv A len cap dob ab anb opb ib lv w1) {b:Nat}{t:TypeId}{c:Array Value}(hb:Blk w1 b t c) (ht:t≠43) (hge:w0.heap.size<=b) (hx:b=dob\/b=anb\/(∃ i,i<n/\(b=ib i\/b=opb i))\/∃ i o,i<n/\A i=some ⟨b,o,none⟩/\ops i≠[]) :
  (setD W0 I good w1 n dob ab anb opb ib fv ops A len cap).RB b/\(setD W0 I good w1 n dob ab anb opb ib fv ops A len cap).rv b=.cells c t (0,0):=
 ⟨⟨⟨c,t,(0,0),hb,.inl (by decide)⟩,λz=>by have:=h.lt z;omega,cK hb M.a ht,hx⟩,by show (w1.heap[b]?).getD _=_;rw[show w1.heap[b]?=_ from hb];rfl⟩
theorem set_thr (h:OpsIn W0 I good a0 w0 n A len ops) (M:MadeT w0 n n fv A len cap dob ab anb opb ib lv w1) (hn:n<=64) (i:Nat) (hi:i<n):ThrOk (setD W0 I good w1 n dob ab anb opb ib fv ops A len cap) i where
 lt:=hi
 n64:=hn
 op:=rF h M (M.o i hi) (by decide) (M.ge.2.2.2 i hi).2 (.inr (.inr (.inl ⟨i,hi,.inr rfl⟩)))
 do_:=rF h M M.d (by decide) M.ge.1 (.inl rfl)
 ib:=rF h M (M.i i hi) (by decide) (M.ge.2.2.2 i hi).1 (.inr (.inr (.inl ⟨i,hi,.inl rfl⟩)))
 an:=rF h M M.an (by decide) M.ge.2.2.1 (.inr (.inl rfl))
 len:=by show (ops i).length<=65536;rw[h.len i hi];omega
 gd:=h.good i hi
 ops:=by
  refine⟨A i,cap i,by show Value.slice _ _ _=Value.slice _ (ops i).length _;rw[h.len i hi],λj hj=>?_⟩;obtain⟨b,o,cs,t,r,h1,h2,h3,h4,h5⟩:=h.cells i hi j hj;have hlt:b<w0.heap.size:=aB h2;have h6:w1.heap[b]?=some (.cells cs t r):=(M.old.block b hlt).trans h2;refine⟨b,o,cs,t,r,h1,⟨⟨cs,t,r,h6,h3⟩,h4,λe=>?_,.inr (.inr (.inr ⟨i,o,hi,h1,λe=>by have hj:j<(ops i).length:=hj;rw[e] at hj;exact Nat.not_lt_zero _ hj⟩))⟩,?_,h5⟩
  ·have:=M.ge.2.1; omega
  ·show (w1.heap[b]?).getD _=_
   rw[h6];rfl
theorem set_asks (h:OpsIn W0 I good a0 w0 n A len ops) (M:MadeT w0 n n fv A len cap dob ab anb opb ib lv w1):OverAsks ((setD W0 I good w1 n dob ab anb opb ib fv ops A len cap).shd w0.os w0.output) W0 (a0,λ_=>[]) (λb=>I.BI b\/b=ab) w1 where
 rep:=by
  refine⟨I.at_ _ _ _ h.at_ λb hb=>M.old.block b (h.lt hb),λb hb=>.inl hb,⟨.inr rfl,λz=>by have:=h.lt (b:=ab) z;have:=M.ge.2.1;omega⟩,λb hb=>?_,?_,λb c t r hb hv=>?_,λb hb z=>?_,λ_=>False,I.box_ _ _ _ _ h.box λb hb=>M.old.block b (h.lt (hb.resolve_left id)),λ_ hb=>hb.elim⟩
  ·rcases hb with hb | rfl
   ·obtain ⟨c,t,r,h1,h2⟩:=h.bi b hb
    exact⟨c,t,r,(M.old.block b (h.lt hb)).trans h1,h2⟩
   ·exact ⟨_,_,_,M.a,by decide⟩
  ·refine ⟨λ_=>.slice none 0 0,_,M.a,by simp[OpsB.on,setB],λi hi=>?_,λi hi=>⟨[],⟨rfl,.inl ⟨rfl,rfl⟩⟩,rfl,λb hb=>by simp[Value.ownBlock] at hb⟩,λi j b _ _ hb=>by simp[Value.ownBlock] at hb⟩
   have hi:i<n:=hi
   simp[hi]
  ·obtain ⟨⟨c',t',r',h1,_⟩,_⟩:=hb
   have hv:(w1.heap[b]?).getD _=_:=hv;rw[h1] at hv;exact⟨r,h1.trans (congrArg some hv)⟩
  ·obtain ⟨_,h2,h3,_⟩:=hb
   exact z.elim h2 h3
 sh:=fun b hb=>by
  rcases hb with hb | rfl
  ·have:=h.lt hb;have:=M.old.size;omega
  ·exact M.a.lt
 rb:=fun b hb=>by
  obtain⟨⟨c,t,r,h1,hr⟩,h2,h3,_⟩:=hb;exact⟨aB h1,λz=>z.elim h2 h3,c,t,r,by show (w1.heap[b]?).getD _=_;rw[h1];rfl,h1,hr⟩
 io:=M.old.io
theorem set_funs (h:OpsIn W0 I good a0 w0 n A len ops) (M:MadeT w0 n n fv A len cap dob ab anb opb ib lv w1) (hn:0<n) (hnm:n<=maxLen):∃ g cp,lv=.slice (some ⟨g,0,none⟩) n cp/\w0.heap.size<=g/\(¬(I.BI g\/g=ab)/\¬(setD W0 I good w1 n dob ab anb opb ib fv ops A len cap).RB g) /\
  Funs n ⟨g,0,none⟩ (λi=>#[.pointer (some ⟨opb i,0,none⟩),.pointer (some ⟨dob,0,none⟩),.pointer (some ⟨ib i,0,none⟩),.pointer (some ⟨anb,0,none⟩)]) w1:=by
 rcases M.own.2 with⟨_,e⟩ | ⟨g,cp,cur,rfl,hg,hh,hle,_,hsz,htake⟩
 ·omega
 ·have hb:Blk w1 g 100 cur:=hh
  have nb:¬I.BI g:=λz=>by have:=h.lt z;omega
  have na:g≠ab:=cK hb M.a (by decide);refine⟨g,cp,rfl,hg,⟨λz=>z.elim nb na,?_⟩,⟨⟨cur,_,_,hh,by decide,λi hi=>?_⟩,rfl⟩⟩
  ·rintro ⟨_,_,_,(e | e | ⟨i,hi,(e | e)⟩ | ⟨i,o,hi,e,hne⟩)⟩
   ·exact cK hb M.d (by decide) e
   ·exact cK hb M.an (by decide) e
   ·exact cK hb (M.i i hi) (by decide) e
   ·exact cK hb (M.o i hi) (by decide) e
   ·obtain ⟨b',o',cs,t,r,h1,h2,_⟩:=h.cells i hi 0 (List.length_pos_iff.2 hne)
    rw[e] at h1;cases h1;have:=aB h2
    omega
  ·have : cur.toList[i]?=some (cG opb ib dob anb i):=by
    have h1:(cur.toList.take (n*1))[i]?=some (cG opb ib dob anb i):=by rw[htake];simp[hi]
    rw[List.getElem?_take] at h1
    split at h1
    ·exact h1
    ·cases h1
   simpa [cG] using this
end
theorem OpsIn.later {W0:World}{I:Inner}{good:OpI->Prop}{a0:I.A}{w0 w1:World}{n:Nat}{A:Nat->Option Addr}{len:Nat->Nat}{ops:Nat->List OpI}(h:OpsIn W0 I good a0 w0 n A len ops) (ho:Old w0.heap.size w0 w1):OpsIn W0 I good a0 w1 n A len ops where
 at_:=I.at_ _ _ _ h.at_ λb hb=>ho.block b (h.lt hb)
 bi:=fun b hb=>by
  obtain⟨c,t,r,h1,h2⟩:=h.bi b hb;exact⟨c,t,r,(ho.block b (h.lt hb)).trans h1,h2⟩
 box:=I.box_ _ _ _ _ h.box λb hb=>ho.block b (h.lt (hb.resolve_left id))
 len:=h.len
 good:=h.good
 cells:=fun i hi j hj=>by
  obtain⟨b,o,cs,t,r,h1,h2,h3⟩:=h.cells i hi j hj;exact⟨b,o,cs,t,r,h1,(ho.block b (aB h2)).trans h2,h3⟩
theorem RowsAt.later {w0 w1:World}{Tb To n:Nat}{A:Nat->Option Addr}{len cap:Nat->Nat}(h:RowsAt w0 Tb To n A len cap) (ho:Old w0.heap.size w0 w1):RowsAt w1 Tb To n A len cap:=
 ⟨λi hi=>(World.cell?_of_block (w:=w0) (ho.block Tb (bG (h.row i hi)))).trans (h.row i hi),h.le,h.max,h.nil⟩
theorem SchI.later {W0:World}{sv:Value}{xs:List Int}{Z Z':Nat->Prop}{w0 w1:World}(h:SchI W0 sv xs Z w0) (ho:Old w0.heap.size w0 w1) (hz:∀ b,b<w0.heap.size->Z' b->Z b):SchI W0 sv xs Z' w1 where
 at_:=by
  obtain⟨A,c,h1,h2⟩:=h.at_;refine⟨A,c,h1,λi hi=>?_⟩;obtain⟨b,o,cs,t,r,h3,h4,h6,h7⟩:=h2 i hi;exact⟨b,o,cs,t,r,h3,(ho.block b (aB h4)).trans h4,h6.imp id λy=>⟨y.1,λz=>y.2 (hz b (aB h4) z)⟩,h7⟩
 len:=h.len
structure OpsDone (W0:World) (I:Inner) (good:OpI->Prop) (a0:I.A) (doT:Nat->OpI->(I.A × (Nat->List Ans))->(Ans->(I.A × (Nat->List Ans))->Tree (I.A × (Nat->List Ans)) (I.A × (Nat->List Ans)))->Tree (I.A × (Nat->List Ans)) (I.A × (Nat->List Ans))) (ops:Nat->List OpI) (n:Nat) (xs:List Int) (most:Nat) (w0:World) (v:Value) (w':World):Prop where
 ex : ∃ (B:OpsB) (ov:Value),B.n=n/\B.ops=ops/\w0.heap.size<=B.ab /\
  v=.agg #[.slice (some ⟨B.ab,0,none⟩) n n,ov,.slice none 0 0,.bool (decide (0<(bI (brT (B.on I good) doT) n most xs (a0,λ_=>[])).m.left n))] /\
  w'.ownsRow w0.heap.size 3 1 ov (bI (brT (B.on I good) doT) n most xs (a0,λ_=>[])).order.length ((bI (brT (B.on I good) doT) n most xs (a0,λ_=>[])).order.map (Value.int .i64)) /\
  ∃ H,RepO (B.on I good) (bI (brT (B.on I good) doT) n most xs (a0,λ_=>[])).m.s H w'/\∀ (b:Nat) (c:Array Value) (t:TypeId) (r:Nat × Nat),(b<W0.heap.size\/(r.2<big/\¬I.BI b))->w0.heap[b]?=some (.cells c t r)->¬H b
 size:w0.heap.size<=w'.heap.size
 near:∀ (b:Nat) (c:Array Value) (t:TypeId) (r:Nat × Nat),(b<W0.heap.size\/(r.2<big/\¬I.BI b))->w0.heap[b]?=some (.cells c t r)->w'.heap[b]?=some (.cells c t r)
 io:w'.os=w0.os/\w'.output=w0.output
theorem sound_of_ok {I:Inner}{good:OpI->Prop}{a0:I.A}{doT:Nat->OpI->(I.A × (Nat->List Ans))->(Ans->(I.A × (Nat->List Ans))->Tree (I.A × (Nat->List Ans)) (I.A × (Nat->List Ans)))->Tree (I.A × (Nat->List Ans)) (I.A × (Nat->List Ans))}{n:Nat}{ops:Nat->List OpI}(hg:∀ i,i<n->∀ o∈ops i,good o) (B:OpsB) (hO:∀ i,DoOk (B.on I good) i (doT i)) (hn:B.n=n) (hB:B.ops=ops):oV (brT (B.on I good) doT) n (a0,λ_=>[]):=by
 subst hn;subst hB
 exact ⟨OpsMI (B.on I good),ops_minv _ _ rfl,λj hj=>ops_born_ne (D:=B.on I good) (λi _=>hO i) (λi hi o ho=>hg i hi o ho) (a0,λ_=>[]) (λ_ _=>rfl) j hj,
  (nS (D:=B.on I good) (λi _=>hO i) (λi hi o ho=>hg i hi o ho) (a0,λ_=>[]) (λ_ _=>rfl) _ (Nat.le_refl _)).1⟩
theorem nR (hP:Prog Try.prog) (Post:Value->World->Prop) (W0:World) (I:Inner) (good:OpI->Prop) (a0:I.A) (doT:Nat->OpI->(I.A × (Nat->List Ans))->(Ans->(I.A × (Nat->List Ans))->Tree (I.A × (Nat->List Ans)) (I.A × (Nat->List Ans)))->Tree (I.A × (Nat->List Ans)) (I.A × (Nat->List Ans))) (tA:Option Addr) (Tb To nt cp:Nat) (htA:0<nt->tA=some ⟨Tb,To,none⟩) (hnt:nt<=maxLen) (fv:Value) (hfv:∀ cs,fv≠.agg cs) (A:Nat->Option Addr) (len cap:Nat->Nat) (ops:Nat->List OpI) (sv:Value) (xs:List Int) (most:Int) (w0:World) (hW:W0.heap.size<=w0.heap.size) (hBI:∀ b,I.BI b->W0.heap.size<=b)
  (hrows:RowsAt w0 Tb To (min nt 64) A len cap) (hin:OpsIn W0 I good a0 w0 (min nt 64) A len ops) (hsch:SchI W0 sv xs (λb=>I.BI b\/∃ i o,i<min nt 64/\A i=some ⟨b,o,none⟩) w0)
  (hdo:∀ (B:OpsB) i,i<64->DoAt (B.on I good) i (doT i) fv) (hO:∀ (B:OpsB),B.n=min nt 64->B.ops=ops->oV (brT (B.on I good) doT) (min nt 64) (a0,λ_=>[])) :
  Ccalls (lgA hP Post W0) 19 #[.slice tA nt cp,fv,sv,.int .i64 most] () w0 λv _ w'=>OpsDone W0 I good a0 doT ops (min nt 64) xs (cH most 1048576).toNat w0 v w':=by
 intro c mid hR;have hSND:=qd hO;clear hO;have HR:=qd hR;clear hR;have hs:¬(lgA hP Post W0).strict:=λh=>h;rw[show Frame.enter Try.prog 19 #[.slice tA nt cp,fv,sv,.int .i64 most] .normal=Frame.at { (default:Frame) with fn:=19,kind:=.normal } ⟨#[.slice tA nt cp,fv,sv,.int .i64 most]++Array.replicate (Try.f19.ntmps-4) undef,[]⟩ [.code (Try.f19.body.getD .skip)] from by simp[Frame.enter,Frame.at,Try.func19];rfl];simp only[Try.f19,Option.getD_some,Nat.reduceSub,Array.replicate_succ,Array.replicate_zero,List.push_toArray,List.append_toArray,List.nil_append,List.cons_append];refine Lg.move _ (λ_ _=>step_seq) (λh=>h) ?_;refine Lg.code λK hK y τ n' hy=>?_;have hold:Old w0.heap.size w0 y:=by rw[hy];exact(Old.refl _ (y.re τ n')).re
 have hsz:y.heap.size=w0.heap.size:=by rw[hy];rfl
 clear hy;go_wp2;refine hK _ _ (λh=>absurd h hs) ?_;clear hK K;have hold1:=hold.new (show w0.heap.size<=y.heap.size by omega) (.cells #[.slice none 0 0,.slice none 0 0,.slice none 0 0,.bool false] 31);have hb8:=Blk.new y 31 #[.slice none 0 0,.slice none 0 0,.slice none 0 0,.bool false];rw[hsz] at hb8;generalize y.alloc (.cells #[.slice none 0 0,.slice none 0 0,.slice none 0 0,.bool false] 31)=w1 at hb8 hold1 ⊢;obtain⟨b8,h8⟩:∃ b8,b8=w0.heap.size:=⟨_,rfl⟩;rw[<-h8] at hb8 ⊢;clear hsz hold;refine Lg.move _ (λ_ _=>step_seq) (λh=>h) ?_;refine Lg.move _ (λ_ _=>step_region) (λh=>h) ?_;refine Lg.pre 0 2 6 (by simp) λK hK z τ n' hz=>?_;subst hz;have hold1:=hold1.re;have hb8:Blk z b8 _ _:=hb8;have hrows1:=hrows.later hold1;have hin1:=hin.later hold1;have hsch1:=hsch.later (Z':=λb=>I.BI b\/∃ i o,i<min nt 64/\A i=some ⟨b,o,none⟩) hold1 (λb _ h=>h);have hn64:min nt 64<=64:=by omega
 have Hold:=qd hold1;have HB8:=qd hb8;have HIN:=qd hin1;have HSC:=qd hsch1;clear hold1 hb8 hin1 hsch1 hrows hsch;simp only[zC];go_wp2;refine hK _ _ (λh=>absurd h hs) ?_;clear hK K;refine Lg.call (i:=2) (rest:=[3,4,5,6,7]) (f:=41) (args:=#[.slice tA nt cp,fv]) rfl rfl (λy=>by go_simp) (doing_calls (lgA hP Post W0) hs () tA Tb To nt cp htA hnt fv hfv A len cap z hrows1) ?_;rintro vv t' w2 ⟨-,dob,ab,anb,opb,ib,lv,rfl,M⟩;rw[Frame.finish_at];walk_nrm;generalize min nt 64=n at *;have hb8:Blk w2 b8 _ _:=(M.old.block b8 HB8.out.lt).trans HB8.out;have hz8:=HB8.out.lt;clear HB8;refine(show (lgA hP Post W0).T _ (Frame.at _ ⟨_,[]⟩ (.inRegion _ (List.range' 3 (5+0))::_)) (c::mid) w2 from ?_);refine Lg.pre 3 5 0 (by simp) λK hK u τ n' hu=>?_;subst hu;have M:=M.re;have hb8:Blk u b8 _ _:=hb8;have HM:=qd M;have HB8:=qd hb8;clear M hb8;simp only[zC];go_wp2;refine hK _ _ (λh=>absurd h hs) ?_;clear hK K;refine Lg.move _ (λ_ _=>step_region_end) (λh=>h) ?_;refine Lg.move _ (λ_ _=>step_seq) (λh=>h) ?_;refine Lg.move _ (λ_ _=>step_region) (λh=>h) ?_;refine Lg.pre 0 3 8 (by simp) λK hK w3 τ n' hw=>?_;subst hw;have M:=HM.out.re;have hb8:Blk w3 b8 _ _:=HB8.out;have HM':=qd M;have HB8':=qd hb8;clear M hb8 HM HB8;simp only[zC];go_wp2;refine hK _ _ (λh=>absurd h hs) ?_;clear hK K;have M:=HM'.out;have hb8:=HB8'.out;clear HM' HB8';obtain⟨lA,cp',rfl⟩:=aQ M.own
 have hfun:0<n->∃ ta,lA=some ta/\Funs n ta (λi=>#[.pointer (some ⟨opb i,0,none⟩),.pointer (some ⟨dob,0,none⟩),.pointer (some ⟨ib i,0,none⟩),.pointer (some ⟨anb,0,none⟩)]) w3/\¬(I.BI ta.block\/ta.block=ab)/\¬(setD W0 I good w3 n dob ab anb opb ib fv ops A len cap).RB ta.block:=λh=>by
  obtain⟨g,cp2,e,hgb,hgn,hfun⟩:=set_funs (len:=len) (cap:=cap) HIN.out M h (by unfold maxLen;omega);cases e;exact⟨⟨g,0,none⟩,rfl,hfun,hgn⟩
 have e64:min n 64=n:=by omega
 obtain⟨B,hDD⟩:∃ B,B=setB W0 w3 n dob ab anb opb ib fv ops (λi=>.slice (A i) (min (len i) 65536) (cap i)) I.BI A:=⟨_,rfl⟩;have hDn:(B.on I good).n=n:=by rw[hDD];rfl
 have hask:OverAsks ((B.on I good).shd z.os z.output) W0 (a0,λ_=>[]) (λb=>I.BI b\/b=ab) w3:=by rw[hDD];exact set_asks HIN.out M
 have hfun:0<n->∃ ta,lA=some ta/\Funs n ta (λi=>#[.pointer (some ⟨B.opb i,0,none⟩),.pointer (some ⟨B.dob,0,none⟩),.pointer (some ⟨B.ib i,0,none⟩),.pointer (some ⟨B.anb,0,none⟩)]) w3/\¬(I.BI ta.block\/ta.block=ab)/\¬(B.on I good).RB ta.block:=by rw[hDD];exact hfun
 have hWH:∀ b,(I.BI b\/b=ab)->W0.heap.size<=b:=λb hb=>by
  rcases hb with hb | rfl
  ·exact hBI b hb
  ·have:=M.ge.2.1; have:=Hold.out.size;omega
 have hg:∀ i,i<n->∀ o∈ops i,good o:=HIN.out.good;have hBo:B.ops=ops:=by rw[hDD];rfl
 have hBa:B.ab=ab:=by rw[hDD];rfl
 have hthr:∀ i,i<n->ThrOk (B.on I good) i:=λi hi=>by rw[hDD];exact set_thr HIN.out M hn64 i hi
 have hsch3:SchI W0 sv xs (λb=>(I.BI b\/b=ab)\/(B.on I good).RB b) w3:=HSC.out.later M.old λb hb hz=>by
  rw[hDD] at hz
  rcases hz with(hz | rfl) | ⟨_,_,_,e⟩
  ·exact .inl hz
  ·have:=M.ge.2.1; omega
  ·rcases e with rfl | rfl | ⟨i,hi,rfl | rfl⟩ | ⟨i,o,hi,e,_⟩
   ·have:=M.ge.1; omega
   ·have:=M.ge.2.2.1; omega
   ·have:=(M.ge.2.2.2 i hi).1;omega
   ·have:=(M.ge.2.2.2 i hi).2;omega
   ·exact .inr ⟨i,o,hi,e⟩
 obtain⟨MI,hMI,hMn,hMb⟩:oV (brT (B.on I good) doT) n (a0,λ_=>[]):=hSND.out B hDn hBo
 have hov:=over_any hP Post W0 ((B.on I good).shd z.os z.output) (brT (B.on I good) doT) MI (λi=>#[.pointer (some ⟨B.opb i,0,none⟩),.pointer (some ⟨B.dob,0,none⟩),.pointer (some ⟨B.ib i,0,none⟩),.pointer (some ⟨B.anb,0,none⟩)]) lA n cp' (by rw[e64];exact hMI) (by unfold maxLen;omega) sv xs most (a0,λ_=>[])
  (λj hj=>hMn j (by omega))
  (by rw[e64];exact hMb)
  (λb=>I.BI b\/b=ab) w3 hask hWH (by rw[e64];exact hfun) hsch3
  (λgg b pos apart inj i hi hgi s H x _=>thread_law (B.on I good) z.os z.output Post W0 gg b pos apart inj i (hthr i (by omega)) doT (by rw[show (B.on I good).fv=fv from by rw[hDD];rfl];exact hdo B i (by omega)) s x)
 rw[e64] at hov;refine Lg.call (i:=3) (rest:=[4,5,6,7,8,9,10]) (f:=42) (args:=#[.slice lA n cp',sv,.int .i64 most]) rfl rfl (λy=>by go_simp) hov ?_;rintro vv t'' w4 hdone;obtain⟨ov,bv,hv0,hord⟩:=hdone.val;obtain⟨stk,hst,hvv⟩:∃ stk:Bool,stk=decide (0<(bI (brT (B.on I good) doT) n (cH most 1048576).toNat xs (a0,λ_=>[])).m.left n)/\vv=.tuple #[ov,.bool stk,bv]:=⟨_,rfl,hv0⟩;clear hv0;subst hvv;have HST:=qd hst;clear hst
 obtain ⟨oA,oL,oc,rfl⟩:∃ A l c,ov=.slice A l c:=by
  obtain⟨A,c,e⟩:=aQ hord;exact⟨A,_,c,e⟩
 rw[Frame.finish_at];walk_nrm
 have h8n:¬(I.BI b8\/b8=ab):=λh=>by
  rcases h with h | h
  ·have:=hin.lt h;omega
  ·exact cK hb8 M.a (by decide) h
 have h8r:¬(B.on I good).RB b8:=by
  rw[hDD];rintro⟨_,_,_,(e | e | ⟨i,hi,(e | e)⟩ | ⟨i,o,hi,e,hne⟩)⟩
  ·exact cK hb8 M.d (by decide) e
  ·exact cK hb8 M.an (by decide) e
  ·exact cK hb8 (M.i i hi) (by decide) e
  ·exact cK hb8 (M.o i hi) (by decide) e
  ·obtain ⟨b',o',cs,t,r,h1,h2,_⟩:=hin.cells i hi 0 (List.length_pos_iff.2 hne)
   rw[e] at h1;cases h1;have:=aB h2
   omega
 have hb84:Blk w4 b8 _ _:=hdone.near b8 _ _ (0,0) (.inr ⟨by decide,h8n,h8r⟩) hb8;have HB:=qd hb84;have HD:=qd hdone;have HO:=qd hord;have HM:=qd M;have HH8:=qd hb8;clear hb84 hdone hord M hb8 hov hask hsch3;refine(show (lgA hP Post W0).T _ (Frame.at _ ⟨_,[]⟩ (.inRegion _ (List.range' 4 (7+0))::_)) (c::mid) w4 from ?_);refine Lg.pre 4 7 0 (by simp) λK hK u τ n' hu=>?_;simp only[zC];go_wp2;refine hK _ _ (λh=>absurd h hs) ?_;clear hK K;refine Lg.move _ (λ_ _=>step_region_end) (λh=>h) ?_;have H8:=qd h8;clear h8;refine Lg.move _ (λ_ _=>step_seq) (λh=>h) ?_;refine Lg.code λK hK q τ2 n2 hq=>?_;have hb:Blk q b8 31 #[.slice none 0 0,.slice none 0 0,.slice none 0 0,.bool false]:=by have:=HB.out;rw[hu,hq] at this;exact this
 have hheap:w4.heap=q.heap/\w4.os=q.os/\w4.output=q.output:=by rw[hu,hq];exact⟨rfl,rfl,rfl⟩
 clear hu hq HB;have o0:=hb.cell 0;have o1:=hb.cell 1;have o2:=hb.cell 2;have o3:=hb.cell 3;have z0:=hb.frozen 0;have z1:=hb.frozen 1;have z2:=hb.frozen 2;have z3:=hb.frozen 3
 simp at o0 o1 o2 o3
 have HB:=qd hb;have HH:=qd hheap;clear hb hheap;go_wp2;refine hK _ _ (λh=>absurd h hs) ?_;clear hK K o0 o1 o2 o3 z0 z1 z2 z3;have hb6:=(((HB.out.set_ 0 (.slice (some ⟨ab,0,none⟩) n n)).set_ 1 (.slice oA oL oc)).set_ 2 (.slice none 0 0)).set_ 3 (.bool stk);simp only[zA] at hb6
 obtain ⟨w6,hw6,f1,f2,f3⟩:∃ w6,w6=(((q.setCell ⟨b8,0,none⟩ (.slice (some ⟨ab,0,none⟩) n n)).setCell ⟨b8,1,none⟩ (.slice oA oL oc)).setCell ⟨b8,2,none⟩ (.slice none 0 0)).setCell ⟨b8,3,none⟩ (.bool stk)/\(∀ b,b≠b8->w6.heap[b]?=w4.heap[b]?)/\w6.heap.size=w4.heap.size/\w6.os=w4.os/\w6.output=w4.output:=by
  refine⟨_,rfl,λb hb=>?_,?_,?_,?_⟩
  ·rw [HH.out.1,Below.heap_setCell _ _ _ _ hb,Below.heap_setCell _ _ _ _ hb,Below.heap_setCell _ _ _ _ hb,Below.heap_setCell _ _ _ _ hb]
  ·rw [HH.out.1];simp[World.setCell]
  ·rw [HH.out.2.1];rfl
  ·rw [HH.out.2.2];rfl
 rw[<-hw6] at hb6 ⊢;clear hw6 HB HH;refine Lg.move _ (λ_ _=>step_ret) (λh=>h) ?_;refine Lg.leave rfl Try.func19 rfl (v:=.agg #[.slice (some ⟨ab,0,none⟩) n n,(.slice oA oL oc),.slice none 0 0,.bool stk]) (λy τ n' hy=>?_) (HR.out _ _ _ ?_)
 ·have c0:y.cell? ⟨b8,0,none⟩=some (.slice (some ⟨ab,0,none⟩) n n):=by have:=hb6.cell 0;rw[hy] at this;exact this
  have c1:y.cell? ⟨b8,1,none⟩=some (.slice oA oL oc):=by have:=hb6.cell 1;rw[hy] at this;exact this
  have c2:y.cell? ⟨b8,2,none⟩=some (.slice none 0 0):=by have:=hb6.cell 2;rw[hy] at this;exact this
  have c3:y.cell? ⟨b8,3,none⟩=some (.bool stk):=by have:=hb6.cell 3;rw[hy] at this;exact this
  simp[results,Try.f19,go_sem,c0,c1,c2,c3]
 have h8:=H8.out;have hst:=HST.out;have M:=HM.out;have D:=HD.out;obtain⟨H,hrep,hH⟩:=D.rep;have s1:=Hold.out.size;have s2:=M.old.size;have s3:=D.size
 have far:∀ (b:Nat) (c:Array Value) (t:TypeId) (r:Nat × Nat),w0.heap[b]?=some (.cells c t r)->w3.heap[b]?=some (.cells c t r)/\b≠b8/\b≠ab:=λb c t r h2=>by
  have hlt:=aB h2;refine⟨(M.old.block b (by omega)).trans ((Hold.out.block b hlt).trans h2),by omega,λe=>?_⟩;have:=M.ge.2.1;omega
 have nh8:¬H b8:=hH b8 _ _ (0,0) (.inr ⟨by decide,h8n,h8r⟩) HH8.out;refine⟨⟨B,.slice oA oL oc,hDn,hBo,by rw[hBa];have:=M.ge.2.1;omega,by rw[hBa,hst],?_,H,?_,λb c t r hc h2=>?_⟩,by omega,λb c t r hc h2=>?_,?_⟩
 ·refine eD (bT HO.out λb hb=>f1 b ?_) (show w0.heap.size<=w3.heap.size by omega)
  rcases HO.out.2 with⟨e,_⟩ | ⟨g',cp2,cur,e,hg2,_⟩
  ·rw [e] at hb;simp[Value.ownBlock] at hb
  ·rw [e] at hb;simp only[Value.ownBlock,Option.some.injEq] at hb;omega
 ·exact RepO.law (B.on I good) _ H w4 w6 hrep (λb hb=>f1 b λe=>nh8 (e▸hb)) λb c t r hb hx=>⟨r,(f1 b λe=>h8r (e▸hb)).trans hx⟩
 ·obtain ⟨e1,e2,e3⟩:=far b c t r h2
  rcases hc with hc | ⟨hr,h1⟩
  ·exact hH b c t r (.inl hc) e1
  ·by_cases hrb:(B.on I good).RB b
   ·exact hrep.rbH b hrb
   ·exact hH b c t r (.inr ⟨hr,λz=>z.elim h1 e3,hrb⟩) e1
 ·obtain ⟨e1,e2,e3⟩:=far b c t r h2
  rw[f1 b e2]
  by_cases hb0:b<W0.heap.size
  ·exact D.near b c t r (.inl hb0) e1
  ·obtain ⟨hr,h1⟩:=hc.resolve_left hb0
   by_cases hrb:(B.on I good).RB b
   ·have hv:((B.on I good).shd z.os z.output).rv b=.cells c t r:=by
     show (B.on I good).rv b=_
     rw[hDD]
     show (w3.heap[b]?).getD _=_
     rw[e1];rfl
    rw[D.rb b hrb (by omega) c t r hv,hv]
   ·exact D.near b c t r (.inr ⟨hr,λz=>z.elim h1 e3,hrb⟩) e1
 ·exact ⟨f3.1.trans (D.io.1.trans (M.old.io.1.trans Hold.out.io.1)),f3.2.trans (D.io.2.trans (M.old.io.2.trans Hold.out.io.2))⟩
theorem ops_calls (hP:Prog Try.prog) (Post:Value->World->Prop) (W0:World) (I:Inner) (good:OpI->Prop) (a0:I.A) (doT:Nat->OpI->(I.A × (Nat->List Ans))->(Ans->(I.A × (Nat->List Ans))->Tree (I.A × (Nat->List Ans)) (I.A × (Nat->List Ans)))->Tree (I.A × (Nat->List Ans)) (I.A × (Nat->List Ans))) (tA:Option Addr) (Tb To nt cp:Nat) (htA:0<nt->tA=some ⟨Tb,To,none⟩) (hnt:nt<=maxLen) (fd:FuncId) (bd cs:Array Value) (A:Nat->Option Addr) (len cap:Nat->Nat) (ops:Nat->List OpI) (sv:Value) (xs:List Int) (most:Int) (w0:World) (hW:W0.heap.size<=w0.heap.size) (hBI:∀ b,I.BI b->W0.heap.size<=b)
  (hrows:RowsAt w0 Tb To (min nt 64) A len cap) (hin:OpsIn W0 I good a0 w0 (min nt 64) A len ops) (hsch:SchI W0 sv xs (λb=>I.BI b\/∃ i o,i<min nt 64/\A i=some ⟨b,o,none⟩) w0)
  (hcall:∀ args w,(callFunc fd args).run Try.prog w=.ok (.enter fd args) w) (hD:∀ (B:OpsB) i,i<64->DoLaw (B.on I good) i (doT i) fd bd cs) (hO:∀ (B:OpsB),B.n=min nt 64->B.ops=ops->oV (brT (B.on I good) doT) (min nt 64) (a0,λ_=>[])) :
  Ccalls (lgA hP Post W0) 19 #[.slice tA nt cp,.func (.func fd) bd cs,sv,.int .i64 most] () w0 λv _ w'=>OpsDone W0 I good a0 doT ops (min nt 64) xs (cH most 1048576).toNat w0 v w':=
 nR hP Post W0 I good a0 doT tA Tb To nt cp htA hnt _ (λ_ h=>by cases h) A len cap ops sv xs most w0 hW hBI hrows hin hsch (λB i hi=>.fn fd bd cs rfl hcall (hD B i hi)) hO
abbrev DoQ (A:Type):Type:=OpI->(A × (Nat->List Ans))->(Ans->(A × (Nat->List Ans))->Tree (A × (Nat->List Ans)) (A × (Nat->List Ans)))->Tree (A × (Nat->List Ans)) (A × (Nat->List Ans))
def kN {A:Type}(i:Nat) (a:Ans) (st:A × (Nat->List Ans)):A × (Nat->List Ans):=(st.1,λj=>if j=i then st.2 j++[a] else st.2 j)
def thrQ {A:Type}(doT:DoQ A) (i:Nat):List OpI->List Ans->(A × (Nat->List Ans))->Tree (A × (Nat->List Ans)) (A × (Nat->List Ans))
 | [],_,st=>.ret st
 | o::l,own,st=>doT o st λa st'=>if st'.2 i=own then thrQ doT i l (own++[a]) (kN i a st') else .cut
def brQ {A:Type}(doT:Nat->DoQ A) (ops:Nat->List OpI) (i:Nat) (st:A × (Nat->List Ans)):Tree (A × (Nat->List Ans)) (A × (Nat->List Ans)):=if st.2 i=[] then thrQ (doT i) i (ops i) [] st else .cut
section
variable {I:Inner}{good:OpI->Prop}
theorem thr_q (B:OpsB) (doT:DoQ I.A) (i:Nat):∀ (l:List OpI) (own:List Ans) (st:I.A × (Nat->List Ans)),mH (B.on I good) doT i l own st=thrQ doT i l own st
 | [],_,_=>rfl
 | o::l,own,st=>by
   show doT o st _=doT o st _
   congr 1
   funext a st'
   have:=thr_q B doT i l (own++[a]) (kN i a st')
   by_cases h:st'.2 i=own
   ·exact (if_pos h).trans (this.trans (if_pos h).symm)
   ·exact (if_neg h).trans (if_neg h).symm
theorem br_q (B:OpsB) (doT:Nat->DoQ I.A):brT (B.on I good) doT=brQ doT B.ops:=by
 funext i st
 by_cases h:st.2 i=[]
 ·exact (if_pos h).trans ((thr_q B (doT i) i _ _ _).trans (if_pos h).symm)
 ·exact (if_neg h).trans (if_neg h).symm
end
structure AnsAll (w:World) (ab n:Nat) (ans:Nat->List Ans) (H:Nat->Prop):Prop where
 abH:H ab
 near:∀ b,H b->∃ c t r,w.heap[b]?=some (.cells c t r)/\r.2<big
 rows : ∃ (rw_:Nat->Value) (c:Array Value),w.heap[ab]?=some (.cells c 43 (0,0))/\c.size=n/\(∀ i,i<n->c[i]?=some (rw_ i)) /\
  (∀ i,i<n->∃ xs,w.ownsRow 0 48 3 (rw_ i) (ans i).length xs/\AnsRow w H (ans i) xs/\∀ b,(rw_ i).ownBlock=some b->H b) /\
  ∀ i j b,i<n->j<n->(rw_ i).ownBlock=some b->(rw_ j).ownBlock=some b->i=j
theorem RepO.answers {D:OpsD}{st:D.St}{H:Nat->Prop}{w:World}(h:RepO D st H w):AnsAll w D.ab D.n st.2 (λb=>H b/\¬D.BI b):=⟨h.abH,λb hb=>h.near b hb.1,h.rows⟩
theorem AnsAll.same {w w':World}{ab n:Nat}{ans:Nat->List Ans}{H:Nat->Prop}(h:AnsAll w ab n ans H) (hs:∀ b,H b->w'.heap[b]?=w.heap[b]?):AnsAll w' ab n ans H:=by
 refine⟨h.abH,λb hb=>?_,?_⟩
 ·obtain ⟨c,t,r,h1,h2⟩:=h.near b hb
  exact⟨c,t,r,(hs b hb).trans h1,h2⟩
 ·obtain ⟨rw_,c,h1,h2,h3,h4,h5⟩:=h.rows
  refine⟨rw_,c,(hs _ h.abH).trans h1,h2,h3,λi hi=>?_,h5⟩;obtain⟨xs,k1,k2,k3⟩:=h4 i hi;exact⟨xs,bT k1 λb hb=>hs b (k3 b hb),k2.same hs λb hb=>hb,k3⟩
end Go.Proofs.Ytlcplealnbekeaa
