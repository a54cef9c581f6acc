/- DERIVED. Threads of operations as trees, with no fixed data in sight; what a run's answers are in memory. -/
import Derived.Test.YtlhbonnminlnlaaGf
import Derived.Test.YtlhbonnminlnlaaGd
set_option linter.unusedVariables false
namespace Go.Proofs.Ytlhbonnminlnlaa
open Go.RowKit Go.Turn Go.Tame Go.Conc
structure Sl4 (f : Nat→Value) (g : Gs) (bo : Nat) (st : Bool) : Prop where
 f6 : f 6 = .pointer (some ⟨bo,0,none⟩)
 f7 : f 7 = .bool st
 f10 : f 10 = .pointer (some ⟨g.tv,0,none⟩)
set_option maxHeartbeats 2000000 in
set_option maxRecDepth 100000 in
theorem over_stuck (hP : Prog Try.prog) (e : Env Try.prog) {N base bn bo bm bl most : Nat} {k : List Item} {mid : List Frame} (ts sv : Value) (mo : Int) {f : Nat→Value} {x0 : World} {c : Run e.S} (hf : Sl3 f e.g bn bo bm bl) (h0 : OvS e base bn bo bm bl most c x0)
  (hT : ∀ f' w',Sl4 f' e.g bo (decide (0 < c.m.left e.g.n))→HeldM x0 w'→(lgM hP e).T (N,c.m) (Frame.at { (default : Frame) with fn:=67,kind:=.normal } ⟨frO ts sv mo f',[]⟩ k) mid w') :
  (lgM hP e).T (N,c.m) (Frame.at { (default : Frame) with fn:=67,kind:=.normal } ⟨frO ts sv mo f,[]⟩ (.code (seqL (seqR (seqR (seqR (seqR (seqR (seqR (seqR (seqR (seqR (seqR (Try.f67.body.getD .skip)))))))))))) :: k)) mid x0:=by
 simp only [Try.f67,Option.getD_some,seqR,seqL]
 have HT:=Lib.hid hT
 clear hT
 have h11:=hf.sl.f11
 simp only [frO,h11]
 refine Lg.code fun K hK u τ n hu=>?_
 subst hu
 have c1 : u.cell? ⟨bl,0,none⟩ = some (.int .i64 (c.m.left e.g.n)):=(show Blk u bl _ _ from h0.l).cell 0
 clear h0
 go_wp2
 refine hK _ _ (fun h=>h.elim) ?_
 clear hK K c1
 refine Lg.family (frO ts sv mo) (R:=fun f'=>Sl4 f' e.g bo (decide (0 < c.m.left e.g.n))) (fun f' hf'=>HT.out f' _ hf' ⟨Nat.le_refl _,fun _ _ _ _ h _=>h⟩) (by rfl) ⟨hf.sl.sl.f6,?_,hf.sl.sl.f10⟩
 first
  | rfl
  | (show Value.bool _ = _; congr 1; simp)
set_option maxHeartbeats 2000000 in
set_option maxRecDepth 100000 in
theorem over_loose (hP : Prog Try.prog) (e : Env Try.prog) (hn : e.g.n≤64) {N bo : Nat} {st : Bool} {k : List Item} {mid : List Frame} (ts sv : Value) (mo : Int) {f : Nat→Value} {x0 : World} {m0 : Mach e.S} (hgood : ∀ j,j < e.g.n→(m0.th j).Good) (hf : Sl4 f e.g bo st)
  (hT : ∀ f' w',Sl4 f' e.g bo st→HeldM x0 w'→(lgM hP e).T (N,m0.ended e.g.n) (Frame.at { (default : Frame) with fn:=67,kind:=.normal } ⟨frO ts sv mo f',[]⟩ k) mid w') :
  (lgM hP e).T (N,m0) (Frame.at { (default : Frame) with fn:=67,kind:=.normal } ⟨frO ts sv mo f,[]⟩ (.code (seqL (seqR (seqR (seqR (seqR (seqR (seqR (seqR (seqR (seqR (seqR (seqR (Try.f67.body.getD .skip))))))))))))) :: k)) mid x0:=by
 simp only [Try.f67,Option.getD_some,seqR,seqL]
 have HT:=Lib.hid hT
 clear hT
 have h10:=hf.f10
 simp only [frO,h10]
 refine lgm_tu fun ov br tv ho=>?_
 refine Lg.move _ (fun _ _=>step_seq) id ?_
 refine Lg.code fun K hK y τ n hy=>?_
 subst hy
 have q1 : y.cell? ⟨e.g.tv,0,none⟩ = some (.pointer (some ⟨e.g.tb,0,none⟩)):=tv.v
 have q2 : y.cell? ⟨e.g.tb,1,none⟩ = some (.slice (some ⟨e.g.ab,0,none⟩) e.g.n e.g.cap):=tv.t1
 clear tv ho
 go_wp2
 refine hK _ _ (fun h=>h.elim) ?_
 clear hK K q1 q2
 refine Lg.family (frO ts sv mo) (R:=fun f'=>Sl4 f' e.g bo st∧f' 107 = .slice (some ⟨e.g.ab,0,none⟩) e.g.n e.g.cap∧f' 108 = .int .i64 e.g.n∧f' 109 = .int .i64 0) ?_ (by rfl) ⟨⟨hf.f6,hf.f7,rfl⟩,rfl,rfl,rfl⟩
 rintro f1 ⟨hf1,m107,m108,m109⟩
 refine Lg.move _ (fun _ _=>step_block) id ?_
 refine Lg.loop_fr (frO ts sv mo) (fun f t w=>∃ j : Nat,j≤e.g.n∧f 109 = .int .i64 j∧f 107 = .slice (some ⟨e.g.ab,0,none⟩) e.g.n e.g.cap∧f 108 = .int .i64 e.g.n∧Sl4 f e.g bo st∧t = (N,m0.ended j)∧HeldM y w) (fun f _ _=>e.g.n - (intOf (f 109)).toNat) ⟨0,Nat.zero_le _,m109,m107,m108,hf1,rfl,HeldM.refl _⟩ ?_
 rintro f2 t w ⟨j,hj,k109,k107,k108,hf2,rfl,hL⟩ hnext
 have hNext:=Lib.hid hnext
 clear hnext m107 m108 m109 hf1 hf h10 f1 f
 have k10:=hf2.f10
 simp only [frO,k109,k107,k108,k10]
 refine Lg.move _ (fun _ _=>step_seq) id ?_
 refine Lg.code fun K hK u τ n hu=>?_
 subst hu
 go_wp2
 refine hK _ _ (fun h=>h.elim) ?_
 clear hK K
 refine Lg.move _ (fun _ _=>step_seq) id ?_
 have hL : HeldM y u:=⟨hL.size,hL.block⟩
 by_cases hlt : j < e.g.n
 ·have hd : decide (j < e.g.n) = true:=by simpa using hlt
  simp only [hd]
  refine Lg.move _ (fun _ _=>step_cond rfl) id ?_
  refine Lg.move _ (fun _ _=>step_skip) id ?_
  refine Lg.move _ (fun _ _=>step_seq) id ?_
  refine Lg.move _ (fun _ _=>step_block) id ?_
  refine Lg.move _ (fun _ _=>step_seq) id ?_
  refine lgm_tu fun ov br tv ho=>?_
  have hth : (m0.ended j).th j = m0.th j:=ended_other m0 j j (Nat.le_refl _)
  refine Lg.code fun K hK v τ2 n2 hv=>?_
  subst hv
  have hL : HeldM y v:=⟨hL.size,hL.block⟩
  have q3 : v.cell? ⟨e.g.ab,j,none⟩ = some (.pointer (some ⟨e.g.sb j,0,none⟩)):=tv.a j hlt
  have q4 : v.cell? ⟨e.g.sb j,2,none⟩ = some (.bool (m0.th j).isOver):=by rw [← hth,← ho j hlt]; exact tv.s2 j hlt
  have Hth:=Lib.hid hth
  clear ho tv hth
  go_wp2
  refine hK _ _ (fun h=>h.elim) ?_
  clear hK K q3
  refine Lg.move _ (fun _ _=>step_seq) id ?_
  refine Lg.code fun K hK z τ3 n3 hz=>?_
  subst hz
  have hL : HeldM y z:=⟨hL.size,hL.block⟩
  have q4 : z.cell? ⟨e.g.sb j,2,none⟩ = some (.bool (m0.th j).isOver):=q4
  go_wp2
  refine hK _ _ (fun h=>h.elim) ?_
  clear hK K q4
  have hgj:=hgood j hlt
  cases hst : m0.th j with
  | unborn=>rw [hst] at hgj; exact hgj.elim
  | over =>
    have he : m0.ended (j + 1) = m0.ended j:=by
     show (m0.ended j).fin j = _
     simp [Mach.fin,Hth.out,hst]
    simp only [Stg.isOver,Bool.not_true]
    refine Lg.move _ (fun _ _=>step_cond rfl) id ?_
    refine Lg.move _ (fun _ _=>step_skip) id ?_
    refine Lg.move _ (fun _ _=>step_inBlock) id ?_
    have he:=Lib.hid he
    refine Lg.code fun K hK v τ n hv=>?_
    subst hv
    go_wp2
    refine hK _ _ (fun h=>h.elim) ?_
    clear hK K
    refine Lg.family (frO ts sv mo) (R:=fun f'=>Sl4 f' e.g bo st∧f' 109 = .int .i64 ((j + 1 : Nat) : Int)∧f' 107 = .slice (some ⟨e.g.ab,0,none⟩) e.g.n e.g.cap∧f' 108 = .int .i64 e.g.n) ?_ (by rfl) ⟨⟨hf2.f6,hf2.f7,rfl⟩,by go_num,rfl,rfl⟩
    intro f' hR
    exact hNext.out f' _ _ ⟨j + 1,by omega,hR.2.1,hR.2.2.1,hR.2.2.2,hR.1,by rw [he.out],⟨hL.size,hL.block⟩⟩ (by rw [hR.2.1,k109]; simp [intOf]; omega)
  | wait kk =>
    have he : m0.ended (j + 1) = (m0.ended j).did j (.ret (m0.ended j).s):=by
     show (m0.ended j).fin j = _
     simp [Mach.fin,Hth.out,hst,Mach.did]
    simp only [Stg.isOver,Bool.not_false]
    refine Lg.move _ (fun _ _=>step_cond rfl) id ?_
    refine lgm_tu fun ov br tv ho=>?_
    refine Lg.move _ (fun _ _=>step_region) id ?_
    refine Lg.pre 0 2 1 (by simp) fun K hK v2 τ4 n4 hv=>?_
    subst hv
    have q1 : v2.cell? ⟨e.g.tv,0,none⟩ = some (.pointer (some ⟨e.g.tb,0,none⟩)):=tv.v
    have he:=Lib.hid he
    have hst:=Lib.hid hst
    clear tv ho
    simp only [List.drop_zero,List.take_succ_cons,List.take_zero]
    go_wp2
    refine hK _ _ (fun h=>h.elim) ?_
    clear hK K q1
    refine Lg.call (i:=2) (rest:=[]) (t:=(N,m0.ended j)) rfl rfl (fun y=>by go_simp) (let_calls hP e hn N (m0.ended j) j hlt kk (Hth.out.trans hst.out) false (.ret (m0.ended j).s) rfl (fun h=>by cases h) v2) ?_
    rintro uu t' w' ⟨rfl,rfl,hh'⟩
    rw [Frame.finish_at]
    walk_nrm
    refine Lg.move _ (fun _ _=>step_region_end) id ?_
    refine Lg.move _ (fun _ _=>step_inBlock) id ?_
    have hL : HeldM y w':=HeldM.trans (b:=v2) ⟨hL.size,hL.block⟩ hh'
    clear hh'
    refine Lg.code fun K hK v τ n hv=>?_
    subst hv
    go_wp2
    refine hK _ _ (fun h=>h.elim) ?_
    clear hK K
    refine Lg.family (frO ts sv mo) (R:=fun f'=>Sl4 f' e.g bo st∧f' 109 = .int .i64 ((j + 1 : Nat) : Int)∧f' 107 = .slice (some ⟨e.g.ab,0,none⟩) e.g.n e.g.cap∧f' 108 = .int .i64 e.g.n) ?_ (by rfl) ⟨⟨hf2.f6,hf2.f7,rfl⟩,by go_num,rfl,rfl⟩
    intro f' hR
    rw [← he.out]
    exact hNext.out f' _ _ ⟨j + 1,by omega,hR.2.1,hR.2.2.1,hR.2.2.2,hR.1,rfl,⟨hL.size,hL.block⟩⟩ (by rw [hR.2.1,k109]; simp [intOf]; omega)
 ·have hd : decide (j < e.g.n) = false:=by simpa using hlt
  simp only [hd]
  refine Lg.move _ (fun _ _=>step_cond rfl) id ?_
  refine Lg.move _ (fun _ _=>step_exit rfl) (fun h=>h) ?_
  have hjn : j = e.g.n:=by omega
  rw [hjn]
  exact Lg.family (frO ts sv mo) (R:=fun f'=>Sl4 f' e.g bo st) (fun f' hf'=>HT.out f' _ hf' ⟨hL.size,hL.block⟩) (by rfl) ⟨hf2.f6,hf2.f7,rfl⟩
set_option maxHeartbeats 2000000 in
set_option maxRecDepth 100000 in
theorem over_last {κ : Type} (L : Lg Try.prog κ) (hs : ¬ L.strict) {t : κ} {mid : List Frame} {c' : Frame} (ts sv : Value) (mo : Int) {f : Nat→Value} {g : Gs} {bo : Nat} {st : Bool} {ov bv : Value} {x : World} (hf : Sl4 f g bo st) (ho : Blk x bo 49 #[ov]) (hv : x.cell? ⟨g.tv,0,none⟩ = some (.pointer (some ⟨g.tb,0,none⟩))) (h2 : x.cell? ⟨g.tb,2,none⟩ = some bv) (hn1 : bo≠g.tv) (hn2 : bo≠g.tb) (hov : ∃ A n c,ov = .slice A n c)
  (hT : ∀ w',(∀ b,b≠bo→w'.heap[b]? = x.heap[b]?)→w'.heap.size = x.heap.size→w'.os = x.os→w'.output = x.output→L.T t (c'.finish (.tuple #[ov,.bool st,bv])) mid w') :
  L.T t (Frame.at { (default : Frame) with fn:=67,kind:=.normal } ⟨frO ts sv mo f,[]⟩ (.code (seqR (seqR (seqR (seqR (seqR (seqR (seqR (seqR (seqR (seqR (seqR (seqR (Try.f67.body.getD .skip))))))))))))) :: [])) (c' :: mid) x:=by
 simp only [Try.f67,Option.getD_some,seqR]
 have HT:=Lib.hid hT
 clear hT
 have h6:=hf.f6
 have h7:=hf.f7
 have h10:=hf.f10
 simp only [frO,h6,h7,h10]
 refine Lg.move _ (fun _ _=>step_seq) id ?_
 obtain ⟨A,ln,cp,rfl⟩:=hov
 refine Lg.codeF hs (List.range' 123 6 ++ [7,8]) (fun f' w'=>f' 7 = .bool st∧f' 8 = bv∧w' = (w'.re w'.tape w'.drawn)∧(∀ b,b≠bo→w'.heap[b]? = x.heap[b]?)∧w'.heap.size = x.heap.size∧w'.os = x.os∧w'.output = x.output∧w'.cell? ⟨bo,0,none⟩ = some (.slice A ln cp)) (fun u τ n hu=>?_) ?_
 ·subst hu
  have c1 : u.cell? ⟨bo,0,none⟩ = some (.slice A ln cp):=(show Blk u bo _ _ from ho).cell 0
  have c2 : u.frozen? ⟨bo,0,none⟩ = false:=(show Blk u bo _ _ from ho).frozen 0
  have c3 : u.cell? ⟨g.tv,0,none⟩ = some (.pointer (some ⟨g.tb,0,none⟩)):=hv
  have c4 : u.cell? ⟨g.tb,2,none⟩ = some bv:=h2
  have hsame:=World.cell?_setCell_same u ⟨bo,0,none⟩ (.slice A ln cp) c1
  have hf3:=World.cell?_setCell_other u ⟨bo,0,none⟩ ⟨g.tv,0,none⟩ (.slice A ln cp) (by intro q; injection q with q; exact hn1 q)
  have hf4:=World.cell?_setCell_other u ⟨bo,0,none⟩ ⟨g.tb,2,none⟩ (.slice A ln cp) (by intro q; injection q with q; exact hn2 q)
  rw [c3] at hf3
  rw [c4] at hf4
  clear ho hv h2
  go_region_held3 (fun w'=>w'.cell? ⟨bo,0,none⟩ = some (.slice A ln cp)∧w'.frozen? ⟨bo,0,none⟩ = false∧w'.cell? ⟨g.tv,0,none⟩ = some (.pointer (some ⟨g.tb,0,none⟩))∧w'.cell? ⟨g.tb,2,none⟩ = some bv) (first | exact ⟨c1,c2,c3,c4⟩ | exact ⟨hsame,by simp; exact c2,hf3,hf4⟩ | go_keep) (fail)
  all_goals
   refine ⟨rfl,rfl,rfl,rfl,rfl,fun b hb=>?_,?_,rfl,rfl,hsame⟩
   ·exact Below.heap_setCell u ⟨bo,0,none⟩ _ b hb
   ·show (u.setCell _ _).heap.size = u.heap.size
    simp [World.setCell]
 rintro f' w' ⟨k7,k8,_,kb,ks,ko,kp,kc⟩
 simp only [fill,fillL,List.range',List.cons_append,List.nil_append,List.set_cons_zero,List.set_cons_succ,Nat.reduceAdd]
 simp only [k7,k8]
 refine Lg.move _ (fun _ _=>step_ret) id ?_
 refine Lg.leave rfl Try.func67 rfl (v:=.tuple #[.slice A ln cp,.bool st,bv]) (fun y τ n hy=>?_) (HT.out w' kb ks ko kp)
 have c1 : y.cell? ⟨bo,0,none⟩ = some (.slice A ln cp):=by rw [hy] at kc; exact kc
 simp [results,Try.f67,go_sem,c1]
theorem own_base {w : World} {base base' : Nat} {e : TypeId} {size n : Nat} {v : Value} {xs : List Value} (h : w.ownsRow base e size v n xs) (hb : base'≤base) : w.ownsRow base' e size v n xs:=by
 obtain ⟨h1,h2⟩:=h
 refine ⟨h1,?_⟩
 rcases h2 with h2 | ⟨g,cap,cur,hv,hg,r⟩
 ·exact .inl h2
 ·exact .inr ⟨g,cap,cur,hv,by omega,r⟩
structure Ready (n mm : Nat) (w : World) (g : Gs) (bn bo bm : Nat) (x : World) : Prop where
 gn : g.n = n
 tu : TuAt g (fun _=>false) (fun _=>false) x
 ch : ∀ c,ChOf g c→x.heap[c]? = some (.chan 0 #[] false 0 0 false)
 apart : ∀ j,j < g.n→g.ps j≠g.bk
 inj : ∀ i j,i < g.n→j < g.n→g.ps i = g.ps j→i = j
 new : ∀ b,Tn g b→w.heap.size≤b∧b < x.heap.size
 old : Old w.heap.size w x
 hn : Blk x bn 3 #[.int .i64 n]
 hm : Blk x bm 3 #[.int .i64 mm]
 ho : Blk x bo 49 #[.slice none 0 0]
 lo : w.heap.size≤bn∧w.heap.size≤bm∧w.heap.size≤bo
 tn : ¬ Tn g bn∧¬ Tn g bm∧¬ Tn g bo
 ne : bn≠bm∧bo≠bn∧bo≠bm
theorem blk_ne {x : World} {a b : Nat} {s t : TypeId} {c d : Array Value} (ha : Blk x a s c) (hb : Blk x b t d) (h : s≠t) : a≠b:=fun e=>by
 subst e
 unfold Blk at ha hb
 rw [ha] at hb
 simp only [Option.some.injEq,Obj.cells.injEq] at hb
 exact h hb.2.1
theorem blk_chan {x : World} {a b : Nat} {s : TypeId} {c : Array Value} {cap n m : Nat} {bf : Array Value} {cl tm : Bool} (ha : Blk x a s c) (hb : x.heap[b]? = some (.chan cap bf cl n m tm)) : a≠b:=fun e=>by
 subst e
 unfold Blk at ha
 rw [ha] at hb
 cases hb
theorem made_ready {n mm tvb tb bk rb bn bo bm : Nat} {w w1 w2 : World} {f : Nat→Value} {v : Value} {sb ps : Nat→Nat} (hn : 0 < n) (M : Made n mm w f w1 tvb tb bk rb bn bo bm) (hb : Blk w1 tb 170 #[.chan (some bk),.slice none 0 0,.slice (some ⟨rb,0,none⟩) n n]) (st : Stood n n tb tvb bk rb w1.heap.size w1 v sb ps w2) :
  ∃ g : Gs,g.tv = tvb∧Ready n mm w g bn bo bm w2:=by
 rcases st.own.2 with ⟨_,h0⟩ | ⟨g0,cp,cur,rfl,hg0,hh0,hle,hmx,hsz,htk⟩
 ·omega
 have key : ∀ {b : Nat} {o : Obj},w1.heap[b]? = some o→b≠tb→w2.heap[b]? = some o:=fun {b o} h hne=>(st.old.2.1 b (lt_of_some h) hne).trans h
 obtain ⟨n1,n2,n3,n4,n5,n6,n7,n8⟩:=M.new
 have tne : ∀ {b : Nat} {t : TypeId} {c : Array Value},Blk w1 b t c→t≠170→b≠tb:=fun h ht=>blk_ne h hb ht
 have hn' : Blk w2 bn 3 #[.int .i64 n]:=key M.hn (tne M.hn (by decide))
 have hm' : Blk w2 bm 3 #[.int .i64 mm]:=key M.hm (tne M.hm (by decide))
 have ho' : Blk w2 bo 49 #[.slice none 0 0]:=key M.ho (tne M.ho (by decide))
 have hv' : Blk w2 tvb 166 #[.pointer (some ⟨tb,0,none⟩)]:=key M.tv (tne M.tv (by decide))
 have hr' : Blk w2 rb 4 (Array.replicate n (.bool false)):=key M.hr (tne M.hr (by decide))
 have hk' : w2.heap[bk]? = some (.chan 0 #[] false 0 0 false):=key M.hk (fun e=>by have:=M.hk; rw [e,show w1.heap[tb]? = _ from hb] at this; cases this)
 have ha' : Blk w2 g0 171 cur:=hh0
 have hlt1:=M.hn.lt
 have hlt2:=M.hm.lt
 have hlt3:=M.ho.lt
 have hlk : bk < w1.heap.size:=lt_of_some M.hk
 have hch : ∀ c,ChOf (⟨n,cp,tvb,tb,g0,rb,bk,sb,ps,166,170,171,174,4⟩ : Gs) c→w2.heap[c]? = some (.chan 0 #[] false 0 0 false):=fun c hc=>by
  rcases hc with rfl | ⟨i,hi,rfl⟩
  ·exact hk'
  ·exact st.p i hi
 have notTn : ∀ {b : Nat} {t : TypeId} {c : Array Value},Blk w2 b t c→b < w1.heap.size→t≠166→t≠170→t≠4→¬ Tn (⟨n,cp,tvb,tb,g0,rb,bk,sb,ps,166,170,171,174,4⟩ : Gs) b:=fun {b t c} hB hlt t1 t2 t3 hT=>by
  rcases hT with rfl | rfl | rfl | rfl | ⟨i,hi,rfl⟩ | hc
  ·exact blk_ne hB hv' t1 rfl
  ·exact blk_ne hB st.ht t2 rfl
  ·exact absurd hg0 (by first | omega | (simp only at hlt; omega))
  ·exact blk_ne hB hr' t3 rfl
  ·have:=(st.lo i hi).1; first | omega | (simp only at hlt; omega)
  ·exact blk_chan hB (hch _ hc) rfl
 refine ⟨⟨n,cp,tvb,tb,g0,rb,bk,sb,ps,166,170,171,174,4⟩,rfl,⟨rfl,⟨hv',st.ht,⟨cur,ha',fun i hi=>?_⟩,fun i hi=>st.s i hi,⟨_,hr',by simp,fun i hi=>?_⟩⟩,hch,fun j hj e=>?_,fun i j hi hj e=>st.inj i j hi hj e,fun b hT=>?_,?_,hn',hm',ho',⟨n2,n4,n3⟩,⟨notTn hn' hlt1 (by decide) (by decide) (by decide),notTn hm' hlt2 (by decide) (by decide) (by decide),notTn ho' hlt3 (by decide) (by decide) (by decide)⟩,⟨M.ne,blk_ne ho' hn' (by decide),blk_ne ho' hm' (by decide)⟩⟩⟩
 ·have h1:=congrArg (·[i]?) htk
  simp only [Nat.mul_one,List.getElem?_take,List.getElem?_map,List.getElem?_range hi,hi,if_true,Option.map_some] at h1
  simpa using h1
 ·simp [show i < n from hi]
 ·have:=(st.lo j hj).2
  simp only at e
  omega
 ·rcases hT with rfl | rfl | rfl | rfl | ⟨i,hi,rfl⟩ | hc
  ·exact ⟨n5,hv'.lt⟩
  ·exact ⟨n6,st.ht.lt⟩
  ·have:=n1.size; exact ⟨by first | omega | (simp only; omega),ha'.lt⟩
  ·exact ⟨n8,hr'.lt⟩
  ·have:=(st.lo i hi).1; have:=n1.size; exact ⟨by first | omega | (simp only; omega),(st.s i hi).lt⟩
  ·refine ⟨?_,lt_of_some (hch _ hc)⟩
   rcases hc with rfl | ⟨i,hi,rfl⟩
   ·exact n7
   ·have:=(st.lo i hi).2; have:=n1.size; first | omega | (simp only; omega)
 ·exact n1.trans ⟨st.old.1,fun b hb'=>st.old.2.1 b (by have:=n1.size; omega) (fun e=>by omega),st.old.2.2⟩
structure SchI (W0 : World) (sv : Value) (xs : List Int) (Z : Nat→Prop) (x : World) : Prop where
 at_ : ∃ A c,sv = .slice A xs.length c∧∀ i,i < xs.length→∃ b o cs t r,A = some ⟨b,o,none⟩∧x.heap[b]? = some (.cells cs t r)∧(b < W0.heap.size∨(r.2 < big∧¬ Z b))∧cs[o + i]? = some (.int .i64 (xs.getD i 0))
 len : xs.length≤maxLen
structure OverDone (q : Shd) (W0 : World) (n : Nat) (cc : Run q.S) (H₀ : Nat→Prop) (w : World) (v : Value) (w' : World) : Prop where
 val : ∃ ov bv,v = .tuple #[ov,.bool (decide (0 < cc.m.left n)),bv]∧w'.ownsRow w.heap.size 3 1 ov cc.order.length (cc.order.map (Value.int .i64))
 rep : ∃ H,q.Rep cc.m.s H w'∧∀ (b : Nat) (c : Array Value) (t : TypeId) (r : Nat × Nat),(b < W0.heap.size∨(r.2 < big∧¬ H₀ b∧¬ q.RB b))→w.heap[b]? = some (.cells c t r)→¬ H b
 rb : ∀ b,q.RB b→W0.heap.size≤b→∀ c t r,q.rv b = .cells c t r→w'.heap[b]? = some (q.rv b)
 size : w.heap.size≤w'.heap.size
 near : ∀ (b : Nat) (c : Array Value) (t : TypeId) (r : Nat × Nat),(b < W0.heap.size∨(r.2 < big∧¬ H₀ b∧¬ q.RB b))→w.heap[b]? = some (.cells c t r)→w'.heap[b]? = some (.cells c t r)
 io : w'.os = w.os∧w'.output = w.output
structure OverAsks (q : Shd) (W0 : World) (s0 : q.S) (H₀ : Nat→Prop) (w : World) : Prop where
 rep : q.Rep s0 H₀ w
 sh : ∀ b,H₀ b→b < w.heap.size
 rb : ∀ b,q.RB b→b < w.heap.size∧¬ H₀ b∧∃ c t r,q.rv b = .cells c t r∧w.heap[b]? = some (.cells c t r)∧(r.2 < big∨b < W0.heap.size)
 io : w.os = q.os∧w.output = q.out
theorem Ready.re {n mm : Nat} {w : World} {g : Gs} {bn bo bm : Nat} {y : World} {τ : Nat→Question→Nat} {d : Nat} (h : Ready n mm w g bn bo bm (y.re τ d)) : Ready n mm w g bn bo bm y:=
 ⟨h.gn,⟨h.tu.v,h.tu.t,h.tu.a,h.tu.s,h.tu.b⟩,h.ch,h.apart,h.inj,h.new,h.old.re,h.hn,h.hm,h.ho,h.lo,h.tn,h.ne⟩
theorem Ready.alloc {n mm : Nat} {w : World} {g : Gs} {bn bo bm : Nat} {y : World} (h : Ready n mm w g bn bo bm y) (o : Obj) : Ready n mm w g bn bo bm (y.alloc o):=by
 have key : ∀ {b : Nat} {x : Obj},y.heap[b]? = some x→(y.alloc o).heap[b]? = some x:=fun {b x} hb=>(Below.heap_alloc y o b (lt_of_some hb)).trans hb
 exact ⟨h.gn,tuAt_of h.tu fun b c t hb=>key hb,fun c hc=>key (h.ch c hc),h.apart,h.inj,fun b hb=>⟨(h.new b hb).1,by have:=(h.new b hb).2; simp; omega⟩,h.old.new h.old.size o,h.hn.alloc o,h.hm.alloc o,h.ho.alloc o,h.lo,h.tn,h.ne⟩
theorem Old.keep {B : Nat} {a b : World} (h : Old B a b) {i : Nat} {o : Obj} (hi : i < B) (ha : a.heap[i]? = some o) : b.heap[i]? = some o:=(h.block i hi).trans ha
set_option maxHeartbeats 2000000 in
set_option maxRecDepth 100000 in
theorem over_close (hP : Prog Try.prog) (e : Env Try.prog) {t : Nat × Mach e.S} {bn bo bm bl : Nat} {k : List Item} {mid : List Frame} (ts sv : Value) (mo : Int) {f : Nat→Value} {x0 : World} (hf : Sl2 f e.g bn bo bm bl)
  (hT : ∀ f' w',Sl3 f' e.g bn bo bm bl→HeldM x0 w'→x0.heap.size = w'.heap.size→(lgM hP e).T t (Frame.at { (default : Frame) with fn:=67,kind:=.normal } ⟨frO ts sv mo f',[]⟩ k) mid w') :
  (lgM hP e).T t (Frame.at { (default : Frame) with fn:=67,kind:=.normal } ⟨frO ts sv mo f,[]⟩ (.code (seqL (seqR (seqR (seqR (seqR (seqR (seqR (seqR (Try.f67.body.getD .skip))))))))) :: k)) mid x0:=by
 simp only [Try.f67,Option.getD_some,seqR,seqL]
 have HT:=Lib.hid hT
 clear hT
 have h5:=hf.sl.f5
 have h6:=hf.sl.f6
 have h9:=hf.sl.f9
 have h10:=hf.sl.f10
 have h11:=hf.f11
 simp only [frO,h5,h6,h9,h10,h11]
 refine Lg.code fun K hK u τ n hu=>?_
 subst hu
 go_wp2
 refine hK _ _ (fun h=>h.elim) ?_
 clear hK K
 exact Lg.family (frO ts sv mo) (R:=fun f'=>Sl3 f' e.g bn bo bm bl) (fun f' hf'=>HT.out f' _ hf' ⟨Nat.le_refl _,fun _ _ _ _ h _=>h⟩ rfl) (by rfl) ⟨⟨⟨rfl,rfl,hf.sl.f7,rfl,rfl⟩,rfl⟩,rfl⟩
set_option maxHeartbeats 4000000 in
set_option maxRecDepth 100000 in
theorem over_main (hP : Prog Try.prog) (Post : Value→World→Prop) (W0 : World) (q : Shd) (birth : Nat→q.S→Tree q.S q.S) (MI : Mach q.S→Prop) (caps : Nat→Array Value) (ta : Addr) (nt cap n mm : Nat) (hM : MInv MI n) (hn64 : n≤64) (hn0 : 0 < n) (hnt : n≤nt) (hmost : mm≤1048576) (sv : Value) (xs : List Int) (most : Int) (s0 : q.S) (hwh : ∀ j,j < n→birth j (Mach.born birth ⟨s0,fun _=>.unborn⟩ j).s≠.cut) (hM0 : MI (Mach.born birth ⟨s0,fun _=>.unborn⟩ n)) (H₀ : Nat→Prop) (w : World)
  (hask : OverAsks q W0 s0 H₀ w) (hfun : Funs n ta caps w) (hta : ¬ H₀ ta.block∧¬ q.RB ta.block) (hsch : SchI W0 sv xs (fun b=>H₀ b∨q.RB b) w)
  (hlaw : ∀ g b pos apart inj i,i < g.n→g.n = n→∀ s H x,q.Rep s H x→ThreadLaw (q.env Try.prog Post W0 g b pos apart inj) i (caps i) s (birth i s) x)
  {c' : Frame} {mid : List Frame} (hR : ∀ v w',OverDone q W0 n (playRun birth n mm xs s0) H₀ w v w'→(lgA hP Post W0).T () (c'.finish v) mid w')
  {g : Gs} {bn bo bm bl : Nat} {f : Nat→Value} {x : World} (R : Ready n mm w g bn bo bm x) (hl : Blk x bl 3 #[.int .i64 0]) (hll : w.heap.size≤bl∧bl≠bn∧bl≠bm∧bl≠bo∧¬ Tn g bl) (hf : Sl2 f g bn bo bm bl) :
  (lgA hP Post W0).T () (Frame.at { (default : Frame) with fn:=67,kind:=.normal } ⟨frO (.slice (some ta) nt cap) sv most f,[]⟩ (.code (seqR (seqR (seqR (seqR (seqR (seqR (Try.f67.body.getD .skip))))))) :: [])) (c' :: mid) x:=by
 have hH:=fun (e : Env Try.prog) (hn : e.g.n≤64)=>over_hire hP e hn
 intro N
 by_cases hN : N = 0
 ·intro d hl2 hK0 hI gs sl T q' B hL hp ha hsz
  have:=(Array.getElem?_eq_some_iff.1 ha).1
  omega
 have pos : 0 < N:=by omega
 have hgn:=R.gn
 have oldc : ∀ (b : Nat) (c : Array Value) (t : TypeId) (r : Nat × Nat),w.heap[b]? = some (.cells c t r)→x.heap[b]? = some (.cells c t r):=fun b c t r h=>R.old.keep (lt_of_some h) h
 refine begin_run (q:=q) (W0:=W0) (N:=N) (B:=w.heap.size) pos R.apart R.inj (s0:=s0) (H₀:=H₀) ?_ hask.sh (fun b hb=>?_) (fun b hb=>(R.new b hb).1) R.tu R.ch ⟨R.old.io.1.trans hask.io.1,R.old.io.2.trans hask.io.2⟩ fun x' hx=>?_
 ·exact q.rep s0 H₀ w x hask.rep (fun b hb=>R.old.block b (hask.sh b hb)) fun b c t r hb h=>⟨r,oldc _ _ _ _ h⟩
 ·obtain ⟨h1,h2,c,t,r,h3,h4,h5⟩:=hask.rb b hb
  exact ⟨h1,h2,c,t,r,h3,oldc _ _ _ _ h4,h5⟩
-- goroutine 0 among the threads
 have newb : ∀ b,w.heap.size≤b→¬ H₀ b∧¬ q.RB b:=fun b hb=>⟨fun z=>by have:=hask.sh b z; omega,fun z=>by have:=(hask.rb b z).1; omega⟩
 have nearx : ∀ {b : Nat} {t : TypeId} {c : Array Value},Blk x b t c→w.heap.size≤b→¬ Tn g b→Blk x' b t c:=fun {b t c} hB hb ht=>hx.own b c t (0,0) (.inr ⟨by decide,(newb b hb).1,(newb b hb).2,ht⟩) hB
 have oldn : ∀ (b : Nat) (c : Array Value) (t : TypeId) (r : Nat × Nat),(b < W0.heap.size∨(r.2 < big∧¬ H₀ b∧¬ q.RB b))→w.heap[b]? = some (.cells c t r)→x'.heap[b]? = some (.cells c t r):=fun b c t r hc h3=>hx.own b c t r (hc.imp id fun z=>⟨z.1,z.2.1,z.2.2,fun z=>by have:=(R.new b z).1; have:=lt_of_some h3; omega⟩) (oldc _ _ _ _ h3)
 have nrw : ∀ (b : Nat) (c : Array Value) (t : TypeId) (r : Nat × Nat),(b < W0.heap.size∨(r.2 < big∧¬ H₀ b∧¬ q.RB b))→w.heap[b]? = some (.cells c t r)→(r.2 < big∨r.2 % 2 = 1):=fun b c t r hc h3=>by
  rcases hc with hc | hc
  ·exact .inr (hx.odd b c t r hc (oldc _ _ _ _ h3))
  ·exact .inl hc.1
 have xn : Blk x' bn 3 #[.int .i64 n]:=nearx R.hn R.lo.1 R.tn.1
 have xm : Blk x' bm 3 #[.int .i64 mm]:=nearx R.hm R.lo.2.1 R.tn.2.1
 have xo : Blk x' bo 49 #[.slice none 0 0]:=nearx R.ho R.lo.2.2 R.tn.2.2
 have xl : Blk x' bl 3 #[.int .i64 0]:=nearx hl hll.1 hll.2.2.2.2
 let e : Env Try.prog:=q.env Try.prog Post W0 g N pos R.apart R.inj
 show (lgM hP e).T (e.b,⟨s0,fun _=>.unborn⟩) _ _ x'
 rw [show seqR (seqR (seqR (seqR (seqR (seqR (Try.f67.body.getD .skip)))))) = .seq (seqL (seqR (seqR (seqR (seqR (seqR (seqR (Try.f67.body.getD .skip)))))))) (seqR (seqR (seqR (seqR (seqR (seqR (seqR (Try.f67.body.getD .skip)))))))) from rfl]
 refine Lg.move _ (fun _ _=>step_seq) id ?_
 have hgn' : e.g.n = n:=hgn
 refine over_hire hP e (by rw [hgn']; exact hn64) birth s0 (by rw [hgn']; exact hwh) caps (fun i hi s H x hr=>hlaw g N pos R.apart R.inj i hi hgn s H x hr) ?_ ta nt cap sv most (by rw [hgn']; exact hnt) hf (by rw [hgn']; exact xn) xl (Ne.symm hll.2.1) ?_ ?_ ?_
 ·intro i hi
  simp only [List.mem_singleton] at hi
  subst hi
  simp only [ItemOk]
  kernel_rfl
 ·obtain ⟨⟨c,t,r,k1,k2,k3⟩,k4⟩:=hfun
  exact ⟨⟨c,t,r,oldn _ _ _ _ (.inr ⟨k2,hta.1,hta.2⟩) k1,k2,by rw [hgn']; exact k3⟩,k4⟩
 ·obtain ⟨⟨c,t,r,k1,k2,k3⟩,k4⟩:=hfun
  have:=lt_of_some k1
  omega
 intro f2 w4 hf2 hh
 rw [show seqR (seqR (seqR (seqR (seqR (seqR (seqR (Try.f67.body.getD .skip))))))) = .seq (seqL (seqR (seqR (seqR (seqR (seqR (seqR (seqR (Try.f67.body.getD .skip))))))))) (seqR (seqR (seqR (seqR (seqR (seqR (seqR (seqR (Try.f67.body.getD .skip))))))))) from rfl]
 refine Lg.move _ (fun _ _=>step_seq) id ?_
 refine over_close hP e (.slice (some ta) nt cap) sv most hf2 fun f3 w5 hf3 h5 hs5=>?_
-- the state at the loops
 have hh5 : HeldX (fun b=>b = bl) x' w5:=hh.held.trans h5.x
 have hsz5 : x.heap.size≤w5.heap.size:=by have:=hx.size; have:=hh5.size; omega
 have wn : Blk w5 bn 3 #[.int .i64 e.g.n]:=by rw [hgn']; exact blk_heldx hh5 xn (Ne.symm hll.2.1)
 have wm : Blk w5 bm 3 #[.int .i64 mm]:=blk_heldx hh5 xm (Ne.symm hll.2.2.1)
 have wo : Blk w5 bo 49 #[.slice none 0 0]:=blk_heldx hh5 xo (Ne.symm hll.2.2.2.1)
 have wl : Blk w5 bl 3 #[.int .i64 ((Mach.born birth ⟨s0,fun _=>.unborn⟩ e.g.n).left e.g.n)]:=h5.block _ _ _ _ hh.l (.inl (by decide))
 have hO : OvL e MI w5.heap.size bn bo bm bl mm w5 ⟨Mach.born birth ⟨s0,fun _=>.unborn⟩ e.g.n,[]⟩ w5:=by
  refine ⟨⟨wn,wm,wl,⟨_,wo,rfl,.inl ⟨rfl,rfl⟩⟩,⟨wn.lt,wo.lt,wm.lt,wl.lt,Nat.le_refl _⟩,⟨R.ne.2.1,R.ne.2.2,Ne.symm hll.2.2.2.1,hll.2.1,hll.2.2.1⟩⟩,HeldX.refl _ _,Nat.zero_le _,fun j hj=>born_good _ _ (by rw [hgn']; exact hwh) j hj,by rw [hgn']; exact hM0⟩
 have hnear5 : ∀ (b : Nat) (c : Array Value) (t : TypeId) (r : Nat × Nat),(b < W0.heap.size∨(r.2 < big∧¬ H₀ b∧¬ q.RB b))→w.heap[b]? = some (.cells c t r)→w5.heap[b]? = some (.cells c t r):=fun b c t r hc h3=>hh5.block b c t r (fun z=>by have:=lt_of_some h3; omega) (oldn b c t r hc h3) (nrw b c t r hc h3)
 have hS5 : Sch sv xs (OvZ w5.heap.size bo bl) w5:=by
  refine ⟨?_,hsch.len⟩
  obtain ⟨A,cp,hsv,hcs⟩:=hsch.at_
  refine ⟨A,cp,hsv,fun i hi=>?_⟩
  obtain ⟨b,o,cs,t,r,h1,h2,h3,h6⟩:=hcs i hi
  have hbw:=lt_of_some h2
  have hc : b < W0.heap.size∨(r.2 < big∧¬ H₀ b∧¬ q.RB b):=h3.imp id fun z=>⟨z.1,fun y=>z.2 (.inl y),fun y=>z.2 (.inr y)⟩
  refine ⟨b,o,cs,t,r,h1,hnear5 b cs t r hc h2,nrw b cs t r hc h2,fun z=>?_,h6⟩
  have:=R.lo
  have:=R.old.size
  have:=hsz5
  rcases z with z | z | z <;> omega
 rw [show seqR (seqR (seqR (seqR (seqR (seqR (seqR (seqR (Try.f67.body.getD .skip)))))))) = .seq (seqL (seqR (seqR (seqR (seqR (seqR (seqR (seqR (seqR (Try.f67.body.getD .skip)))))))))) (seqR (seqR (seqR (seqR (seqR (seqR (seqR (seqR (seqR (Try.f67.body.getD .skip)))))))))) from rfl]
 refine Lg.move _ (fun _ _=>step_seq) id ?_
 refine over_sched hP e (by rw [hgn']; exact hn64) (MI:=MI) (by rw [hgn']; exact hM) hmost (.slice (some ta) nt cap) sv most xs hf3 hS5 hO fun f4 w6 hf4 hO6=>?_
 rw [show seqR (seqR (seqR (seqR (seqR (seqR (seqR (seqR (seqR (Try.f67.body.getD .skip))))))))) = .seq (seqL (seqR (seqR (seqR (seqR (seqR (seqR (seqR (seqR (seqR (Try.f67.body.getD .skip))))))))))) (seqR (seqR (seqR (seqR (seqR (seqR (seqR (seqR (seqR (seqR (Try.f67.body.getD .skip))))))))))) from rfl]
 refine Lg.move _ (fun _ _=>step_seq) id ?_
 refine over_rounds hP e (by rw [hgn']; exact hn64) (MI:=MI) (by rw [hgn']; exact hM) hmost (.slice (some ta) nt cap) sv most hf4 ⟨hO6.s,HeldX.refl _ _,hO6.le,hO6.good,hO6.mi⟩ fun f5 w7 hf5 hO7=>?_
 rw [show seqR (seqR (seqR (seqR (seqR (seqR (seqR (seqR (seqR (seqR (Try.f67.body.getD .skip)))))))))) = .seq (seqL (seqR (seqR (seqR (seqR (seqR (seqR (seqR (seqR (seqR (seqR (Try.f67.body.getD .skip)))))))))))) (seqR (seqR (seqR (seqR (seqR (seqR (seqR (seqR (seqR (seqR (seqR (Try.f67.body.getD .skip)))))))))))) from rfl]
 refine Lg.move _ (fun _ _=>step_seq) id ?_
 refine over_stuck hP e (.slice (some ta) nt cap) sv most hf5 hO7.s fun f6 w8 hf6 h8=>?_
 rw [show seqR (seqR (seqR (seqR (seqR (seqR (seqR (seqR (seqR (seqR (seqR (Try.f67.body.getD .skip))))))))))) = .seq (seqL (seqR (seqR (seqR (seqR (seqR (seqR (seqR (seqR (seqR (seqR (seqR (Try.f67.body.getD .skip))))))))))))) (seqR (seqR (seqR (seqR (seqR (seqR (seqR (seqR (seqR (seqR (seqR (seqR (Try.f67.body.getD .skip))))))))))))) from rfl]
 refine Lg.move _ (fun _ _=>step_seq) id ?_
 refine over_loose hP e (by rw [hgn']; exact hn64) (.slice (some ta) nt cap) sv most hO7.good hf6 fun f7 w9 hf7 h9=>?_
-- all are over
 have hc : (Run.rounds e.g.n mm mm (Run.turns e.g.n mm ⟨Mach.born birth ⟨s0,fun _=>.unborn⟩ e.g.n,[]⟩ xs)) = playRun birth n mm xs s0:=by rw [hgn']; rfl
 have hover : ∀ i,i < g.n→((Run.rounds e.g.n mm mm (Run.turns e.g.n mm ⟨Mach.born birth ⟨s0,fun _=>.unborn⟩ e.g.n,[]⟩ xs)).m.ended e.g.n).th i = .over:=fun i hi=>ended_over hO7.good e.g.n (Nat.le_refl _) i hi
 obtain ⟨ov,hov,hown⟩:=hO7.s.o
 have hov9 : Blk w9 bo 49 #[ov]:=blk_heldx (HeldX.trans h8.x h9.x) hov (Z:=fun _=>False) id
 have hown9:=own_heldm (h8.trans h9) hown
 refine end_run (q:=q) (W0:=W0) (P:=Try.prog) (pos:=pos) (apart:=R.apart) (inj:=R.inj) hover fun x2 s1=>?_
 have hs : (((Run.rounds e.g.n mm mm (Run.turns e.g.n mm ⟨Mach.born birth ⟨s0,fun _=>.unborn⟩ e.g.n,[]⟩ xs)).m.ended e.g.n)).s = (playRun birth n mm xs s0).m.s:=by rw [ended_s,hc]
 obtain ⟨ov2,br2,htu⟩:=s1.tu hx.tn
 obtain ⟨H₁,hre1,hfar⟩:=s1.rep
 have hbo : ¬ H₁ bo:=hfar bo _ _ (0,0) (.inr (by decide)) hov9
 have xbo : Blk x2 bo 49 #[ov]:=s1.own bo _ _ (0,0) (.inr (by decide)) hov9
 obtain ⟨A,ln,rfl⟩ : ∃ A ln,ov = .slice A _ ln:=own_slice hown
 have htv:=htu.tv'
 have nt1 : bo≠g.tv:=fun z=>R.tn.2.2 (.inl z)
 have nt2 : bo≠g.tb:=fun z=>R.tn.2.2 (.inr (.inl z))
 show (lgAl hP Post W0 (e.b + e.g.n)).T () _ _ x2
 refine over_last (lgAl hP Post W0 (e.b + e.g.n)) (fun h=>h) (.slice (some ta) nt cap) sv most hf7 xbo htv.v htv.t2 nt1 nt2 ⟨_,_,_,rfl⟩ fun w' kb ks ko kp=>?_
 have hbw : w.heap.size≤bo:=R.lo.2.2
 have k9 : ∀ (b : Nat) (c : Array Value) (t : TypeId) (r : Nat × Nat),(b < W0.heap.size∨(r.2 < big∧¬ H₀ b∧¬ q.RB b))→w.heap[b]? = some (.cells c t r)→w9.heap[b]? = some (.cells c t r):=fun b c t r hc h3=>by
  have h4:=nrw b c t r hc h3
  have hbl:=lt_of_some h3
  have z2 : ¬ OvZ w5.heap.size bo bl b:=fun z=>by have:=hll.1; have:=R.old.size; rcases z with z | z | z <;> omega
  exact (h8.trans h9).block b c t r ((hO6.held.trans hO7.held).block b c t r z2 (hnear5 b c t r hc h3) h4) h4
 refine hR _ w' ?_ (e.b + e.g.n)
 refine ⟨⟨.slice A (Run.rounds e.g.n mm mm (Run.turns e.g.n mm ⟨Mach.born birth ⟨s0,fun _=>.unborn⟩ e.g.n,[]⟩ xs)).order.length ln,.slice (some ⟨g.rb,0,none⟩) g.n g.n,?_,?_⟩,?_,?_,?_,?_,?_⟩
 ·rw [← hc,← hgn']; rfl
 ·rw [← hc]
  obtain ⟨e1,e2⟩:=hown9
  refine own_base (base:=w5.heap.size) ⟨e1,?_⟩ (by have:=R.old.size; omega)
  rcases e2 with e2 | ⟨g0,cp,cur,hv,hg0,hh0,r⟩
  ·exact .inl e2
  ·refine .inr ⟨g0,cp,cur,hv,hg0,(kb g0 (by have:=hO.s.lt; omega)).trans (s1.own _ _ _ (0,0) (.inr (by decide)) hh0),r⟩
 ·have this : q.Rep (((Run.rounds e.g.n mm mm (Run.turns e.g.n mm ⟨Mach.born birth ⟨s0,fun _=>.unborn⟩ e.g.n,[]⟩ xs)).m.ended e.g.n)).s H₁ x2:=hre1
  have this : q.Rep (playRun birth n mm xs s0).m.s H₁ x2:=hs ▸ this
  refine ⟨H₁,?_,fun b c t r hc h3=>hfar b c t r (hc.imp id fun z=>z.1) (k9 b c t r hc h3)⟩
  exact q.rep _ H₁ x2 w' this (fun b hb=>kb b (fun z=>hbo (z ▸ hb))) fun b c t r hb h=>⟨r,(kb b (fun z=>(newb bo hbw).2 (z ▸ hb))).trans h⟩
 ·intro b hb hge c t r hv
  exact (kb b (fun z=>(newb bo hbw).2 (z ▸ hb))).trans (s1.rb b hb hge c t r hv)
 ·have:=R.old.size
  have:=hsz5
  have:=hO6.held.size
  have:=hO7.held.size
  have:=h8.size
  have:=h9.size
  have:=s1.size
  omega
 ·intro b c t r hc h3
  have hbl:=lt_of_some h3
  have z1 : b≠bo:=by omega
  exact (kb b z1).trans (s1.own b c t r (hc.imp id fun z=>z.1) (k9 b c t r hc h3))
 ·exact ⟨ko.trans (s1.io.1.trans hask.io.1.symm),kp.trans (s1.io.2.trans hask.io.2.symm)⟩
set_option maxHeartbeats 2000000 in
set_option maxRecDepth 100000 in
theorem over_left {κ : Type} (L : Lg Try.prog κ) (hs : ¬ L.strict) {t : κ} {b : Frame} {k : List Item} {mid : List Frame} (ta : Addr) (nt cap : Nat) (sv : Value) (mo : Int) {f : Nat→Value} {g : Gs} {bn bo bm : Nat} {x0 : World} (hf : Sl f g.tv bn bo bm)
  (hT : ∀ f' (y : World),(∃ τ n,x0 = y.re τ n)→Sl2 f' g bn bo bm y.heap.size→L.T t (b.at ⟨frO (.slice (some ta) nt cap) sv mo f',[]⟩ k) mid (y.alloc (.cells #[.int .i64 0] 3))) :
  L.T t (b.at ⟨fill f (#[.slice (some ta) nt cap,sv,.int .i64 mo] ++ Array.replicate (Try.f67.ntmps - 3) undef) ns1,[]⟩ (.code (seqL (seqR (seqR (seqR (seqR (seqR (Try.f67.body.getD .skip))))))) :: k)) mid x0:=by
 have HT:=Lib.hid hT
 clear hT
 simp only [Try.f67,Option.getD_some,Nat.reduceSub,Array.replicate_succ,Array.replicate_zero,List.push_toArray,List.append_toArray,List.nil_append,List.cons_append,seqR,seqL]
 simp only [fill,fillL,ns1,List.range',List.cons_append,List.nil_append,List.set_cons_zero,List.set_cons_succ,Nat.reduceAdd]
 refine Lg.code fun K hK u τ n hu=>?_
 go_wp2
 refine hK _ _ (fun h=>absurd h hs) ?_
 clear hK K
 exact Lg.family (frO (.slice (some ta) nt cap) sv mo) (R:=fun f'=>Sl2 f' g bn bo bm u.heap.size) (fun f' hf'=>HT.out f' u ⟨τ,n,hu⟩ hf') (by rfl) ⟨⟨hf.f5,hf.f6,hf.f7,hf.f9,hf.f10⟩,rfl⟩
set_option maxHeartbeats 2000000 in
set_option maxRecDepth 100000 in
theorem over_calls (hP : Prog Try.prog) (Post : Value→World→Prop) (W0 : World) (q : Shd) (birth : Nat→q.S→Tree q.S q.S) (MI : Mach q.S→Prop) (caps : Nat→Array Value) (ta : Addr) (nt cap : Nat) (hM : MInv MI (min nt 64)) (hnt : nt≤maxLen) (hpos : 0 < nt) (sv : Value) (xs : List Int) (most : Int) (s0 : q.S) (hwh : ∀ j,j < min nt 64→birth j (Mach.born birth ⟨s0,fun _=>.unborn⟩ j).s≠.cut) (hM0 : MI (Mach.born birth ⟨s0,fun _=>.unborn⟩ (min nt 64))) (H₀ : Nat→Prop) (w : World)
  (hask : OverAsks q W0 s0 H₀ w) (hfun : Funs (min nt 64) ta caps w) (hta : ¬ H₀ ta.block∧¬ q.RB ta.block) (hsch : SchI W0 sv xs (fun b=>H₀ b∨q.RB b) w)
  (hlaw : ∀ g b pos apart inj i,i < g.n→g.n = min nt 64→∀ s H x,q.Rep s H x→ThreadLaw (q.env Try.prog Post W0 g b pos apart inj) i (caps i) s (birth i s) x) :
  Ccalls (lgA hP Post W0) 67 #[.slice (some ta) nt cap,sv,.int .i64 most] () w fun v _ w'=>OverDone q W0 (min nt 64) (playRun birth (min nt 64) (heldI most 1048576).toNat xs s0) H₀ w v w':=by
 intro c' mid hR
 have hR:=Lib.hid hR
 rw [show Frame.enter Try.prog 67 #[.slice (some ta) nt cap,sv,.int .i64 most] .normal = Frame.at { (default : Frame) with fn:=67,kind:=.normal } ⟨#[.slice (some ta) nt cap,sv,.int .i64 most] ++ Array.replicate (Try.f67.ntmps - 3) undef,[]⟩ [.code (Try.f67.body.getD .skip)] from by simp [Frame.enter,Frame.at,Try.func67]; rfl]
 have hs : ¬ (lgA hP Post W0).strict:=fun h=>h
 have hn64 : min nt 64≤64:=by omega
 have hn0 : 0 < min nt 64:=by omega
 have hmost : (heldI most 1048576).toNat≤1048576:=by unfold heldI; omega
 refine over_pre3 (lgA hP Post W0) hs (some ta) nt cap sv most hnt ?_
 rintro f1 w1 ⟨tvb,tb,bk,rb,bn,bo,bm,M,hb⟩
 refine over_pre4 (lgA hP Post W0) hs (some ta) nt cap sv most hn64 M hb ?_
 rintro w2 ⟨v2,sb,ps,st⟩ f2 hf2
 obtain ⟨g,hgt,R⟩:=made_ready hn0 M hb st
 rw [show seqR (seqR (seqR (seqR (seqR (Try.f67.body.getD .skip))))) = .seq (seqL (seqR (seqR (seqR (seqR (seqR (Try.f67.body.getD .skip))))))) (seqR (seqR (seqR (seqR (seqR (seqR (Try.f67.body.getD .skip))))))) from rfl]
 refine Lg.move _ (fun _ _=>step_seq) id ?_
 refine over_left (lgA hP Post W0) hs ta nt cap sv most (by rw [hgt]; exact hf2) ?_
 rintro f3 y ⟨τ,d,rfl⟩ hf3
 have Ry:=R.re
 have hlt : ∀ b,Tn g b→b < y.heap.size:=fun b hb=>(Ry.new b hb).2
 exact over_main hP Post W0 q birth MI caps ta nt cap (min nt 64) (heldI most 1048576).toNat hM hn64 hn0 (by omega) hmost sv xs most s0 hwh hM0 H₀ w hask hfun hta hsch hlaw (fun v w' h=>hR.out v () w' h) (Ry.alloc _) (Blk.new y 3 #[.int .i64 0]) ⟨Ry.old.size,fun z=>by have:=Ry.hn.lt; omega,fun z=>by have:=Ry.hm.lt; omega,fun z=>by have:=Ry.ho.lt; omega,fun z=>by have:=hlt _ z; omega⟩ hf3
theorem turn_none (i : Int) (bn : Nat) (p1 p2 p3 p4 : Value) (w : World) (h : w.cell? ⟨bn,0,none⟩ = some (.int .i64 0)) : Calls Try.prog 83 #[.int .i64 i,.pointer (some ⟨bn,0,none⟩),p1,p2,p3,p4] w fun e w'=>e = .returned (.tuple #[])∧w = w':=by
 by_cases hi : i < 0
 ·have h1 : decide (i < 0) = true:=by simpa using hi
  go_enter Try.func83,Try.ntmps83
  go_wp2
  (try simp only [Exit.inBlock,Exit.then]); refine bodyPost_ret (results_none rfl _ _ _) rfl ?_
  exact ⟨rfl,rfl⟩
 ·have h1 : decide (i < 0) = false:=by simpa using hi
  have h2 : decide (0≤i) = true:=by simp; omega
  go_enter Try.func83,Try.ntmps83
  go_wp2
  (try simp only [Exit.inBlock,Exit.then]); refine bodyPost_ret (results_none rfl _ _ _) rfl ?_
  exact ⟨rfl,rfl⟩
set_option maxHeartbeats 4000000 in
set_option maxRecDepth 100000 in
theorem over_none {κ : Type} (L : Lg Try.prog κ) (hs : ¬ L.strict) (t : κ) (W0 : World) (Z : Nat→Prop) (tA : Option Addr) (cp : Nat) (sv : Value) (most : Int) (xs : List Int) (w : World) (hsch : SchI W0 sv xs Z w) :
  Ccalls L 67 #[.slice tA 0 cp,sv,.int .i64 most] t w fun v t' w'=>t' = t∧(∃ bv,v = .tuple #[.slice none 0 0,.bool false,bv])∧Old w.heap.size w w':=by
 intro c' mid hR
 have hR:=Lib.hid hR
 rw [show Frame.enter Try.prog 67 #[.slice tA 0 cp,sv,.int .i64 most] .normal = Frame.at { (default : Frame) with fn:=67,kind:=.normal } ⟨#[.slice tA 0 cp,sv,.int .i64 most] ++ Array.replicate (Try.f67.ntmps - 3) undef,[]⟩ [.code (Try.f67.body.getD .skip)] from by simp [Frame.enter,Frame.at,Try.func67]; rfl]
 refine over_pre3 L hs tA 0 cp sv most (by decide) ?_
 rintro f1 w1 ⟨tvb,tb,bk,rb,bn,bo,bm,M,hb⟩
 refine over_pre4 L hs tA 0 cp sv most (by decide) M hb ?_
 rintro w2 ⟨v2,sb,ps,st⟩ f2 hf2
 have e0 : min 0 64 = 0:=rfl
 rw [e0] at M st hb
 have tne : ∀ {b : Nat} {u : TypeId} {c : Array Value},Blk w1 b u c→u≠170→b≠tb:=fun h ht=>blk_ne h hb ht
 have key : ∀ {b : Nat} {o : Obj},w1.heap[b]? = some o→b≠tb→w2.heap[b]? = some o:=fun {b o} h hne=>(st.old.2.1 b (lt_of_some h) hne).trans h
 have hold : Old w.heap.size w w2:=M.new.1.trans ⟨st.old.1,fun b hb'=>st.old.2.1 b (by have:=M.new.1.size; omega) (fun e=>by have:=M.new.2.2.2.2.2.1; omega),st.old.2.2⟩
 have hcell : ∀ i,i < xs.length→∃ A c b o,sv = .slice A xs.length c∧A = some ⟨b,o,none⟩∧w2.cell? ⟨b,o + i,none⟩ = some (.int .i64 (xs.getD i 0)):=fun i hi=>by
  obtain ⟨A,c,h1,h2⟩:=hsch.at_
  obtain ⟨b,o,cs,u,r,h3,h4,h5,h6⟩:=h2 i hi
  exact ⟨A,c,b,o,h1,h3,(cell_of_row w2 b (o + i) cs u r ((hold.block b (lt_of_some h4)).trans h4)).trans h6⟩
 obtain ⟨A,c,rfl,-⟩:=hsch.at_
 have hcell : ∀ i,i < xs.length→∃ b o,A = some ⟨b,o,none⟩∧w2.cell? ⟨b,o + i,none⟩ = some (.int .i64 (xs.getD i 0)):=fun i hi=>by
  obtain ⟨A',c',b,o,h1,h2,h3⟩:=hcell i hi
  cases h1
  exact ⟨b,o,h2,h3⟩
 have hlen:=hsch.len
 unfold maxLen at hlen
 have hn' : Blk w2 bn 3 #[.int .i64 0]:=key M.hn (tne M.hn (by decide))
 have hm' : Blk w2 bm 3 #[.int .i64 (heldI most 1048576).toNat]:=key M.hm (tne M.hm (by decide))
 have ho' : Blk w2 bo 49 #[.slice none 0 0]:=key M.ho (tne M.ho (by decide))
 have hv' : Blk w2 tvb 166 #[.pointer (some ⟨tb,0,none⟩)]:=key M.tv (tne M.tv (by decide))
 have ht':=st.ht
 have hobb : w.heap.size≤bo:=M.new.2.2.1
 have hvo:=st.own
 generalize (heldI most 1048576).toNat = mm at *
 obtain ⟨vA,vc,rfl⟩:=own_slice hvo
 have hvo':=Lib.hid hvo
 have hn1 : bo≠tvb:=blk_ne ho' hv' (by decide)
 have hn2 : bo≠tb:=blk_ne ho' ht' (by decide)
 clear hsch key tne st M hb hvo
 have g5:=hf2.f5
 have g6:=hf2.f6
 have g7:=hf2.f7
 have g9:=hf2.f9
 have g10:=hf2.f10
 simp only [Try.f67,Option.getD_some,Nat.reduceSub,Array.replicate_succ,Array.replicate_zero,List.push_toArray,List.append_toArray,List.nil_append,List.cons_append,seqR]
 simp only [fill,fillL,ns1,List.range',List.cons_append,List.nil_append,List.set_cons_zero,List.set_cons_succ,Nat.reduceAdd]
 simp only [g5,g6,g7,g9,g10]
 refine Lg.move _ (fun _ _=>step_seq) id ?_
 refine Lg.code fun K hK y τ n hy=>?_
 subst hy
 go_wp2
 refine hK _ _ (fun h=>absurd h hs) ?_
 clear hK K
 have hl:=Blk.new y 3 #[.int .i64 0]
 have hn2 : Blk (y.alloc (.cells #[.int .i64 0] 3)) bn _ _:=(show Blk y bn _ _ from hn').alloc _
 have hm2 : Blk (y.alloc (.cells #[.int .i64 0] 3)) bm _ _:=(show Blk y bm _ _ from hm').alloc _
 have ho2 : Blk (y.alloc (.cells #[.int .i64 0] 3)) bo _ _:=(show Blk y bo _ _ from ho').alloc _
 have hv2 : Blk (y.alloc (.cells #[.int .i64 0] 3)) tvb _ _:=(show Blk y tvb _ _ from hv').alloc _
 have ht2 : Blk (y.alloc (.cells #[.int .i64 0] 3)) tb _ _:=(show Blk y tb _ _ from ht').alloc _
 have hc2 : ∀ i,i < xs.length→∃ b o,A = some ⟨b,o,none⟩∧(y.alloc (.cells #[.int .i64 0] 3)).cell? ⟨b,o + i,none⟩ = some (.int .i64 (xs.getD i 0)):=fun i hi=>by
  obtain ⟨b,o,h1,h2⟩:=hcell i hi
  exact ⟨b,o,h1,(World.cell?_of_block (w:=y) (a:=⟨b,o + i,none⟩) (Below.heap_alloc _ _ _ (lt_of_cell h2))).trans h2⟩
 have hold2:=hold.re.new (show w.heap.size≤y.heap.size from hold.size) (.cells #[.int .i64 0] 3)
 have hlo : ∀ b,b < y.heap.size→y.heap.size≠b:=fun b hb=>by omega
 have hbl:=hlo bo (show Blk y bo _ _ from ho').lt
 generalize y.alloc (.cells #[.int .i64 0] 3) = z at *
 generalize y.heap.size = bl at *
 clear hn' hm' ho' hv' ht' hcell hold hlo
 have HC:=Lib.hid hc2
 have HOLD:=Lib.hid hold2
 have HN:=Lib.hid hn2
 have HM:=Lib.hid hm2
 have HO:=Lib.hid ho2
 have HV:=Lib.hid hv2
 have HT:=Lib.hid ht2
 have HL:=Lib.hid hl
 clear hc2 hold2 hn2 hm2 ho2 hv2 ht2 hl g5 g6 g7 g9 g10
 refine Lg.rest (R:=fun v w'=>(∃ bv,v = .tuple #[.slice none 0 0,.bool false,bv])∧Old w.heap.size w w') hs rfl Try.func67 (fun q τ' n' hq=>?_) (fun v w' h=>hR.out v t w' ⟨rfl,h⟩)
 subst hq
 have c1 : q.cell? ⟨bn,0,none⟩ = some (.int .i64 0):=(show Blk q bn _ _ from HN.out).cell 0
 have c2 : q.cell? ⟨bm,0,none⟩ = some (.int .i64 mm):=(show Blk q bm _ _ from HM.out).cell 0
 have c3 : q.cell? ⟨bl,0,none⟩ = some (.int .i64 0):=(show Blk q bl _ _ from HL.out).cell 0
 have c4 : q.cell? ⟨tvb,0,none⟩ = some (.pointer (some ⟨tb,0,none⟩)):=(show Blk q tvb _ _ from HV.out).cell 0
 have c5 : q.cell? ⟨tb,1,none⟩ = some (.slice vA 0 vc):=(show Blk q tb _ _ from HT.out).cell 1
 have c6 : q.cell? ⟨tb,2,none⟩ = some (.slice (some ⟨rb,0,none⟩) 0 0):=(show Blk q tb _ _ from HT.out).cell 2
 have c7 : q.cell? ⟨bo,0,none⟩ = some (.slice none 0 0):=(show Blk q bo _ _ from HO.out).cell 0
 have c8 : q.frozen? ⟨bo,0,none⟩ = false:=(show Blk q bo _ _ from HO.out).frozen 0
 have hcq : ∀ i,i < xs.length→∃ b o,A = some ⟨b,o,none⟩∧q.cell? ⟨b,o + i,none⟩ = some (.int .i64 (xs.getD i 0)):=HC.out
 have HQ:=Lib.hid hcq
 have HOQ : Old w.heap.size w q:=HOLD.out.re
 have HOQ':=Lib.hid HOQ
 clear hcq HC HOLD HOQ HN HM HO HV HT HL
 go_wp2
 go_loopw [47] (fun i wr=>i = .int .i64 0∧wr = q) (fun _ _=>0)
 case atStart=>exact ⟨rfl,rfl⟩
 case round =>
  obtain ⟨rfl,rfl⟩:=hrel
  go_wp2
  rename World=>wq
  go_loopw [78] (fun i wr=>∃ j : Nat,j≤xs.length∧i = .int .i64 j∧wr = wq) (fun i _=>xs.length - (intOf i).toNat)
  case atStart=>exact ⟨0,Nat.zero_le _,rfl,rfl⟩
  case round =>
   obtain ⟨j,hj,rfl,rfl⟩:=hrel
   by_cases hlt : j < xs.length
   ·have hd : decide (j < xs.length) = true:=by simpa using hlt
    obtain ⟨b,o,hA,hcj⟩:=HQ.out j hlt
    subst hA
    go_wp2_with (go_at_call 83; refine (turn_none _ _ _ _ _ _ _ c1).mono ?_; rintro e w' ⟨rfl,rfl⟩)
    exact ⟨⟨j + 1,by omega,by go_num,by trivial⟩,by simp [intOf]; omega⟩
   ·have hd : decide (j < xs.length) = false:=by simpa using hlt
    go_wp2
    rename World=>wp
    go_loopw [86] (fun _ wr=>wr = wp) (fun _ _=>0)
    case atStart=>exact rfl
    case round =>
     obtain rfl:=hrel
     go_wp2
     rename World=>wo
     go_loopw [109] (fun i wr=>i = .int .i64 0∧wr = wo) (fun _ _=>0)
     case atStart=>exact ⟨rfl,rfl⟩
     case round =>
      obtain ⟨rfl,rfl⟩:=hrel
      go_wp2
      have hsame:=World.cell?_setCell_same wr ⟨bo,0,none⟩ (.slice none 0 0) c7
      have hf3:=World.cell?_setCell_other wr ⟨bo,0,none⟩ ⟨tvb,0,none⟩ (.slice none 0 0) (by intro q; injection q with q; exact hn1 q)
      have hf4:=World.cell?_setCell_other wr ⟨bo,0,none⟩ ⟨tb,2,none⟩ (.slice none 0 0) (by intro q; injection q with q; exact hn2 q)
      rw [c4] at hf3
      rw [c6] at hf4
      clear c1 c2 c3 c5
      go_region_held3 (fun w'=>w'.cell? ⟨bo,0,none⟩ = some (.slice none 0 0)∧w'.frozen? ⟨bo,0,none⟩ = false∧w'.cell? ⟨tvb,0,none⟩ = some (.pointer (some ⟨tb,0,none⟩))∧w'.cell? ⟨tb,2,none⟩ = some (.slice (some ⟨rb,0,none⟩) 0 0)) (first | exact ⟨c7,c8,c4,c6⟩ | exact ⟨hsame,by simp; exact c8,hf3,hf4⟩ | go_keep) (fail)
      all_goals
       go_wp2
       (try simp only [Exit.inBlock,Exit.then]); refine bodyPost_ret (v:=.tuple #[.slice none 0 0,.bool false,.slice (some ⟨rb,0,none⟩) 0 0]) (by simp [results,Try.f67,go_sem,hsame]) rfl ?_
       exact ⟨_,rfl,⟨_,rfl⟩,(HOQ'.out.set_ (show w.heap.size≤(⟨bo,0,none⟩ : Addr).block from hobb) _).drew⟩
theorem turns_none {S : Type} (c : Run S) (most : Nat) : ∀ l,c.turns 0 most l = c
 | []=>rfl
 | i :: l=>by
   have : c.turn 0 most i = c:=by
    unfold Run.turn Run.may
    rw [if_neg]
    simp only [Bool.and_eq_true,decide_eq_true_eq,not_and]
    intro h; omega
   show Run.turns 0 most (c.turn 0 most i) l = c
   rw [this]; exact turns_none c most l
theorem run_none {S : Type} (birth : Nat→S→Tree S S) (most : Nat) (xs : List Int) (s : S) : playRun birth 0 most xs s = ⟨⟨s,fun _=>.unborn⟩,[]⟩:=by
 unfold playRun
 rw [turns_none]
 cases most with
 | zero=>rfl
 | succ m =>
   unfold Run.rounds
   rw [if_neg]
   ·rfl
   ·simp [Mach.left]
theorem over_any (hP : Prog Try.prog) (Post : Value→World→Prop) (W0 : World) (q : Shd) (birth : Nat→q.S→Tree q.S q.S) (MI : Mach q.S→Prop) (caps : Nat→Array Value) (tA : Option Addr) (nt cap : Nat) (hM : MInv MI (min nt 64)) (hnt : nt≤maxLen) (sv : Value) (xs : List Int) (most : Int) (s0 : q.S) (hwh : ∀ j,j < min nt 64→birth j (Mach.born birth ⟨s0,fun _=>.unborn⟩ j).s≠.cut) (hM0 : MI (Mach.born birth ⟨s0,fun _=>.unborn⟩ (min nt 64))) (H₀ : Nat→Prop) (w : World)
  (hask : OverAsks q W0 s0 H₀ w) (hW : ∀ b,H₀ b→W0.heap.size≤b) (hfun : 0 < nt→∃ ta,tA = some ta∧Funs (min nt 64) ta caps w∧¬ H₀ ta.block∧¬ q.RB ta.block) (hsch : SchI W0 sv xs (fun b=>H₀ b∨q.RB b) w)
  (hlaw : ∀ g b pos apart inj i,i < g.n→g.n = min nt 64→∀ s H x,q.Rep s H x→ThreadLaw (q.env Try.prog Post W0 g b pos apart inj) i (caps i) s (birth i s) x) :
  Ccalls (lgA hP Post W0) 67 #[.slice tA nt cap,sv,.int .i64 most] () w fun v _ w'=>OverDone q W0 (min nt 64) (playRun birth (min nt 64) (heldI most 1048576).toNat xs s0) H₀ w v w':=by
 by_cases hpos : 0 < nt
 ·obtain ⟨ta,rfl,h1,h2⟩:=hfun hpos
  exact over_calls hP Post W0 q birth MI caps ta nt cap hM hnt hpos sv xs most s0 hwh hM0 H₀ w hask h1 h2 hsch hlaw
 ·obtain rfl : nt = 0:=by omega
  refine (over_none (lgA hP Post W0) (fun h=>h) () W0 _ tA cap sv most xs w hsch).mono ?_
  rintro v u w' ⟨-,⟨bv,rfl⟩,hold⟩
  rw [show min 0 64 = 0 from rfl,run_none]
  refine ⟨⟨_,bv,rfl,⟨rfl,.inl ⟨rfl,rfl⟩⟩⟩,⟨H₀,?_,fun b c t r hc h3 hb=>?_⟩,fun b hb hge c t r hv=>?_,hold.size,fun b c t r hc h3=>hold.keep (lt_of_some h3) h3,hold.io⟩
  ·exact q.rep s0 H₀ w w' hask.rep (fun b hb=>hold.block b (hask.sh b hb)) fun b c t r hb h=>⟨r,hold.keep (lt_of_some h) h⟩
  ·rcases hc with hc | hc
   ·have:=hW b hb; omega
   ·exact hc.2.1 hb
  ·obtain ⟨h1,h2,c',t',r',h3,h4,h5⟩:=hask.rb b hb
   rw [h3]
   exact hold.keep h1 h4
structure OpI where
 kind : Int
 a : Int
 b : Int
 c : Int
structure Ans where
 ok : Bool
 n : Int
 ls : List Int
 deriving DecidableEq
def OpI.val (o : OpI) : Value:=.agg #[.int .i64 o.kind,.int .i64 o.a,.int .i64 o.b,.int .i64 o.c]
def OpI.cells (o : OpI) : List Value:=[.int .i64 o.kind,.int .i64 o.a,.int .i64 o.b,.int .i64 o.c]
structure OpsD where
 n : Nat
 ab : Nat
 dob : Nat
 anb : Nat
 opb : Nat→Nat
 ib : Nat→Nat
 fv : Value
 ops : Nat→List OpI
 opv : Nat→Value
 good : OpI→Prop
 RB : Nat→Prop
 rv : Nat→Obj
 A : Type
 At : A→World→Prop
 BI : Nat→Prop
 at_ : ∀ a w w',At a w→(∀ b,BI b→w'.heap[b]? = w.heap[b]?)→At a w'
  /-- What lies in blocks that the run has chosen. -/
 Box : A→(Nat→Prop)→World→Prop
 box_ : ∀ a G w w',Box a G w→(∀ b,G b∨BI b→w'.heap[b]? = w.heap[b]?)→Box a G w'
 rbc : ∀ b,RB b→∃ c t r,rv b = .cells c t r
def LsAt (w : World) (v : Value) (ls : List Int) : Prop:=w.ownsRow 0 2 1 v ls.length (ls.map (Value.int .i64))
def AnsRow (w : World) (G : Nat→Prop) : List Ans→List Value→Prop
 | [],xs=>xs = []
 | a :: l,xs=>∃ lv xs',xs = .bool a.ok :: .int .i64 a.n :: lv :: xs'∧LsAt w lv a.ls∧(∀ b,lv.ownBlock = some b→G b)∧AnsRow w G l xs'
abbrev OpsD.St (D : OpsD) : Type:=D.A × (Nat→List Ans)
structure RepO (D : OpsD) (st : D.St) (H : Nat→Prop) (w : World) : Prop where
 at_ : D.At st.1 w
 bi : ∀ b,D.BI b→H b
 abH : H D.ab∧¬ D.BI D.ab
 near : ∀ b,H b→∃ c t r,w.heap[b]? = some (.cells c t r)∧r.2 < big
 rows : ∃ (rw_ : Nat→Value) (c : Array Value),w.heap[D.ab]? = some (.cells c 64 (0,0))∧c.size = D.n∧(∀ i,i < D.n→c[i]? = some (rw_ i)) ∧
  (∀ i,i < D.n→∃ xs,w.ownsRow 0 66 3 (rw_ i) (st.2 i).length xs∧AnsRow w (fun b=>H b∧¬ D.BI b) (st.2 i) xs∧∀ b,(rw_ i).ownBlock = some b→H b∧¬ D.BI b) ∧
  ∀ i j b,i < D.n→j < D.n→(rw_ i).ownBlock = some b→(rw_ j).ownBlock = some b→i = j
 rb : ∀ b c t r,D.RB b→D.rv b = .cells c t r→∃ r',w.heap[b]? = some (.cells c t r')
 rbH : ∀ b,D.RB b→¬ H b
 box : ∃ G : Nat→Prop,D.Box st.1 G w∧∀ b,G b→H b∧¬ D.BI b∧∃ c t,w.heap[b]? = some (.cells c t (0,0))∧t≠64∧t≠66
theorem own_same {w w' : World} {base : Nat} {e : TypeId} {size n : Nat} {v : Value} {xs : List Value} (h : w.ownsRow base e size v n xs) (hs : ∀ b,v.ownBlock = some b→w'.heap[b]? = w.heap[b]?) : w'.ownsRow base e size v n xs:=by
 obtain ⟨h1,h2⟩:=h
 refine ⟨h1,?_⟩
 rcases h2 with h2 | ⟨g,cap,cur,rfl,hg,hh,r⟩
 ·exact .inl h2
 ·exact .inr ⟨g,cap,cur,rfl,hg,(hs g rfl).trans hh,r⟩
theorem AnsRow.same {w w' : World} {G G' : Nat→Prop} : ∀ {l : List Ans} {xs : List Value},AnsRow w G l xs→(∀ b,G b→w'.heap[b]? = w.heap[b]?)→(∀ b,G b→G' b)→AnsRow w' G' l xs
 | [],_,h,_,_=>h
 | a :: l,xs,⟨lv,xs',e,h1,h2,h3⟩,hs,hg=>⟨lv,xs',e,own_same h1 fun b hb=>hs b (h2 b hb),fun b hb=>hg b (h2 b hb),h3.same hs hg⟩
theorem AnsRow.snoc {w : World} {G : Nat→Prop} {a : Ans} {lv : Value} (h1 : LsAt w lv a.ls) (h2 : ∀ b,lv.ownBlock = some b→G b) : ∀ {l : List Ans} {xs : List Value},AnsRow w G l xs→AnsRow w G (l ++ [a]) (xs ++ [.bool a.ok,.int .i64 a.n,lv])
 | [],xs,h=>by
   have h : xs = []:=h
   subst h
   exact ⟨lv,[],rfl,h1,h2,rfl⟩
 | b :: l,xs,⟨lv',xs',e,h3,h4,h5⟩=>⟨lv',xs' ++ [.bool a.ok,.int .i64 a.n,lv],by rw [e]; rfl,h3,h4,h5.snoc h1 h2⟩
theorem RepO.law (D : OpsD) (st : D.St) (H : Nat→Prop) (w w' : World) (h : RepO D st H w) (hs : ∀ b,H b→w'.heap[b]? = w.heap[b]?) (hr : ∀ (b : Nat) (c : Array Value) (t : TypeId) (r : Nat × Nat),D.RB b→w.heap[b]? = some (Obj.cells c t r)→∃ r',w'.heap[b]? = some (Obj.cells c t r')) : RepO D st H w':=by
 refine ⟨D.at_ _ _ _ h.at_ fun b hb=>hs b (h.bi b hb),h.bi,h.abH,fun b hb=>?_,?_,fun b c t r hb hv=>?_,h.rbH,?_⟩
 ·obtain ⟨c,t,r,h1,h2⟩:=h.near b hb
  exact ⟨c,t,r,(hs b hb).trans h1,h2⟩
 ·obtain ⟨rw_,c,h1,h2,h3,h4,h5⟩:=h.rows
  refine ⟨rw_,c,(hs _ h.abH.1).trans h1,h2,h3,fun i hi=>?_,h5⟩
  obtain ⟨xs,k1,k2,k3⟩:=h4 i hi
  exact ⟨xs,own_same k1 fun b hb=>hs b (k3 b hb).1,k2.same (fun b hb=>hs b hb.1) fun b hb=>hb,k3⟩
 ·obtain ⟨r',h1⟩:=h.rb b c t r hb hv
  exact hr b c t r' hb h1
 ·obtain ⟨G,g1,g2⟩:=h.box
  refine ⟨G,D.box_ _ _ _ _ g1 fun b hb=>hs b (hb.elim (fun z=>(g2 b z).1) (h.bi b)),fun b hb=>?_⟩
  obtain ⟨e1,e2,c,t,e3,e4⟩:=g2 b hb
  exact ⟨e1,e2,c,t,(hs b e1).trans e3,e4⟩
theorem RepO.inner {D : OpsD} {st : D.St} {H : Nat→Prop} {w w' : World} (h : RepO D st H w) {a' : D.A} (ha : D.At a' w') (hs : ∀ b,b < w.heap.size→¬ D.BI b→w'.heap[b]? = w.heap[b]?) (hn : ∀ b,D.BI b→∃ c t r,w'.heap[b]? = some (.cells c t r)∧r.2 < big) (hbox : ∀ G : Nat→Prop,(∀ b,G b→b < w.heap.size∧¬ D.BI b)→D.Box st.1 G w→D.Box a' G w') : RepO D (a',st.2) H w':=by
 have hlt : ∀ b,H b→b < w.heap.size:=fun b hb=>by obtain ⟨c,t,r,h1,_⟩:=h.near b hb; exact lt_of_some h1
 refine ⟨ha,h.bi,h.abH,fun b hb=>?_,?_,fun b c t r hb hv=>?_,h.rbH,?_⟩
 ·by_cases hbi : D.BI b
  ·exact hn b hbi
  ·obtain ⟨c,t,r,h1,h2⟩:=h.near b hb
   exact ⟨c,t,r,(hs b (hlt b hb) hbi).trans h1,h2⟩
 ·obtain ⟨rw_,c,h1,h2,h3,h4,h5⟩:=h.rows
  refine ⟨rw_,c,(hs _ (lt_of_some h1) h.abH.2).trans h1,h2,h3,fun i hi=>?_,h5⟩
  obtain ⟨xs,k1,k2,k3⟩:=h4 i hi
  exact ⟨xs,own_same k1 fun b hb=>hs b (hlt b (k3 b hb).1) (k3 b hb).2,k2.same (fun b hb=>hs b (hlt b hb.1) hb.2) fun b hb=>hb,k3⟩
 ·obtain ⟨r',h1⟩:=h.rb b c t r hb hv
  exact ⟨r',(hs b (lt_of_some h1) (fun z=>h.rbH b hb (h.bi b z))).trans h1⟩
 ·obtain ⟨G,g1,g2⟩:=h.box
  refine ⟨G,hbox G (fun b hb=>⟨hlt b (g2 b hb).1,(g2 b hb).2.1⟩) g1,fun b hb=>?_⟩
  obtain ⟨e1,e2,c,t,e3,e4⟩:=g2 b hb
  exact ⟨e1,e2,c,t,(hs b (hlt b e1) e2).trans e3,e4⟩
def OpsD.push (D : OpsD) (i : Nat) (a : Ans) (st : D.St) : D.St:=(st.1,fun j=>if j = i then st.2 j ++ [a] else st.2 j)
theorem RepO.push {D : OpsD} {st : D.St} {H : Nat→Prop} {w w' : World} (h : RepO D st H w) {i : Nat} (hi : i < D.n) {a : Ans} {lv v' : Value} {rw_ : Nat→Value} {c : Array Value} {xs : List Value}
  (h1 : w.heap[D.ab]? = some (.cells c 64 (0,0))) (h2 : c.size = D.n) (h3 : ∀ i,i < D.n→c[i]? = some (rw_ i)) (h4 : ∀ i,i < D.n→∃ xs,w.ownsRow 0 66 3 (rw_ i) (st.2 i).length xs∧AnsRow w (fun b=>H b∧¬ D.BI b) (st.2 i) xs∧∀ b,(rw_ i).ownBlock = some b→H b∧¬ D.BI b) (h5 : ∀ i j b,i < D.n→j < D.n→(rw_ i).ownBlock = some b→(rw_ j).ownBlock = some b→i = j)
  (hxs : w.ownsRow 0 66 3 (rw_ i) (st.2 i).length xs) (hans : AnsRow w (fun b=>H b∧¬ D.BI b) (st.2 i) xs)
  (hls : LsAt w lv a.ls) (hlv : ∀ b,lv.ownBlock = some b→¬ H b) (hlr : ∀ b,lv.ownBlock = some b→¬ D.RB b)
  (hown : w'.ownsRow 0 66 3 v' ((st.2 i).length + 1) (xs ++ [.bool a.ok,.int .i64 a.n,lv])) (hv' : ∀ b,v'.ownBlock = some b→(rw_ i).ownBlock = some b∨w.heap.size≤b)
  (hab : w'.heap[D.ab]? = some (.cells (c.setIfInBounds i v') 64 (0,0)))
  (hs : ∀ b,b < w.heap.size→b≠D.ab→(rw_ i).ownBlock≠some b→w'.heap[b]? = w.heap[b]?) :
  RepO D (D.push i a st) (fun b=>(H b∧(rw_ i).ownBlock≠some b)∨v'.ownBlock = some b∨lv.ownBlock = some b) w':=by
 have hlt : ∀ b,H b→b < w.heap.size:=fun b hb=>by obtain ⟨c,t,r,h1,_⟩:=h.near b hb; exact lt_of_some h1
 have hlb : ∀ b,lv.ownBlock = some b→∃ cur,w.heap[b]? = some (.cells cur 2 (0,0)):=fun b hb=>by
  rcases hls.2 with ⟨e,_⟩ | ⟨g,cap,cur,e,_,k,_⟩
  ·rw [e] at hb; simp [Value.ownBlock] at hb
  ·rw [e] at hb; simp only [Value.ownBlock,Option.some.injEq] at hb; subst hb; exact ⟨cur,k⟩
 have hrb : ∀ j,j < D.n→∀ b,(rw_ j).ownBlock = some b→∃ cur,w.heap[b]? = some (.cells cur 66 (0,0)):=fun j hj b hb=>by
  obtain ⟨xs,k1,_⟩:=h4 j hj
  rcases k1.2 with ⟨e,_⟩ | ⟨g,cap,cur,e,_,k,_⟩
  ·rw [e] at hb; simp [Value.ownBlock] at hb
  ·rw [e] at hb; simp only [Value.ownBlock,Option.some.injEq] at hb; subst hb; exact ⟨cur,k⟩
 have lvi : ∀ b,lv.ownBlock = some b→(rw_ i).ownBlock≠some b∧b≠D.ab∧b < w.heap.size:=fun b hb=>by
  obtain ⟨cur,k⟩:=hlb b hb
  refine ⟨fun z=>?_,fun z=>hlv b hb (z ▸ h.abH.1),lt_of_some k⟩
  obtain ⟨cur',k'⟩:=hrb i hi b z
  rw [k] at k'
  simp at k'
-- what was shared,other than row i and the array,is as it was
 have keep : ∀ b,H b→b≠D.ab→(rw_ i).ownBlock≠some b→w'.heap[b]? = w.heap[b]?:=fun b hb h1 h2=>hs b (hlt b hb) h1 h2
 have bab : ∀ b,D.BI b→b≠D.ab∧(rw_ i).ownBlock≠some b:=fun b hb=>⟨fun z=>h.abH.2 (z ▸ hb),fun z=>by obtain ⟨_,_,_,k⟩:=h4 i hi; exact (k b z).2 hb⟩
 have lists : ∀ (G : Nat→Prop) (l : List Ans) (ys : List Value),AnsRow w (fun b=>H b∧¬ D.BI b) l ys→AnsRow w' (fun b=>((H b∧(rw_ i).ownBlock≠some b)∨v'.ownBlock = some b∨lv.ownBlock = some b)∧¬ D.BI b) l ys:=by
  intro G l
  induction l with
  | nil=>exact fun ys h=>h
  | cons x l ih =>
    rintro ys ⟨lv',ys',e,k1,k2,k3⟩
    have hb' : ∀ b,lv'.ownBlock = some b→b≠D.ab∧(rw_ i).ownBlock≠some b:=fun b hb=>by
     have hb' : ∃ cur,w.heap[b]? = some (.cells cur 2 (0,0)):=by
      rcases k1.2 with ⟨e,_⟩ | ⟨g,cap,cur,e,_,k,_⟩
      ·rw [e] at hb; simp [Value.ownBlock] at hb
      ·rw [e] at hb; simp only [Value.ownBlock,Option.some.injEq] at hb; subst hb; exact ⟨cur,k⟩
     obtain ⟨cur,k⟩:=hb'
     refine ⟨fun z=>?_,fun z=>?_⟩
     ·rw [z,h1] at k; simp at k
     ·obtain ⟨cur',k'⟩:=hrb i hi b z
      rw [k] at k'; simp at k'
    exact ⟨lv',ys',e,own_same k1 fun b hb=>keep b (k2 b hb).1 (hb' b hb).1 (hb' b hb).2,fun b hb=>⟨.inl ⟨(k2 b hb).1,(hb' b hb).2⟩,(k2 b hb).2⟩,ih _ k3⟩
 refine ⟨D.at_ _ _ _ h.at_ fun b hb=>keep b (h.bi b hb) (bab b hb).1 (bab b hb).2,fun b hb=>.inl ⟨h.bi b hb,(bab b hb).2⟩,⟨.inl ⟨h.abH.1,fun z=>by obtain ⟨cur,k⟩:=hrb i hi _ z; rw [h1] at k; simp at k⟩,h.abH.2⟩,fun b hb=>?_,?_,fun b c t r hb hv=>?_,fun b hb z=>?_,?_⟩
 ·rcases hb with ⟨hb,z2⟩ | hb | hb
  ·by_cases z1 : b = D.ab
   ·rw [z1]; exact ⟨_,_,_,hab,by decide⟩
   ·obtain ⟨c,t,r,k1,k2⟩:=h.near b hb
    exact ⟨c,t,r,(keep b hb z1 z2).trans k1,k2⟩
  ·rcases hown.2 with ⟨e,_⟩ | ⟨g,cap,cur,e,_,k,_⟩
   ·rw [e] at hb; simp [Value.ownBlock] at hb
   ·rw [e] at hb; simp only [Value.ownBlock,Option.some.injEq] at hb; subst hb; exact ⟨_,_,_,k,by decide⟩
  ·obtain ⟨cur,k⟩:=hlb b hb
   obtain ⟨k1,k2,k3⟩:=lvi b hb
   exact ⟨_,_,_,(hs b k3 k2 k1).trans k,by decide⟩
 ·have vnew : ∀ b,v'.ownBlock = some b→¬ D.BI b∧∀ j,j < D.n→j≠i→(rw_ j).ownBlock≠some b:=fun b hb=>by
   rcases hv' b hb with z | z
   ·obtain ⟨_,_,_,kk⟩:=h4 i hi
    exact ⟨(kk b z).2,fun j hj hji z2=>hji (h5 j i b hj hi z2 z)⟩
   ·exact ⟨fun z2=>by have:=hlt b (h.bi b z2); omega,fun j hj _ z2=>by obtain ⟨cur,k⟩:=hrb j hj b z2; have:=lt_of_some k; omega⟩
  refine ⟨fun j=>if j = i then v' else rw_ j,_,hab,by simpa using h2,fun j hj=>?_,fun j hj=>?_,fun j l b hj hl z1 z2=>?_⟩
  ·rw [Array.getElem?_setIfInBounds]
   by_cases e : j = i
   ·subst e; simp [h2,hj]
   ·rw [if_neg (fun z=>e z.symm),h3 j hj]; simp [e]
  ·by_cases e : j = i
   ·subst e
    refine ⟨xs ++ [.bool a.ok,.int .i64 a.n,lv],by simpa [OpsD.push] using hown,?_,fun b hb=>?_⟩
    ·have:=AnsRow.snoc (a:=a) (lv:=lv) (w:=w') (G:=fun b=>((H b∧(rw_ j).ownBlock≠some b)∨v'.ownBlock = some b∨lv.ownBlock = some b)∧¬ D.BI b) (own_same hls fun b hb=>hs b (lvi b hb).2.2 (lvi b hb).2.1 (lvi b hb).1) (fun b hb=>⟨.inr (.inr hb),fun z=>hlv b hb (h.bi b z)⟩) (lists H _ _ hans)
     simpa [OpsD.push] using this
    ·simp only [if_true] at hb
     exact ⟨.inr (.inl hb),(vnew b hb).1⟩
   ·obtain ⟨ys,k1,k2,k3⟩:=h4 j hj
    have hne : ∀ b,(rw_ j).ownBlock = some b→b≠D.ab∧(rw_ i).ownBlock≠some b:=fun b hb=>by
     obtain ⟨cur,k⟩:=hrb j hj b hb
     refine ⟨fun z=>?_,fun z=>e (h5 j i b hj hi hb z)⟩
     rw [z,h1] at k; simp at k
    refine ⟨ys,?_,?_,fun b hb=>?_⟩
    ·simp only [e,if_false,OpsD.push]
     exact own_same k1 fun b hb=>keep b (k3 b hb).1 (hne b hb).1 (hne b hb).2
    ·simp only [e,if_false,OpsD.push]
     exact lists H _ _ k2
    ·simp only [e,if_false] at hb
     exact ⟨.inl ⟨(k3 b hb).1,(hne b hb).2⟩,(k3 b hb).2⟩
  ·by_cases e1 : j = i <;> by_cases e2 : l = i
   ·rw [e1,e2]
   ·simp only [e1,e2,if_true,if_false] at z1 z2
    exact absurd z2 ((vnew b z1).2 l hl e2)
   ·simp only [e1,e2,if_true,if_false] at z1 z2
    exact absurd z1 ((vnew b z2).2 j hj e1)
   ·simp only [e1,e2,if_false] at z1 z2
    exact h5 j l b hj hl z1 z2
 ·obtain ⟨r',k⟩:=h.rb b c t r hb hv
  exact ⟨r',(hs b (lt_of_some k) (fun z=>h.rbH b hb (z ▸ h.abH.1)) (fun z=>by obtain ⟨_,_,_,kk⟩:=h4 i hi; exact h.rbH b hb (kk b z).1)).trans k⟩
 ·obtain ⟨c0,t0,r0,hv0⟩:=D.rbc b hb
  obtain ⟨r',k⟩:=h.rb b c0 t0 r0 hb hv0
  rcases z with z | z | z
  ·exact h.rbH b hb z.1
  ·rcases hv' b z with z | z
   ·obtain ⟨_,_,_,kk⟩:=h4 i hi
    exact h.rbH b hb (kk b z).1
   ·have:=lt_of_some k; omega
  ·exact hlr b z hb
 ·obtain ⟨G,g1,g2⟩:=h.box
  have gk : ∀ b,G b→b≠D.ab∧(rw_ i).ownBlock≠some b:=fun b hb=>by
   obtain ⟨e1,e2,c',t',e3,e4,e5⟩:=g2 b hb
   refine ⟨fun z=>?_,fun z=>?_⟩
   ·rw [z,h1] at e3; simp at e3; exact e4 e3.2.symm
   ·obtain ⟨cur,k⟩:=hrb i hi b z
    rw [k] at e3; simp at e3; exact e5 e3.2.symm
  refine ⟨G,D.box_ _ _ _ _ g1 fun b hb=>?_,fun b hb=>?_⟩
  ·rcases hb with hb | hb
   ·exact keep b (g2 b hb).1 (gk b hb).1 (gk b hb).2
   ·exact keep b (h.bi b hb) (bab b hb).1 (bab b hb).2
  ·obtain ⟨e1,e2,c',t',e3,e4⟩:=g2 b hb
   exact ⟨.inl ⟨e1,(gk b hb).2⟩,e2,c',t',(keep b e1 (gk b hb).1 (gk b hb).2).trans e3,e4⟩
def OpsD.shd (D : OpsD) (os : Os) (out : Array (Nat × ByteArray)) : Shd where
 S:=D.St
 RB:=D.RB
 rv:=D.rv
 os:=os
 out:=out
 Rep:=RepO D
 rep:=RepO.law D
 near:=fun _ _ _ b h hb=>h.near b hb
abbrev OpsD.DoT (D : OpsD) : Type:=OpI→D.St→(Ans→D.St→Tree D.St D.St)→Tree D.St D.St
def thrT (D : OpsD) (doT : D.DoT) (i : Nat) : List OpI→List Ans→D.St→Tree D.St D.St
 | [],_,st=>.ret st
 | o :: l,own,st=>doT o st fun a st'=>if st'.2 i = own then thrT D doT i l (own ++ [a]) (D.push i a st') else .cut
def brT (D : OpsD) (doT : Nat→D.DoT) (i : Nat) (st : D.St) : Tree D.St D.St:=if st.2 i = [] then thrT D (doT i) i (D.ops i) [] st else .cut
def StepO (D : OpsD) (L : Lg Try.prog (Tree D.St D.St)) (Cap : (Nat→Prop)→World→Prop) (sb : Nat) : Prop:=
 ∀ s H k w,RepO D s H w→Cap H w→Ccalls L 113 #[.pointer (some ⟨sb,0,none⟩)] (.yield s k) w fun u t' w'=>u = .tuple #[]∧∃ s' H',t' = k s'∧(RepO D s' H' w'∧Cap H' w')∧Held H w H' w'
def DoLaw (D : OpsD) (i : Nat) (doT : D.DoT) (f : FuncId) (bound caps : Array Value) : Prop:=
 ∀ (sb : Nat) (L : Lg Try.prog (Tree D.St D.St)) (Cap : (Nat→Prop)→World→Prop),(∀ H w τ n,Cap H w→Cap H (w.re τ n))→(∀ H w H' w',Cap H w→Held H w H' w'→Cap H' w')→StepO D L Cap sb→(∀ fr mid x,L.T .cut fr mid x)→∀ o st H k w,D.good o→RepO D st H w→Cap H w →
   Ccalls L f (bound ++ #[.iface 171 (.pointer (some ⟨sb,0,none⟩)),.int .i64 i,o.val] ++ caps) (doT o st k) w fun v t' w'=>∃ a st' H' lv,t' = k a st'∧v = .agg #[.bool a.ok,.int .i64 a.n,lv]∧RepO D st' H' w'∧Held H w H' w'∧w'.ownsRow w.heap.size 2 1 lv a.ls.length (a.ls.map (Value.int .i64))∧∀ b,lv.ownBlock = some b→¬ H' b
structure ThrOk (D : OpsD) (i : Nat) : Prop where
 lt : i < D.n
 n64 : D.n≤64
 op : D.RB (D.opb i)∧D.rv (D.opb i) = .cells #[D.opv i] 63 (0,0)
 do_ : D.RB D.dob∧D.rv D.dob = .cells #[D.fv] 109 (0,0)
 ib : D.RB (D.ib i)∧D.rv (D.ib i) = .cells #[.int .i64 i] 3 (0,0)
 an : D.RB D.anb∧D.rv D.anb = .cells #[.slice (some ⟨D.ab,0,none⟩) D.n D.n] 53 (0,0)
 len : (D.ops i).length≤65536
 gd : ∀ o ∈ D.ops i,D.good o
 ops : ∃ A cap,D.opv i = .slice A (D.ops i).length cap∧∀ j (h : j < (D.ops i).length),∃ b o cs t r,A = some ⟨b,o,none⟩∧D.RB b∧D.rv b = .cells cs t r∧∀ m,m < 4→cs[o + j * 4 + m]? = (D.ops i)[j].cells[m]?
theorem RepO.cell {D : OpsD} {st : D.St} {H : Nat→Prop} {w : World} (h : RepO D st H w) {b : Nat} {c : Array Value} {t : TypeId} {r : Nat × Nat} (hb : D.RB b∧D.rv b = .cells c t r) (j : Nat) : w.cell? ⟨b,j,none⟩ = c[j]?:=by
 obtain ⟨r',h1⟩:=h.rb b c t r hb.1 hb.2
 exact cell_of_row w b j c t r' h1
theorem Try.infoAns : (Try.prog.info? 66).map (fun i=>(i.zero,i.size,i.bytes)) = some (some (.agg #[.bool false,.int .i64 0,.slice none 0 0]),3,40):=by kernel_rfl
theorem one_len (v : World) (o1 : Obj) : (v.alloc o1).drew.heap.size = v.heap.size + 1:=by
 show (v.alloc o1).heap.size = _
 simp
theorem news_one (v : World) (cs : Array Value) (t : TypeId) : (v.alloc (.cells cs t)).drew.heap[v.heap.size]? = some (.cells cs t (0,0)):=heap_alloc_new v _
theorem RepO.re {D : OpsD} {st : D.St} {H : Nat→Prop} {y : World} {τ : Nat→Question→Nat} {n : Nat} (h : RepO D st H (y.re τ n)) : RepO D st H y:=RepO.law D st H _ y h (fun _ _=>rfl) (fun b c t r _ h=>⟨r,h⟩)
theorem RepO.lt {D : OpsD} {st : D.St} {H : Nat→Prop} {w : World} (h : RepO D st H w) {b : Nat} (hb : H b) : b < w.heap.size:=by
 obtain ⟨c,t,r,h1,_⟩:=h.near b hb
 exact lt_of_some h1
theorem RepO.alloc {D : OpsD} {st : D.St} {H : Nat→Prop} {w : World} (h : RepO D st H w) (o : Obj) : RepO D st H (w.alloc o):=
 RepO.law D st H w _ h (fun b hb=>Below.heap_alloc _ _ _ (h.lt hb)) fun b c t r _ hb=>⟨r,(Below.heap_alloc _ _ _ (lt_of_some hb)).trans hb⟩
theorem RepO.set_ {D : OpsD} {st : D.St} {H : Nat→Prop} {w : World} (h : RepO D st H w) {p : Addr} (hp : ¬ H p.block) (hr : ¬ D.RB p.block) (v : Value) : RepO D st H (w.setCell p v):=
 RepO.law D st H w _ h (fun b hb=>Below.heap_setCell _ _ _ _ (fun e=>hp (e ▸ hb))) fun b c t r hb hx=>⟨r,(Below.heap_setCell _ _ _ _ (fun e=>hr (e ▸ hb))).trans hx⟩
theorem Held.alloc (H : Nat→Prop) (w : World) (o : Obj) : Held H w H (w.alloc o):=⟨by simp,fun b c t r hb hn _=>⟨(Below.heap_alloc _ _ _ (lt_of_some hb)).trans hb,hn⟩⟩
theorem held_set {H0 H : Nat→Prop} {W0 w : World} (h : Held H0 W0 H w) {p : Addr} (hp : W0.heap.size≤p.block) (v : Value) : Held H0 W0 H (w.setCell p v):=
 ⟨by have:=h.size; simpa [World.setCell] using this,fun b c t r hb hn hr=>by
   have:=lt_of_some hb
   exact ⟨(Below.heap_setCell _ _ _ _ (by omega)).trans (h.block b c t r hb hn hr).1,(h.block b c t r hb hn hr).2⟩⟩
theorem neq_do (f : Nat) (b c : Array Value) (w : World) : (binOp BinOp.neq 109 (.func (.func f) b c) .nilFunc).run Try.prog w = .ok (.bool true) w:=by kernel_rfl
def frD (s o d ib an : Value) (f : Nat→Value) : Array Value:=#[s,o,d,ib,an,f 5,f 6,f 7,f 8,f 9,f 10,f 11,f 12,f 13,f 14,f 15,f 16,f 17,f 18,f 19,f 20,f 21,f 22,f 23,f 24,f 25,f 26,f 27,f 28,f 29,f 30,f 31,f 32]
set_option maxHeartbeats 2000000 in
set_option maxRecDepth 100000 in
theorem thread_law (D : OpsD) (os : Os) (out : Array (Nat × ByteArray)) (Post : Value→World→Prop) (W0 : World) (g : Gs) (b : Nat) (pos : 0 < b) (apart) (inj) (i : Nat) (T : ThrOk D i) (doT : Nat→D.DoT) (fd : FuncId) (bound caps : Array Value) (hfv : D.fv = .func (.func fd) bound caps) (hcall : ∀ args w,(callFunc fd args).run Try.prog w = .ok (.enter fd args) w) (hD : DoLaw D i (doT i) fd bound caps) (st : D.St) (x : World) :
  ThreadLaw ((D.shd os out).env Try.prog Post W0 g b pos apart inj) i #[.pointer (some ⟨D.opb i,0,none⟩),.pointer (some ⟨D.dob,0,none⟩),.pointer (some ⟨D.ib i,0,none⟩),.pointer (some ⟨D.anb,0,none⟩)] st (brT D doT i st) x:=by
 intro L Cap hre hcap hstand hcut H0 w0 hrep0 _ hcap0
 have hrep0 : RepO D st H0 w0:=hrep0
 refine ⟨Try.f80,_,Try.func80,rfl,?_⟩
 intro bb k mid hQ
 have HQ:=Lib.hid hQ
 clear hQ
 simp only [Try.f80,List.size_toArray,List.length_cons,List.length_nil,Nat.reduceAdd,Nat.reduceSub,Array.replicate_succ,Array.replicate_zero,List.push_toArray,List.append_toArray,List.nil_append,List.cons_append]
 obtain ⟨A,cap,hopv,hops⟩:=T.ops
 have hlen:=T.len
 by_cases hown0 : st.2 i = []
 rotate_left
 ·have : brT D doT i st = .cut:=by simp [brT,hown0]
  rw [this]
  exact hcut _ _ _
 rw [show brT D doT i st = thrT D (doT i) i (D.ops i) [] st from by simp [brT,hown0]]
 generalize doT i = doT at hD ⊢
 refine Lg.move _ (fun _ _=>step_seq) id ?_
 refine Lg.code fun K hK y τ n hy=>?_
 subst hy
 have hrep : RepO D st H0 y:=RepO.law D st H0 _ y hrep0 (fun _ _=>rfl) (fun b c t r _ h=>⟨r,h⟩)
 have c1 : y.cell? ⟨D.opb i,0,none⟩ = some (.slice A (D.ops i).length cap):=by have:=hrep.cell T.op 0; rw [hopv] at this; exact this
 have Hops:=Lib.hid hops
 have Hrep:=Lib.hid hrep
 clear hops hopv hrep0 hrep
 go_wp2
 refine hK _ _ (fun _=>rfl) ?_
 clear hK K c1
 have hrlt : ∀ b,D.RB b→b < y.heap.size:=fun b hb=>by
  obtain ⟨c0,t0,r0,hv0⟩:=D.rbc b hb
  obtain ⟨r',k⟩:=Hrep.out.rb b c0 t0 r0 hb hv0
  exact lt_of_some k
 have hstand' : StepO D L Cap (g.sb i):=fun s H k w hr hc=>hstand s H k w hr hc
 have hcapy : Cap H0 y:=hre H0 (y.re τ n) y.tape y.drawn hcap0
 clear hstand hcap0
 simp only [Shd.env]
 generalize hsb : g.sb i = sb at *
 refine Lg.family (frD (.iface 171 (.pointer (some ⟨sb,0,none⟩))) (.pointer (some ⟨D.opb i,0,none⟩)) (.pointer (some ⟨D.dob,0,none⟩)) (.pointer (some ⟨D.ib i,0,none⟩)) (.pointer (some ⟨D.anb,0,none⟩))) (R:=fun f=>f 9 = .slice A (D.ops i).length cap∧f 10 = .int .i64 (D.ops i).length∧f 11 = .int .i64 0) ?_ (by rfl) ⟨rfl,rfl,rfl⟩
 rintro f1 ⟨m9,m10,m11⟩
 refine Lg.move _ (fun _ _=>step_block) (fun h=>h) ?_
 refine Lg.loop_fr (frD (.iface 171 (.pointer (some ⟨sb,0,none⟩))) (.pointer (some ⟨D.opb i,0,none⟩)) (.pointer (some ⟨D.dob,0,none⟩)) (.pointer (some ⟨D.ib i,0,none⟩)) (.pointer (some ⟨D.anb,0,none⟩))) (fun f t w=>∃ j : Nat,j≤(D.ops i).length∧∃ (st' : D.St) (H' : Nat→Prop) (own : List Ans),own.length = j∧st'.2 i = own∧f 9 = .slice A (D.ops i).length cap∧f 10 = .int .i64 (D.ops i).length∧f 11 = .int .i64 j∧t = thrT D doT i ((D.ops i).drop j) own st'∧RepO D st' H' w∧Held H0 y H' w) (fun f _ _=>(D.ops i).length - (intOf (f 11)).toNat) ⟨0,Nat.zero_le _,st,H0,[],rfl,hown0,m9,m10,m11,rfl,Hrep.out,Held.refl _ _⟩ ?_
 rintro f2 t w ⟨j,hj,st',H',own,hownl,hown,k9,k10,k11,rfl,hR,hH⟩ hnext
 have HOL:=Lib.hid hownl
 have HOW:=Lib.hid hown
 clear hownl hown
 have hNext:=Lib.hid hnext
 clear hnext m9 m10 m11 f1 Hrep
 simp only [frD,k9,k10,k11]
 refine Lg.move _ (fun _ _=>step_seq) (fun h=>h) ?_
 refine Lg.code fun K hK u τ n hu=>?_
 subst hu
 have hR : RepO D st' H' u:=RepO.law D st' H' _ u hR (fun _ _=>rfl) (fun b c t r _ h=>⟨r,h⟩)
 have hH : Held H0 y H' u:=held_re.1 hH
 have HR:=Lib.hid hR
 clear hR
 go_wp2
 refine hK _ _ (fun _=>rfl) ?_
 clear hK K
 refine Lg.move _ (fun _ _=>step_seq) (fun h=>h) ?_
 by_cases hlt : j < (D.ops i).length
 ·have hd : decide (j < (D.ops i).length) = true:=by simpa using hlt
  simp only [hd]
  refine Lg.move _ (fun _ _=>step_cond rfl) (fun h=>h) ?_
  refine Lg.move _ (fun _ _=>step_skip) (fun h=>h) ?_
  refine Lg.move _ (fun _ _=>step_seq) (fun h=>h) ?_
  refine Lg.move _ (fun _ _=>step_block) (fun h=>h) ?_
  refine Lg.move _ (fun _ _=>step_seq) (fun h=>h) ?_
-- the operation
  obtain ⟨ob,oo,cs,ct,cr,rfl,ho1,ho2,ho3⟩:=Hops.out j hlt
  generalize hop : (D.ops i)[j] = op at ho3
  refine Lg.code fun K hK v τ n hv=>?_
  subst hv
  have hR : RepO D st' H' v:=RepO.law D st' H' _ v HR.out (fun _ _=>rfl) (fun b c t r _ h=>⟨r,h⟩)
  have hH : Held H0 y H' v:=held_re.1 hH
  have o0 : v.cell? ⟨ob,oo + j * 4,none⟩ = some (.int .i64 op.kind):=by have:=hR.cell ⟨ho1,ho2⟩ (oo + j * 4 + 0); rw [ho3 0 (by omega)] at this; exact this
  have o1 : v.cell? ⟨ob,oo + j * 4 + 1,none⟩ = some (.int .i64 op.a):=by have:=hR.cell ⟨ho1,ho2⟩ (oo + j * 4 + 1); rw [ho3 1 (by omega)] at this; exact this
  have o2 : v.cell? ⟨ob,oo + j * 4 + 1 + 1,none⟩ = some (.int .i64 op.b):=by have:=hR.cell ⟨ho1,ho2⟩ (oo + j * 4 + 2); rw [ho3 2 (by omega)] at this; exact this
  have o3 : v.cell? ⟨ob,oo + j * 4 + 1 + 1 + 1,none⟩ = some (.int .i64 op.c):=by have:=hR.cell ⟨ho1,ho2⟩ (oo + j * 4 + 3); rw [ho3 3 (by omega)] at this; exact this
  have HR2:=Lib.hid hR
  clear hR HR
  go_wp2
  refine hK _ _ (fun _=>rfl) ?_
  clear hK K o0 o1 o2 o3
  have hR1:=HR2.out.alloc (Obj.cells #[.int .i64 op.kind,.int .i64 op.a,.int .i64 op.b,.int .i64 op.c] 62)
  have hH1:=hH.trans (Held.alloc H' v (Obj.cells #[.int .i64 op.kind,.int .i64 op.a,.int .i64 op.b,.int .i64 op.c] 62))
  have hb7:=Blk.new v 62 #[.int .i64 op.kind,.int .i64 op.a,.int .i64 op.b,.int .i64 op.c]
  have hn7 : ¬ H' v.heap.size:=fun z=>by have:=HR2.out.lt z; omega
  have hy7 : y.heap.size≤v.heap.size:=hH.size
  clear HR2 hH
  generalize v.alloc (Obj.cells #[.int .i64 op.kind,.int .i64 op.a,.int .i64 op.b,.int .i64 op.c] 62) = z at hR1 hH1 hb7 ⊢
  generalize v.heap.size = b7 at hb7 hn7 hy7 ⊢
  refine Lg.move _ (fun _ _=>step_seq) (fun h=>h) ?_
  refine Lg.code fun K hK v τ2 n2 hv=>?_
  subst hv
  have hR1:=hR1.re
  have hH1 : Held H0 y H' v:=held_re.1 hH1
  have hb7 : Blk v b7 _ _:=hb7
  have HR1:=Lib.hid hR1
  have HB7:=Lib.hid hb7
  clear hR1 hb7
  go_wp2
  refine hK _ _ (fun _=>rfl) ?_
  clear hK K
  have hR2:=HR1.out.alloc (Obj.cells #[.bool false,.int .i64 0,.slice none 0 0] 66)
  have hH2:=hH1.trans (Held.alloc H' v (Obj.cells #[.bool false,.int .i64 0,.slice none 0 0] 66))
  have hb8:=Blk.new v 66 #[.bool false,.int .i64 0,.slice none 0 0]
  have hn8 : ¬ H' v.heap.size:=fun z=>by have:=HR1.out.lt z; omega
  have hy8 : y.heap.size≤v.heap.size:=hH1.size
  have hb7:=HB7.out.alloc (Obj.cells #[.bool false,.int .i64 0,.slice none 0 0] 66)
  clear HR1 hH1 HB7
  generalize v.alloc (Obj.cells #[.bool false,.int .i64 0,.slice none 0 0] 66) = z at hR2 hH2 hb7 hb8 ⊢
  generalize v.heap.size = b8 at hb8 hn8 hy8 ⊢
  refine Lg.move _ (fun _ _=>step_seq) (fun h=>h) ?_
  refine Lg.move _ (fun _ _=>step_seq) (fun h=>h) ?_
  refine Lg.code fun K hK v τ2 n2 hv=>?_
  subst hv
  have hR2:=hR2.re
  have hH2 : Held H0 y H' v:=held_re.1 hH2
  have hb7 : Blk v b7 _ _:=hb7
  have hb8 : Blk v b8 _ _:=hb8
  have c1 : v.cell? ⟨D.dob,0,none⟩ = some (.func (.func fd) bound caps):=by have:=hR2.cell T.do_ 0; rw [hfv] at this; exact this
  have hq:=neq_do fd bound caps
  have HR2:=Lib.hid hR2
  have HB7:=Lib.hid hb7
  have HB8:=Lib.hid hb8
  clear hR2 hb7 hb8
  go_wp2
  refine hK _ _ (fun _=>rfl) ?_
  clear hK K c1 hq
  refine Lg.move _ (fun _ _=>step_cond rfl) (fun h=>h) ?_
  refine Lg.move _ (fun _ _=>step_region) (fun h=>h) ?_
  refine Lg.pre 0 4 2 (by simp) fun K hK z τ3 n3 hz=>?_
  subst hz
  have hR3:=HR2.out.re
  have hH3 : Held H0 y H' z:=held_re.1 hH2
  have hb7 : Blk z b7 _ _:=HB7.out
  have hb8 : Blk z b8 _ _:=HB8.out
  have c1 : z.cell? ⟨D.dob,0,none⟩ = some (.func (.func fd) bound caps):=by have:=hR3.cell T.do_ 0; rw [hfv] at this; exact this
  have c2 : z.cell? ⟨D.ib i,0,none⟩ = some (.int .i64 i):=hR3.cell T.ib 0
  have o0 : z.cell? ⟨b7,0,none⟩ = some (.int .i64 op.kind):=hb7.cell 0
  have o1 : z.cell? ⟨b7,1,none⟩ = some (.int .i64 op.a):=hb7.cell 1
  have o2 : z.cell? ⟨b7,2,none⟩ = some (.int .i64 op.b):=hb7.cell 2
  have o3 : z.cell? ⟨b7,3,none⟩ = some (.int .i64 op.c):=hb7.cell 3
  have HR3:=Lib.hid hR3
  have HB8:=Lib.hid hb8
  clear hR3 hb7 hb8 HR2 HB7 hH2
  simp only [List.drop_zero,List.take_succ_cons,List.take_zero]
  go_wp2
  refine hK _ _ (fun _=>rfl) ?_
  clear hK K c1 c2 o0 o1 o2 o3
  have hdrop : thrT D doT i ((D.ops i).drop j) own st' = doT op st' fun a s=>if s.2 i = own then thrT D doT i ((D.ops i).drop (j + 1)) (own ++ [a]) (D.push i a s) else .cut:=by
   rw [List.drop_eq_getElem_cons hlt,hop]; rfl
  rw [hdrop]
  refine Lg.call (i:=4) (rest:=[5]) (f:=fd) (args:=bound ++ #[.iface 171 (.pointer (some ⟨sb,0,none⟩)),.int .i64 i,op.val] ++ caps) rfl rfl (fun y=>?_) (hD sb L Cap hre hcap hstand' hcut op st' H' _ z (T.gd op (hop ▸ List.getElem_mem hlt)) HR3.out (hcap _ _ _ _ hcapy hH3)) ?_
  ·go_simp
   simp [OpI.val]
  rintro vv t' w' ⟨a,st2,H2,lv,rfl,rfl,hR4,hH4,hlv,hlvn⟩
  by_cases hst2 : st2.2 i = own
  rotate_left
  ·rw [if_neg hst2]
   exact hcut _ _ _
  rw [if_pos hst2]
  rw [Frame.finish_at]
  walk_nrm
  have HST:=Lib.hid hst2
  clear hst2
  obtain ⟨hb8',hn8'⟩:=hH4.block b8 _ _ (0,0) HB8.out hn8 (.inl (by decide))
  have hH5 : Held H0 y H2 w':=hH3.trans hH4
  have hy8' : b8 < z.heap.size:=HB8.out.lt
  obtain ⟨lA,lc,rfl⟩ : ∃ A c,lv = .slice A a.ls.length c:=own_slice hlv
  have hlw : ∀ b,(Value.slice lA a.ls.length lc).ownBlock = some b→z.heap.size≤b:=fun b hb=>by
   rcases hlv.2 with ⟨e,_⟩ | ⟨g,cap,cur,e,k,_⟩
   ·rw [e] at hb; simp [Value.ownBlock] at hb
   ·rw [e] at hb; simp only [Value.ownBlock,Option.some.injEq] at hb; omega
  clear hH3 hH4 HR3 HB8 hn8 hn7 hdrop
  refine (show L.T _ (Frame.at _ ⟨_,[]⟩ (.inRegion _ (List.range' 5 (1 + 0)) :: _)) mid w' from ?_)
  refine Lg.pre 5 1 0 (by simp) fun K hK v τ2 n2 hv=>?_
  subst hv
  have hR5:=hR4.re
  have hH5 : Held H0 y H2 v:=held_re.1 hH5
  have hlv : v.ownsRow z.heap.size 2 1 (.slice lA a.ls.length lc) a.ls.length (a.ls.map (Value.int .i64)):=hlv
  have hb8 : Blk v b8 66 #[.bool false,.int .i64 0,.slice none 0 0]:=hb8'
  have o0 : v.cell? ⟨b8,0,none⟩ = some (.bool false):=hb8.cell 0
  have o1 : v.cell? ⟨b8,1,none⟩ = some (.int .i64 0):=hb8.cell 1
  have o2 : v.cell? ⟨b8,2,none⟩ = some (.slice none 0 0):=hb8.cell 2
  have z0 : v.frozen? ⟨b8,0,none⟩ = false:=hb8.frozen 0
  have z1 : v.frozen? ⟨b8,1,none⟩ = false:=hb8.frozen 1
  have z2 : v.frozen? ⟨b8,2,none⟩ = false:=hb8.frozen 2
  have HR5:=Lib.hid hR5
  have HB8:=Lib.hid hb8
  have HLV:=Lib.hid hlv
  have HLW:=Lib.hid hlw
  have HLN:=Lib.hid hlvn
  clear hR4 hR5 hb8 hb8' hlv hlw hlvn
  simp only [List.drop_succ_cons,List.drop_zero,List.take_succ_cons,List.take_zero]
  go_wp2
  refine hK _ _ (fun _=>rfl) ?_
  clear hK K o0 o1 o2 z0 z1 z2
  have hnr8 : ¬ D.RB b8:=fun z=>by have:=hrlt _ z; omega
  have hR6:=((HR5.out.set_ (p:=⟨b8,0,none⟩) hn8' hnr8 (.bool a.ok)).set_ (p:=⟨b8,1,none⟩) hn8' hnr8 (.int .i64 a.n)).set_ (p:=⟨b8,2,none⟩) hn8' hnr8 (.slice lA a.ls.length lc)
  have hH6:=held_set (held_set (held_set hH5 (p:=⟨b8,0,none⟩) hy8 (.bool a.ok)) (p:=⟨b8,1,none⟩) hy8 (.int .i64 a.n)) (p:=⟨b8,2,none⟩) hy8 (.slice lA a.ls.length lc)
  have hb86:=((HB8.out.set_ 0 (.bool a.ok)).set_ 1 (.int .i64 a.n)).set_ 2 (.slice lA a.ls.length lc)
  have hlvne : ∀ b,(Value.slice lA a.ls.length lc).ownBlock = some b→b≠b8:=fun b hb=>by
   rcases HLV.out.2 with ⟨e,_⟩ | ⟨g,cp,cur,e,_,k,_⟩
   ·rw [e] at hb; simp [Value.ownBlock] at hb
   ·rw [e] at hb; simp only [Value.ownBlock,Option.some.injEq] at hb; subst hb
    exact blk_ne (show Blk v _ _ _ from k) HB8.out (by decide)
  have hlv6:=own_same (w':=((v.setCell ⟨b8,0,none⟩ (.bool a.ok)).setCell ⟨b8,1,none⟩ (.int .i64 a.n)).setCell ⟨b8,2,none⟩ (.slice lA a.ls.length lc)) HLV.out fun b hb=>by
   have:=hlvne b hb
   rw [Below.heap_setCell _ _ _ _ this,Below.heap_setCell _ _ _ _ this,Below.heap_setCell _ _ _ _ this]
  clear HR5 hH5 HB8 HLV hlvne
  generalize ((v.setCell ⟨b8,0,none⟩ (.bool a.ok)).setCell ⟨b8,1,none⟩ (.int .i64 a.n)).setCell ⟨b8,2,none⟩ (.slice lA a.ls.length lc) = w6 at hR6 hH6 hb86 hlv6 ⊢
  refine Lg.move _ (fun _ _=>step_region_end) (fun h=>h) ?_
  refine Lg.code fun K hK v τ2 n2 hv=>?_
  subst hv
  have hR6:=hR6.re
  have hH6 : Held H0 y H2 v:=held_re.1 hH6
  have hb86 : Blk v b8 66 #[.bool a.ok,.int .i64 a.n,.slice lA a.ls.length lc]:=hb86
  have hlv6 : v.ownsRow z.heap.size 2 1 (.slice lA a.ls.length lc) a.ls.length (a.ls.map (Value.int .i64)):=hlv6
  obtain ⟨rw_,ca,r1,r2,r3,r4,r5⟩:=hR6.rows
  obtain ⟨xs,q1,q2,q3⟩:=r4 i T.lt
  have ti:=T.lt
  have tn:=T.n64
  obtain ⟨rA,rc,hrw⟩ : ∃ A c,rw_ i = .slice A (st2.2 i).length c:=own_slice q1
  have c1 : v.cell? ⟨D.anb,0,none⟩ = some (.slice (some ⟨D.ab,0,none⟩) D.n D.n):=hR6.cell T.an 0
  have c2 : v.cell? ⟨D.ib i,0,none⟩ = some (.int .i64 i):=hR6.cell T.ib 0
  have c3 : v.cell? ⟨D.ab,i,none⟩ = some (rw_ i):=(cell_of_row v D.ab i ca _ _ r1).trans (r3 i ti)
  have o0 : v.cell? ⟨b8,0,none⟩ = some (.bool a.ok):=hb86.cell 0
  have o1 : v.cell? ⟨b8,1,none⟩ = some (.int .i64 a.n):=hb86.cell 1
  have o2 : v.cell? ⟨b8,2,none⟩ = some (.slice lA a.ls.length lc):=hb86.cell 2
  have z3 : v.frozen? ⟨D.ab,i,none⟩ = false:=(show Blk v D.ab _ _ from r1).frozen i
  have lln : (st2.2 i).length = j:=by rw [HST.out]; exact HOL.out
  have hcap1 : (st2.2 i).length + 1≤maxLen:=by unfold maxLen; omega
  have hby : ((st2.2 i).length + 1) * 40≤140737488355328:=by omega
  have ownb : ∀ b cur t,v.heap[b]? = some (.cells cur t (0,0))→t≠66→(rw_ i).ownBlock≠some b:=fun b cur t hb ht hz=>by
   rcases q1.2 with ⟨e,_⟩ | ⟨g,cp,cur',e,_,k,_⟩
   ·rw [e] at hz; simp [Value.ownBlock] at hz
   ·rw [e] at hz; simp only [Value.ownBlock,Option.some.injEq] at hz; subst hz
    rw [hb] at k
    simp only [Option.some.injEq,Obj.cells.injEq] at k
    exact ht k.2.1
  have l8 : b8 < v.heap.size:=hb86.lt
  have lab : D.ab < v.heap.size:=lt_of_some r1
  have lan : D.anb < v.heap.size:=lt_of_cell c1
  have lib : D.ib i < v.heap.size:=lt_of_cell c2
  have nab : (rw_ i).ownBlock≠some D.ab:=ownb _ _ _ r1 (by decide)
  have nan : (rw_ i).ownBlock≠some D.anb:=fun hz=>hR6.rbH _ T.an.1 (q3 _ hz).1
  have nib : (rw_ i).ownBlock≠some (D.ib i):=fun hz=>hR6.rbH _ T.ib.1 (q3 _ hz).1
  have n8 : (rw_ i).ownBlock≠some b8:=fun hz=>hn8' (q3 _ hz).1
  obtain ⟨i0,hi0,hz0,hz1,hz2⟩:=info_parts Try.infoAns
  rw [hrw] at c3 nab nan nib n8
  have hq1:=q1
  rw [hrw] at hq1
  have HR6:=Lib.hid hR6
  have HH6:=Lib.hid hH6
  have HB8:=Lib.hid hb86
  have HLV:=Lib.hid hlv6
  have HQ1:=Lib.hid hq1
  have R1:=Lib.hid r1
  have R2:=Lib.hid r2
  have R3:=Lib.hid r3
  have R4:=Lib.hid r4
  have R5:=Lib.hid r5
  have Q1:=Lib.hid q1
  have Q2:=Lib.hid q2
  have Q3:=Lib.hid q3
  have HRW:=Lib.hid hrw
  have LLN:=Lib.hid lln
  have OWB:=Lib.hid ownb
  clear hR6 hH6 hb86 hlv6 r1 r2 r3 r4 r5 q1 q2 q3 hrw lln ownb hq1
  refine wp_region_last (S:=fun w'=>w'.cell? ⟨D.anb,0,none⟩ = some (.slice (some ⟨D.ab,0,none⟩) D.n D.n)∧w'.cell? ⟨D.ib i,0,none⟩ = some (.int .i64 i)∧w'.cell? ⟨D.ab,i,none⟩ = some (.slice rA (st2.2 i).length rc)∧w'.cell? ⟨b8,0,none⟩ = some (.bool a.ok)∧w'.cell? ⟨b8,1,none⟩ = some (.int .i64 a.n)∧w'.cell? ⟨b8,2,none⟩ = some (.slice lA a.ls.length lc)) 10 (by kernel_rfl) (by kernel_rfl) (by kernel_rfl) ?_
  simp only [idle,List.modify_toArray,List.modify_succ_cons,List.modify_zero_cons,List.size_toArray,List.length_cons,List.length_nil,Nat.reduceAdd]
  have HS : v.drew.cell? ⟨D.anb,0,none⟩ = some (.slice (some ⟨D.ab,0,none⟩) D.n D.n)∧v.drew.cell? ⟨D.ib i,0,none⟩ = some (.int .i64 i)∧v.drew.cell? ⟨D.ab,i,none⟩ = some (.slice rA (st2.2 i).length rc)∧v.drew.cell? ⟨b8,0,none⟩ = some (.bool a.ok)∧v.drew.cell? ⟨b8,1,none⟩ = some (.int .i64 a.n)∧v.drew.cell? ⟨b8,2,none⟩ = some (.slice lA a.ls.length lc):=⟨c1,c2,c3,o0,o1,o2⟩
  refine wpAnyH_read (i:=0) (some 22) rfl rfl (by kernel_rfl) (by kernel_rfl) (by kernel_rfl) (fun _ _ _ h=>h) rfl HS ?_
  apply Exists.intro
  refine ⟨fun wq hw=>?_,?_⟩
  ·obtain ⟨hw1,hw2,hw3,hw4,hw5,hw6⟩:=hw
   go_simp
   rfl
  simp only [Act.put,List.setIfInBounds_toArray,List.set_cons_zero,List.set_cons_succ]
  refine wpAnyH_read (i:=1) (some 23) rfl rfl (by kernel_rfl) (by kernel_rfl) (by kernel_rfl) (fun _ _ _ h=>h) rfl HS ?_
  apply Exists.intro
  refine ⟨fun wq hw=>?_,?_⟩
  ·obtain ⟨hw1,hw2,hw3,hw4,hw5,hw6⟩:=hw
   go_simp
   rfl
  simp only [Act.put,List.setIfInBounds_toArray,List.set_cons_zero,List.set_cons_succ]
  refine wpAnyH_read (i:=2) (some 24) rfl rfl (by kernel_rfl) (by kernel_rfl) (by kernel_rfl) (fun _ _ _ h=>h) rfl HS ?_
  apply Exists.intro
  refine ⟨fun wq hw=>?_,?_⟩
  ·obtain ⟨hw1,hw2,hw3,hw4,hw5,hw6⟩:=hw
   go_simp
   rfl
  simp only [Act.put,List.setIfInBounds_toArray,List.set_cons_zero,List.set_cons_succ]
  refine wpAnyH_read (i:=3) (some 25) rfl rfl (by kernel_rfl) (by kernel_rfl) (by kernel_rfl) (fun _ _ _ h=>h) rfl HS ?_
  apply Exists.intro
  refine ⟨fun wq hw=>?_,?_⟩
  ·obtain ⟨hw1,hw2,hw3,hw4,hw5,hw6⟩:=hw
   go_simp
   rfl
  simp only [Act.put,List.setIfInBounds_toArray,List.set_cons_zero,List.set_cons_succ]
  refine wpAnyH_read (i:=4) (some 26) rfl rfl (by kernel_rfl) (by kernel_rfl) (by kernel_rfl) (fun _ _ _ h=>h) rfl HS ?_
  apply Exists.intro
  refine ⟨fun wq hw=>?_,?_⟩
  ·obtain ⟨hw1,hw2,hw3,hw4,hw5,hw6⟩:=hw
   go_simp
   rfl
  simp only [Act.put,List.setIfInBounds_toArray,List.set_cons_zero,List.set_cons_succ]
  refine wpAnyH_read (i:=5) (some 27) rfl rfl (by kernel_rfl) (by kernel_rfl) (by kernel_rfl) (fun _ _ _ h=>h) rfl HS ?_
  apply Exists.intro
  refine ⟨fun wq hw=>?_,?_⟩
  ·obtain ⟨hw1,hw2,hw3,hw4,hw5,hw6⟩:=hw
   go_simp
   rfl
  simp only [Act.put,List.setIfInBounds_toArray,List.set_cons_zero,List.set_cons_succ]
  refine wpAnyH_read (i:=6) (some 28) rfl rfl (by kernel_rfl) (by kernel_rfl) (by kernel_rfl) (fun _ _ _ h=>h) rfl HS ?_
  apply Exists.intro
  refine ⟨fun wq hw=>?_,?_⟩
  ·obtain ⟨hw1,hw2,hw3,hw4,hw5,hw6⟩:=hw
   go_simp
   rfl
  simp only [Act.put,List.setIfInBounds_toArray,List.set_cons_zero,List.set_cons_succ]
  clear HS
  refine wpAnyH_one (i:=7) (by kernel_rfl) rfl rfl fun K hK=>?_
  go_simp
  refine hK _ _ ⟨(one_cell' v _ _ 0 lan).trans c1,(one_cell' v _ _ 0 lib).trans c2,(one_cell' v _ _ i lab).trans c3,(one_cell' v _ _ 0 l8).trans o0,(one_cell' v _ _ 1 l8).trans o1,(one_cell' v _ _ 2 l8).trans o2⟩ ?_
  clear hK K
  refine wpAnyH_one (i:=8) (by kernel_rfl) rfl rfl fun K hK=>?_
  refine wp_append_lies _ _ _ _ rfl 0 66 i0 _ 3 40 Try.underlying64 hi0 hz0 hz1 hz2 rfl (by omega) (.slice rA (st2.2 i).length rc) (st2.2 i).length xs rfl (HQ1.out.alloc _).drew ⟨v.heap.size,0,none⟩ 1 1 [.bool a.ok,.int .i64 a.n,.slice lA a.ls.length lc] rfl rfl (World.news_of_block (cs:=#[.bool a.ok,.int .i64 a.n,.slice lA a.ls.length lc]) (t:=66) (fr:=(0,0)) (news_one v _ _)) (by simp [Value.oneCell']) (by omega) hcap1 hby (by omega) (v.heap.size + 1) (one_len _ _) fun gg cap' w1 hown1 hgrow hat hgl=>?_
  have ln1:=one_len v (Obj.cells #[.bool a.ok,.int .i64 a.n,.slice lA a.ls.length lc] 66)
  have key : ∀ b,b < v.heap.size→(Value.slice rA (st2.2 i).length rc).ownBlock≠some b→w1.heap[b]? = v.heap[b]?:=fun b hb hne=>(hgrow.block b (by rw [ln1]; omega) (fun z=>hne z.symm)).trans (Below.heap_alloc _ _ _ hb)
  have kan:=(World.cell?_of_block (w:=v) (w':=w1) (a:=⟨D.anb,0,none⟩) (key _ lan nan)).trans c1
  have kib:=(World.cell?_of_block (w:=v) (w':=w1) (a:=⟨D.ib i,0,none⟩) (key _ lib nib)).trans c2
  have kab:=(World.cell?_of_block (w:=v) (w':=w1) (a:=⟨D.ab,i,none⟩) (key _ lab nab)).trans c3
  have k80:=(World.cell?_of_block (w:=v) (w':=w1) (a:=⟨b8,0,none⟩) (key _ l8 n8)).trans o0
  have k81:=(World.cell?_of_block (w:=v) (w':=w1) (a:=⟨b8,1,none⟩) (key _ l8 n8)).trans o1
  have k82:=(World.cell?_of_block (w:=v) (w':=w1) (a:=⟨b8,2,none⟩) (key _ l8 n8)).trans o2
  have kz:=(World.frozen?_of_block (w:=v) (w':=w1) (a:=⟨D.ab,i,none⟩) (key _ lab nab)).trans z3
  refine hK _ _ ⟨kan,kib,kab,k80,k81,k82⟩ ?_
  clear hK K
  have HS : w1.cell? ⟨D.anb,0,none⟩ = some (.slice (some ⟨D.ab,0,none⟩) D.n D.n)∧w1.cell? ⟨D.ib i,0,none⟩ = some (.int .i64 i)∧w1.cell? ⟨D.ab,i,none⟩ = some (.slice rA (st2.2 i).length rc)∧w1.cell? ⟨b8,0,none⟩ = some (.bool a.ok)∧w1.cell? ⟨b8,1,none⟩ = some (.int .i64 a.n)∧w1.cell? ⟨b8,2,none⟩ = some (.slice lA a.ls.length lc):=⟨kan,kib,kab,k80,k81,k82⟩
  simp only [Act.put,List.setIfInBounds_toArray,List.set_cons_zero,List.set_cons_succ,List.getElem_toArray,List.getElem_cons_zero,List.getElem_cons_succ]
  refine wpAnyH_read (i:=9) (some 31) rfl rfl (by kernel_rfl) (by kernel_rfl) (by kernel_rfl) (fun _ _ _ h=>h) rfl HS ?_
  apply Exists.intro
  refine ⟨fun wq hw=>?_,?_⟩
  ·obtain ⟨hw1,hw2,hw3,hw4,hw5,hw6⟩:=hw
   go_simp
   rfl
  simp only [Act.put,List.setIfInBounds_toArray,List.set_cons_zero,List.set_cons_succ]
  refine wpAnyH_read (i:=10) none rfl rfl (by kernel_rfl) (by kernel_rfl) (by kernel_rfl) (fun _ _ _ h=>h) rfl HS ?_
  apply Exists.intro
  refine ⟨fun wq hw=>?_,?_⟩
  ·go_simp
   rfl
  simp only [Act.put]
  clear HS
  refine wpAnyH_done (by kernel_rfl) ?_ _
  simp only [Exit.then]
  refine wpOps_list (m:=10) rfl ?_
  have HG:=Lib.hid hgrow
  have HO1:=Lib.hid hown1
  have HAT:=Lib.hid hat
  have KEY:=Lib.hid key
  clear hgrow hown1 hat key kan kib k80 k81 k82 c1 c2 c3 o0 o1 o2
  go_wp2
  refine hK _ _ (fun _=>rfl) ?_
  clear hK K
-- the answer has been laid behind
  have hv' : ∀ b,(Value.slice (some ⟨gg,0,none⟩) ((st2.2 i).length + 1) cap').ownBlock = some b→(rw_ i).ownBlock = some b∨v.heap.size≤b:=fun b hb=>by
   simp only [Value.ownBlock,Option.some.injEq] at hb
   subst hb
   rcases HAT.out with h | h
   ·exact .inl (by rw [HRW.out]; exact h)
   ·exact .inr (by omega)
  have ab1 : Blk w1 D.ab 64 ca:=(KEY.out _ lab nab).trans R1.out
  have gne : gg≠D.ab:=by
   rcases HO1.out.2 with ⟨e,_⟩ | ⟨g,cp,cur,e,_,k,_⟩
   ·cases e
   ·cases e
    exact blk_ne (show Blk w1 _ _ _ from k) ab1 (by decide)
  have hfin : ∀ b,b < v.heap.size→b≠D.ab→(rw_ i).ownBlock≠some b→(w1.setCell ⟨D.ab,i,none⟩ (.slice (some ⟨gg,0,none⟩) ((st2.2 i).length + 1) cap')).heap[b]? = v.heap[b]?:=fun b hb h1 h2=>(Below.heap_setCell _ _ _ _ h1).trans (KEY.out b hb (by rw [← HRW.out]; exact h2))
  have hRn:=RepO.push HR6.out ti (a:=a) (lv:=.slice lA a.ls.length lc) (v':=.slice (some ⟨gg,0,none⟩) ((st2.2 i).length + 1) cap') (w':=w1.setCell ⟨D.ab,i,none⟩ (.slice (some ⟨gg,0,none⟩) ((st2.2 i).length + 1) cap')) R1.out R2.out R3.out R4.out R5.out Q1.out Q2.out (own_base HLV.out (Nat.zero_le _)) HLN.out (fun b hb hrbb=>by have:=HLW.out b hb; have:=hrlt _ hrbb; omega)
   (own_same HO1.out fun b hb=>by
     simp only [Value.ownBlock,Option.some.injEq] at hb
     subst hb
     exact Below.heap_setCell _ _ _ _ gne) hv' (ab1.set_ i _) hfin
  have hHn : Held H0 y (fun b=>(H2 b∧(rw_ i).ownBlock≠some b)∨(Value.slice (some ⟨gg,0,none⟩) ((st2.2 i).length + 1) cap').ownBlock = some b∨(Value.slice lA a.ls.length lc).ownBlock = some b) (w1.setCell ⟨D.ab,i,none⟩ (.slice (some ⟨gg,0,none⟩) ((st2.2 i).length + 1) cap')):=by
   have hsz:=HG.out.size
   rw [ln1] at hsz
   refine ⟨by have:=HH6.out.size; simp [World.setCell]; omega,fun b c t r hb hn hr=>?_⟩
   obtain ⟨e1,e2⟩:=HH6.out.block b c t r hb hn hr
   have hby':=lt_of_some hb
   have hsv:=HH6.out.size
   refine ⟨(hfin b (lt_of_some e1) (fun z=>e2 (z ▸ HR6.out.abH.1)) (fun z=>e2 (Q3.out b z).1)).trans e1,?_⟩
   rintro (⟨z,_⟩ | z | z)
   ·exact e2 z
   ·rcases hv' b z with z | z
    ·exact e2 (Q3.out b z).1
    ·omega
   ·have:=HLW.out b z; omega
  have hrow : (D.push i a st2).2 i = own ++ [a]:=by simp [OpsD.push,HST.out]
  clear HR6 HH6 HB8 HLV HQ1 R1 R2 R3 R4 R5 Q1 Q2 Q3 HRW LLN OWB hfin hv' ab1 KEY HAT HO1 HG HLW HLN
  generalize w1.setCell ⟨D.ab,i,none⟩ (.slice (some ⟨gg,0,none⟩) ((st2.2 i).length + 1) cap') = w9 at hRn hHn ⊢
  refine Lg.move _ (fun _ _=>step_inBlock) (fun h=>h) ?_
  refine Lg.code fun K hK v τ2 n2 hv=>?_
  subst hv
  have hRn:=hRn.re
  have hHn:=held_re.1 hHn
  have HRn:=Lib.hid hRn
  clear hRn
  go_wp2
  refine hK _ _ (fun _=>rfl) ?_
  clear hK K
  refine Lg.family (frD (.iface 171 (.pointer (some ⟨sb,0,none⟩))) (.pointer (some ⟨D.opb i,0,none⟩)) (.pointer (some ⟨D.dob,0,none⟩)) (.pointer (some ⟨D.ib i,0,none⟩)) (.pointer (some ⟨D.anb,0,none⟩))) (R:=fun f=>f 9 = .slice (some ⟨ob,oo,none⟩) (D.ops i).length cap∧f 10 = .int .i64 (D.ops i).length∧f 11 = .int .i64 ((j + 1 : Nat) : Int)) ?_ (by rfl) ⟨rfl,rfl,by go_num⟩
  rintro f' ⟨e9,e10,e11⟩
  exact hNext.out f' _ _ ⟨j + 1,by omega,_,_,own ++ [a],by simp [HOL.out],hrow,e9,e10,e11,rfl,HRn.out,hHn⟩ (by rw [e11,k11]; simp [intOf]; omega)
 ·have hd : decide (j < (D.ops i).length) = false:=by simpa using hlt
  simp only [hd]
  refine Lg.move _ (fun _ _=>step_cond rfl) (fun h=>h) ?_
  refine Lg.move _ (fun _ _=>step_exit rfl) (fun h=>h) ?_
  have hjn : j = (D.ops i).length:=by omega
  have hdr : thrT D doT i ((D.ops i).drop j) own st' = .ret st':=by rw [hjn,List.drop_length]; rfl
  rw [hdr]
  refine HQ.out .normal (.ret st') _ _ ⟨rfl,.tuple #[],fun y τ n _=>?_,st',H',rfl,HR.out,hcap _ _ _ _ hcapy hH⟩
  simp [results]
open Go.ConcN (upd upd_ne upd_same)
section
variable {D : OpsD}
def OKt (D : OpsD) (i : Nat) : Tree D.St D.St→D.St→Prop
 | .ret s,σ=>∀ l,l≠i→s.2 l = σ.2 l
 | .yield s k,σ=>(∀ l,l≠i→s.2 l = σ.2 l)∧∀ σ',σ'.2 i = s.2 i→OKt D i (k σ') σ'
 | .cut,_=>False
theorem OKt.congr {i : Nat} {t : Tree D.St D.St} {σ σ' : D.St} (h : OKt D i t σ) (e : ∀ l,l≠i→σ.2 l = σ'.2 l) : OKt D i t σ':=by
 cases t with
 | ret s=>exact fun l hl=>(h l hl).trans (e l hl)
 | yield s k=>exact ⟨fun l hl=>(h.1 l hl).trans (e l hl),h.2⟩
 | cut=>exact h
theorem OKt.ne {i : Nat} {t : Tree D.St D.St} {σ : D.St} (h : OKt D i t σ) : t≠.cut:=fun e=>by rw [e] at h; exact h
def OpsMI (D : OpsD) (m : Mach D.St) : Prop:=∀ i,i < D.n→∀ k,m.th i = .wait k→∀ σ : D.St,σ.2 i = m.s.2 i→OKt D i (k σ) σ
theorem OpsMI.did {m : Mach D.St} (h : OpsMI D m) {i : Nat} {t : Tree D.St D.St} (ht : OKt D i t m.s) : OpsMI D (m.did i t)∧∀ l,l≠i→(m.did i t).s.2 l = m.s.2 l:=by
 cases t with
 | cut=>exact ht.elim
 | ret s =>
   refine ⟨fun l hl k hk σ hσ=>?_,ht⟩
   by_cases e : l = i
   ·subst e; simp [Mach.did,upd_same] at hk
   ·simp only [Mach.did,upd_ne _ _ e] at hk
    exact h l hl k hk σ (hσ.trans (ht l e))
 | yield s k0 =>
   refine ⟨fun l hl k hk σ hσ=>?_,ht.1⟩
   by_cases e : l = i
   ·subst e
    simp only [Mach.did,upd_same,Stg.wait.injEq] at hk
    subst hk
    exact ht.2 σ hσ
   ·simp only [Mach.did,upd_ne _ _ e] at hk
    exact h l hl k hk σ (hσ.trans (ht.1 l e))
end
structure Inner where
 A : Type
 At : A→World→Prop
 BI : Nat→Prop
 at_ : ∀ a w w',At a w→(∀ b,BI b→w'.heap[b]? = w.heap[b]?)→At a w'
 Box : A→(Nat→Prop)→World→Prop:=fun _ G _=>∀ b,¬ G b
 box_ : ∀ a G w w',Box a G w→(∀ b,G b∨BI b→w'.heap[b]? = w.heap[b]?)→Box a G w':=by exact fun _ _ _ _ h _=>h
structure OpsB where
 n : Nat
 ab : Nat
 dob : Nat
 anb : Nat
 opb : Nat→Nat
 ib : Nat→Nat
 fv : Value
 ops : Nat→List OpI
 opv : Nat→Value
 RB : Nat→Prop
 rv : Nat→Obj
 rbc : ∀ b,RB b→∃ c t r,rv b = .cells c t r
def OpsB.on (B : OpsB) (I : Inner) (good : OpI→Prop) : OpsD where
 n:=B.n
 ab:=B.ab
 dob:=B.dob
 anb:=B.anb
 opb:=B.opb
 ib:=B.ib
 fv:=B.fv
 ops:=B.ops
 opv:=B.opv
 good:=good
 RB:=B.RB
 rv:=B.rv
 rbc:=B.rbc
 A:=I.A
 At:=I.At
 BI:=I.BI
 at_:=I.at_
 Box:=I.Box
 box_:=I.box_
end Go.Proofs.Ytlhbonnminlnlaa
namespace Go.Proofs.Ytlhbonnminlnlaa
open Go.RowKit Go.Turn Go.Tame Go.Conc
structure RowsAt (w : World) (Tb To : Nat) (n : Nat) (A : Nat→Option Addr) (len cap : Nat→Nat) : Prop where
 row : ∀ i,i < n→w.cell? ⟨Tb,To + i,none⟩ = some (.slice (A i) (len i) (cap i))
 le : ∀ i,i < n→len i≤cap i
 max : ∀ i,i < n→cap i≤maxLen
 nil : ∀ i,i < n→A i = none→cap i = 0
def closure (opb ib : Nat→Nat) (dob anb i : Nat) : Value:=.func (.func 80) #[] #[.pointer (some ⟨opb i,0,none⟩),.pointer (some ⟨dob,0,none⟩),.pointer (some ⟨ib i,0,none⟩),.pointer (some ⟨anb,0,none⟩)]
structure MadeT (w0 : World) (n j : Nat) (fv : Value) (A : Nat→Option Addr) (len cap : Nat→Nat) (dob ab anb : Nat) (opb ib : Nat→Nat) (lv : Value) (w : World) : Prop where
 d : Blk w dob 109 #[fv]
 a : Blk w ab 64 (Array.replicate n (.slice none 0 0))
 an : Blk w anb 53 #[.slice (some ⟨ab,0,none⟩) n n]
 i : ∀ i,i < j→Blk w (ib i) 3 #[.int .i64 i]
 o : ∀ i,i < j→Blk w (opb i) 63 #[.slice (A i) (min (len i) 65536) (cap i)]
 ge : w0.heap.size≤dob∧w0.heap.size≤ab∧w0.heap.size≤anb∧∀ i,i < j→w0.heap.size≤ib i∧w0.heap.size≤opb i
 own : w.ownsRow w0.heap.size 129 1 lv j ((List.range j).map (closure opb ib dob anb))
 old : Old w0.heap.size w0 w
theorem MadeT.re {w0 y : World} {n j : Nat} {fv : Value} {A : Nat→Option Addr} {len cap : Nat→Nat} {dob ab anb : Nat} {opb ib : Nat→Nat} {lv : Value} {τ : Nat→Question→Nat} {d : Nat} (h : MadeT w0 n j fv A len cap dob ab anb opb ib lv (y.re τ d)) : MadeT w0 n j fv A len cap dob ab anb opb ib lv y:=
 ⟨h.d,h.a,h.an,h.i,h.o,h.ge,h.own,h.old.re⟩
theorem MadeT.alloc {w0 w : World} {n j : Nat} {fv : Value} {A : Nat→Option Addr} {len cap : Nat→Nat} {dob ab anb : Nat} {opb ib : Nat→Nat} {lv : Value} (h : MadeT w0 n j fv A len cap dob ab anb opb ib lv w) (o : Obj) : MadeT w0 n j fv A len cap dob ab anb opb ib lv (w.alloc o):=
 ⟨h.d.alloc o,h.a.alloc o,h.an.alloc o,fun i hi=>(h.i i hi).alloc o,fun i hi=>(h.o i hi).alloc o,h.ge,h.own.alloc o,h.old.new h.old.size o⟩
theorem MadeT.snoc {w0 q w1 : World} {n j : Nat} {fv : Value} {A : Nat→Option Addr} {len cap : Nat→Nat} {dob ab anb b9 b10 lc g cp' : Nat} {LA : Option Addr} {opb ib : Nat→Nat} (h : MadeT w0 n j fv A len cap dob ab anb opb ib (.slice LA j lc) q) (hb9 : Blk q b9 3 #[.int .i64 j]) (hb10 : Blk q b10 63 #[.slice (A j) (min (len j) 65536) (cap j)]) (g9 : w0.heap.size≤b9) (g10 : w0.heap.size≤b10)
  (hown : w1.ownsRow w0.heap.size 129 1 (.slice (some ⟨g,0,none⟩) (j + 1) cp') (j + 1) ((List.range j).map (closure opb ib dob anb) ++ [closure (fun _=>b10) (fun _=>b9) dob anb 0])) (hgrow : q.grownBy w1 (Value.slice LA j lc).ownBlock) :
  MadeT w0 n (j + 1) fv A len cap dob ab anb (fun i=>if i = j then b10 else opb i) (fun i=>if i = j then b9 else ib i) (.slice (some ⟨g,0,none⟩) (j + 1) cp') w1:=by
 have hrow : ∀ b,(Value.slice LA j lc).ownBlock = some b→w0.heap.size≤b∧∃ cur,q.heap[b]? = some (.cells cur 129 (0,0)):=fun b hb=>by
  rcases h.own.2 with ⟨h1,_⟩ | ⟨g,c',cur,h1,h2,h3,_⟩
  ·rw [h1] at hb; simp [Value.ownBlock] at hb
  ·rw [h1] at hb
   simp only [Value.ownBlock,Option.some.injEq] at hb
   subst hb
   exact ⟨h2,cur,h3⟩
 have key : ∀ {b : Nat} {t : TypeId} {c : Array Value},Blk q b t c→t≠129→Blk w1 b t c:=fun {b t c} hb ht=>hb.grown hgrow fun e=>by
  obtain ⟨_,cur,h2⟩:=hrow b e.symm
  exact ht (by unfold Blk at hb; rw [hb] at h2; simp at h2; exact h2.2)
 refine ⟨key h.d (by decide),key h.a (by decide),key h.an (by decide),fun i hi=>?_,fun i hi=>?_,⟨h.ge.1,h.ge.2.1,h.ge.2.2.1,fun i hi=>?_⟩,?_,⟨Nat.le_trans h.old.size hgrow.size,fun b hb=>?_,hgrow.os.trans h.old.io.1,hgrow.output.trans h.old.io.2⟩⟩
 ·by_cases e : i = j
  ·subst e; simp only [if_true]; exact key hb9 (by decide)
  ·simp only [e,if_false]; exact key (h.i i (by omega)) (by decide)
 ·by_cases e : i = j
  ·subst e; simp only [if_true]; exact key hb10 (by decide)
  ·simp only [e,if_false]; exact key (h.o i (by omega)) (by decide)
 ·by_cases e : i = j
  ·simp only [e,if_true]; exact ⟨g9,g10⟩
  ·simp only [e,if_false]; exact h.ge.2.2.2 i (by omega)
 ·have e : (List.range (j + 1)).map (closure (fun i=>if i = j then b10 else opb i) (fun i=>if i = j then b9 else ib i) dob anb) = (List.range j).map (closure opb ib dob anb) ++ [closure (fun _=>b10) (fun _=>b9) dob anb 0]:=by
   rw [List.range_succ,List.map_append,List.map_cons,List.map_nil]
   congr 1
   ·apply List.map_congr_left
    intro i hi
    have : i≠j:=by have:=List.mem_range.1 hi; omega
    simp [closure,this]
   ·simp [closure]
  rw [e]
  exact hown
 ·exact (hgrow.block b (by have:=h.old.size; omega) (fun e=>by have:=(hrow b e.symm).1; omega)).trans (h.old.block b hb)
theorem Try.infoFunc : (Try.prog.info? 129).map (fun i=>(i.zero,i.size,i.bytes)) = some (some .nilFunc,1,8):=by kernel_rfl
theorem Try.infoAnsS : (Try.prog.info? 64).map (fun i=>(i.zero,i.size,i.bytes)) = some (some (.slice none 0 0),1,24):=by kernel_rfl
theorem new_answers (n : Nat) : madeCells (Value.slice none 0 0).cells (n * 1) = Array.replicate n (.slice none 0 0):=by
 apply Array.ext (by simp [madeCells])
 intro i h1 h2
 simp [madeCells,Value.cells,Nat.mod_one]
theorem make_answers (w : World) (n : Nat) (hn : n≤64) : (Instr.makeSlice 53 (.int .i64 n) (.int .i64 n)).run Try.prog w = .ok (.slice (some ⟨w.heap.size,0,none⟩) n n) (w.alloc (.cells (Array.replicate n (.slice none 0 0)) 64)):=by
 obtain ⟨i,hi,h0,h1,h2⟩:=info_parts Try.infoAnsS
 have:=run_make w 53 64 i _ Try.underlying53 hi h0 .i64 .i64 n n (by omega) (by omega) (by rw [h2]; omega) (by omega)
 rw [h1] at this
 rw [this,new_answers]
 simp
abbrev frM (f : Nat→Value) : Array Value:=#[f 0,f 1,f 2,f 3,f 4,f 5,f 6,f 7,f 8,f 9,f 10,f 11,f 12,f 13,f 14,f 15,f 16,f 17,f 18,f 19,f 20,f 21,f 22,f 23,f 24,f 25,f 26,f 27,f 28,f 29,f 30,f 31,f 32,f 33,f 34,f 35,f 36,f 37]
set_option maxHeartbeats 2000000 in
set_option maxRecDepth 100000 in
theorem doing_calls {κ : Type} (L : Lg Try.prog κ) (hs : ¬ L.strict) (t : κ) (tA : Option Addr) (Tb To : Nat) (nt cp : Nat) (htA : 0 < nt→tA = some ⟨Tb,To,none⟩) (hnt : nt≤maxLen) (fd : FuncId) (bd cs : Array Value) (A : Nat→Option Addr) (len cap : Nat→Nat) (w0 : World) (hrows : RowsAt w0 Tb To (min nt 64) A len cap) :
  Ccalls L 66 #[.slice tA nt cp,.func (.func fd) bd cs] t w0 fun v t' w'=>t' = t∧∃ dob ab anb opb ib lv,v = .tuple #[lv,.slice (some ⟨ab,0,none⟩) (min nt 64 : Nat) (min nt 64 : Nat)]∧MadeT w0 (min nt 64) (min nt 64) (.func (.func fd) bd cs) A len cap dob ab anb opb ib lv w':=by
 intro c mid hR
 have HR:=Lib.hid hR
 clear hR
 unfold maxLen at hnt
 rw [show Frame.enter Try.prog 66 #[.slice tA nt cp,.func (.func fd) bd cs] .normal = Frame.at { (default : Frame) with fn:=66,kind:=.normal } ⟨#[.slice tA nt cp,.func (.func fd) bd cs] ++ Array.replicate (Try.f66.ntmps - 2) undef,[]⟩ [.code (Try.f66.body.getD .skip)] from by simp [Frame.enter,Frame.at,Try.func66]; rfl]
 simp only [Try.f66,Option.getD_some,Nat.reduceSub,Array.replicate_succ,Array.replicate_zero,List.push_toArray,List.append_toArray,List.nil_append,List.cons_append]
 refine Lg.move _ (fun _ _=>step_seq) (fun h=>h) ?_
 refine Lg.code fun K hK y τ n' hy=>?_
 have hold : Old w0.heap.size w0 y:=by rw [hy]; exact (Old.refl _ (y.re τ n')).re
 have hsz : w0.heap.size = y.heap.size:=by rw [hy]; rfl
 clear hy
 go_wp2
 refine hK _ _ (fun h=>absurd h hs) ?_
 clear hK K
 have hd:=Blk.new y 109 #[.func (.func fd) bd cs]
 have hold:=hold.new (by omega) (.cells #[.func (.func fd) bd cs] 109)
 generalize y.alloc (.cells #[.func (.func fd) bd cs] 109) = z at hd hold ⊢
 generalize hdob : y.heap.size = dob at hd hsz ⊢
 have HSZ:=Lib.hid hsz
 clear hsz hdob
 refine Lg.move _ (fun _ _=>step_seq) (fun h=>h) ?_
 refine Lg.codeF hs ([6] ++ List.range' 11 3) (fun f w'=>f 6 = .int .i64 (min nt 64 : Nat)∧Blk w' dob 109 #[.func (.func fd) bd cs]∧Old w0.heap.size w0 w') (fun v τ' n' hv=>?_) ?_
 ·subst hv
  have hd : Blk v dob _ _:=hd
  have hold:=hold.re
  go_wp2
  all_goals
   refine ⟨rfl,rfl,?_,hd,hold⟩
   first
    | (rw [show min nt 64 = nt by omega]; rfl)
    | (rw [show min nt 64 = 64 by omega]; rfl)
 clear hd hold
 rintro f w1 ⟨f6,hd,hold⟩
 have hn64 : min nt 64≤64:=by omega
 have hnnt : min nt 64≤nt:=by omega
 generalize min nt 64 = n at *
 simp only [fill,fillL,List.range',List.cons_append,List.nil_append,List.set_cons_zero,List.set_cons_succ,Nat.reduceAdd,f6]
 generalize f 11 = u11
 generalize f 12 = u12
 generalize f 13 = u13
 clear f6 f
 refine Lg.move _ (fun _ _=>step_seq) (fun h=>h) ?_
 refine Lg.code fun K hK v τ n' hv=>?_
 subst hv
 have hd : Blk v dob _ _:=hd
 have hold:=hold.re
 have HD:=Lib.hid hd
 have hm:=fun w=>make_answers w n hn64
 clear hd
 go_wp2
 refine hK _ _ (fun h=>absurd h hs) ?_
 clear hK K hm
 have hab:=Blk.new v 64 (Array.replicate n (.slice none 0 0))
 have hd:=(HD.out.alloc (.cells (Array.replicate n (.slice none 0 0)) 64)).alloc (.cells #[.slice (some ⟨v.heap.size,0,none⟩) n n] 53)
 have ha:=hab.alloc (.cells #[.slice (some ⟨v.heap.size,0,none⟩) n n] 53)
 have han:=Blk.new (v.alloc (.cells (Array.replicate n (.slice none 0 0)) 64)) 53 #[.slice (some ⟨v.heap.size,0,none⟩) n n]
 rw [show (v.alloc (.cells (Array.replicate n (.slice none 0 0)) 64)).heap.size = v.heap.size + 1 from by simp] at han
 have hsz0:=hold.size
 have hold2:=(hold.new hsz0 (.cells (Array.replicate n (.slice none 0 0)) 64)).new (by simp; omega) (.cells #[.slice (some ⟨v.heap.size,0,none⟩) n n] 53)
 clear hab hold HD
 generalize (v.alloc (.cells (Array.replicate n (.slice none 0 0)) 64)).alloc (.cells #[.slice (some ⟨v.heap.size,0,none⟩) n n] 53) = w2 at hd ha han hold2 ⊢
 have hlo : w0.heap.size≤v.heap.size + 1:=by omega
 generalize v.heap.size + 1 = anb at han hlo ⊢
 generalize v.heap.size = ab at ha han hsz0 ⊢
 have hM : MadeT w0 n 0 (.func (.func fd) bd cs) A len cap dob ab anb (fun _=>0) (fun _=>0) (.slice none 0 0) w2:=
  ⟨hd,ha,han,fun _ h=>by omega,fun _ h=>by omega,⟨by have:=HSZ.out; omega,hsz0,hlo,fun _ h=>by omega⟩,⟨rfl,.inl ⟨rfl,rfl⟩⟩,hold2⟩
 clear hd ha han hsz0 hlo hold2 HSZ
 have HM:=Lib.hid hM
 clear hM
 refine Lg.move _ (fun _ _=>step_seq) (fun h=>h) ?_
 refine Lg.code fun K hK v τ n' hv=>?_
 subst hv
 have hM:=HM.out.re
 clear HM
 have HM:=Lib.hid hM
 clear hM
 go_wp2
 refine hK _ _ (fun h=>absurd h hs) ?_
 clear hK K
 refine Lg.move _ (fun _ _=>step_seq) (fun h=>h) ?_
 refine Lg.move _ (fun _ _=>step_seq) (fun h=>h) ?_
 refine Lg.code fun K hK v τ n' hv=>?_
 subst hv
 have hM:=HM.out.re
 clear HM
 have HM:=Lib.hid hM
 clear hM
 go_wp2
 refine hK _ _ (fun h=>absurd h hs) ?_
 clear hK K
 refine Lg.move _ (fun _ _=>step_block) (fun h=>h) ?_
 refine Lg.family frM (R:=fun f=>f 0 = .slice tA nt cp∧f 3 = .pointer (some ⟨dob,0,none⟩)∧f 7 = .pointer (some ⟨anb,0,none⟩)∧f 8 = .slice none 0 0∧f 16 = .int .i64 n∧f 17 = .int .i64 0) ?_ (by rfl) ⟨rfl,rfl,rfl,rfl,rfl,rfl⟩
 rintro f1 ⟨m0,m3,m7,m8,m16,m17⟩
 refine Lg.loop_fr frM (fun f t' w=>t' = t∧∃ j : Nat,j≤n∧∃ opb ib lv,f 0 = .slice tA nt cp∧f 3 = .pointer (some ⟨dob,0,none⟩)∧f 7 = .pointer (some ⟨anb,0,none⟩)∧f 8 = lv∧f 16 = .int .i64 n∧f 17 = .int .i64 j∧MadeT w0 n j (.func (.func fd) bd cs) A len cap dob ab anb opb ib lv w) (fun f _ _=>n - (intOf (f 17)).toNat) ⟨rfl,0,Nat.zero_le _,fun _=>0,fun _=>0,.slice none 0 0,m0,m3,m7,m8,m16,m17,HM.out⟩ ?_
 clear HM m0 m3 m7 m8 m16 m17 f1
 rintro f2 t' w ⟨rfl,j,hj,opb,ib,lv,k0,k3,k7,k8,k16,k17,hM⟩ hnext
 have HX:=Lib.hid hnext
 have HM:=Lib.hid hM
 clear hnext hM
 simp only [frM,k0,k3,k7,k8,k16,k17]
 refine Lg.move _ (fun _ _=>step_seq) (fun h=>h) ?_
 refine Lg.code fun K hK v τ n' hv=>?_
 subst hv
 have hM:=HM.out.re
 clear HM
 have HM:=Lib.hid hM
 clear hM
 go_wp2
 refine hK _ _ (fun h=>absurd h hs) ?_
 clear hK K
 refine Lg.move _ (fun _ _=>step_seq) (fun h=>h) ?_
 by_cases hlt : j < n
 ·have hTA:=htA (by omega)
  clear htA
  subst hTA
  simp only [hlt,decide_true]
  refine Lg.move _ (fun _ _=>step_cond (t:=true) rfl) (fun h=>h) ?_
  refine Lg.move _ (fun _ _=>step_skip) (fun h=>h) ?_
  refine Lg.move _ (fun _ _=>step_seq) (fun h=>h) ?_
  refine Lg.move _ (fun _ _=>step_block) (fun h=>h) ?_
  refine Lg.move _ (fun _ _=>step_seq) (fun h=>h) ?_
  refine Lg.code fun K hK v τ n' hv=>?_
  subst hv
  have hM:=HM.out.re
  clear HM
  have HM:=Lib.hid hM
  clear hM
  go_wp2
  refine hK _ _ (fun h=>absurd h hs) ?_
  clear hK K
  have hM:=HM.out
  clear HM
  have hTb : Tb < w0.heap.size:=by
   have:=hrows.row j (by omega)
   exact lt_of_cell this
  have c1 : v.cell? ⟨Tb,To + j,none⟩ = some (.slice (A j) (len j) (cap j)):=(World.cell?_of_block (w:=w0) (hM.old.block Tb hTb)).trans (hrows.row j (by omega))
  have hM1:=hM.alloc (.cells #[.int .i64 j] 3)
  have hb9:=Blk.new v 3 #[.int .i64 j]
  have hge9 : w0.heap.size≤v.heap.size:=hM.old.size
  have c1 : (v.alloc (.cells #[.int .i64 j] 3)).cell? ⟨Tb,To + j,none⟩ = some (.slice (A j) (len j) (cap j)):=(World.cell?_of_block (w:=v) (Below.heap_alloc _ _ _ (by show Tb < _; omega))).trans c1
  clear hM
  generalize v.alloc (.cells #[.int .i64 j] 3) = z at hM1 hb9 c1 ⊢
  generalize v.heap.size = b9 at hb9 hge9 ⊢
  have hM1:=Lib.hid hM1
  have hjt : j < nt:=by omega
  have hlc:=hrows.le j (by omega)
  have hcm:=hrows.max j (by omega)
  refine Lg.move _ (fun _ _=>step_seq) (fun h=>h) ?_
  refine Lg.code fun K hK u τ n' hu=>?_
  subst hu
  have hb9 : Blk u b9 _ _:=hb9
  have c1 : u.cell? ⟨Tb,To + j,none⟩ = some (.slice (A j) (len j) (cap j)):=c1
  have hM:=hM1.out.re
  clear hM1
  have lb9:=hb9.lt
  have lTb : Tb < u.heap.size:=lt_of_cell c1
  have c9:=hb9.cell 0
  have HM:=Lib.hid hM
  have HB9:=Lib.hid hb9
  clear hM hb9
  generalize hA : A j = Aj at *
  generalize hlen : len j = lj at *
  generalize hcap : cap j = cj at *
  refine wp_region_last (S:=fun w'=>w'.cell? ⟨b9,0,none⟩ = some (.int .i64 j)∧w'.cell? ⟨Tb,To + j,none⟩ = some (.slice Aj lj cj)) 12 (by kernel_rfl) (by kernel_rfl) (by kernel_rfl) ?_
  simp only [idle,List.modify_toArray,List.modify_succ_cons,List.modify_zero_cons,List.size_toArray,List.length_cons,List.length_nil,Nat.reduceAdd]
  have HS : u.drew.cell? ⟨b9,0,none⟩ = some (.int .i64 j)∧u.drew.cell? ⟨Tb,To + j,none⟩ = some (.slice Aj lj cj):=⟨c9,c1⟩
  refine wpAnyH_read (i:=0) (some 20) rfl rfl (by kernel_rfl) (by kernel_rfl) (by kernel_rfl) (fun _ _ _ h=>h) rfl HS ?_
  apply Exists.intro
  refine ⟨fun wq hw=>?_,?_⟩
  ·obtain ⟨hw1,hw2⟩:=hw
   go_simp
   rfl
  simp only [Act.put,List.setIfInBounds_toArray,List.set_cons_zero,List.set_cons_succ]
  refine wpAnyH_read (i:=1) (some 21) rfl rfl (by kernel_rfl) (by kernel_rfl) (by kernel_rfl) (fun _ _ _ h=>h) rfl HS ?_
  apply Exists.intro
  refine ⟨fun wq hw=>?_,?_⟩
  ·obtain ⟨hw1,hw2⟩:=hw
   go_simp
   rfl
  simp only [Act.put,List.setIfInBounds_toArray,List.set_cons_zero,List.set_cons_succ]
  refine wpAnyH_read (i:=2) (some 22) rfl rfl (by kernel_rfl) (by kernel_rfl) (by kernel_rfl) (fun _ _ _ h=>h) rfl HS ?_
  apply Exists.intro
  refine ⟨fun wq hw=>?_,?_⟩
  ·obtain ⟨hw1,hw2⟩:=hw
   go_simp
   rfl
  simp only [Act.put,List.setIfInBounds_toArray,List.set_cons_zero,List.set_cons_succ]
  refine wpAnyH_read (i:=3) (some 23) rfl rfl (by kernel_rfl) (by kernel_rfl) (by kernel_rfl) (fun _ _ _ h=>h) rfl HS ?_
  apply Exists.intro
  refine ⟨fun wq hw=>?_,?_⟩
  ·obtain ⟨hw1,hw2⟩:=hw
   go_simp
   rfl
  simp only [Act.put,List.setIfInBounds_toArray,List.set_cons_zero,List.set_cons_succ]
  refine wpAnyH_read (i:=4) (some 24) rfl rfl (by kernel_rfl) (by kernel_rfl) (by kernel_rfl) (fun _ _ _ h=>h) rfl HS ?_
  apply Exists.intro
  refine ⟨fun wq hw=>?_,?_⟩
  ·obtain ⟨hw1,hw2⟩:=hw
   go_simp
   rfl
  simp only [Act.put,List.setIfInBounds_toArray,List.set_cons_zero,List.set_cons_succ]
  refine wpAnyH_read (i:=5) (some 25) rfl rfl (by kernel_rfl) (by kernel_rfl) (by kernel_rfl) (fun _ _ _ h=>h) rfl HS ?_
  apply Exists.intro
  refine ⟨fun wq hw=>?_,?_⟩
  ·obtain ⟨hw1,hw2⟩:=hw
   go_simp
   rfl
  simp only [Act.put,List.setIfInBounds_toArray,List.set_cons_zero,List.set_cons_succ]
  refine wpAnyH_read (i:=6) (some 26) rfl rfl (by kernel_rfl) (by kernel_rfl) (by kernel_rfl) (fun _ _ _ h=>h) rfl HS ?_
  apply Exists.intro
  refine ⟨fun wq hw=>?_,?_⟩
  ·obtain ⟨hw1,hw2⟩:=hw
   go_simp
   rfl
  simp only [Act.put,List.setIfInBounds_toArray,List.set_cons_zero,List.set_cons_succ]
  refine wpAnyH_read (i:=7) (some 27) rfl rfl (by kernel_rfl) (by kernel_rfl) (by kernel_rfl) (fun _ _ _ h=>h) rfl HS ?_
  apply Exists.intro
  refine ⟨fun wq hw=>?_,?_⟩
  ·obtain ⟨hw1,hw2⟩:=hw
   go_simp
   rfl
  simp only [Act.put,List.setIfInBounds_toArray,List.set_cons_zero,List.set_cons_succ]
  refine wpAnyH_read (i:=8) (some 28) rfl rfl (by kernel_rfl) (by kernel_rfl) (by kernel_rfl) (fun _ _ _ h=>h) rfl HS ?_
  apply Exists.intro
  refine ⟨fun wq hw=>?_,?_⟩
  ·obtain ⟨hw1,hw2⟩:=hw
   go_simp
   rfl
  simp only [Act.put,List.setIfInBounds_toArray,List.set_cons_zero,List.set_cons_succ]
  refine wpAnyH_read (i:=9) (some 29) rfl rfl (by kernel_rfl) (by kernel_rfl) (by kernel_rfl) (fun _ _ _ h=>h) rfl HS ?_
  refine ⟨.int .i64 (min lj 65536 : Nat),fun wq hw=>?_,?_⟩
  ·obtain ⟨hw1,hw2⟩:=hw
   go_simp
   split <;> omega
  simp only [Act.put,List.setIfInBounds_toArray,List.set_cons_zero,List.set_cons_succ]
  refine wpAnyH_read (i:=10) (some 30) rfl rfl (by kernel_rfl) (by kernel_rfl) (by kernel_rfl) (fun _ _ _ h=>h) rfl HS ?_
  refine ⟨.slice Aj (min lj 65536) cj,fun wq hw=>?_,?_⟩
  ·obtain ⟨hw1,hw2⟩:=hw
   go_simp
   intro h
   omega
  simp only [Act.put,List.setIfInBounds_toArray,List.set_cons_zero,List.set_cons_succ]
  clear HS
  refine wpAnyH_one (i:=11) (by kernel_rfl) rfl rfl fun K hK=>?_
  go_simp
  refine hK _ _ ⟨(one_cell' u _ _ 0 lb9).trans c9,(one_cell' u _ _ _ lTb).trans c1⟩ ?_
  clear hK K
  have HS : (u.alloc (Obj.cells #[.slice none 0 0] 63)).drew.cell? ⟨b9,0,none⟩ = some (.int .i64 j)∧(u.alloc (Obj.cells #[.slice none 0 0] 63)).drew.cell? ⟨Tb,To + j,none⟩ = some (.slice Aj lj cj):=⟨(one_cell' u _ _ 0 lb9).trans c9,(one_cell' u _ _ _ lTb).trans c1⟩
  refine wpAnyH_read (i:=12) none rfl rfl (by kernel_rfl) (by kernel_rfl) (by kernel_rfl) (fun _ _ _ h=>h) rfl HS ?_
  apply Exists.intro
  refine ⟨fun wq hw=>?_,?_⟩
  ·go_simp
   rfl
  simp only [Act.put]
  clear HS
  refine wpAnyH_done (by kernel_rfl) ?_ _
  simp only [Exit.then]
  refine wpOps_list (m:=12) rfl ?_
  clear lb9 lTb c9 c1
  go_wp2
  refine hK _ _ (fun h=>absurd h hs) ?_
  clear hK K
  have hb10:=(Blk.new u 63 #[.slice Aj (min lj 65536) cj]).drew
  have hb9:=((HB9.out).alloc (Obj.cells #[.slice Aj (min lj 65536) cj] 63)).drew
  have hM:=MadeT.re (τ:=u.tape) (d:=u.drawn) (HM.out.alloc (Obj.cells #[.slice Aj (min lj 65536) cj] 63)) (y:=(u.alloc (Obj.cells #[.slice Aj (min lj 65536) cj] 63)).drew)
  have hge10 : w0.heap.size≤u.heap.size:=HM.out.old.size
  clear HM HB9
  generalize (u.alloc (Obj.cells #[.slice Aj (min lj 65536) cj] 63)).drew = z2 at hM hb9 hb10 ⊢
  generalize u.heap.size = b10 at hb10 hge10 ⊢
  refine Lg.move _ (fun _ _=>step_region) (fun h=>h) ?_
  refine Lg.pre 0 3 2 (by simp) fun K hK q τ n' hq=>?_
  subst hq
  have hM:=hM.re
  have hb9 : Blk q b9 _ _:=hb9
  have hb10 : Blk q b10 _ _:=hb10
  obtain ⟨LA,lc,rfl⟩ : ∃ LA lc,lv = .slice LA j lc:=own_slice hM.own
  have HM:=Lib.hid hM
  have HB9:=Lib.hid hb9
  have HB10:=Lib.hid hb10
  clear hM hb9 hb10
  simp only [List.drop_zero,List.take_succ_cons,List.take_zero]
  go_wp2
  refine hK _ _ (fun h=>absurd h hs) ?_
  clear hK K
  have hM:=HM.out.alloc (.cells #[closure (fun _=>b10) (fun _=>b9) dob anb 0] 129)
  have hb9:=HB9.out.alloc (.cells #[closure (fun _=>b10) (fun _=>b9) dob anb 0] 129)
  have hb10:=HB10.out.alloc (.cells #[closure (fun _=>b10) (fun _=>b9) dob anb 0] 129)
  have hnb:=Blk.new q 129 #[closure (fun _=>b10) (fun _=>b9) dob anb 0]
  have hge : w0.heap.size≤q.heap.size:=HM.out.old.size
  clear HM HB9 HB10
  simp only [closure] at hM hb9 hb10 hnb
  generalize q.alloc (.cells _ 129) = z3 at hM hb9 hb10 hnb ⊢
  generalize q.heap.size = nb at hnb hge ⊢
  obtain ⟨i0,hi0,hz0,hz1,hz2⟩:=info_parts Try.infoFunc
  refine Lg.pre 3 2 0 (by simp) fun K hK q τ n' hq=>?_
  subst hq
  have hM:=hM.re
  have hb9 : Blk q b9 _ _:=hb9
  have hb10 : Blk q b10 _ _:=hb10
  have hnb : Blk q nb _ _:=hnb
  simp only [List.drop_succ_cons,List.drop_zero,List.take_succ_cons,List.take_zero]
  refine wpList_append_lies _ rfl _ _ _ rfl w0.heap.size 129 i0 _ 1 8 Try.underlying150 hi0 hz0 hz1 hz2 rfl (by omega) (.slice LA j lc) j _ rfl hM.own ⟨nb,0,none⟩ 1 1 [closure (fun _=>b10) (fun _=>b9) dob anb 0] rfl rfl (World.news_of_block (cs:=#[closure (fun _=>b10) (fun _=>b9) dob anb 0]) (t:=129) (fr:=(0,0)) hnb) (by simp [closure,Value.oneCell']) (by omega) (by unfold maxLen; omega) (by omega) hM.old.size _ rfl ?_
  intro g cp' w1 hown hgrow hat hlt1
  go_wp2
  refine hK _ _ (fun h=>absurd h hs) ?_
  clear hK K
  have hM:=hM.snoc (by exact hb9) (hA ▸ hlen ▸ hcap ▸ hb10) hge9 hge10 hown hgrow
  clear hb9 hb10 hnb hown hgrow hat hlt1
  refine Lg.move _ (fun _ _=>step_region_end) (fun h=>h) ?_
  refine Lg.move _ (fun _ _=>step_inBlock) (fun h=>h) ?_
  refine Lg.code fun K hK q τ n' hq=>?_
  subst hq
  have hM:=hM.re
  have HM:=Lib.hid hM
  clear hM
  go_wp2
  refine hK _ _ (fun h=>absurd h hs) ?_
  clear hK K
  refine Lg.family frM (R:=fun f=>f 0 = .slice (some ⟨Tb,To,none⟩) nt cp∧f 3 = .pointer (some ⟨dob,0,none⟩)∧f 7 = .pointer (some ⟨anb,0,none⟩)∧f 8 = .slice (some ⟨g,0,none⟩) (j + 1) cp'∧f 16 = .int .i64 n∧f 17 = .int .i64 ((j + 1 : Nat) : Int)) ?_ (by rfl) ⟨rfl,rfl,rfl,rfl,rfl,by first | rfl | simp⟩
  rintro f' ⟨m0,m3,m7,m8,m16,m17⟩
  exact HX.out f' t' _ ⟨rfl,j + 1,by omega,_,_,_,m0,m3,m7,m8,m16,m17,HM.out⟩ (by rw [m17,k17]; simp [intOf]; omega)
 ·simp only [hlt,decide_false]
  refine Lg.move _ (fun _ _=>step_cond (t:=false) rfl) (fun h=>h) ?_
  refine Lg.move _ (fun _ _=>step_exit rfl) (fun h=>h) ?_
  have hjn : j = n:=by omega
  subst hjn
  refine Lg.move _ (fun _ _=>step_seq) (fun h=>h) ?_
  refine Lg.code fun K hK v τ n' hv=>?_
  subst hv
  have hM:=HM.out.re
  clear HM
  have c7:=hM.an.cell 0
  have HM:=Lib.hid hM
  clear hM
  go_quiet (fail)
  refine hK _ _ (fun h=>absurd h hs) ?_
  refine Lg.move _ (fun _ _=>step_ret) (fun h=>h) ?_
  refine Lg.leave rfl Try.func66 rfl (v:=.tuple #[lv,.slice (some ⟨ab,0,none⟩) j j]) (fun y τ n hy=>by simp [results,Try.f66]) (HR.out _ _ _ ⟨rfl,dob,ab,anb,opb,ib,lv,rfl,MadeT.re (τ:=v.tape) (d:=v.drawn) HM.out⟩)
structure OpsIn (W0 : World) (I : Inner) (good : OpI→Prop) (a0 : I.A) (w0 : World) (n : Nat) (A : Nat→Option Addr) (len : Nat→Nat) (ops : Nat→List OpI) : Prop where
 at_ : I.At a0 w0
 bi : ∀ b,I.BI b→∃ c t r,w0.heap[b]? = some (.cells c t r)∧r.2 < big
 box : I.Box a0 (fun _=>False) w0
 len : ∀ i,i < n→(ops i).length = min (len i) 65536
 good : ∀ i,i < n→∀ o ∈ ops i,good o
 cells : ∀ i,i < n→∀ j (h : j < (ops i).length),∃ b o cs t r,A i = some ⟨b,o,none⟩∧w0.heap[b]? = some (.cells cs t r)∧(r.2 < big∨b < W0.heap.size)∧¬ I.BI b∧∀ m,m < 4→cs[o + j * 4 + m]? = (ops i)[j].cells[m]?
def setB (W0 w1 : World) (n dob ab anb : Nat) (opb ib : Nat→Nat) (fv : Value) (ops : Nat→List OpI) (opv : Nat→Value) (BI : Nat→Prop) (A : Nat→Option Addr) : OpsB where
 n:=n
 ab:=ab
 dob:=dob
 anb:=anb
 opb:=opb
 ib:=ib
 fv:=fv
 ops:=ops
 opv:=opv
 RB:=fun b=>(∃ c t r,w1.heap[b]? = some (.cells c t r)∧(r.2 < big∨b < W0.heap.size))∧¬ BI b∧b≠ab∧(b = dob∨b = anb∨(∃ i,i < n∧(b = ib i∨b = opb i))∨∃ i o,i < n∧A i = some ⟨b,o,none⟩∧ops i≠[])
 rv:=fun b=>(w1.heap[b]?).getD (.cells #[] 0 (0,0))
 rbc:=fun b h=>by
  obtain ⟨⟨c,t,r,h1,_⟩,_⟩:=h
  exact ⟨c,t,r,by rw [h1]; rfl⟩
section
variable {I : Inner} {good : OpI→Prop} {a0 : I.A} {W0 w0 w1 : World} {n dob ab anb : Nat} {A : Nat→Option Addr} {len cap : Nat→Nat} {ops : Nat→List OpI} {opb ib : Nat→Nat} {fv lv : Value}
abbrev setD (W0 : World) (I : Inner) (good : OpI→Prop) (w1 : World) (n dob ab anb : Nat) (opb ib : Nat→Nat) (fv : Value) (ops : Nat→List OpI) (A : Nat→Option Addr) (len cap : Nat→Nat) : OpsD:=(setB W0 w1 n dob ab anb opb ib fv ops (fun i=>.slice (A i) (min (len i) 65536) (cap i)) I.BI A).on I good
theorem OpsIn.lt (h : OpsIn W0 I good a0 w0 n A len ops) {b : Nat} (hb : I.BI b) : b < w0.heap.size:=by
 obtain ⟨c,t,r,h1,_⟩:=h.bi b hb
 exact lt_of_some h1
theorem set_rb (h : OpsIn W0 I good a0 w0 n A len ops) (M : MadeT w0 n n fv A len cap dob ab anb opb ib lv w1) {b : Nat} {t : TypeId} {c : Array Value} (hb : Blk w1 b t c) (ht : t≠64) (hge : w0.heap.size≤b) (hx : b = dob∨b = anb∨(∃ i,i < n∧(b = ib i∨b = opb i))∨∃ i o,i < n∧A i = some ⟨b,o,none⟩∧ops i≠[]) :
  (setD W0 I good w1 n dob ab anb opb ib fv ops A len cap).RB b∧(setD W0 I good w1 n dob ab anb opb ib fv ops A len cap).rv b = .cells c t (0,0):=
 ⟨⟨⟨c,t,(0,0),hb,.inl (by decide)⟩,fun z=>by have:=h.lt z; omega,blk_ne hb M.a ht,hx⟩,by show (w1.heap[b]?).getD _ = _; rw [show w1.heap[b]? = _ from hb]; rfl⟩
theorem set_thr (h : OpsIn W0 I good a0 w0 n A len ops) (M : MadeT w0 n n fv A len cap dob ab anb opb ib lv w1) (hn : n≤64) (i : Nat) (hi : i < n) : ThrOk (setD W0 I good w1 n dob ab anb opb ib fv ops A len cap) i where
 lt:=hi
 n64:=hn
 op:=set_rb h M (M.o i hi) (by decide) (M.ge.2.2.2 i hi).2 (.inr (.inr (.inl ⟨i,hi,.inr rfl⟩)))
 do_:=set_rb h M M.d (by decide) M.ge.1 (.inl rfl)
 ib:=set_rb h M (M.i i hi) (by decide) (M.ge.2.2.2 i hi).1 (.inr (.inr (.inl ⟨i,hi,.inl rfl⟩)))
 an:=set_rb h M M.an (by decide) M.ge.2.2.1 (.inr (.inl rfl))
 len:=by show (ops i).length≤65536; rw [h.len i hi]; omega
 gd:=h.good i hi
 ops:=by
  refine ⟨A i,cap i,by show Value.slice _ _ _ = Value.slice _ (ops i).length _; rw [h.len i hi],fun j hj=>?_⟩
  obtain ⟨b,o,cs,t,r,h1,h2,h3,h4,h5⟩:=h.cells i hi j hj
  have hlt : b < w0.heap.size:=lt_of_some h2
  have h6 : w1.heap[b]? = some (.cells cs t r):=(M.old.block b hlt).trans h2
  refine ⟨b,o,cs,t,r,h1,⟨⟨cs,t,r,h6,h3⟩,h4,fun e=>?_,.inr (.inr (.inr ⟨i,o,hi,h1,fun e=>by have hj : j < (ops i).length:=hj; rw [e] at hj; exact Nat.not_lt_zero _ hj⟩))⟩,?_,h5⟩
  ·have:=M.ge.2.1; omega
  ·show (w1.heap[b]?).getD _ = _
   rw [h6]; rfl
theorem set_asks (h : OpsIn W0 I good a0 w0 n A len ops) (M : MadeT w0 n n fv A len cap dob ab anb opb ib lv w1) : OverAsks ((setD W0 I good w1 n dob ab anb opb ib fv ops A len cap).shd w0.os w0.output) W0 (a0,fun _=>[]) (fun b=>I.BI b∨b = ab) w1 where
 rep:=by
  refine ⟨I.at_ _ _ _ h.at_ fun b hb=>M.old.block b (h.lt hb),fun b hb=>.inl hb,⟨.inr rfl,fun z=>by have:=h.lt (b:=ab) z; have:=M.ge.2.1; omega⟩,fun b hb=>?_,?_,fun b c t r hb hv=>?_,fun b hb z=>?_,fun _=>False,I.box_ _ _ _ _ h.box fun b hb=>M.old.block b (h.lt (hb.resolve_left id)),fun _ hb=>hb.elim⟩
  ·rcases hb with hb | rfl
   ·obtain ⟨c,t,r,h1,h2⟩:=h.bi b hb
    exact ⟨c,t,r,(M.old.block b (h.lt hb)).trans h1,h2⟩
   ·exact ⟨_,_,_,M.a,by decide⟩
  ·refine ⟨fun _=>.slice none 0 0,_,M.a,by simp [OpsB.on,setB],fun i hi=>?_,fun i hi=>⟨[],⟨rfl,.inl ⟨rfl,rfl⟩⟩,rfl,fun b hb=>by simp [Value.ownBlock] at hb⟩,fun i j b _ _ hb=>by simp [Value.ownBlock] at hb⟩
   have hi : i < n:=hi
   simp [hi]
  ·obtain ⟨⟨c',t',r',h1,_⟩,_⟩:=hb
   have hv : (w1.heap[b]?).getD _ = _:=hv
   rw [h1] at hv
   exact ⟨r,h1.trans (congrArg some hv)⟩
  ·obtain ⟨_,h2,h3,_⟩:=hb
   exact z.elim h2 h3
 sh:=fun b hb=>by
  rcases hb with hb | rfl
  ·have:=h.lt hb; have:=M.old.size; omega
  ·exact M.a.lt
 rb:=fun b hb=>by
  obtain ⟨⟨c,t,r,h1,hr⟩,h2,h3,_⟩:=hb
  exact ⟨lt_of_some h1,fun z=>z.elim h2 h3,c,t,r,by show (w1.heap[b]?).getD _ = _; rw [h1]; rfl,h1,hr⟩
 io:=M.old.io
theorem set_funs (h : OpsIn W0 I good a0 w0 n A len ops) (M : MadeT w0 n n fv A len cap dob ab anb opb ib lv w1) (hn : 0 < n) (hnm : n≤maxLen) : ∃ g cp,lv = .slice (some ⟨g,0,none⟩) n cp∧w0.heap.size≤g∧(¬ (I.BI g∨g = ab)∧¬ (setD W0 I good w1 n dob ab anb opb ib fv ops A len cap).RB g) ∧
  Funs n ⟨g,0,none⟩ (fun i=>#[.pointer (some ⟨opb i,0,none⟩),.pointer (some ⟨dob,0,none⟩),.pointer (some ⟨ib i,0,none⟩),.pointer (some ⟨anb,0,none⟩)]) w1:=by
 rcases M.own.2 with ⟨_,e⟩ | ⟨g,cp,cur,rfl,hg,hh,hle,_,hsz,htake⟩
 ·omega
 ·have hb : Blk w1 g 129 cur:=hh
  have nb : ¬ I.BI g:=fun z=>by have:=h.lt z; omega
  have na : g≠ab:=blk_ne hb M.a (by decide)
  refine ⟨g,cp,rfl,hg,⟨fun z=>z.elim nb na,?_⟩,⟨⟨cur,_,_,hh,by decide,fun i hi=>?_⟩,rfl⟩⟩
  ·rintro ⟨_,_,_,(e | e | ⟨i,hi,(e | e)⟩ | ⟨i,o,hi,e,hne⟩)⟩
   ·exact blk_ne hb M.d (by decide) e
   ·exact blk_ne hb M.an (by decide) e
   ·exact blk_ne hb (M.i i hi) (by decide) e
   ·exact blk_ne hb (M.o i hi) (by decide) e
   ·obtain ⟨b',o',cs,t,r,h1,h2,_⟩:=h.cells i hi 0 (List.length_pos_iff.2 hne)
    rw [e] at h1
    cases h1
    have:=lt_of_some h2
    omega
  ·have : cur.toList[i]? = some (closure opb ib dob anb i):=by
    have h1 : (cur.toList.take (n * 1))[i]? = some (closure opb ib dob anb i):=by rw [htake]; simp [hi]
    rw [List.getElem?_take] at h1
    split at h1
    ·exact h1
    ·cases h1
   simpa [closure] using this
end
theorem OpsIn.later {W0 : World} {I : Inner} {good : OpI→Prop} {a0 : I.A} {w0 w1 : World} {n : Nat} {A : Nat→Option Addr} {len : Nat→Nat} {ops : Nat→List OpI} (h : OpsIn W0 I good a0 w0 n A len ops) (ho : Old w0.heap.size w0 w1) : OpsIn W0 I good a0 w1 n A len ops where
 at_:=I.at_ _ _ _ h.at_ fun b hb=>ho.block b (h.lt hb)
 bi:=fun b hb=>by
  obtain ⟨c,t,r,h1,h2⟩:=h.bi b hb
  exact ⟨c,t,r,(ho.block b (h.lt hb)).trans h1,h2⟩
 box:=I.box_ _ _ _ _ h.box fun b hb=>ho.block b (h.lt (hb.resolve_left id))
 len:=h.len
 good:=h.good
 cells:=fun i hi j hj=>by
  obtain ⟨b,o,cs,t,r,h1,h2,h3⟩:=h.cells i hi j hj
  exact ⟨b,o,cs,t,r,h1,(ho.block b (lt_of_some h2)).trans h2,h3⟩
theorem RowsAt.later {w0 w1 : World} {Tb To n : Nat} {A : Nat→Option Addr} {len cap : Nat→Nat} (h : RowsAt w0 Tb To n A len cap) (ho : Old w0.heap.size w0 w1) : RowsAt w1 Tb To n A len cap:=
 ⟨fun i hi=>(World.cell?_of_block (w:=w0) (ho.block Tb (lt_of_cell (h.row i hi)))).trans (h.row i hi),h.le,h.max,h.nil⟩
theorem SchI.later {W0 : World} {sv : Value} {xs : List Int} {Z Z' : Nat→Prop} {w0 w1 : World} (h : SchI W0 sv xs Z w0) (ho : Old w0.heap.size w0 w1) (hz : ∀ b,b < w0.heap.size→Z' b→Z b) : SchI W0 sv xs Z' w1 where
 at_:=by
  obtain ⟨A,c,h1,h2⟩:=h.at_
  refine ⟨A,c,h1,fun i hi=>?_⟩
  obtain ⟨b,o,cs,t,r,h3,h4,h6,h7⟩:=h2 i hi
  exact ⟨b,o,cs,t,r,h3,(ho.block b (lt_of_some h4)).trans h4,h6.imp id fun y=>⟨y.1,fun z=>y.2 (hz b (lt_of_some h4) z)⟩,h7⟩
 len:=h.len
structure OpsDone (W0 : World) (I : Inner) (good : OpI→Prop) (a0 : I.A) (doT : Nat→OpI→(I.A × (Nat→List Ans))→(Ans→(I.A × (Nat→List Ans))→Tree (I.A × (Nat→List Ans)) (I.A × (Nat→List Ans)))→Tree (I.A × (Nat→List Ans)) (I.A × (Nat→List Ans))) (ops : Nat→List OpI) (n : Nat) (xs : List Int) (most : Nat) (w0 : World) (v : Value) (w' : World) : Prop where
 ex : ∃ (B : OpsB) (ov : Value),B.n = n∧B.ops = ops∧w0.heap.size≤B.ab ∧
  v = .agg #[.slice (some ⟨B.ab,0,none⟩) n n,ov,.slice none 0 0,.bool (decide (0 < (playRun (brT (B.on I good) doT) n most xs (a0,fun _=>[])).m.left n))] ∧
  w'.ownsRow w0.heap.size 3 1 ov (playRun (brT (B.on I good) doT) n most xs (a0,fun _=>[])).order.length ((playRun (brT (B.on I good) doT) n most xs (a0,fun _=>[])).order.map (Value.int .i64)) ∧
  ∃ H,RepO (B.on I good) (playRun (brT (B.on I good) doT) n most xs (a0,fun _=>[])).m.s H w'∧∀ (b : Nat) (c : Array Value) (t : TypeId) (r : Nat × Nat),(b < W0.heap.size∨(r.2 < big∧¬ I.BI b))→w0.heap[b]? = some (.cells c t r)→¬ H b
 size : w0.heap.size≤w'.heap.size
 near : ∀ (b : Nat) (c : Array Value) (t : TypeId) (r : Nat × Nat),(b < W0.heap.size∨(r.2 < big∧¬ I.BI b))→w0.heap[b]? = some (.cells c t r)→w'.heap[b]? = some (.cells c t r)
 io : w'.os = w0.os∧w'.output = w0.output
set_option maxHeartbeats 2000000 in
set_option maxRecDepth 100000 in
theorem ops_calls (hP : Prog Try.prog) (Post : Value→World→Prop) (W0 : World) (I : Inner) (good : OpI→Prop) (a0 : I.A) (doT : Nat→OpI→(I.A × (Nat→List Ans))→(Ans→(I.A × (Nat→List Ans))→Tree (I.A × (Nat→List Ans)) (I.A × (Nat→List Ans)))→Tree (I.A × (Nat→List Ans)) (I.A × (Nat→List Ans))) (tA : Option Addr) (Tb To nt cp : Nat) (htA : 0 < nt→tA = some ⟨Tb,To,none⟩) (hnt : nt≤maxLen) (fd : FuncId) (bd cs : Array Value) (A : Nat→Option Addr) (len cap : Nat→Nat) (ops : Nat→List OpI) (sv : Value) (xs : List Int) (most : Int) (w0 : World) (hW : W0.heap.size≤w0.heap.size) (hBI : ∀ b,I.BI b→W0.heap.size≤b)
  (hrows : RowsAt w0 Tb To (min nt 64) A len cap) (hin : OpsIn W0 I good a0 w0 (min nt 64) A len ops) (hsch : SchI W0 sv xs (fun b=>I.BI b∨∃ i o,i < min nt 64∧A i = some ⟨b,o,none⟩) w0)
  (hcall : ∀ args w,(callFunc fd args).run Try.prog w = .ok (.enter fd args) w) (hD : ∀ (B : OpsB) i,i < 64→DoLaw (B.on I good) i (doT i) fd bd cs) (hO : ∀ (B : OpsB),B.n = min nt 64→B.ops = ops→Sound (brT (B.on I good) doT) (min nt 64) (a0,fun _=>[])) :
  Ccalls (lgA hP Post W0) 39 #[.slice tA nt cp,.func (.func fd) bd cs,sv,.int .i64 most] () w0 fun v _ w'=>OpsDone W0 I good a0 doT ops (min nt 64) xs (heldI most 1048576).toNat w0 v w':=by
 intro c mid hR
 have hSND:=Lib.hid hO
 clear hO
 have HR:=Lib.hid hR
 clear hR
 have hs : ¬ (lgA hP Post W0).strict:=fun h=>h
 rw [show Frame.enter Try.prog 39 #[.slice tA nt cp,.func (.func fd) bd cs,sv,.int .i64 most] .normal = Frame.at { (default : Frame) with fn:=39,kind:=.normal } ⟨#[.slice tA nt cp,.func (.func fd) bd cs,sv,.int .i64 most] ++ Array.replicate (Try.f39.ntmps - 4) undef,[]⟩ [.code (Try.f39.body.getD .skip)] from by simp [Frame.enter,Frame.at,Try.func39]; rfl]
 simp only [Try.f39,Option.getD_some,Nat.reduceSub,Array.replicate_succ,Array.replicate_zero,List.push_toArray,List.append_toArray,List.nil_append,List.cons_append]
 refine Lg.move _ (fun _ _=>step_seq) (fun h=>h) ?_
 refine Lg.code fun K hK y τ n' hy=>?_
 have hold : Old w0.heap.size w0 y:=by rw [hy]; exact (Old.refl _ (y.re τ n')).re
 have hsz : y.heap.size = w0.heap.size:=by rw [hy]; rfl
 clear hy
 go_wp2
 refine hK _ _ (fun h=>absurd h hs) ?_
 clear hK K
 have hold1:=hold.new (show w0.heap.size≤y.heap.size by omega) (.cells #[.slice none 0 0,.slice none 0 0,.slice none 0 0,.bool false] 55)
 have hb8:=Blk.new y 55 #[.slice none 0 0,.slice none 0 0,.slice none 0 0,.bool false]
 rw [hsz] at hb8
 generalize y.alloc (.cells #[.slice none 0 0,.slice none 0 0,.slice none 0 0,.bool false] 55) = w1 at hb8 hold1 ⊢
 obtain ⟨b8,h8⟩ : ∃ b8,b8 = w0.heap.size:=⟨_,rfl⟩
 rw [← h8] at hb8 ⊢
 clear hsz hold
 refine Lg.move _ (fun _ _=>step_seq) (fun h=>h) ?_
 refine Lg.move _ (fun _ _=>step_region) (fun h=>h) ?_
 refine Lg.pre 0 2 6 (by simp) fun K hK z τ n' hz=>?_
 subst hz
 have hold1:=hold1.re
 have hb8 : Blk z b8 _ _:=hb8
 have hrows1:=hrows.later hold1
 have hin1:=hin.later hold1
 have hsch1:=hsch.later (Z':=fun b=>I.BI b∨∃ i o,i < min nt 64∧A i = some ⟨b,o,none⟩) hold1 (fun b _ h=>h)
 have hn64 : min nt 64≤64:=by omega
 have Hold:=Lib.hid hold1
 have HB8:=Lib.hid hb8
 have HIN:=Lib.hid hin1
 have HSC:=Lib.hid hsch1
 clear hold1 hb8 hin1 hsch1 hrows hsch
 simp only [List.drop_zero,List.take_succ_cons,List.take_zero]
 go_wp2
 refine hK _ _ (fun h=>absurd h hs) ?_
 clear hK K
 refine Lg.call (i:=2) (rest:=[3,4,5,6,7]) (f:=66) (args:=#[.slice tA nt cp,.func (.func fd) bd cs]) rfl rfl (fun y=>by go_simp) (doing_calls (lgA hP Post W0) hs () tA Tb To nt cp htA hnt fd bd cs A len cap z hrows1) ?_
 rintro vv t' w2 ⟨-,dob,ab,anb,opb,ib,lv,rfl,M⟩
 rw [Frame.finish_at]
 walk_nrm
 generalize min nt 64 = n at *
 have hb8 : Blk w2 b8 _ _:=(M.old.block b8 HB8.out.lt).trans HB8.out
 have hz8:=HB8.out.lt
 clear HB8
 refine (show (lgA hP Post W0).T _ (Frame.at _ ⟨_,[]⟩ (.inRegion _ (List.range' 3 (5 + 0)) :: _)) (c :: mid) w2 from ?_)
 refine Lg.pre 3 5 0 (by simp) fun K hK u τ n' hu=>?_
 subst hu
 have M:=M.re
 have hb8 : Blk u b8 _ _:=hb8
 have HM:=Lib.hid M
 have HB8:=Lib.hid hb8
 clear M hb8
 simp only [List.drop_succ_cons,List.drop_zero,List.take_succ_cons,List.take_zero]
 go_wp2
 refine hK _ _ (fun h=>absurd h hs) ?_
 clear hK K
 refine Lg.move _ (fun _ _=>step_region_end) (fun h=>h) ?_
 refine Lg.move _ (fun _ _=>step_seq) (fun h=>h) ?_
 refine Lg.move _ (fun _ _=>step_region) (fun h=>h) ?_
 refine Lg.pre 0 3 8 (by simp) fun K hK w3 τ n' hw=>?_
 subst hw
 have M:=HM.out.re
 have hb8 : Blk w3 b8 _ _:=HB8.out
 have HM':=Lib.hid M
 have HB8':=Lib.hid hb8
 clear M hb8 HM HB8
 simp only [List.drop_zero,List.take_succ_cons,List.take_zero]
 go_wp2
 refine hK _ _ (fun h=>absurd h hs) ?_
 clear hK K
 have M:=HM'.out
 have hb8:=HB8'.out
 clear HM' HB8'
 obtain ⟨lA,cp',rfl⟩:=own_slice M.own
 have hfun : 0 < n→∃ ta,lA = some ta∧Funs n ta (fun i=>#[.pointer (some ⟨opb i,0,none⟩),.pointer (some ⟨dob,0,none⟩),.pointer (some ⟨ib i,0,none⟩),.pointer (some ⟨anb,0,none⟩)]) w3∧¬ (I.BI ta.block∨ta.block = ab)∧¬ (setD W0 I good w3 n dob ab anb opb ib (.func (.func fd) bd cs) ops A len cap).RB ta.block:=fun h=>by
  obtain ⟨g,cp2,e,hgb,hgn,hfun⟩:=set_funs (len:=len) (cap:=cap) HIN.out M h (by unfold maxLen; omega)
  cases e
  exact ⟨⟨g,0,none⟩,rfl,hfun,hgn⟩
 have e64 : min n 64 = n:=by omega
 obtain ⟨B,hDD⟩ : ∃ B,B = setB W0 w3 n dob ab anb opb ib (.func (.func fd) bd cs) ops (fun i=>.slice (A i) (min (len i) 65536) (cap i)) I.BI A:=⟨_,rfl⟩
 have hDn : (B.on I good).n = n:=by rw [hDD]; rfl
 have hask : OverAsks ((B.on I good).shd z.os z.output) W0 (a0,fun _=>[]) (fun b=>I.BI b∨b = ab) w3:=by rw [hDD]; exact set_asks HIN.out M
 have hfun : 0 < n→∃ ta,lA = some ta∧Funs n ta (fun i=>#[.pointer (some ⟨B.opb i,0,none⟩),.pointer (some ⟨B.dob,0,none⟩),.pointer (some ⟨B.ib i,0,none⟩),.pointer (some ⟨B.anb,0,none⟩)]) w3∧¬ (I.BI ta.block∨ta.block = ab)∧¬ (B.on I good).RB ta.block:=by rw [hDD]; exact hfun
 have hWH : ∀ b,(I.BI b∨b = ab)→W0.heap.size≤b:=fun b hb=>by
  rcases hb with hb | rfl
  ·exact hBI b hb
  ·have:=M.ge.2.1; have:=Hold.out.size; omega
 have hg : ∀ i,i < n→∀ o ∈ ops i,good o:=HIN.out.good
 have hBo : B.ops = ops:=by rw [hDD]; rfl
 have hBa : B.ab = ab:=by rw [hDD]; rfl
 have hthr : ∀ i,i < n→ThrOk (B.on I good) i:=fun i hi=>by rw [hDD]; exact set_thr HIN.out M hn64 i hi
 have hsch3 : SchI W0 sv xs (fun b=>(I.BI b∨b = ab)∨(B.on I good).RB b) w3:=HSC.out.later M.old fun b hb hz=>by
  rw [hDD] at hz
  rcases hz with (hz | rfl) | ⟨_,_,_,e⟩
  ·exact .inl hz
  ·have:=M.ge.2.1; omega
  ·rcases e with rfl | rfl | ⟨i,hi,rfl | rfl⟩ | ⟨i,o,hi,e,_⟩
   ·have:=M.ge.1; omega
   ·have:=M.ge.2.2.1; omega
   ·have:=(M.ge.2.2.2 i hi).1; omega
   ·have:=(M.ge.2.2.2 i hi).2; omega
   ·exact .inr ⟨i,o,hi,e⟩
 obtain ⟨MI,hMI,hMn,hMb⟩ : Sound (brT (B.on I good) doT) n (a0,fun _=>[]):=hSND.out B hDn hBo
 have hov:=over_any hP Post W0 ((B.on I good).shd z.os z.output) (brT (B.on I good) doT) MI (fun i=>#[.pointer (some ⟨B.opb i,0,none⟩),.pointer (some ⟨B.dob,0,none⟩),.pointer (some ⟨B.ib i,0,none⟩),.pointer (some ⟨B.anb,0,none⟩)]) lA n cp' (by rw [e64]; exact hMI) (by unfold maxLen; omega) sv xs most (a0,fun _=>[])
  (fun j hj=>hMn j (by omega))
  (by rw [e64]; exact hMb)
  (fun b=>I.BI b∨b = ab) w3 hask hWH (by rw [e64]; exact hfun) hsch3
  (fun gg b pos apart inj i hi hgi s H x _=>thread_law (B.on I good) z.os z.output Post W0 gg b pos apart inj i (hthr i (by omega)) doT fd bd cs (by rw [hDD]; rfl) hcall (hD B i (by omega)) s x)
 rw [e64] at hov
 refine Lg.call (i:=3) (rest:=[4,5,6,7,8,9,10]) (f:=67) (args:=#[.slice lA n cp',sv,.int .i64 most]) rfl rfl (fun y=>by go_simp) hov ?_
 rintro vv t'' w4 hdone
 obtain ⟨ov,bv,hv0,hord⟩:=hdone.val
 obtain ⟨stk,hst,hvv⟩ : ∃ stk : Bool,stk = decide (0 < (playRun (brT (B.on I good) doT) n (heldI most 1048576).toNat xs (a0,fun _=>[])).m.left n)∧vv = .tuple #[ov,.bool stk,bv]:=⟨_,rfl,hv0⟩
 clear hv0
 subst hvv
 have HST:=Lib.hid hst
 clear hst
 obtain ⟨oA,oL,oc,rfl⟩ : ∃ A l c,ov = .slice A l c:=by
  obtain ⟨A,c,e⟩:=own_slice hord
  exact ⟨A,_,c,e⟩
 rw [Frame.finish_at]
 walk_nrm
 have h8n : ¬ (I.BI b8∨b8 = ab):=fun h=>by
  rcases h with h | h
  ·have:=hin.lt h; omega
  ·exact blk_ne hb8 M.a (by decide) h
 have h8r : ¬ (B.on I good).RB b8:=by
  rw [hDD]
  rintro ⟨_,_,_,(e | e | ⟨i,hi,(e | e)⟩ | ⟨i,o,hi,e,hne⟩)⟩
  ·exact blk_ne hb8 M.d (by decide) e
  ·exact blk_ne hb8 M.an (by decide) e
  ·exact blk_ne hb8 (M.i i hi) (by decide) e
  ·exact blk_ne hb8 (M.o i hi) (by decide) e
  ·obtain ⟨b',o',cs,t,r,h1,h2,_⟩:=hin.cells i hi 0 (List.length_pos_iff.2 hne)
   rw [e] at h1
   cases h1
   have:=lt_of_some h2
   omega
 have hb84 : Blk w4 b8 _ _:=hdone.near b8 _ _ (0,0) (.inr ⟨by decide,h8n,h8r⟩) hb8
 have HB:=Lib.hid hb84
 have HD:=Lib.hid hdone
 have HO:=Lib.hid hord
 have HM:=Lib.hid M
 have HH8:=Lib.hid hb8
 clear hb84 hdone hord M hb8 hov hask hsch3
 refine (show (lgA hP Post W0).T _ (Frame.at _ ⟨_,[]⟩ (.inRegion _ (List.range' 4 (7 + 0)) :: _)) (c :: mid) w4 from ?_)
 refine Lg.pre 4 7 0 (by simp) fun K hK u τ n' hu=>?_
 simp only [List.drop_succ_cons,List.drop_zero,List.take_succ_cons,List.take_zero]
 go_wp2
 refine hK _ _ (fun h=>absurd h hs) ?_
 clear hK K
 refine Lg.move _ (fun _ _=>step_region_end) (fun h=>h) ?_
 have H8:=Lib.hid h8
 clear h8
 refine Lg.move _ (fun _ _=>step_seq) (fun h=>h) ?_
 refine Lg.code fun K hK q τ2 n2 hq=>?_
 have hb : Blk q b8 55 #[.slice none 0 0,.slice none 0 0,.slice none 0 0,.bool false]:=by have:=HB.out; rw [hu,hq] at this; exact this
 have hheap : w4.heap = q.heap∧w4.os = q.os∧w4.output = q.output:=by rw [hu,hq]; exact ⟨rfl,rfl,rfl⟩
 clear hu hq HB
 have o0:=hb.cell 0
 have o1:=hb.cell 1
 have o2:=hb.cell 2
 have o3:=hb.cell 3
 have z0:=hb.frozen 0
 have z1:=hb.frozen 1
 have z2:=hb.frozen 2
 have z3:=hb.frozen 3
 simp at o0 o1 o2 o3
 have HB:=Lib.hid hb
 have HH:=Lib.hid hheap
 clear hb hheap
 go_wp2
 refine hK _ _ (fun h=>absurd h hs) ?_
 clear hK K o0 o1 o2 o3 z0 z1 z2 z3
 have hb6:=(((HB.out.set_ 0 (.slice (some ⟨ab,0,none⟩) n n)).set_ 1 (.slice oA oL oc)).set_ 2 (.slice none 0 0)).set_ 3 (.bool stk)
 simp only [List.setIfInBounds_toArray,List.set_cons_zero,List.set_cons_succ] at hb6
 obtain ⟨w6,hw6,f1,f2,f3⟩ : ∃ w6,w6 = (((q.setCell ⟨b8,0,none⟩ (.slice (some ⟨ab,0,none⟩) n n)).setCell ⟨b8,1,none⟩ (.slice oA oL oc)).setCell ⟨b8,2,none⟩ (.slice none 0 0)).setCell ⟨b8,3,none⟩ (.bool stk)∧(∀ b,b≠b8→w6.heap[b]? = w4.heap[b]?)∧w6.heap.size = w4.heap.size∧w6.os = w4.os∧w6.output = w4.output:=by
  refine ⟨_,rfl,fun b hb=>?_,?_,?_,?_⟩
  ·rw [HH.out.1,Below.heap_setCell _ _ _ _ hb,Below.heap_setCell _ _ _ _ hb,Below.heap_setCell _ _ _ _ hb,Below.heap_setCell _ _ _ _ hb]
  ·rw [HH.out.1]; simp [World.setCell]
  ·rw [HH.out.2.1]; rfl
  ·rw [HH.out.2.2]; rfl
 rw [← hw6] at hb6 ⊢
 clear hw6 HB HH
 refine Lg.move _ (fun _ _=>step_ret) (fun h=>h) ?_
 refine Lg.leave rfl Try.func39 rfl (v:=.agg #[.slice (some ⟨ab,0,none⟩) n n,(.slice oA oL oc),.slice none 0 0,.bool stk]) (fun y τ n' hy=>?_) (HR.out _ _ _ ?_)
 ·have c0 : y.cell? ⟨b8,0,none⟩ = some (.slice (some ⟨ab,0,none⟩) n n):=by have:=hb6.cell 0; rw [hy] at this; exact this
  have c1 : y.cell? ⟨b8,1,none⟩ = some (.slice oA oL oc):=by have:=hb6.cell 1; rw [hy] at this; exact this
  have c2 : y.cell? ⟨b8,2,none⟩ = some (.slice none 0 0):=by have:=hb6.cell 2; rw [hy] at this; exact this
  have c3 : y.cell? ⟨b8,3,none⟩ = some (.bool stk):=by have:=hb6.cell 3; rw [hy] at this; exact this
  simp [results,Try.f39,go_sem,c0,c1,c2,c3]
 have h8:=H8.out
 have hst:=HST.out
 have M:=HM.out
 have D:=HD.out
 obtain ⟨H,hrep,hH⟩:=D.rep
 have s1:=Hold.out.size
 have s2:=M.old.size
 have s3:=D.size
 have far : ∀ (b : Nat) (c : Array Value) (t : TypeId) (r : Nat × Nat),w0.heap[b]? = some (.cells c t r)→w3.heap[b]? = some (.cells c t r)∧b≠b8∧b≠ab:=fun b c t r h2=>by
  have hlt:=lt_of_some h2
  refine ⟨(M.old.block b (by omega)).trans ((Hold.out.block b hlt).trans h2),by omega,fun e=>?_⟩
  have:=M.ge.2.1; omega
 have nh8 : ¬ H b8:=hH b8 _ _ (0,0) (.inr ⟨by decide,h8n,h8r⟩) HH8.out
 refine ⟨⟨B,.slice oA oL oc,hDn,hBo,by rw [hBa]; have:=M.ge.2.1; omega,by rw [hBa,hst],?_,H,?_,fun b c t r hc h2=>?_⟩,by omega,fun b c t r hc h2=>?_,?_⟩
 ·refine own_base (own_same HO.out fun b hb=>f1 b ?_) (show w0.heap.size≤w3.heap.size by omega)
  rcases HO.out.2 with ⟨e,_⟩ | ⟨g',cp2,cur,e,hg2,_⟩
  ·rw [e] at hb; simp [Value.ownBlock] at hb
  ·rw [e] at hb; simp only [Value.ownBlock,Option.some.injEq] at hb; omega
 ·exact RepO.law (B.on I good) _ H w4 w6 hrep (fun b hb=>f1 b fun e=>nh8 (e ▸ hb)) fun b c t r hb hx=>⟨r,(f1 b fun e=>h8r (e ▸ hb)).trans hx⟩
 ·obtain ⟨e1,e2,e3⟩:=far b c t r h2
  rcases hc with hc | ⟨hr,h1⟩
  ·exact hH b c t r (.inl hc) e1
  ·by_cases hrb : (B.on I good).RB b
   ·exact hrep.rbH b hrb
   ·exact hH b c t r (.inr ⟨hr,fun z=>z.elim h1 e3,hrb⟩) e1
 ·obtain ⟨e1,e2,e3⟩:=far b c t r h2
  rw [f1 b e2]
  by_cases hb0 : b < W0.heap.size
  ·exact D.near b c t r (.inl hb0) e1
  ·obtain ⟨hr,h1⟩:=hc.resolve_left hb0
   by_cases hrb : (B.on I good).RB b
   ·have hv : ((B.on I good).shd z.os z.output).rv b = .cells c t r:=by
     show (B.on I good).rv b = _
     rw [hDD]
     show (w3.heap[b]?).getD _ = _
     rw [e1]; rfl
    rw [D.rb b hrb (by omega) c t r hv,hv]
   ·exact D.near b c t r (.inr ⟨hr,fun z=>z.elim h1 e3,hrb⟩) e1
 ·exact ⟨f3.1.trans (D.io.1.trans (M.old.io.1.trans Hold.out.io.1)),f3.2.trans (D.io.2.trans (M.old.io.2.trans Hold.out.io.2))⟩
abbrev DoQ (A : Type) : Type:=OpI→(A × (Nat→List Ans))→(Ans→(A × (Nat→List Ans))→Tree (A × (Nat→List Ans)) (A × (Nat→List Ans)))→Tree (A × (Nat→List Ans)) (A × (Nat→List Ans))
def pushQ {A : Type} (i : Nat) (a : Ans) (st : A × (Nat→List Ans)) : A × (Nat→List Ans):=(st.1,fun j=>if j = i then st.2 j ++ [a] else st.2 j)
def thrQ {A : Type} (doT : DoQ A) (i : Nat) : List OpI→List Ans→(A × (Nat→List Ans))→Tree (A × (Nat→List Ans)) (A × (Nat→List Ans))
 | [],_,st=>.ret st
 | o :: l,own,st=>doT o st fun a st'=>if st'.2 i = own then thrQ doT i l (own ++ [a]) (pushQ i a st') else .cut
def brQ {A : Type} (doT : Nat→DoQ A) (ops : Nat→List OpI) (i : Nat) (st : A × (Nat→List Ans)) : Tree (A × (Nat→List Ans)) (A × (Nat→List Ans)):=if st.2 i = [] then thrQ (doT i) i (ops i) [] st else .cut
section
variable {I : Inner} {good : OpI→Prop}
theorem thr_q (B : OpsB) (doT : DoQ I.A) (i : Nat) : ∀ (l : List OpI) (own : List Ans) (st : I.A × (Nat→List Ans)),thrT (B.on I good) doT i l own st = thrQ doT i l own st
 | [],_,_=>rfl
 | o :: l,own,st=>by
   show doT o st _ = doT o st _
   congr 1
   funext a st'
   have:=thr_q B doT i l (own ++ [a]) (pushQ i a st')
   by_cases h : st'.2 i = own
   ·exact (if_pos h).trans (this.trans (if_pos h).symm)
   ·exact (if_neg h).trans (if_neg h).symm
theorem br_q (B : OpsB) (doT : Nat→DoQ I.A) : brT (B.on I good) doT = brQ doT B.ops:=by
 funext i st
 by_cases h : st.2 i = []
 ·exact (if_pos h).trans ((thr_q B (doT i) i _ _ _).trans (if_pos h).symm)
 ·exact (if_neg h).trans (if_neg h).symm
end
structure AnsAll (w : World) (ab n : Nat) (ans : Nat→List Ans) (H : Nat→Prop) : Prop where
 abH : H ab
 near : ∀ b,H b→∃ c t r,w.heap[b]? = some (.cells c t r)∧r.2 < big
 rows : ∃ (rw_ : Nat→Value) (c : Array Value),w.heap[ab]? = some (.cells c 64 (0,0))∧c.size = n∧(∀ i,i < n→c[i]? = some (rw_ i)) ∧
  (∀ i,i < n→∃ xs,w.ownsRow 0 66 3 (rw_ i) (ans i).length xs∧AnsRow w H (ans i) xs∧∀ b,(rw_ i).ownBlock = some b→H b) ∧
  ∀ i j b,i < n→j < n→(rw_ i).ownBlock = some b→(rw_ j).ownBlock = some b→i = j
theorem RepO.answers {D : OpsD} {st : D.St} {H : Nat→Prop} {w : World} (h : RepO D st H w) : AnsAll w D.ab D.n st.2 (fun b=>H b∧¬ D.BI b):=⟨h.abH,fun b hb=>h.near b hb.1,h.rows⟩
theorem AnsAll.same {w w' : World} {ab n : Nat} {ans : Nat→List Ans} {H : Nat→Prop} (h : AnsAll w ab n ans H) (hs : ∀ b,H b→w'.heap[b]? = w.heap[b]?) : AnsAll w' ab n ans H:=by
 refine ⟨h.abH,fun b hb=>?_,?_⟩
 ·obtain ⟨c,t,r,h1,h2⟩:=h.near b hb
  exact ⟨c,t,r,(hs b hb).trans h1,h2⟩
 ·obtain ⟨rw_,c,h1,h2,h3,h4,h5⟩:=h.rows
  refine ⟨rw_,c,(hs _ h.abH).trans h1,h2,h3,fun i hi=>?_,h5⟩
  obtain ⟨xs,k1,k2,k3⟩:=h4 i hi
  exact ⟨xs,own_same k1 fun b hb=>hs b (k3 b hb),k2.same hs fun b hb=>hb,k3⟩
end Go.Proofs.Ytlhbonnminlnlaa
