/- DERIVED. A region that draws its order and whose last operation waits, by whatever steps, for all the others. No program of this claim is in sight. -/
import Derived.Test.YtlcplealnbekeaaRows
import Derived.WalkKit
import Derived.ProofKit
import Derived.WalkSpells
import Derived.Outline
import Derived.Lib.Hide
import Derived.BigQuiet
import Derived.Deep.QuietTactic
import Derived.Deep.RegionWith
import Derived.Deep.Draws
import Derived.Laws.OwnMore
import Derived.Laws.Rows
import Derived.Test.YtlcplealnbekeaaGd
import Derived.Conc.TokenWords
import Derived.WalkSmall
import Derived.Conc.SmallLaws
import Derived.RegionTactic
import Derived.Deep.RegionHeld3
import Derived.OrdersHeld
set_option linter.unusedVariables false
set_option maxHeartbeats 1000000
set_option maxRecDepth 100000
namespace Go.Proofs.Ytlcplealnbekeaa
open Go.RowKit
def Blk (w:World) (g:Nat) (t:TypeId) (cs:Array Value):Prop:=w.heap[g]?=some (.cells cs t (0,0))
section
variable {w w':World}{g:Nat}{t:TypeId}{cs:Array Value}
theorem Blk.lt (h:Blk w g t cs):g<w.heap.size:=by
 rcases Nat.lt_or_ge g w.heap.size with hlt | hge
 ·exact hlt
 ·unfold Blk at h;rw[Array.getElem?_eq_none hge] at h;cases h
theorem Blk.cell (h:Blk w g t cs) (i:Nat):w.cell? ⟨g,i,none⟩=cs[i]?:=cell_of_row w g i cs t (0,0) h
theorem Blk.frozen (h:Blk w g t cs) (i:Nat):w.frozen? ⟨g,i,none⟩=false:=by
 unfold Blk at h
 simp[World.frozen?,h]
theorem Blk.new (w:World) (t:TypeId) (cs:Array Value):Blk (w.alloc (.cells cs t)) w.heap.size t cs:=heap_alloc_new w _
theorem Blk.drew (h:Blk w g t cs):Blk w.drew g t cs:=h
theorem Blk.drewN (h:Blk w g t cs) (n:Nat):Blk (w.drewN n) g t cs:=h
theorem Blk.alloc (h:Blk w g t cs) (o:Obj):Blk (w.alloc o) g t cs:=(Below.heap_alloc w o g h.lt).trans h
theorem Blk.set_ (h:Blk w g t cs) (i:Nat) (u:Value):Blk (w.setCell ⟨g,i,none⟩ u) g t (cs.setIfInBounds i u):=by
 unfold Blk at h ⊢
 simp[World.setCell,Array.getElem?_modify,h]
theorem Blk.far (h:Blk w g t cs) {p:Addr}(hp:g≠p.block) (u:Value):Blk (w.setCell p u) g t cs:=(Below.heap_setCell w p u g hp).trans h
theorem Blk.below {B:Nat}(h:Blk w g t cs) (hb:Below B w w') (hg:g<B):Blk w' g t cs:=(hb.block g hg).trans h
theorem Blk.grown {row:Option Nat}(h:Blk w g t cs) (hb:w.grownBy w' row) (hg:some g≠row):Blk w' g t cs:=(hb.block g h.lt hg).trans h
end
theorem Below.drewN {B:Nat}{a w:World}(h:Below B a w) (k:Nat):Below B a (w.drewN k):=⟨h.os,h.tape,h.output,h.size,h.block⟩
structure Kept (S:Nat->Prop) (w w':World):Prop where
 os:w'.os=w.os
 tape:w'.tape=w.tape
 output:w'.output=w.output
 size:w.heap.size<=w'.heap.size
 block:∀ k,k<w.heap.size->¬S k->w'.heap[k]?=w.heap[k]?
section
variable {S S':Nat->Prop}{w w' w'':World}
theorem Kept.refl (S:Nat->Prop) (w:World):Kept S w w:=⟨rfl,rfl,rfl,Nat.le_refl _,λ_ _ _=>rfl⟩
theorem Kept.trans (h:Kept S w w') (k:Kept S w' w''):Kept S w w'':=
 ⟨k.os.trans h.os,k.tape.trans h.tape,k.output.trans h.output,Nat.le_trans h.size k.size,λi hi hs=>(k.block i (Nat.lt_of_lt_of_le hi h.size) hs).trans (h.block i hi hs)⟩
theorem Kept.later (h:Kept S w w') (k:Kept S' w' w'') (hS:∀ b,S' b->w.heap.size<=b):Kept S w w'':=
 ⟨k.os.trans h.os,k.tape.trans h.tape,k.output.trans h.output,Nat.le_trans h.size k.size,λi hi hs=>(k.block i (Nat.lt_of_lt_of_le hi h.size) (λs=>by have:=hS i s;omega)).trans (h.block i hi hs)⟩
theorem Kept.mono (h:Kept S w w') (hS:∀ k,k<w.heap.size->S k->S' k):Kept S' w w':=⟨h.os,h.tape,h.output,h.size,λk hk hs=>h.block k hk (λx=>hs (hS k hk x))⟩
theorem Kept.drew (w:World):Kept S w w.drew:=⟨rfl,rfl,rfl,Nat.le_refl _,λ_ _ _=>rfl⟩
theorem Kept.drewN (S:Nat->Prop) (w:World) (n:Nat):Kept S w (w.drewN n):=⟨rfl,rfl,rfl,Nat.le_refl _,λ_ _ _=>rfl⟩
theorem Kept.alloc (w:World) (o:Obj):Kept S w (w.alloc o):=⟨rfl,rfl,rfl,by simp,λk hk _=>Below.heap_alloc _ _ _ hk⟩
theorem Kept.setCell (w:World) {p:Addr}(hp:S p.block) (u:Value):Kept S w (w.setCell p u):=
 ⟨rfl,rfl,rfl,by simp[World.setCell],λk _ hs=>Below.heap_setCell _ _ _ _ (λe=>hs (e▸hp))⟩
theorem Kept.grown {row:Option Nat}(h:w.grownBy w' row) (hr:∀ k,row=some k->S k):Kept S w w':=
 ⟨h.os,h.tape,h.output,h.size,λk hk hs=>h.block k hk (λe=>hs (hr k e.symm))⟩
theorem Kept.of_below (h:Below w.heap.size w w'):Kept S w w':=⟨h.os,h.tape,h.output,h.size,λk hk _=>h.block k hk⟩
theorem Kept.to_below {B:Nat}(h:Kept S w w') (hB:∀ k,S k->B<=k) (hBw:B<=w.heap.size):Below B w w':=
 ⟨h.os,h.tape,h.output,h.size,λk hk=>h.block k (by omega) (λs=>by have:=hB k s;omega)⟩
theorem Blk.kept {g:Nat}{t:TypeId}{cs:Array Value}(h:Blk w g t cs) (hk:Kept S w w') (hg:¬S g):Blk w' g t cs:=(hk.block g h.lt hg).trans h
end
theorem dI {w w':World}{Z:Nat->Prop}{base:Nat}{e:TypeId}{size n:Nat}{v:Value}{xs:List Value}(h:w.ownsRow base e size v n xs) (hk:Kept Z w w') (hz:∀ b,base<=b->¬Z b):w'.ownsRow base e size v n xs:=by
 obtain⟨h1,h2⟩:=h;refine⟨h1,?_⟩
 rcases h2 with h2 | ⟨g,cap,cur,hv,hg,hh,r⟩
 ·exact .inl h2
 ·have hlt:g<w.heap.size:=by
   rcases Nat.lt_or_ge g w.heap.size with hlt | hge
   ·exact hlt
   ·rw [Array.getElem?_eq_none hge] at hh;cases hh
  exact .inr ⟨g,cap,cur,hv,hg,(hk.block g hlt (hz g hg)).trans hh,r⟩
theorem aQ {w:World}{base:Nat}{e:TypeId}{size n:Nat}{v:Value}{xs:List Value}(h:w.ownsRow base e size v n xs):∃ A cap,v=.slice A n cap:=by
 rcases h.2 with⟨rfl,rfl⟩ | ⟨g,cap,cur,rfl,_⟩
 ·have:=h.1
  rcases h.2 with⟨e1,e2⟩ | ⟨g,cap,cur,e1,_⟩
  ·exact ⟨_,_,e1⟩
  ·exact ⟨_,_,e1⟩
 ·exact ⟨_,_,rfl⟩
def IntsAt (w:World) (v:Value) (xs:List Int):Prop:=
 ∃ A c,v=.slice A xs.length c/\∀ i,i<xs.length->∃ b o,A=some ⟨b,o,none⟩/\b<w.heap.size/\w.cell? ⟨b,o+i,none⟩=some (.int .i64 (xs.getD i 0))
theorem bG {w:World}{b o:Nat}{v:Value}(h:w.cell? ⟨b,o,none⟩=some v):b<w.heap.size:=by
 rcases Nat.lt_or_ge b w.heap.size with hlt | hge
 ·exact hlt
 ·simp [World.cell?,Array.getElem?_eq_none hge] at h
theorem IntsAt.of_own {w:World}{base:Nat}{e:TypeId}{v:Value}{n:Nat}{xs:List Int}(h:w.ownsRow base e 1 v n (xs.map (Value.int .i64))):IntsAt w v xs:=by
 have hl:xs.length=n:=by simpa using h.1
 subst hl
 rcases h.2 with⟨rfl,h0⟩ | ⟨g,cap,cur,rfl,_⟩
 ·exact ⟨none,0,by rw[h0],λi hi=>by omega⟩
 ·refine ⟨_,_,rfl,λi hi=>⟨g,0,rfl,?_⟩⟩
  have hc:=h.cellAt (g:=g) i (by omega);rw[List.getElem?_map,List.getElem?_eq_getElem hi] at hc;have hc':w.cell? ⟨g,0+i,none⟩=some (.int .i64 (xs.getD i 0)):=by rw[Nat.zero_add,hc,List.getD_eq_getElem?_getD,List.getElem?_eq_getElem hi];rfl
  exact⟨bG hc',hc'⟩
theorem IntsAt.kept {w w':World}{Z:Nat->Prop}{v:Value}{xs:List Int}(h:IntsAt w v xs) (hk:Kept Z w w') (hz:∀ A n c,v=.slice (some A) n c->¬Z A.block):IntsAt w' v xs:=by
 obtain⟨A,c,rfl,hc⟩:=h;refine⟨A,c,rfl,λi hi=>?_⟩;obtain⟨b,o,rfl,hb,h1⟩:=hc i hi;exact⟨b,o,rfl,Nat.lt_of_lt_of_le hb hk.size,(World.cell?_of_block (w:=w) (a:=⟨b,o+i,none⟩) (hk.block b hb (hz _ _ _ rfl))).trans h1⟩
structure Stepper where
 v:Value
 own:Nat->Prop
 at_:Nat->World->Prop
 keep:∀ {k:Nat}{w w':World}{Z:Nat->Prop},at_ k w->Kept Z w w'->(∀ b,own b->¬Z b)->at_ k w'
 old:∀ {k:Nat}{w:World}{b:Nat},at_ k w->own b->b<w.heap.size
def Stepper.none:Stepper:={ v:=.nilIface,own:=λ_=>False,at_:=λ_ _=>True,keep:=λ_ _ _=>trivial,old:=λ_ h=>h.elim }
def Stepper.Steps (X:Stepper) (P:Program) (f:FuncId):Prop:=
 ∀ (k:Nat) (w:World),X.at_ k w->Calls P f #[X.v] w λe w'=>e=.returned (.tuple #[])/\X.at_ (k+1) w'/\Kept X.own w w'/\w'.heap.size=w.heap.size
theorem dQ {P:Program}{f:FuncId}{args:Array Value}{w:World}{n:Nat}{v:Value}
  (h:Calls P f args (w.drewN n) λe w'=>e=.returned v/\w.drewN n=w'):Calls P f args (w.drewN n) λe w''=>e=.returned v/\∃ m,w''=w.drewN m:=
 h.mono λ_ _ ⟨he,hm⟩=>⟨he,n,hm.symm⟩
end Go.Proofs.Ytlcplealnbekeaa
namespace Go.Proofs.Ytlcplealnbekeaa
open Go.RowKit Go.Turn Go.Tame Go.Conc
theorem lg_tu {P:Program}{hP:Prog P}{e:Env P}{i:Nat}{bot:List Frame}{t:Tree e.S e.S}{fr:Frame}{mid:List Frame}{x:World}(h:∀ ov br,Tv e.g ov br x->i<e.g.n->(lgTh hP e i bot).T t fr mid x):(lgTh hP e i bot).T t fr mid x:=
 λhn=>th_tu λov br tv hi _ _=>h ov br tv hi hn
theorem jG {P:Program}{b:Frame}{a:Act}{kk:List Item}{cs:List Frame}{ops:Array Oper}{i:Nat}{rest:List Nat}{o:Oper}{c:Nat}{v z':Value}(ho:ops[i]?=some o) (hw:Region.wanted o (yielded ops a.tmps)=true) (hk:b.kind≠.early)
  (hr:∀ w,(execOp a.eval o).run P w=.ok (.comm #[scase c v z'] true .send) w) (he:∀ w,(execOp a.eval o).events P w #[]=#[]) (main:Bool) (w:World) :
  stepG P main (G (b.at a (.inRegion ops (i::rest)::kk)) cs) w=.comm (G (b.at a (.inRegion ops (i::rest)::kk)) cs) #[scase c v z'] true .send w #[]:=by
 rw[stepG_comm ho hw hk (hr w),listed_none (he w)]
theorem rQ {P:Program}{f g c:Frame}{cs:List Frame}(hk:f.kind=.normal\/f.kind=.deferred) (hr:f.roundOf=none) (hall:cZ P true f.todo) (hd:f.defers=[]) (v:Value) (hI:Inv P g (c::cs)):Inv P (f.finish v) (c::cs):=
 ⟨FrOk.on ⟨hk,hr,hall,λd h=>by rw[hd] at h;cases h⟩ (dZ v hall),hI.2⟩
def rV (g:Gs):PanicEntry:={ v:=.iface 151 (.agg #[.iface 136 (.pointer (some ⟨g.tb,0,none⟩))]),recovered:=false }
theorem stand_step (hP:Prog Try.prog) (e:Env Try.prog) (i:Nat) (botR:Frame) (rest:List Frame) (Cap:(Nat->Prop)->World->Prop) (hre:∀ H w τ n,Cap H w->Cap H (w.re τ n)) (hcap:∀ H w H' w',Cap H w->Held H w H' w'->Cap H' w')
  (hend:∀ σ H x,e.Rep σ H x->Cap H x->Th e i (.ret σ) (botR.raise [rV e.g]) rest x) (s:e.S) (H₀:Nat->Prop) (k:e.S->Tree e.S e.S) (w:World) (hrep:e.Rep s H₀ w) (hc:Cap H₀ w) :
  Ccalls (lgTh hP e i (botR::rest)) 93 #[.pointer (some ⟨e.g.sb i,0,none⟩)] (.yield s k) w λu t' w'=>u=.tuple #[]/\∃ s' H',t'=k s'/\(e.Rep s' H' w'/\Cap H' w')/\Held H₀ w H' w':=by
 intro c mid hR;refine lg_tu λov br tv hi=>?_;rw[show Frame.enter Try.prog 93 #[.pointer (some ⟨e.g.sb i,0,none⟩)] .normal=Frame.at { (default:Frame) with fn:=93,kind:=.normal } ⟨#[.pointer (some ⟨e.g.sb i,0,none⟩)]++Array.replicate (Try.f93.ntmps-1) undef,[]⟩ [.code (Try.f93.body.getD .skip)] from by simp[Frame.enter,Frame.at,Try.func93];rfl];simp only[Try.f93,Option.getD_some,Nat.reduceSub,Array.replicate_succ,Array.replicate_zero,List.push_toArray,List.append_toArray,List.nil_append,List.cons_append];refine Lg.move _ (λ_ _=>step_seq) id ?_;refine Lg.move _ (λ_ _=>step_region) id ?_;refine Lg.pre 0 8 1 (by simp) λK hK y τ n hy=>?_;subst hy;have h1:y.cell? ⟨e.g.sb i,0,none⟩=some (.pointer (some ⟨e.g.tb,0,none⟩)):=tv.s0 i hi;have h2:y.cell? ⟨e.g.tb,0,none⟩=some (.chan (some e.g.bk)):=tv.t0;simp only[zC];go_wp2;refine hK _ _ (λ_=>rfl) ?_;have hrep':e.Rep s H₀ y:=e.rep s H₀ _ y hrep (λ_ _=>rfl) (λb c t r _ h=>⟨r,h⟩);have hc':Cap H₀ y:=hre H₀ (y.re τ n) y.tape y.drawn hc;intro hn
 show Th e i _ (Frame.at _ _ (.inRegion _ [8]::_)) ((c::mid)++botR::rest) y
 clear hK K;apply th_yield (s:=s) (H₀:=H₀) (k:=k) hrep'
 case hsend=>exact jG (z':=.tuple #[]) rfl rfl (by decide) (λw=>by simp[execOp,scase,Act.eval]) (λw=>by simp[go_sem,execOp,Act.eval])
 case hway =>
  intro B b1 b2 b3;refine .inl ⟨7,default,rfl,?_⟩;rw[show (Frame.finish _ undef)=_ from Frame.finish_at ..];walk_nrm
  k_c stepG_region_end
  k_c stepG_seq
  k_reg
  (k_in;refine goes_oper_k rfl rfl (by decide) (λK hK=>?_);go_simp;refine hK _ _ ⟨⟨rfl,λe he=>by(have hm:=mem_listed he;simp[go_sem] at hm)⟩,?_⟩;clear hK K)
  (k_in;refine goes_oper_k rfl rfl (by decide) (λK hK=>?_);go_simp;refine hK _ _ ⟨⟨rfl,λe he=>by(have hm:=mem_listed he;simp[go_sem] at hm)⟩,?_⟩;clear hK K)
  (k_in;refine goes_oper_k rfl rfl (by decide) (λK hK=>?_);go_simp;refine hK _ _ ⟨⟨rfl,λe he=>by(have hm:=mem_listed he;simp[go_sem] at hm)⟩,?_⟩;clear hK K)
  (k_in;refine goes_oper_k rfl rfl (by decide) (λK hK=>?_);have:=h₁.s i hi;go_simp;refine hK _ _ ⟨⟨rfl,λe he=>by(have hm:=mem_listed he;simp[go_sem, *] at hm;subst hm;exact evC_read _ ⟨_,rfl,.inr (.inr ⟨i,hi,rfl⟩)⟩ (b3 i hi))⟩,?_⟩;clear hK K)
  exact λ_ _=>⟨_,atIn_of (s:=dX e.g i _) rfl rfl (by decide) (λw=>by simp[go_sem,execOp,rcase,Act.eval,dX,Seat.one]) (λw=>by simp[go_sem,execOp,Act.eval]) rfl⟩
 case hinv =>
  refine λhI v=>rQ (.inl rfl) rfl ?_ rfl v hI;simp only[Frame.at,cZ,List.forall_mem_cons,List.not_mem_nil,false_implies,implies_true,and_true];refine⟨?_,?_⟩ <;> (simp only[gC];kernel_rfl)
 case hgo =>
  intro σ H₁ x' hr hh;have hR':∀ x,e.Rep σ H₁ x->Held H₀ y H₁ x->(lgTh hP e i (botR::rest)).T (k σ) (c.finish (.tuple #[])) mid x:=λx h1 h2=>hR _ _ _ ⟨rfl,σ,H₁,rfl,⟨h1,hcap _ _ _ _ hc' h2⟩,re_held.2 h2⟩;clear hR;rw[Frame.finish_at];walk_nrm;refine(show (lgTh hP e i (botR::rest)).T (k σ) (Frame.at _ ⟨_,[]⟩ (.inRegion _ (List.range' 5 (1+0))::_)) (c::mid) x' from ?_) ⟨rfl,hn.below⟩;refine Lg.pre 5 1 0 (by simp) λK hK z τ' n' hz=>?_;subst hz;have hr':e.Rep σ H₁ z:=e.rep σ H₁ _ z hr (λ_ _=>rfl) (λb c t r _ h=>⟨r,h⟩);have hh':Held H₀ y H₁ z:=held_re.1 hh;simp only[zC];go_wp2;refine hK _ _ (λ_=>rfl) ?_;clear hK K;refine Lg.move _ (λ_ _=>step_region_end) id ?_;refine Lg.move _ (λ_ _=>step_cond rfl) id ?_;refine Lg.move _ (λ_ _=>step_skip) id ?_;refine Lg.move _ (λ_ _=>step_end) id ?_;exact Lg.leave rfl Try.func93 rfl (λ_ _ _ _=>by simp[results,Try.f93]) (hR' z hr' hh')
 case hout =>
  intro σ H₁ x' hr hh;have hcx:Cap H₁ x':=hcap _ _ _ _ hc' hh;clear hR;rw[Frame.finish_at];walk_nrm;refine(show (lgTh hP e i (botR::rest)).T (.ret σ) (Frame.at _ ⟨_,[]⟩ (.inRegion _ (List.range' 5 (1+0))::_)) (c::mid) x' from ?_) ⟨rfl,hn.below⟩;refine lg_tu λov br tv hi=>?_;refine Lg.pre 5 1 0 (by simp) λK hK z τ' n' hz=>?_;subst hz;have hr':e.Rep σ H₁ z:=e.rep σ H₁ _ z hr (λ_ _=>rfl) (λb c t r _ h=>⟨r,h⟩);have hcx':Cap H₁ z:=hre H₁ (z.re τ' n') z.tape z.drawn hcx;have h1:z.cell? ⟨e.g.sb i,0,none⟩=some (.pointer (some ⟨e.g.tb,0,none⟩)):=tv.s0 i hi;simp only[zC];go_wp2;refine hK _ _ (λ_=>rfl) ?_;clear hK K;refine Lg.move _ (λ_ _=>step_region_end) id ?_;refine Lg.move _ (λ_ _=>step_cond rfl) id ?_;refine Lg.move _ (λ_ _=>step_region) id ?_;refine Lg.pre 0 7 1 (by simp) λK hK u τ2 n2 hu=>?_;subst hu;have hr2:e.Rep σ H₁ u:=e.rep σ H₁ _ u hr' (λ_ _=>rfl) (λb c t r _ h=>⟨r,h⟩);have hcx2:Cap H₁ u:=hre H₁ (u.re τ2 n2) u.tape u.drawn hcx';have h2:u.cell? ⟨e.g.sb i,0,none⟩=some (.pointer (some ⟨e.g.tb,0,none⟩)):=h1;simp only[zC];go_wp2;refine hK _ _ (λ_=>rfl) ?_;clear hK K;refine Lg.pan (i:=7) rfl rfl [rV e.g] (λv τ3 n3 hv=>?_) λtodo=>?_
  ·go_simp
   go_simp
   rfl
  ·intro hn2
   refine th_tu λov br tv hi hI _=>?_;refine kE hP λτ4 n4=>?_;obtain⟨N,hs⟩:=pop_all (y:=u.re τ4 n4) (c::mid) _ rfl rfl hn.below hI;exact⟨N,botR.raise [rV e.g],rest,u.re τ4 n4,by simpa using hs,(hend σ H₁ u hr2 hcx2).re τ4 n4⟩
end Go.Proofs.Ytlcplealnbekeaa
namespace Go.Turn
open Go.Conc Go.Tame
open Go.ConcN (upd upd_ne upd_same)
structure Shd where
 S:Type
 RB:Nat->Prop
 rv:Nat->Obj
 os:Os
 out:Array (Nat × ByteArray)
 Rep:S->(Nat->Prop)->World->Prop
 rep:∀ s H w w',Rep s H w->(∀ b,H b->w'.heap[b]?=w.heap[b]?)->(∀ (b:Nat) (c:Array Value) (t:TypeId) (r:Nat × Nat),RB b->w.heap[b]?=some (Obj.cells c t r)->∃ r',w'.heap[b]?=some (Obj.cells c t r'))->Rep s H w'
 near:∀ s H w b,Rep s H w->H b->∃ c t r,w.heap[b]?=some (.cells c t r)/\r.2<big
def Tn (g:Gs) (b:Nat):Prop:=b=g.tv\/b=g.tb\/b=g.ab\/b=g.rb\/(∃ i,i<g.n/\b=g.sb i)\/iK g b
section
variable {P:Program}{Post:Value->World->Prop}{q:Shd}
def Shd.env (P:Program) (q:Shd) (Post:Value->World->Prop) (W0:World) (g:Gs) (b:Nat) (pos:0<b) (apart:∀ j,j<g.n->g.ps j≠g.bk) (inj:∀ i j,i<g.n->j<g.n->g.ps i=g.ps j->i=j):Env P where
 g:=g
 S:=q.S
 RB:=λb=>q.RB b\/b<W0.heap.size
 rv:=λb=>(W0.heap[b]?).getD (q.rv b)
 os:=q.os
 out:=q.out
 Rep:=q.Rep
 Post:=Post
 b:=b
 pos:=pos
 rep:=λs H w w' h h1 h2=>q.rep s H w w' h h1 λb c t r hb=>h2 b c t r (.inl hb)
 near:=q.near
 apart:=apart
 inj:=inj
theorem gT {d:Wd}{x:World}(hl:Like (fast meM d) x d.w) {b:Nat}{c:Array Value}{t:TypeId}{r:Nat × Nat}(hx:x.heap[b]?=some (.cells c t r)) (hr:r.2<big):d.w.heap[b]?=some (.cells c t r):=by
 rcases iW hl hx with⟨_,h⟩ | ⟨_,s,h,e⟩
 ·exact h
 ·rw [e] at hr;simp only at hr;omega
theorem qB {d:Wd}{x:World}(hl:Like (fast meM d) x d.w) {b cap s r:Nat}{buf:Array Value}{cl tm:Bool}(hx:x.heap[b]?=some (.chan cap buf cl s r tm)):d.w.heap[b]?=some (.chan cap buf cl s r tm):=by
 have hb:=hl.blk b;cases hg:(fast meM d).rng b with
 | none =>
   rw[hg] at hb
   rcases hb with⟨h1,_,_⟩ | ⟨_,_,_,_,h1⟩
   ·exact h1.symm.trans hx
   ·rw [hx] at h1;cases h1
 | some r' =>
   rw[hg] at hb;obtain⟨c',t',s',h1,_⟩:=hb;rw[hx] at h1;cases h1
theorem tuAt_of {g:Gs}{ov br:Nat->Bool}{x w:World}(h:TuAt g ov br x) (hk:∀ (b:Nat) (c:Array Value) (t:TypeId),x.heap[b]?=some (Obj.cells c t (0,0))->w.heap[b]?=some (Obj.cells c t (0,0))):TuAt g ov br w:=by
 obtain⟨ca,ha,ha'⟩:=h.a;obtain⟨cb,hb,hb'⟩:=h.b;exact⟨hk _ _ _ h.v,hk _ _ _ h.t,⟨ca,hk _ _ _ ha,ha'⟩,λi hi=>hk _ _ _ (h.s i hi),⟨cb,hk _ _ _ hb,hb'⟩⟩
theorem near_new {W0:World}{d:Wd}{x:World}(hl:Like (fast meM d) x d.w) (hK:Kept0 W0 d) {b:Nat}{c:Array Value}{t:TypeId}{r:Nat × Nat}(hx:x.heap[b]?=some (.cells c t r)) (hr:r.2<big):W0.heap.size<=b:=by
 rcases Nat.lt_or_ge b W0.heap.size with hb | hb
 ·have hro:=(hK.lab b).2 hb
  rcases iW hl hx with⟨h1,_⟩ | ⟨_,s,_,e⟩
  ·rw [hro] at h1;cases h1
  ·rw [e] at hr;simp only at hr;omega
 ·exact hb
theorem chan_new {W0:World}{d:Wd}{x:World}(hl:Like (fast meM d) x d.w) (hK:Kept0 W0 d) {b cap s r:Nat}{buf:Array Value}{cl tm:Bool}(hx:x.heap[b]?=some (.chan cap buf cl s r tm)):W0.heap.size<=b:=by
 rcases Nat.lt_or_ge b W0.heap.size with hb | hb
 ·have hro:=(hK.lab b).2 hb
  have hw:=qB hl hx;have hb':=hl.blk b;have hh:(fast meM d).hid b:=⟨by rw[hro];rfl,_,hw,trivial⟩;have hg:(fast meM d).rng b=none:=by simp[fast,hw]
  rw[hg] at hb'
  rcases hb' with⟨_,_,h1⟩ | ⟨_,_,_,_,h1⟩
  ·exact absurd hh h1
  ·rw [hx] at h1;cases h1
 ·exact hb
theorem mO {W0:World}{d:Wd}{x:World}(hl:Like (fast meM d) x d.w) (hro:∀ b,b<W0.heap.size->d.own b=.ro) {b:Nat}(hb:b<W0.heap.size) {c:Array Value}{t:TypeId}{r:Nat × Nat}(hx:x.heap[b]?=some (.cells c t r)):r.2%2=1/\∃ s,d.w.heap[b]?=some (.cells c t s)/\r=(0,2*max (max s.2 c.size) big+1):=by
 rcases iW hl hx with⟨h1,_⟩ | ⟨_,s,h2,e⟩
 ·rw [hro b hb] at h1;cases h1
 ·rw [hro b hb] at e
  simp only[if_true] at e;exact⟨by rw[e];simp only;omega,s,h2,e⟩
open Classical in
noncomputable def lab0 (q:Shd) (W0:World) (H:Nat->Prop) (g:Gs) (w:World) (b:Nat):Ow:=
 if H b then .sh else if (q.RB b\/b<W0.heap.size) then .ro else if Tn g b then .tu else if (∀ o,w.heap[b]?=some o->Vis o) then .mn else .tu
structure Seen0 (q:Shd) (W0:World) (H:Nat->Prop) (g:Gs) (x x':World):Prop where
 size:x.heap.size=x'.heap.size
 own:∀ (b:Nat) (c:Array Value) (t:TypeId) (r:Nat × Nat),(b<W0.heap.size\/(r.2<big/\¬H b/\¬q.RB b/\¬Tn g b))->x.heap[b]?=some (.cells c t r)->x'.heap[b]?=some (.cells c t r)
 odd:∀ (b:Nat) (c:Array Value) (t:TypeId) (r:Nat × Nat),b<W0.heap.size->x.heap[b]?=some (.cells c t r)->r.2%2=1
 tn:∀ b,Tn g b->W0.heap.size<=b
theorem begin_run {W0:World}{N B:Nat}{g:Gs}(pos:0<N) (apart:∀ j,j<g.n->g.ps j≠g.bk) (inj:∀ i j,i<g.n->j<g.n->g.ps i=g.ps j->i=j) {x:World}{s0:q.S}{H₀:Nat->Prop}{fr:Frame}{mid:List Frame}(hrep:q.Rep s0 H₀ x)
  (hsh:∀ b,H₀ b->b<B) (hrb:∀ b,q.RB b->b<B/\¬H₀ b/\∃ c t r,q.rv b=.cells c t r/\x.heap[b]?=some (.cells c t r)/\(r.2<big\/b<W0.heap.size)) (hnew:∀ b,Tn g b->B<=b)
  (htu:TuAt g (λ_=>false) (λ_=>false) x) (hch:∀ c,iK g c->x.heap[c]?=some (.chan 0 #[] false 0 0 false)) (hio:x.os=q.os/\x.output=q.out)
  (h:∀ x',Seen0 q W0 H₀ g x x'->Mn (q.env P Post W0 g N pos apart inj) N ⟨s0,λ_=>.unborn⟩ fr mid x'):Al P Post W0 N fr mid x:=by
 refine mn_begin (e:=q.env P Post W0 g N pos apart inj) (m:=⟨s0,λ_=>.unborn⟩) λd hl hK=>?_
 have hH0:∀ b,H₀ b->W0.heap.size<=b:=λb hb=>by
  obtain⟨c,t,r,h1,h2⟩:=q.near s0 H₀ x b hrep hb;exact near_new hl hK h1 h2
 have hT0:∀ b,Tn g b->W0.heap.size<=b:=λb hb=>by
  have c0:∀ {c:Array Value}{t:TypeId},x.heap[b]?=some (.cells c t (0,0))->W0.heap.size<=b:=λhx=>near_new hl hK hx (by decide);obtain⟨_,ha,_⟩:=htu.a;obtain⟨_,hb',_⟩:=htu.b
  rcases hb with rfl | rfl | rfl | rfl | ⟨i,hi,rfl⟩ | hc
  ·exact c0 htu.v
  ·exact c0 htu.t
  ·exact c0 ha
  ·exact c0 hb'
  ·exact c0 (htu.s i hi)
  ·exact chan_new hl hK (hch b hc)
 have hnt:∀ b,Tn g b->lab0 q W0 H₀ g d.w b=.tu:=λb hb=>by
  have h1:¬H₀ b:=λz=>by have:=hsh b z;have:=hnew b hb;omega
  have h2:¬(q.RB b\/b<W0.heap.size):=λz=>by
   rcases z with z | z
   ·have:=(hrb b z).1;have:=hnew b hb;omega
   ·have:=hT0 b hb;omega
  simp only[lab0];rw[if_neg h1,if_neg h2,if_pos hb]
 have hro:∀ b,q.RB b\/b<W0.heap.size->lab0 q W0 H₀ g d.w b=.ro:=λb hb=>by
  have h1:¬H₀ b:=λz=>by
   rcases hb with hb | hb
   ·exact (hrb b hb).2.1 z
   ·have:=hH0 b z;omega
  simp only[lab0];rw[if_neg h1,if_pos hb]
 have hsw:∀ b,H₀ b->d.w.heap[b]?=x.heap[b]?:=λb hb=>by
  obtain⟨c,t,r,h1,h2⟩:=q.near s0 H₀ x b hrep hb;rw[h1];exact gT hl h1 h2
 have hclear:mG meM ⟨d.w,lab0 q W0 H₀ g d.w⟩:=by
  intro b o hm ho
  have hm':lab0 q W0 H₀ g d.w b=.mn:=by
   have:meM (lab0 q W0 H₀ g d.w b)=true:=hm
   revert this
   cases lab0 q W0 H₀ g d.w b <;> simp[meM]
  unfold lab0 at hm'
  split at hm'
  ·cases hm'
  ·split at hm'
   ·cases hm'
   ·split at hm'
    ·cases hm'
    ·split at hm'
     ·rename_i hv;exact hv o ho
     ·cases hm'
 refine⟨lab0 q W0 H₀ g d.w,⟨⟨λb hb=>hro b hb,hnt _ (.inl rfl),hnt _ (.inr (.inl rfl)),hnt _ (.inr (.inr (.inl rfl))),λi hi=>hnt _ (.inr (.inr (.inr (.inr (.inl ⟨i,hi,rfl⟩))))),hnt _ (.inr (.inr (.inr (.inl rfl)))),λc hc=>hnt _ (.inr (.inr (.inr (.inr (.inr hc)))))⟩,λb hb=>?_,⟨hl.os.symm.trans hio.1,hl.output.symm.trans hio.2⟩,hclear,⟨H₀,?_,λb=>?_⟩,⟨λ_=>false,tuAt_of htu λb c t hb=>gT hl hb (by decide)⟩,λc hc=>⟨0,qB hl (hch c hc)⟩,λi hi=>rfl,λi b hb=>?_⟩,?_⟩
 ·show d.w.heap[b]?=some ((W0.heap[b]?).getD (q.rv b))
  by_cases hlt:b<W0.heap.size
  ·rw [hK.old b hlt,Array.getElem?_eq_getElem hlt];rfl
  ·rw [show W0.heap[b]?=none from Array.getElem?_eq_none (by omega)]
   obtain⟨_,_,c,t,r,h1,h2,h3⟩:=hrb b (hb.resolve_right hlt)
   show d.w.heap[b]?=some (q.rv b)
   rw[h1];exact gT hl h2 (h3.resolve_right hlt)
 ·exact q.rep s0 H₀ x d.w hrep hsw λb c t r hb hx=>qX hl hx
 ·show lab0 q W0 H₀ g d.w b=.sh ↔ H₀ b
  unfold lab0
  constructor
  ·intro z
   split at z
   ·assumption
   ·split at z
    ·cases z
    ·split at z
     ·cases z
     ·split at z <;> cases z
  ·intro z;simp[z]
 ·unfold lab0
  split
  ·simp
  ·split
   ·simp
   ·split
    ·simp
    ·split <;> simp
 ·refine h _ ⟨?_,λb c t r hc hx=>?_,λb c t r hb hx=>(mO hl (λb hb=>(hK.lab b).2 hb) hb hx).1,hT0⟩
  ·simp [eQ,hl.size]
  ·by_cases hlt:b<W0.heap.size
   ·obtain ⟨_,s,h1,e⟩:=mO hl (λb hb=>(hK.lab b).2 hb) hlt hx
    have hm:=hro b (.inr hlt)
    simp[eQ,h1,hm,meM,e]
   ·obtain ⟨hr,h1,h2,h3⟩:=hc.resolve_left hlt
    have hw:=gT hl hx hr
    have hm:lab0 q W0 H₀ g d.w b=.mn:=by
     have hv:∀ o,d.w.heap[b]?=some o->Vis o:=λo ho=>by rw[hw] at ho;cases ho;trivial
     unfold lab0;rw[if_neg h1,if_neg (λz=>z.elim h2 hlt),if_neg h3,if_pos hv]
    simp[eQ,hw,hm,meM]
structure Seen1 (q:Shd) (W0:World) (s:q.S) (g:Gs) (x x':World):Prop where
 size:x.heap.size=x'.heap.size
 own:∀ (b:Nat) (c:Array Value) (t:TypeId) (r:Nat × Nat),(b<W0.heap.size\/r.2<big)->x.heap[b]?=some (.cells c t r)->x'.heap[b]?=some (.cells c t r)
 rep:∃ H,q.Rep s H x'/\∀ (b:Nat) (c:Array Value) (t:TypeId) (r:Nat × Nat),(b<W0.heap.size\/r.2<big)->x.heap[b]?=some (.cells c t r)->¬H b
 rb:∀ b,q.RB b->W0.heap.size<=b->∀ c t r,q.rv b=.cells c t r->x'.heap[b]?=some (q.rv b)
 io:x'.os=q.os/\x'.output=q.out
 tu:(∀ b,Tn g b->W0.heap.size<=b)->∃ ov br,TuAt g ov br x'
open Classical in
noncomputable def lab1 (W0 w:World) (b:Nat):Ow:=if b<W0.heap.size then .ro else if (∀ o,w.heap[b]?=some o->Vis o) then .mn else .tu
theorem end_run {W0:World}{N b:Nat}{g:Gs}{pos:0<b}{apart:∀ j,j<g.n->g.ps j≠g.bk}{inj:∀ i j,i<g.n->j<g.n->g.ps i=g.ps j->i=j}{x:World}{m:Mach q.S}{fr:Frame}{mid:List Frame}(hover:∀ i,i<g.n->m.th i=.over)
  (h:∀ x',Seen1 q W0 m.s g x x'->Al P Post W0 N fr mid x'):Mn (q.env P Post W0 g b pos apart inj) N m fr mid x:=by
 refine mn_end (W0:=W0) hover λd ov br hl hlb ⟨H₁,hre⟩ htu hrb hio=>?_
 have hclear:mG meM ⟨d.w,lab1 W0 d.w⟩:=by
  intro b o hm ho;have hm':meM (lab1 W0 d.w b)=true:=hm;unfold lab1 at hm'
  split at hm'
  ·cases hm'
  ·split at hm'
   ·rename_i hv;exact hv o ho
   ·cases hm'
 have hold:∀ b,b<W0.heap.size->d.w.heap[b]?=W0.heap[b]?:=λb hb=>by
  have:d.w.heap[b]?=some ((W0.heap[b]?).getD (q.rv b)):=hrb b (.inr hb);rw[this,Array.getElem?_eq_getElem hb];rfl
 have hro:∀ b,b<W0.heap.size->d.own b=.ro:=λb hb=>hlb.ro b (.inr hb)
 have key:∀ (b:Nat) (c:Array Value) (t:TypeId) (r:Nat × Nat),W0.heap.size<=b->d.w.heap[b]?=some (.cells c t r)->(eQ meM ⟨d.w,lab1 W0 d.w⟩).heap[b]?=some (.cells c t r):=λb c t r hle hb=>by
  have hv:∀ o,d.w.heap[b]?=some o->Vis o:=λo ho=>by rw[hb] at ho;cases ho;trivial
  have hm:lab1 W0 d.w b=.mn:=by unfold lab1;rw[if_neg (by omega),if_pos hv]
  simp[eQ,hb,hm,meM]
 have keyc:∀ (b:Nat) (c:Array Value) (t:TypeId) (r:Nat × Nat),d.w.heap[b]?=some (.cells c t r)->∃ r',(eQ meM ⟨d.w,lab1 W0 d.w⟩).heap[b]?=some (.cells c t r'):=λb c t r hb=>jQ (d:=⟨d.w,lab1 W0 d.w⟩) hb
 have hnear:∀ (b:Nat) (c:Array Value) (t:TypeId) (r:Nat × Nat),x.heap[b]?=some (.cells c t r)->r.2<big->W0.heap.size<=b:=λb c t r hx hr=>by
  rcases Nat.lt_or_ge b W0.heap.size with hb | hb
  ·obtain ⟨_,s,_,e⟩:=mO hl hro hb hx
   rw[e] at hr;simp only at hr;omega
  ·exact hb
 have hHge:∀ b,H₁ b->W0.heap.size<=b:=λb hb=>by
  rcases Nat.lt_or_ge b W0.heap.size with h1 | h1
  ·have h2:=hro b h1
   rw[(hre.2 b).2 hb] at h2;cases h2
  ·exact h1
 refine⟨lab1 W0 d.w,dY hclear,⟨λb=>?_,hold⟩,h _ ⟨?_,λb c t r hc hx=>?_,⟨H₁,?_,λb c t r hc hx hsh=>?_⟩,λb hb hge c t r hv=>?_,hio,λhT=>⟨ov,br,?_⟩⟩⟩
 ·show lab1 W0 d.w b=.ro ↔ _
  unfold lab1
  constructor
  ·intro z
   split at z
   ·assumption
   ·split at z <;> cases z
  ·intro z;simp[z]
 ·simp [eQ,hl.size]
 ·by_cases hlt:b<W0.heap.size
  ·obtain ⟨_,s,h1,e⟩:=mO hl hro hlt hx
   have hm:lab1 W0 d.w b=.ro:=by simp[lab1,hlt]
   simp[eQ,h1,hm,meM,e]
  ·exact key _ _ _ _ (by omega) (gT hl hx (hc.resolve_left hlt))
 ·refine q.rep m.s H₁ d.w _ hre.1 (λb hb=>?_) λb c t r hb hx=>keyc _ _ _ _ hx
  obtain⟨c,t,r,h1,h2⟩:=q.near m.s H₁ d.w b hre.1 hb;rw[h1];exact key _ _ _ _ (hHge b hb) h1
 ·rcases hc with hc | hr
  ·have:=hHge b hsh;omega
  ·have h1:d.own b=.sh:=(hre.2 b).2 hsh
   rcases iW hl hx with⟨h2,_⟩ | ⟨_,s',_,h4⟩
   ·rw [h1] at h2;cases h2
   ·rw [h4] at hr;simp only at hr;omega
 ·have : d.w.heap[b]?=some ((W0.heap[b]?).getD (q.rv b)):=hrb b (.inl hb)
  rw[Array.getElem?_eq_none hge] at this;have this:d.w.heap[b]?=some (q.rv b):=this;rw[hv] at this ⊢;exact key _ _ _ _ hge this
 ·obtain ⟨ca,ha,ha'⟩:=htu.a
  obtain⟨cb,hb,hb'⟩:=htu.b;exact⟨key _ _ _ _ (hT _ (.inl rfl)) htu.v,key _ _ _ _ (hT _ (.inr (.inl rfl))) htu.t,⟨ca,key _ _ _ _ (hT _ (.inr (.inr (.inl rfl)))) ha,ha'⟩,λi hi=>key _ _ _ _ (hT _ (.inr (.inr (.inr (.inr (.inl ⟨i,hi,rfl⟩)))))) (htu.s i hi),⟨cb,key _ _ _ _ (hT _ (.inr (.inr (.inr (.inl rfl))))) hb,hb'⟩⟩
end
end Go.Turn
namespace Go.Proofs.Ytlcplealnbekeaa
open Go.RowKit Go.Turn Go.Tame Go.Conc
theorem qD (hP:Prog Try.prog) (e:Env Try.prog) (hn:e.g.n<=64) (N:Nat) (m:Mach e.S) (i:Nat) (hi:i<e.g.n) (k:e.S->Tree e.S e.S) (hk:m.th i=.wait k) (pass:Bool) (κ:Tree e.S e.S) (hκ:κ=if pass then k m.s else .ret m.s) (hw:κ≠.cut) (w:World) :
  Ccalls (lgM hP e) 68 #[.pointer (some ⟨e.g.tb,0,none⟩),.int .i64 i,.bool pass] (N,m) w λu t' w'=>u=.tuple #[]/\t'=(N,m.did i κ)/\HeldM w w':=by
 intro c mid hR;refine gM λov br tv _=>?_;rw[show Frame.enter Try.prog 68 #[.pointer (some ⟨e.g.tb,0,none⟩),.int .i64 i,.bool pass] .normal=Frame.at { (default:Frame) with fn:=68,kind:=.normal } ⟨#[.pointer (some ⟨e.g.tb,0,none⟩),.int .i64 i,.bool pass]++Array.replicate (Try.f68.ntmps-3) undef,[]⟩ [.code (Try.f68.body.getD .skip)] from by simp[Frame.enter,Frame.at,Try.func68];rfl];simp only[Try.f68,Option.getD_some,Nat.reduceSub,Array.replicate_succ,Array.replicate_zero,List.push_toArray,List.append_toArray,List.nil_append,List.cons_append];refine Lg.move _ (λ_ _=>step_seq) id ?_;refine Lg.move _ (λ_ _=>step_region) id ?_;refine Lg.pre 0 11 1 (by simp) λK hK y τ n hy=>?_;subst hy;have h1:y.cell? ⟨e.g.tb,1,none⟩=some (.slice (some ⟨e.g.ab,0,none⟩) e.g.n e.g.cap):=tv.t1;have h2:y.cell? ⟨e.g.ab,i,none⟩=some (.pointer (some ⟨e.g.sb i,0,none⟩)):=tv.a i hi;have h3:y.cell? ⟨e.g.sb i,1,none⟩=some (.chan (some (e.g.ps i))):=tv.s1 i hi;simp only[zC];go_wp2;refine hK _ _ (λh=>h.elim) ?_;clear hK K
 show Mn e N m (Frame.at _ _ (.inRegion _ [11]::_)) (c::mid) y
 apply mn_let (i:=i) (pass:=pass) (k:=k) hi hk κ hκ hw
 case hsend=>exact jG (z':=.tuple #[]) rfl rfl (by decide) (λw=>by simp[execOp,scase,Act.eval]) (λw=>by simp[go_sem,execOp,Act.eval])
 case hway =>
  intro B b1 b2 b3;refine .inl ⟨6,default,rfl,?_⟩;rw[show (Frame.finish _ undef)=_ from Frame.finish_at ..];walk_nrm
  k_c stepG_region_end
  k_reg
  (k_in;refine goes_oper_k rfl rfl (by decide) (λK hK=>?_);go_simp;refine hK _ _ ⟨⟨rfl,λe he=>by(have hm:=mem_listed he;simp[go_sem] at hm)⟩,?_⟩;clear hK K)
  (k_in;refine goes_oper_k rfl rfl (by decide) (λK hK=>?_);go_simp;refine hK _ _ ⟨⟨rfl,λe he=>by(have hm:=mem_listed he;simp[go_sem] at hm)⟩,?_⟩;clear hK K)
  (k_in;refine goes_oper_k rfl rfl (by decide) (λK hK=>?_);go_simp;refine hK _ _ ⟨⟨rfl,λe he=>by(have hm:=mem_listed he;simp[go_sem] at hm)⟩,?_⟩;clear hK K)
  (k_in;refine goes_oper_k rfl rfl (by decide) (λK hK=>?_);have:=h₁.t;go_simp;refine hK _ _ ⟨⟨rfl,λe he=>by(have hm:=mem_listed he;simp[go_sem, *] at hm;subst hm;exact evC_read _ ⟨_,rfl,.inr (.inl rfl)⟩ b2)⟩,?_⟩;clear hK K)
  exact λ_ _=>⟨_,atIn_of (s:=bF e.g _) rfl rfl (by decide) (λw=>by simp[go_sem,execOp,rcase,Act.eval,bF,Seat.one]) (λw=>by simp[go_sem,execOp,Act.eval]) rfl⟩
 case hinv =>
  refine λhI=>rQ (.inl rfl) rfl ?_ rfl _ hI;simp only[Frame.at,cZ,List.forall_mem_cons,List.not_mem_nil,false_implies,implies_true,and_true];simp only[gC]
  kernel_rfl
 case hgo =>
  intro m' hm' x' hh;rw[Mach.put_did hw] at hm';cases hm';rw[Frame.finish_at];walk_nrm;refine(show (lgM hP e).T (N,m.did i κ) _ _ x' from ?_);refine Lg.move _ (λ_ _=>step_region_end) id ?_;refine Lg.move _ (λ_ _=>step_end) id ?_;exact Lg.leave rfl Try.func68 rfl (λ_ _ _ _=>by simp[results,Try.f68]) (hR _ _ _ ⟨rfl,rfl,⟨hh.size,hh.block⟩⟩)
theorem Try.infoInt:(Try.prog.info? 3).map (λi=>(i.zero,i.size,i.bytes))=some (some (.int .i64 0),1,8):=by kernel_rfl
structure OvS (e:Env Try.prog) (base bn bo bm bl most:Nat) (c:Run e.S) (x:World):Prop where
 n:Blk x bn 3 #[.int .i64 e.g.n]
 m:Blk x bm 3 #[.int .i64 most]
 l:Blk x bl 3 #[.int .i64 (c.m.left e.g.n)]
 o:∃ v,Blk x bo 23 #[v]/\x.ownsRow base 3 1 v c.order.length (c.order.map (Value.int .i64))
 lt:bn<base/\bo<base/\bm<base/\bl<base/\base<=x.heap.size
 ne:bo≠bn/\bo≠bm/\bo≠bl/\bl≠bn/\bl≠bm
def OvZ (base bo bl:Nat) (b:Nat):Prop:=b=bo\/b=bl\/base<=b
section
variable {bn bo bm bl n most:Nat}{i:Int}{w:World}
structure StepAt (g:Gs) (bn bo bm bl most k:Nat) (ov:Bool) (i:Int) (w:World):Prop where
 n:w.cell? ⟨bn,0,none⟩=some (.int .i64 g.n)
 m:w.cell? ⟨bm,0,none⟩=some (.int .i64 most)
 o:∃ A cap,w.cell? ⟨bo,0,none⟩=some (.slice A k cap)
 tv:w.cell? ⟨g.tv,0,none⟩=some (.pointer (some ⟨g.tb,0,none⟩))
 t1:w.cell? ⟨g.tb,1,none⟩=some (.slice (some ⟨g.ab,0,none⟩) g.n g.cap)
 a:0<=i->i<g.n->w.cell? ⟨g.ab,i.toNat,none⟩=some (.pointer (some ⟨g.sb i.toNat,0,none⟩))
 s:0<=i->i<g.n->w.cell? ⟨g.sb i.toNat,2,none⟩=some (.bool ov)
theorem step_neg {g:Gs}{k:Nat}{ov:Bool}(hg:g.n<=64) (hi:i<0) (h:StepAt g bn bo bm bl most k ov i w):Calls Try.prog 67 #[.int .i64 i,.pointer (some ⟨bn,0,none⟩),.pointer (some ⟨g.tv,0,none⟩),.pointer (some ⟨bo,0,none⟩),.pointer (some ⟨bm,0,none⟩),.pointer (some ⟨bl,0,none⟩)] w λe w'=>e=.returned (.tuple #[])/\w=w':=by
 have h1:decide (i<0)=true:=by simpa using hi
 clear h
 go_enter Try.func67,Try.ntmps67
 go_wp2
 (try simp only[Exit.inBlock,Exit.then]);refine bodyPost_ret (results_none rfl _ _ _) rfl ?_
 exact⟨rfl,rfl⟩
theorem step_big {g:Gs}{k:Nat}{ov:Bool}(hg:g.n<=64) (h0:0<=i) (hi:(g.n:Int)<=i) (h:StepAt g bn bo bm bl most k ov i w):Calls Try.prog 67 #[.int .i64 i,.pointer (some ⟨bn,0,none⟩),.pointer (some ⟨g.tv,0,none⟩),.pointer (some ⟨bo,0,none⟩),.pointer (some ⟨bm,0,none⟩),.pointer (some ⟨bl,0,none⟩)] w λe w'=>e=.returned (.tuple #[])/\w=w':=by
 have h1:decide (i<0)=false:=by simpa using h0
 have h2:decide ((g.n:Int)<=i)=true:=by simpa using hi
 have h3:=h.n;clear h
 go_enter Try.func67,Try.ntmps67
 go_wp2
 (try simp only[Exit.inBlock,Exit.then]);refine bodyPost_ret (results_none rfl _ _ _) rfl ?_
 exact⟨rfl,rfl⟩
theorem step_over {g:Gs}{k:Nat}(hg:g.n<=64) (h0:0<=i) (hi:i<g.n) (h:StepAt g bn bo bm bl most k true i w):Calls Try.prog 67 #[.int .i64 i,.pointer (some ⟨bn,0,none⟩),.pointer (some ⟨g.tv,0,none⟩),.pointer (some ⟨bo,0,none⟩),.pointer (some ⟨bm,0,none⟩),.pointer (some ⟨bl,0,none⟩)] w λe w'=>e=.returned (.tuple #[])/\w=w':=by
 have h1:decide (i<0)=false:=by simpa using h0
 have h2:decide ((g.n:Int)<=i)=false:=by simpa using hi
 have h3:=h.n;have h4:=h.tv;have h5:=h.t1;have h6:=h.a h0 hi;have h7:=h.s h0 hi;clear h
 go_enter Try.func67,Try.ntmps67
 go_wp2
 (try simp only[Exit.inBlock,Exit.then]);refine bodyPost_ret (results_none rfl _ _ _) rfl ?_
 exact⟨rfl,rfl⟩
theorem step_full {g:Gs}(hg:g.n<=64) (h0:0<=i) (hi:i<g.n) (h:StepAt g bn bo bm bl most most false i w):Calls Try.prog 67 #[.int .i64 i,.pointer (some ⟨bn,0,none⟩),.pointer (some ⟨g.tv,0,none⟩),.pointer (some ⟨bo,0,none⟩),.pointer (some ⟨bm,0,none⟩),.pointer (some ⟨bl,0,none⟩)] w λe w'=>e=.returned (.tuple #[])/\w=w':=by
 have h1:decide (i<0)=false:=by simpa using h0
 have h2:decide ((g.n:Int)<=i)=false:=by simpa using hi
 have h3:=h.n;have h4:=h.tv;have h5:=h.t1;have h6:=h.a h0 hi;have h7:=h.s h0 hi;obtain⟨A,cap,h8⟩:=h.o;have h9:=h.m;clear h
 go_enter Try.func67,Try.ntmps67
 go_wp2
 (try simp only[Exit.inBlock,Exit.then]);refine bodyPost_ret (results_none rfl _ _ _) rfl ?_
 exact⟨rfl,rfl⟩
end
theorem oF {Z:Nat->Prop}{w w':World}(hs:w.heap.size<=w'.heap.size) (h:∀ b,¬Z b->b<w.heap.size->w'.heap[b]?=w.heap[b]?):HeldX Z w w':=
 ⟨hs,λb c t r hz hb _=>(h b hz (aB hb)).trans hb⟩
theorem eA {Z:Nat->Prop}{w w':World}(h:HeldX Z w w') {b:Nat}{t:TypeId}{cs:Array Value}(hb:Blk w b t cs) (hz:¬Z b):Blk w' b t cs:=h.block b cs t (0,0) hz hb (.inl (by decide))
theorem pT {w w':World}{base:Nat}{e:TypeId}{size n:Nat}{v:Value}{xs:List Value}(hh:HeldM w w') (h:w.ownsRow base e size v n xs):w'.ownsRow base e size v n xs:=by
 obtain⟨h1,h2⟩:=h;refine⟨h1,?_⟩
 rcases h2 with h2 | ⟨g,cap,cur,hv,hg,hh',r⟩
 ·exact .inl h2
 ·exact .inr ⟨g,cap,cur,hv,hg,hh.block _ _ _ _ hh' (.inl (by decide)),r⟩
theorem OvS.heldm {e:Env Try.prog}{base bn bo bm bl most:Nat}{c:Run e.S}{x x':World}(h:OvS e base bn bo bm bl most c x) (hh:HeldM x x'):OvS e base bn bo bm bl most c x':=by
 have hx:HeldX (λ_=>False) x x':=hh.x;obtain⟨v,h1,h2⟩:=h.o;exact⟨eA hx h.n id,eA hx h.m id,eA hx h.l id,⟨v,eA hx h1 id,pT hh h2⟩,by have:=h.lt;have:=hh.size;omega,h.ne⟩
theorem jI {w:World}{base:Nat}{e:TypeId}{n:Nat}{v:Value}{xs:List Value}(h:w.ownsRow base e 1 v n xs):∃ A cap,v=.slice A n cap:=aQ h
theorem OvS.at {e:Env Try.prog}{base bn bo bm bl most:Nat}{c:Run e.S}{x:World}{ov br:Nat->Bool}{i:Int}(h:OvS e base bn bo bm bl most c x) (tv:Tv e.g ov br x) (ho:∀ j,j<e.g.n->ov j=(c.m.th j).isOver):StepAt e.g bn bo bm bl most c.order.length (c.m.th i.toNat).isOver i x:=by
 refine⟨h.n.cell 0,h.m.cell 0,?_,tv.v,tv.t1,λh0 h1=>tv.a _ (by omega),λh0 h1=>?_⟩
 ·obtain ⟨v,h1,h2⟩:=h.o
  obtain⟨A,cap,rfl⟩:=jI h2;exact⟨A,cap,h1.cell 0⟩
 ·rw [<-ho _ (by omega)];exact tv.s2 _ (by omega)
theorem over_idle (hP:Prog Try.prog) (e:Env Try.prog) (hn:e.g.n<=64) {base bn bo bm bl most N:Nat}{c:Run e.S}{i:Int}{w:World}(h:OvS e base bn bo bm bl most c w) (hmay:c.may e.g.n most i=false) :
  Ccalls (lgM hP e) 67 #[.int .i64 i,.pointer (some ⟨bn,0,none⟩),.pointer (some ⟨e.g.tv,0,none⟩),.pointer (some ⟨bo,0,none⟩),.pointer (some ⟨bm,0,none⟩),.pointer (some ⟨bl,0,none⟩)] (N,c.m) w λu t' w'=>u=.tuple #[]/\t'=(N,c.m)/\OvS e base bn bo bm bl most c w'/\HeldM w w':=by
 intro c' mid hR;refine gM λov br tv ho=>?_;have hs:=h.at tv ho (i:=i);refine(jD (R:=λu t' w'=>u=.tuple #[]/\t'=(N,c.m)/\OvS e base bn bo bm bl most c w'/\HeldM w w') (λy τ n hy=>?_):Ccalls (lgM hP e) _ _ (N,c.m) w _) c' mid hR;subst hy
 have key:Calls Try.prog 67 #[.int .i64 i,.pointer (some ⟨bn,0,none⟩),.pointer (some ⟨e.g.tv,0,none⟩),.pointer (some ⟨bo,0,none⟩),.pointer (some ⟨bm,0,none⟩),.pointer (some ⟨bl,0,none⟩)] y λe' w'=>e'=.returned (.tuple #[])/\y=w':=by
  have hs':StepAt e.g bn bo bm bl most c.order.length (c.m.th i.toNat).isOver i y:=⟨hs.n,hs.m,hs.o,hs.tv,hs.t1,hs.a,hs.s⟩;simp only[Run.may,Bool.and_eq_false_iff,decide_eq_false_iff_not,Bool.not_eq_false',beq_iff_eq] at hmay
  by_cases h0:i<0
  ·exact step_neg hn h0 hs'
  ·by_cases h1:(e.g.n:Int)<=i
   ·exact step_big hn (by omega) h1 hs'
   ·by_cases h2:(c.m.th i.toNat).isOver=true
    ·rw [h2] at hs'
     exact step_over hn (by omega) (by omega) hs'
    ·have h2:(c.m.th i.toNat).isOver=false:=by simpa using h2
     have h3:c.order.length=most:=by
      rcases hmay with((h | h) | h) | h
      ·omega
      ·omega
      ·rw [h2] at h;cases h
      ·exact h
     rw[h2,h3] at hs';exact step_full hn (by omega) (by omega) hs'
 refine key.mono λe' w' hw=>?_;obtain⟨rfl,rfl⟩:=hw;exact⟨_,rfl,rfl,rfl,⟨h.n,h.m,h.l,h.o,h.lt,h.ne⟩,⟨Nat.le_refl _,λ_ _ _ _ hb _=>hb⟩⟩
theorem OvS.re {e:Env Try.prog}{base bn bo bm bl most:Nat}{c:Run e.S}{y:World}{τ:Nat->Question->Nat}{n:Nat}(h:OvS e base bn bo bm bl most c (y.re τ n)):OvS e base bn bo bm bl most c y:=⟨h.n,h.m,h.l,h.o,h.lt,h.ne⟩
theorem new_one (w:World) (v:Value) (t:TypeId):∀ j u,[v][j]?=some u->(w.alloc (.cells #[v] t)).cell? ((⟨w.heap.size,0,none⟩:Addr).add j)=some u:=by
 intro j u h;cases j with
 | zero =>
   simp only[List.getElem?_cons_zero,Option.some.injEq] at h;subst h;exact(Blk.new w t #[v]).cell 0
 | succ j=>simp at h
theorem one_cell (k:IntKind) (n:Int):∀ u∈[Value.int k n],u.oneCell'=true:=by simp[Value.oneCell']
theorem blk_app {u w1:World}{o:Obj}{v:Value}{base b:Nat}{t:TypeId}{cs:Array Value}{e:TypeId}{n:Nat}{xs:List Value}(hb:Blk u b t cs) (hown:u.ownsRow base e 1 v n xs) (hg:(u.alloc o).grownBy w1 v.ownBlock) (hlt:b<base):Blk w1 b t cs:=by
 refine(hb.alloc o).grown hg λh=>?_
 rcases hown.2 with⟨rfl,_⟩ | ⟨g,cap,cur,rfl,hg',_⟩
 ·cases h
 ·simp [Value.ownBlock] at h;omega
theorem heap_app {u w1:World}{o:Obj}{v:Value}{base b:Nat}{e:TypeId}{n:Nat}{xs:List Value}(hown:u.ownsRow base e 1 v n xs) (hg:(u.alloc o).grownBy w1 v.ownBlock) (hb:b<base) (hlt:b<u.heap.size):w1.heap[b]?=u.heap[b]?:=by
 refine(hg.block b (by simp;omega) λh=>?_).trans (Below.heap_alloc _ _ _ hlt)
 rcases hown.2 with⟨rfl,_⟩ | ⟨g,cap,cur,rfl,hg',_⟩
 ·cases h
 ·simp [Value.ownBlock] at h;omega
theorem over_turn (hP:Prog Try.prog) (e:Env Try.prog) (hn:e.g.n<=64) {base bn bo bm bl most N:Nat}{c:Run e.S}{j:Nat}{w:World}(hmost:most<=1048576) (hle:c.order.length<=most) (hgood:∀ j,j<e.g.n->(c.m.th j).Good) (hmi:∀ k,c.m.th j=.wait k->k c.m.s≠.cut) (h:OvS e base bn bo bm bl most c w) (hmay:c.may e.g.n most j=true) :
  Ccalls (lgM hP e) 67 #[.int .i64 j,.pointer (some ⟨bn,0,none⟩),.pointer (some ⟨e.g.tv,0,none⟩),.pointer (some ⟨bo,0,none⟩),.pointer (some ⟨bm,0,none⟩),.pointer (some ⟨bl,0,none⟩)] (N,c.m) w λu t' w'=>u=.tuple #[]/\t'=(N,c.m.go j)/\OvS e base bn bo bm bl most ⟨c.m.go j,c.order++[(j:Int)]⟩ w'/\HeldX (OvZ base bo bl) w w':=by
 simp only[Run.may,Bool.and_eq_true,decide_eq_true_eq,Bool.not_eq_true',beq_eq_false_iff_ne,ne_eq,Int.toNat_natCast] at hmay;obtain⟨⟨⟨_,hj⟩,ho0⟩,hfull⟩:=hmay;have hj:j<e.g.n:=by omega
 have hlt:c.order.length<most:=by omega
 obtain ⟨k,hk⟩:∃ k,c.m.th j=.wait k:=by
  have:=hgood j hj;cases ht:c.m.th j with
  | wait k=>exact⟨k,rfl⟩
  | unborn=>rw[ht] at this;exact this.elim
  | over=>rw[ht] at ho0;cases ho0
 have hwhole:k c.m.s≠.cut:=hmi k hk;have hgo:c.m.go j=c.m.did j (k c.m.s):=by simp[Mach.go,hk]
 rw[hgo];have hleft:=qE (m:=c.m) (m':=c.m.did j (k c.m.s)) (λi hi=>gX hi) ho0 e.g.n hj;clear hfull hgood hgo;intro c' mid hR;refine gM λov br tv ho=>?_;rw[show Frame.enter Try.prog 67 #[.int .i64 j,.pointer (some ⟨bn,0,none⟩),.pointer (some ⟨e.g.tv,0,none⟩),.pointer (some ⟨bo,0,none⟩),.pointer (some ⟨bm,0,none⟩),.pointer (some ⟨bl,0,none⟩)] .normal=Frame.at { (default:Frame) with fn:=67,kind:=.normal } ⟨#[.int .i64 j,.pointer (some ⟨bn,0,none⟩),.pointer (some ⟨e.g.tv,0,none⟩),.pointer (some ⟨bo,0,none⟩),.pointer (some ⟨bm,0,none⟩),.pointer (some ⟨bl,0,none⟩)]++Array.replicate (Try.f67.ntmps-6) undef,[]⟩ [.code (Try.f67.body.getD .skip)] from by simp[Frame.enter,Frame.at,Try.func67];rfl];simp only[Try.f67,Option.getD_some,Nat.reduceSub,Array.replicate_succ,Array.replicate_zero,List.push_toArray,List.append_toArray,List.nil_append,List.cons_append];refine Lg.move _ (λ_ _=>step_seq) id ?_;refine Lg.code λK hK y τ n hy=>?_;subst hy;have hS:OvS e base bn bo bm bl most c y:=⟨h.n,h.m,h.l,h.o,h.lt,h.ne⟩;have tvy:Tv e.g ov br y:=⟨tv.v,tv.t0,tv.t1,tv.t2,tv.a,tv.s0,tv.s1,tv.s2,tv.b⟩;have hRy:∀ v t' w',v=.tuple #[]/\t'=(N,c.m.did j (k c.m.s))/\OvS e base bn bo bm bl most ⟨c.m.did j (k c.m.s),c.order++[(j:Int)]⟩ w'/\HeldX (OvZ base bo bl) y w'->(lgM hP e).T t' (c'.finish v) mid w':=λv t' w' ⟨a,b,c2,d⟩=>hR v t' w' ⟨a,b,c2,⟨d.size,d.block⟩⟩;clear hR h tv;have h1:decide ((j:Int)<0)=false:=by simp
 have h2:decide (e.g.n<=j)=false:=by simpa using hj
 have h3:y.cell? ⟨bn,0,none⟩=some (.int .i64 e.g.n):=hS.n.cell 0;have h4:=tvy.v;have h5:=tvy.t1;have h6:=tvy.a j hj;have h7:y.cell? ⟨e.g.sb j,2,none⟩=some (.bool false):=by have:=tvy.s2 j hj;rw[ho j hj,ho0] at this;exact this
 obtain⟨v,hv,hown⟩:=hS.o;have hown':=hown;obtain⟨A,cap,rfl⟩:=jI hown';have h8:y.cell? ⟨bo,0,none⟩=some (.slice A c.order.length cap):=hv.cell 0;have h9:y.cell? ⟨bm,0,none⟩=some (.int .i64 most):=hS.m.cell 0;have h10:(c.order.length==most)=false:=by simp;omega
 clear hown';have Hown:=qd hown;have Ho:=qd ho;have HL:=qd hleft;have H0:=qd ho0;have Hk:=qd hk;clear hown ho hleft ho0 hk;go_wp2;refine hK _ _ (λh=>h.elim) ?_;clear hK K;clear h1 h2 h3 h4 h5 h6 h7 h9 h10 tvy;refine Lg.move _ (λ_ _=>step_seq) id ?_;refine Lg.code λK hK u τ n hu=>?_;subst hu;have hSu:OvS e base bn bo bm bl most c u:=⟨hS.n,hS.m,hS.l,hS.o,hS.lt,hS.ne⟩;have hRu:∀ v t' w',v=.tuple #[]/\t'=(N,c.m.did j (k c.m.s))/\OvS e base bn bo bm bl most ⟨c.m.did j (k c.m.s),c.order++[(j:Int)]⟩ w'/\HeldX (OvZ base bo bl) u w'->(lgM hP e).T t' (c'.finish v) mid w':=λv t' w' ⟨a,b,c2,d⟩=>hRy v t' w' ⟨a,b,c2,⟨d.size,d.block⟩⟩;have hown:u.ownsRow base 3 1 (.slice A c.order.length cap) c.order.length (c.order.map (Value.int .i64)):=Hown.out;have g8:u.cell? ⟨bo,0,none⟩=some (.slice A c.order.length cap):=h8;have hbo:Blk u bo 23 #[.slice A c.order.length cap]:=hv;have g9:u.frozen? ⟨bo,0,none⟩=false:=hbo.frozen 0;obtain⟨hl1,hl2,hl3,hl4,hl5⟩:=hSu.lt;obtain⟨hd1,hd2,hd3,hd4,hd5⟩:=hSu.ne;clear hS hRy h8 hv Hown;obtain⟨i0,hi,hz0,hz1,hz2⟩:=info_parts Try.infoInt;have hRu:=qd hRu;have Hbo:=qd hbo;have HS:=qd hSu;clear hbo hSu
 go_wp2_with (at_builtin;refine wpList_append_own _ rfl _ _ 23 rfl base 3 i0 (.int .i64 0) 1 8 Try.underlying23 hi hz0 hz1 hz2 rfl (by decide) _ _ _ rfl (hown.alloc _) ⟨u.heap.size,0,none⟩ 1 1 [.int .i64 (j:Int)] rfl rfl ?c1 ?c2 ?c3 ?c4 ?c5 ?_)
 case c1=>exact new_one _ _ _
 case c2=>exact one_cell _ _
 case c3=>unfold maxLen;omega
 case c4=>omega
 case c5=>exact Nat.le_trans hl5 (by simp)
 intro v' w1 hown1 hgrow _;obtain⟨A',cap',rfl⟩:=jI hown1;have hb1:=blk_app Hbo.out hown hgrow hl2;have f1:w1.cell? ⟨bo,0,none⟩=some (.slice A c.order.length cap):=hb1.cell 0;have f2:w1.frozen? ⟨bo,0,none⟩=false:=hb1.frozen 0;have Hb1:=qd hb1;have Hown:=qd hown;have Hg:=qd hgrow;have Hown1:=qd hown1;clear hb1 hown hgrow hown1 g8 g9;go_wp2;refine hK _ _ (λh=>h.elim) ?_;clear hK K f1 f2
-- the world behind the append
 have hm1:HeldX (OvZ base bo bl) u (w1.setCell ⟨bo,0,none⟩ (.slice A' (c.order.length+1) cap')):=by
  refine oF ?_ λb hz hb=>?_
  ·have:=Hg.out.size
   simp[World.setCell] at this ⊢;omega
  ·unfold OvZ at hz
   rw[Below.heap_setCell w1 ⟨bo,0,none⟩ _ b (by simp;omega)];exact heap_app Hown.out Hg.out (by omega) hb
 have hS1:OvS e base bn bo bm bl most ⟨c.m,c.order++[(j:Int)]⟩ (w1.setCell ⟨bo,0,none⟩ (.slice A' (c.order.length+1) cap')):=by
  have hs:=HS.out;have far:∀ {b:Nat}{t:TypeId}{cs:Array Value},Blk u b t cs->b<base->b≠bo->Blk (w1.setCell ⟨bo,0,none⟩ (.slice A' (c.order.length+1) cap')) b t cs:=λhb h1 h2=>(blk_app hb Hown.out Hg.out h1).far h2 _;refine⟨far hs.n hl1 (Ne.symm hd1),far hs.m hl3 (Ne.symm hd2),far hs.l hl4 (Ne.symm hd3),⟨_,Hb1.out.set_ 0 _,?_⟩,⟨hl1,hl2,hl3,hl4,?_⟩,hs.ne⟩
  ·have:=dI (Z:=λb=>b=bo) Hown1.out (Kept.setCell (S:=λb=>b=bo) w1 (p:=⟨bo,0,none⟩) rfl (.slice A' (c.order.length+1) cap')) (λb h1 h2=>by omega)
   simpa using this
  ·have:=hm1.size; omega
 clear HS Hb1 Hown1 Hg Hown Hbo;have hRu:=hRu.out;generalize w1.setCell ⟨bo,0,none⟩ (.slice A' (c.order.length+1) cap')=z at hm1 hS1 ⊢;refine Lg.move _ (λ_ _=>step_seq) id ?_;refine Lg.move _ (λ_ _=>step_region) id ?_;refine gM λov2 br2 tv2 ho2=>?_;refine Lg.pre 0 2 1 (by simp) λK hK y τ n hy=>?_;subst hy;have h1:y.cell? ⟨e.g.tv,0,none⟩=some (.pointer (some ⟨e.g.tb,0,none⟩)):=tv2.v;have Ho2:=qd ho2;clear ho2;simp only[zC];go_wp2;refine hK _ _ (λh=>h.elim) ?_;clear hK K h1;refine Lg.call (i:=2) (rest:=[]) (t:=(N,c.m)) rfl rfl (λy=>by go_simp) (qD hP e hn N c.m j hj k Hk.out true (k c.m.s) rfl hwhole y) ?_;rintro v t' w' ⟨rfl,rfl,hh⟩;have hh:HeldM y w':=⟨hh.size,hh.block⟩;have hS2:=(OvS.re hS1).heldm hh;have hm2:HeldX (OvZ base bo bl) u w':=HeldX.trans (b:=y) ⟨hm1.size,hm1.block⟩ hh.x;rw[Frame.finish_at];walk_nrm;refine Lg.move _ (λ_ _=>step_region_end) id ?_;clear hS1 hm1 hh tv2 Ho2 Ho;refine gM λov br tv ho=>?_;refine Lg.move _ (λ_ _=>step_seq) id ?_;refine Lg.move _ (λ_ _=>step_region) id ?_;refine Lg.pre 0 10 0 (by simp) λK hK y τ n hy=>?_;subst hy;have h1:y.cell? ⟨e.g.tv,0,none⟩=some (.pointer (some ⟨e.g.tb,0,none⟩)):=tv.v;have h2:y.cell? ⟨e.g.tb,1,none⟩=some (.slice (some ⟨e.g.ab,0,none⟩) e.g.n e.g.cap):=tv.t1;have h3:y.cell? ⟨e.g.ab,j,none⟩=some (.pointer (some ⟨e.g.sb j,0,none⟩)):=tv.a j hj;have h4:y.cell? ⟨e.g.sb j,2,none⟩=some (.bool ((c.m.did j (k c.m.s)).th j).isOver):=by rw[<-ho j hj];exact tv.s2 j hj
 clear ho;simp only[zC];go_wp2;refine hK _ _ (λh=>h.elim) ?_;clear hK K h1 h2 h3 h4;refine Lg.move _ (λ_ _=>step_region_end) id ?_;have hS3:=OvS.re hS2;have hm3:HeldX (OvZ base bo bl) u y:=⟨hm2.size,hm2.block⟩;clear hS2 hm2 tv;have HL:=HL.out;cases hov:((c.m.did j (k c.m.s)).th j).isOver with
 | false =>
   refine Lg.move _ (λ_ _=>step_cond rfl) id ?_;refine Lg.move _ (λ_ _=>step_skip) id ?_;refine Lg.move _ (λ_ _=>step_end) id ?_;refine Lg.leave rfl Try.func67 rfl (λ_ _ _ _=>by simp[results,Try.f67]) (hRu _ _ _ ⟨rfl,rfl,?_,hm3⟩);have he:c.m.left e.g.n=(c.m.did j (k c.m.s)).left e.g.n:=by simpa [hov] using HL
   refine⟨hS3.n,hS3.m,?_,hS3.o,hS3.lt,hS3.ne⟩
   show Blk y bl _ #[.int .i64 ((c.m.did j (k c.m.s)).left e.g.n:Nat)]
   rw[<-he];exact hS3.l
 | true =>
   refine Lg.move _ (λ_ _=>step_cond rfl) id ?_;refine Lg.move _ (λ_ _=>step_region) id ?_;refine Lg.pre 0 3 0 (by simp) λK hK v τ n hv=>?_;subst hv;have hS4:=OvS.re hS3;have hm4:HeldX (OvZ base bo bl) u v:=⟨hm3.size,hm3.block⟩;clear hS3 hm3;have h1:v.cell? ⟨bl,0,none⟩=some (.int .i64 (c.m.left e.g.n)):=hS4.l.cell 0;have h2:v.frozen? ⟨bl,0,none⟩=false:=hS4.l.frozen 0;have hl:c.m.left e.g.n=(c.m.did j (k c.m.s)).left e.g.n+1:=by simpa [hov] using HL
   have hb:c.m.left e.g.n<=64:=Nat.le_trans (left_le _ _) hn;have h3:(1:Int)<=(c.m.left e.g.n:Int):=by omega
   have h4:(c.m.left e.g.n:Int)<=64:=by omega
   have Hl:=qd hl;have HS:=qd hS4;have Hov:=qd hov;clear hl HL hb hS4 hov;simp only[zC];go_wp2;refine hK _ _ (λh=>h.elim) ?_;clear hK K h1 h2;refine Lg.move _ (λ_ _=>step_region_end) id ?_;refine Lg.move _ (λ_ _=>step_end) id ?_;refine Lg.leave rfl Try.func67 rfl (λ_ _ _ _=>by simp[results,Try.f67]) (hRu _ _ _ ⟨rfl,rfl,?_,?_⟩)
   ·have hs:=HS.out
    have he:((c.m.left e.g.n:Int)-1)=((c.m.did j (k c.m.s)).left e.g.n:Int):=by have:=Hl.out;omega
    rw[he];refine⟨hs.n.far (p:=⟨bl,0,none⟩) (Ne.symm hd4) _,hs.m.far (p:=⟨bl,0,none⟩) (Ne.symm hd5) _,hs.l.set_ 0 _,?_,by have:=hs.lt;simpa [World.setCell] using this,hs.ne⟩;obtain⟨v',o1,o2⟩:=hs.o;exact⟨v',o1.far (p:=⟨bl,0,none⟩) hd3 _,dI (Z:=λb=>b=bl) o2 (Kept.setCell (S:=λb=>b=bl) v (p:=⟨bl,0,none⟩) rfl _) (λb h1 h2=>by omega)⟩
   ·refine hm4.trans (oF (by simp[World.setCell]) λb hz _=>?_)
    unfold OvZ at hz;exact Below.heap_setCell v ⟨bl,0,none⟩ _ b (by simp;omega)
structure Old (B:Nat) (w w':World):Prop where
 size:w.heap.size<=w'.heap.size
 block:∀ b,b<B->w'.heap[b]?=w.heap[b]?
 io:w'.os=w.os/\w'.output=w.output
theorem Old.refl (B:Nat) (w:World):Old B w w:=⟨Nat.le_refl _,λ_ _=>rfl,rfl,rfl⟩
theorem Old.trans {B:Nat}{a b c:World}(h:Old B a b) (k:Old B b c):Old B a c:=⟨Nat.le_trans h.size k.size,λi hi=>(k.block i hi).trans (h.block i hi),k.io.1.trans h.io.1,k.io.2.trans h.io.2⟩
theorem Old.mono {B B':Nat}{a b:World}(h:Old B a b) (hb:B'<=B):Old B' a b:=⟨h.size,λi hi=>h.block i (by omega),h.io⟩
theorem Old.of {B:Nat}{a b:World}(h:Below B a b):Old B a b:=⟨h.size,h.block,h.os,h.output⟩
theorem Old.re {B:Nat}{a y:World}{τ:Nat->Question->Nat}{n:Nat}(h:Old B a (y.re τ n)):Old B a y:=⟨h.size,h.block,h.io⟩
theorem Old.er {B:Nat}{y b:World}{τ:Nat->Question->Nat}{n:Nat}(h:Old B (y.re τ n) b):Old B y b:=⟨h.size,h.block,h.io⟩
theorem Old.new {B:Nat}{a w:World}(h:Old B a w) (hB:B<=w.heap.size) (o:Obj):Old B a (w.alloc o):=h.trans ⟨by simp,λi hi=>Below.heap_alloc _ _ _ (by omega),rfl,rfl⟩
theorem Old.set_ {B:Nat}{a w:World}(h:Old B a w) {p:Addr}(hp:B<=p.block) (v:Value):Old B a (w.setCell p v):=h.trans ⟨by simp[World.setCell],λi hi=>Below.heap_setCell _ _ _ _ (by omega),rfl,rfl⟩
theorem Old.drew {B:Nat}{a w:World}(h:Old B a w):Old B a w.drew:=⟨h.size,h.block,h.io⟩
theorem ret_int' {k:IntKind}{a b:Int}(h:a=b):Ending.returned (.int k a)=.returned (.int k b):=by rw[h]
def cH (a b:Int):Int:=min (max a 0) b
theorem held_any (a b:Int) (w:World):Calls Try.prog 65 #[.int .i64 a,.int .i64 b] w λe w'=>e=.returned (.int .i64 (cH a b))/\w=w':=by
 go_enter Try.func65,Try.ntmps65
 go_wp2
 all_goals
  go_ret;exact⟨ret_int' (by unfold cH;omega),rfl⟩
def ns1:List Nat:=[5,6,7,8,9,10,11]++List.range' 19 27
structure Made (n most:Nat) (w0:World) (f:Nat->Value) (w:World) (tvb tb bk rb bn bo bm:Nat):Prop where
 f5:f 5=.pointer (some ⟨bm,0,none⟩)
 f6:f 6=.pointer (some ⟨bo,0,none⟩)
 f7:f 7=.bool false
 f9:f 9=.pointer (some ⟨bn,0,none⟩)
 f10:f 10=.pointer (some ⟨tvb,0,none⟩)
 hn:Blk w bn 3 #[.int .i64 n]
 hm:Blk w bm 3 #[.int .i64 most]
 ho:Blk w bo 23 #[.slice none 0 0]
 tv:Blk w tvb 136 #[.pointer (some ⟨tb,0,none⟩)]
 hk:w.heap[bk]?=some (.chan 0 #[] false 0 0 false)
 hr:Blk w rb 4 (Array.replicate n (.bool false))
 new:Old w0.heap.size w0 w/\w0.heap.size<=bn/\w0.heap.size<=bo/\w0.heap.size<=bm/\w0.heap.size<=tvb/\w0.heap.size<=tb/\w0.heap.size<=bk/\w0.heap.size<=rb
 ne:bn≠bm
theorem two_new (y:World) (c d:Array Value) (s t:TypeId):Blk ((y.alloc (.cells c s)).alloc (.cells d t)) y.heap.size s c/\Blk ((y.alloc (.cells c s)).alloc (.cells d t)) (y.heap.size+1) t d/\Old y.heap.size y ((y.alloc (.cells c s)).alloc (.cells d t))/\((y.alloc (.cells c s)).alloc (.cells d t)).heap.size=y.heap.size+2:=by
 refine⟨(Blk.new y s c).alloc _,?_,((Old.refl _ _).new (Nat.le_refl _) _).new (by simp) _,by simp⟩;have:=Blk.new (y.alloc (.cells c s)) t d
 simpa using this
theorem Try.infoUnit:(Try.prog.info? 87).map (λi=>(i.zero,i.size,i.bytes))=some (some (.agg #[]),0,0):=by kernel_rfl
theorem Try.infoBool:(Try.prog.info? 4).map (λi=>(i.zero,i.size,i.bytes))=some (some (.bool false),1,1):=by kernel_rfl
theorem make_back (w:World):(Instr.makeChan 137 (.int .i64 0)).run Try.prog w=.ok (.chan (some w.heap.size)) (w.alloc (.chan 0 #[] false 0 0 false)):=by
 obtain⟨i,hi,h0,h1,h2⟩:=info_parts Try.infoUnit;exact run_makeChan Try.underlying137 hi .i64 0 (by decide) (by simp)
theorem make_pass (w:World):(Instr.makeChan 142 (.int .i64 0)).run Try.prog w=.ok (.chan (some w.heap.size)) (w.alloc (.chan 0 #[] false 0 0 false)):=by
 obtain⟨i,hi,h0,h1,h2⟩:=info_parts Try.infoBool;exact run_makeChan Try.underlying142 hi .i64 0 (by decide) (by simp)
theorem make_broken (w:World) (n:Nat) (hn:n<=64):(Instr.makeSlice 106 (.int .i64 n) (.int .i64 n)).run Try.prog w=.ok (.slice (some ⟨w.heap.size,0,none⟩) n n) (w.alloc (.cells (madeCells (Value.bool false).cells (n*1)) 4)):=by
 obtain⟨i,hi,h0,h1,h2⟩:=info_parts Try.infoBool;have:=run_make w 106 4 i _ Try.underlying106 hi h0 .i64 .i64 n n (by omega) (by omega) (by rw[h2];omega) (by omega);rw[h1] at this;exact this
theorem new_broken (n:Nat):madeCells #[Value.bool false] n=Array.replicate n (.bool false):=by
 apply Array.ext (by simp[madeCells]);intro i h1 h2
 simp[madeCells,Nat.mod_one]
theorem jM (v:World) (o1 o2 o3 o4:Obj):((((v.alloc o1).alloc o2).alloc o3).alloc o4).heap[v.heap.size]?=some o1/\((((v.alloc o1).alloc o2).alloc o3).alloc o4).heap[v.heap.size+1]?=some o2/\((((v.alloc o1).alloc o2).alloc o3).alloc o4).heap[v.heap.size+1+1]?=some o3/\((((v.alloc o1).alloc o2).alloc o3).alloc o4).heap[v.heap.size+1+1+1]?=some o4:=by
 have h (w:World) (o:Obj) (b:Nat) (hb:b<w.heap.size):(w.alloc o).heap[b]?=w.heap[b]?:=Below.heap_alloc w o b hb;have k (w:World) (o:Obj):(w.alloc o).heap[w.heap.size]?=some o:=heap_alloc_new w o;have e1:(v.alloc o1).heap.size=v.heap.size+1:=by simp
 have e2:((v.alloc o1).alloc o2).heap.size=v.heap.size+1+1:=by simp
 have e3:(((v.alloc o1).alloc o2).alloc o3).heap.size=v.heap.size+1+1+1:=by simp
 refine⟨?_,?_,?_,?_⟩
 ·rw [h _ _ _ (by omega),h _ _ _ (by omega),h _ _ _ (by omega),k]
 ·rw [h _ _ _ (by omega),h _ _ _ (by omega),<-e1,k]
 ·rw [h _ _ _ (by omega),<-e2,k]
 ·rw [<-e3,k]
theorem old_four (v:World) (o1 o2 o3 o4:Obj):Old v.heap.size v ((((v.alloc o1).alloc o2).alloc o3).alloc o4):=
 ((((Old.refl _ v).new (Nat.le_refl _) o1).new (by simp) o2).new (by simp;omega) o3).new (by simp;omega) o4
theorem Blk.later4 {v:World}{b:Nat}{t:TypeId}{cs:Array Value}(h:Blk v b t cs) (o1 o2 o3 o4:Obj):Blk ((((v.alloc o1).alloc o2).alloc o3).alloc o4) b t cs:=(((h.alloc o1).alloc o2).alloc o3).alloc o4
theorem heapd (v:World):v.drew.heap=v.heap:=rfl
def Reg3X (n:Nat) (w:World) (bn bm bo mm:Nat) (y:World) (B:Nat) (f:Nat->Value):Prop:=
 ∃ tvb tb bk rb,f 10=.pointer (some ⟨tvb,0,none⟩)/\Blk w tvb 136 #[.pointer (some ⟨tb,0,none⟩)]/\Blk w tb 140 #[.chan (some bk),.slice none 0 0,.slice (some ⟨rb,0,none⟩) n n]/\w.heap[bk]?=some (.chan 0 #[] false 0 0 false)/\Blk w rb 4 (Array.replicate n (.bool false)) /\
   (Blk w bn 3 #[.int .i64 n]/\Blk w bm 3 #[.int .i64 mm]/\Blk w bo 23 #[.slice none 0 0])/\Old B y w/\bn<tvb/\bn<tb/\bn<bk/\bn<rb
theorem pW {κ:Type}(L:Lg Try.prog κ) (hs:¬L.strict) {b:Frame}{k:List Item}{mid:List Frame}{t:κ}(tA:Option Addr) (nt cap:Nat) (sv:Value) (most:Int) {w:World}(hnt:nt<=maxLen)
  (hT:∀ f w',(∃ tvb tb bk rb bn bo bm,Made (min nt 64) (cH most 1048576).toNat w f w' tvb tb bk rb bn bo bm/\Blk w' tb 140 #[.chan (some bk),.slice none 0 0,.slice (some ⟨rb,0,none⟩) (min nt 64) (min nt 64)])->L.T t (b.at ⟨iH f (#[.slice tA nt cap,sv,.int .i64 most]++Array.replicate (Try.f42.ntmps-3) undef) ns1,[]⟩ (.code (aF (aF (aF (aF (Try.f42.body.getD .skip)))))::k)) mid w') :
  L.T t (b.at ⟨#[.slice tA nt cap,sv,.int .i64 most]++Array.replicate (Try.f42.ntmps-3) undef,[]⟩ (.code (Try.f42.body.getD .skip)::k)) mid w:=by
 simp only[Try.f42,Option.getD_some,Nat.reduceSub,Array.replicate_succ,Array.replicate_zero,List.push_toArray,List.append_toArray,List.nil_append,List.cons_append,aF] at hT ⊢;unfold maxLen at hnt;have HT:=qd hT;clear hT;refine Lg.move _ (λ_ _=>step_seq) id ?_;refine Lg.code λK hK y τ n hy=>?_;subst hy;go_wp2;refine hK _ _ (λh=>absurd h hs) ?_;clear hK K;obtain⟨b1,b2,bel,sz⟩:=two_new y #[.int .i64 most] #[.slice none 0 0] 3 23;generalize (y.alloc (Obj.cells #[.int .i64 most] 3)).alloc (Obj.cells #[.slice none 0 0] 23)=z at b1 b2 bel sz ⊢;generalize hbm:y.heap.size=bm at b1 b2 bel sz ⊢;generalize hbo:bm+1=bo at b2 ⊢;refine Lg.move _ (λ_ _=>step_seq) id ?_;refine Lg.qU hs ([9]++List.range' 19 3) (λf w'=>∃ bn,f 9=.pointer (some ⟨bn,0,none⟩)/\Blk w' bn 3 #[.int .i64 ((min nt 64:Nat):Int)]/\Blk w' bm 3 #[.int .i64 most]/\Blk w' bo 23 #[.slice none 0 0]/\Old bm y w'/\bo<bn/\bn<w'.heap.size) (λv τ' n' hv=>?_) ?_
 ·subst hv
  have b1:Blk v bm _ _:=b1;have b2:Blk v bo _ _:=b2;have bel:=bel.re;have s0:v.heap.size=bm+2:=sz;have s1:bo<v.heap.size:=by omega
  have s2:bm<=v.heap.size:=by omega
  clear sz s0 hbm hbo;go_wp2
  all_goals
   refine⟨rfl,rfl,v.heap.size,rfl,?_,b1.alloc _,b2.alloc _,bel.new s2 _,s1,by simp⟩;have:=Blk.new v 3 #[.int .i64 ((min nt 64:Nat):Int)]
   first
    | (rw[show min nt 64=nt by omega] at this ⊢;exact this)
    | (rw[show min nt 64=64 by omega] at this ⊢;exact this)
 rintro f w' ⟨bn,f9,k1,k2,k3,k4,k5,k6⟩;clear b1 b2 bel sz;simp only[iH,fK,List.range',List.cons_append,List.nil_append,List.set_cons_zero,List.set_cons_succ,Nat.reduceAdd];simp only[f9];clear f9;generalize f 19=u19;generalize f 20=u20;generalize f 21=u21;clear f;refine Lg.move _ (λ_ _=>step_seq) id ?_;have hh:cH most 1048576=((cH most 1048576).toNat:Int):=by unfold cH;omega
 have hheld:=λw=>held_any most 1048576 w;rw[hh] at hheld;generalize (cH most 1048576).toNat=mm at hheld HT ⊢;clear hh;have hbm':=qd hbm;have Hheld:=qd hheld;clear hheld;refine Lg.qU hs (List.range' 22 2) (λf w'=>Blk w' bn 3 #[.int .i64 ((min nt 64:Nat):Int)]/\Blk w' bm 3 #[.int .i64 mm]/\Blk w' bo 23 #[.slice none 0 0]/\Old bm y w'/\bn<w'.heap.size) (λv τ' n' hv=>?_) ?_
 ·subst hv
  have k1:Blk v bn _ _:=k1;have k2:Blk v bm _ _:=k2;have k3:Blk v bo _ _:=k3;have k4:=k4.re;have k6:bn<v.heap.size:=k6;have c1:v.cell? ⟨bm,0,none⟩=some (.int .i64 most):=k2.cell 0;have c2:v.frozen? ⟨bm,0,none⟩=false:=k2.frozen 0;have H1:=qd k1;have H2:=qd k2;have H3:=qd k3;clear k1 k2 k3
  go_wp2_with (go_at_call 65;refine(Hheld.out _).mono ?_;rintro e w' ⟨rfl,rfl⟩)
  refine⟨rfl,rfl,H1.out.far (by simp;omega) _,H2.out.set_ 0 _,H3.out.far (by simp;omega) _,k4.set_ (by simp) _,by simpa [World.setCell] using k6⟩
 rintro f w' ⟨k1,k2,k3,k4,k7⟩;simp only[iH,fK,List.range',List.set_cons_zero,List.set_cons_succ,Nat.reduceAdd];generalize f 22=u22;generalize f 23=u23;clear f;refine Lg.move _ (λ_ _=>step_seq) id ?_;refine Lg.qU hs (10::List.range' 24 5) (λf w'=>Reg3X (min nt 64) w' bn bm bo mm y bm f) (λv τ' n' hv=>?_) ?_
 ·subst hv
  have k1:Blk v bn _ _:=k1;have k2:Blk v bm _ _:=k2;have k3:Blk v bo _ _:=k3;have k4:=k4.re;have k7:bn<v.heap.size:=k7;have k8:bm<=v.heap.size:=by omega
  have c1:v.cell? ⟨bn,0,none⟩=some (.int .i64 ((min nt 64:Nat):Int)):=k1.cell 0;have H1:=qd k1;have H2:=qd k2;have H3:=qd k3;have H4:=qd k4;clear k1 k2 k3 k4 k5;have hm:min nt 64<=64:=by omega
  generalize min nt 64=n at *;have m1:=make_back;have m2:=λw=>make_broken w n hm;clear hbm hbo
  go_region
  all_goals
   simp only[new_broken];refine⟨rfl,rfl,?_⟩
   show Reg3X _ _ _ _ _ _ _ _ _
   unfold Reg3X
   iterate 4 apply Exists.intro
   refine⟨rfl,?_,?_,?_,?_,⟨H1.out.later4 _ _ _ _,H2.out.later4 _ _ _ _,H3.out.later4 _ _ _ _⟩,?_,?_,?_,?_,?_⟩
   ·first | exact(jM _ _ _ _ _).1 | exact(jM _ _ _ _ _).2.1 | exact(jM _ _ _ _ _).2.2.1 | exact(jM _ _ _ _ _).2.2.2
   ·first | exact(jM _ _ _ _ _).1 | exact(jM _ _ _ _ _).2.1 | exact(jM _ _ _ _ _).2.2.1 | exact(jM _ _ _ _ _).2.2.2
   ·first | exact(jM _ _ _ _ _).1 | exact(jM _ _ _ _ _).2.1 | exact(jM _ _ _ _ _).2.2.1 | exact(jM _ _ _ _ _).2.2.2
   ·first | exact(jM _ _ _ _ _).1 | exact(jM _ _ _ _ _).2.1 | exact(jM _ _ _ _ _).2.2.1 | exact(jM _ _ _ _ _).2.2.2
   ·first | exact H4.out.trans ((old_four _ _ _ _ _).mono k8) | exact(H4.out.trans ((old_four v _ _ _ _).mono k8)).drew
   all_goals ((try simp only[heapd]);omega)
 rintro f w' ⟨tvb,tb',bk,rb,f10,q1,q2,q3,q4,⟨q5,q6,q7⟩,q8,q9,q10,q11,q12⟩;simp only[iH,fK,List.range',List.set_cons_zero,List.set_cons_succ,Nat.reduceAdd];simp only[f10];refine Lg.reframe ns1 (λf hR=>HT.out f w' hR) ?_ ?_
 ·simp only [era,pC,ns1,List.cons_append,List.nil_append,List.range',List.set_cons_zero,List.set_cons_succ,Nat.reduceAdd]
 refine⟨tvb,tb',bk,rb,bn,bo,bm,⟨rfl,rfl,rfl,rfl,rfl,q5,q6,q7,q1,q3,q4,⟨⟨q8.size,λb hb=>q8.block b (by have h:b<y.heap.size:=hb;have:=hbm'.out;omega),q8.io⟩,?_⟩,by omega⟩,q2⟩;have:=hbm'.out
 show y.heap.size<=_/\y.heap.size<=_/\y.heap.size<=_/\y.heap.size<=_/\y.heap.size<=_/\y.heap.size<=_/\y.heap.size<=_
 omega
end Go.Proofs.Ytlcplealnbekeaa
namespace Go.Turn
section
variable {P:Program}{ops:Array Oper}{m:Nat}
def waits (md:Region.Mode) (ops:Array Oper) (x y:Nat):Bool:=(ops[x]?).any λo=>o.after.any λe=>Region.binds md e && e.on==y
def qI (md:Region.Mode) (ops:Array Oper) (m:Nat):Bool:=decide (m<ops.size) && (List.range ops.size).all (λi=>(ops[i]?).all λo=>o.after.all λe=>decide (e.on<i)) && (List.range ops.size).all (λj=>j==m || waits md ops m j || (List.range ops.size).any (λi=>i !=m && waits md ops m i && waits md ops i j))
def oX (md:Region.Mode) (ops:Array Oper) (listed:Array Bool):Prop:=listed.size=ops.size/\∀ x y,listed.getD x false=true->waits md ops x y=true->listed.getD y false=true
theorem fA {md:Region.Mode}{x y:Nat}{listed:Array Bool}(h:x∈Region.ready md ops listed) (hw:waits md ops x y=true):listed.getD y false=true:=by
 obtain⟨_,o,ho,hall⟩:=mem_ready.1 h;simp only[waits,ho,Option.any_some,Array.any_eq_true,Bool.and_eq_true,beq_iff_eq] at hw;obtain⟨k,hk,hb,he⟩:=hw;rw[<-he];exact hall _ (Array.getElem_mem hk) hb
theorem gW (l:Array Bool) (i j:Nat) (d:Bool):(l.setIfInBounds i true).getD j d=if i=j/\j<l.size then true else l.getD j d:=by
 simp only[Array.getD_eq_getD_getElem?,Array.getElem?_setIfInBounds]
 by_cases h:i=j
 ·subst h
  by_cases h2:i<l.size <;> simp[h2]
 ·simp [h]
theorem fB (l:Array Bool) {j:Nat}(hj:j<l.size) (d e:Bool):l.getD j d=l.getD j e:=by simp[Array.getD,hj]
theorem mE {md:Region.Mode}{i:Nat}{listed:Array Bool}(hc:oX md ops listed) (h:i∈Region.ready md ops listed):oX md ops (listed.setIfInBounds i true):=by
 refine⟨by simpa using hc.1,λx y hx hw=>?_⟩;rw[gW] at hx ⊢
 split
 ·rfl
 ·by_cases hxi:i=x/\x<listed.size
  ·exact fA (hxi.1▸h) (hxi.1▸hw)
  ·rw [if_neg hxi] at hx
   exact hc.2 x y hx hw
def iO (listed:Array Bool):Nat->Nat
 | 0=>0
 | n+1=>iO listed n+if listed.getD n false=true then 0 else 1
theorem nT {listed:Array Bool}{i:Nat}(hi:i<listed.size) (h0:listed.getD i true=false):∀ n,iO listed n=iO (listed.setIfInBounds i true) n+if i<n then 1 else 0
 | 0=>rfl
 | n + 1=>by
   simp only[iO,nT hi h0 n,gW]
   by_cases e:i=n
   ·subst e
    rw[fB listed hi false true,h0]
    simp[hi]
   ·have e':¬(i=n/\n<listed.size):=λh=>e h.1
    rw[if_neg e']
    have e1:(if i<n+1 then 1 else 0)=(if i<n then 1 else 0):=by
     by_cases h1:i<n
     ·rw [if_pos h1,if_pos (by omega)]
     ·rw [if_neg h1,if_neg (by omega)]
    rw[e1]
    omega
theorem nU {listed:Array Bool}{j:Nat}:∀ n,j<n->listed.getD j false=false->0<iO listed n
 | 0,h,_=>by omega
 | n+1,h,h0=>by
   simp only[iO]
   by_cases e:j=n
   ·subst e;rw[h0];simp
   ·have:=nU n (by omega) h0;omega
theorem nN {md:Region.Mode}{listed:Array Bool}(hb:(List.range ops.size).all (λi=>(ops[i]?).all λo=>o.after.all λe=>decide (e.on<i))=true) (hs:listed.size=ops.size):∀ j,j<ops.size->listed.getD j false=false->Region.ready md ops listed≠[]:=by
 intro j
 induction j using Nat.strongRecOn with
 | _ j ih =>
   intro hj h0;obtain⟨o,ho⟩:∃ o,ops[j]?=some o:=⟨_,Array.getElem?_eq_getElem hj⟩
   by_cases hr:∀ e∈o.after,Region.binds md e=true->listed.getD e.on false=true
   ·intro hn
    have:j∈Region.ready md ops listed:=mem_ready.2 ⟨by rw[fB listed (by omega) true false];exact h0,o,ho,hr⟩;rw[hn] at this;cases this
   ·have : ∃ e∈o.after,Region.binds md e=true/\listed.getD e.on false=false:=by
     apply Classical.byContradiction;intro hn;refine hr λe he hb'=>?_;cases hv:listed.getD e.on false with
     | true=>rfl
     | false=>exact absurd ⟨e,he,hb',hv⟩ hn
    obtain⟨e,he,_,hv⟩:=this;have h1:=(List.all_eq_true.1 hb) j (List.mem_range.2 hj);rw[ho] at h1;simp only[Option.all_some,Array.all_eq_true_iff_forall_mem,decide_eq_true_eq] at h1;have:=h1 e he;exact ih e.on this (by omega) hv
theorem last_of2 {md:Region.Mode}(hB:qI md ops m=true):∀ (f t:Nat) (listed:Array Bool),oX md ops listed->listed.getD m true=false->iO listed ops.size<=f->∃ l,Region.linearise.go md ops f t listed []=l++[m]/\m ∉ l:=by
 have hB':=hB;simp only[qI,Bool.and_eq_true,decide_eq_true_eq] at hB';obtain⟨⟨hm,hb⟩,hall⟩:=hB';intro f
 induction f with
 | zero =>
   intro t listed hc h0 hf;have:=nU (listed:=listed) ops.size hm (by rw[fB listed (by rw[hc.1];exact hm) false true];exact h0)
   omega
 | succ f ih =>
   intro t listed hc h0 hf;simp only[Region.linearise.go]
   change ∃ l,(match (Region.ready md ops listed)[t%(Region.ready md ops listed).length]? with
    | some i=>Region.linearise.go md ops f (t / (Region.ready md ops listed).length) (listed.setIfInBounds i true) [i]
    | none=>[].reverse)=l++[m]/\m ∉ l
   have hne:Region.ready md ops listed≠[]:=nN hb hc.1 m hm (by rw[fB listed (by rw[hc.1];exact hm) false true];exact h0);have hlt:t%(Region.ready md ops listed).length<(Region.ready md ops listed).length:=Nat.mod_lt _ (List.length_pos_iff.2 hne);rw[List.getElem?_eq_getElem hlt];have hi:=List.getElem_mem hlt;generalize (Region.ready md ops listed)[t%(Region.ready md ops listed).length]=i at hi;simp only[];rw[linearise_go_acc]
   by_cases e:i=m
   ·subst e
    have key:Region.ready md ops (listed.setIfInBounds i true)=[]:=by
     apply Classical.byContradiction;intro hn;obtain⟨j,hj⟩:=List.exists_mem_of_ne_nil _ hn;obtain⟨h1,o,ho,_⟩:=mem_ready.1 hj;have hjlt:j<ops.size:=(Array.getElem?_eq_some_iff.1 ho).1;rw[gW] at h1
     split at h1
     ·cases h1
     ·rename_i hne'
      have hji:j≠i:=λz=>hne' ⟨z.symm,by rw[hc.1];exact hjlt⟩;have h2:=(List.all_eq_true.1 hall) j (List.mem_range.2 hjlt)
      have h3:listed.getD j false=true:=by
       simp only[Bool.or_eq_true,beq_iff_eq,List.any_eq_true,List.mem_range,Bool.and_eq_true,bne_iff_ne,ne_eq] at h2
       rcases h2 with(h2 | h2) | ⟨x,_,⟨_,h4⟩,h5⟩
       ·exact absurd h2 hji
       ·exact fA hi h2
       ·exact hc.2 x j (fA hi h4) h5
      rw[fB listed (by rw[hc.1];exact hjlt) true false,h3] at h1;cases h1
    rw[go_nil key];exact⟨[],rfl,by simp⟩
   ·have hlt':i<listed.size:=by
     obtain⟨_,o,ho,_⟩:=mem_ready.1 hi;rw[hc.1];exact(Array.getElem?_eq_some_iff.1 ho).1
    have h2:=nT hlt' (mem_ready.1 hi).1 ops.size;rw[if_pos (by rw[<-hc.1];exact hlt')] at h2;obtain⟨l,h3,h4⟩:=ih (t / (Region.ready md ops listed).length) _ (mE hc hi) (by rw[gW,if_neg (λh=>e h.1)];exact h0) (by omega);rw[h3];exact⟨i::l,by simp,by simp[h4,Ne.symm e]⟩
theorem last_begin {md:Region.Mode}(hB:qI md ops m=true) (t:Nat):∃ l,Region.linearise.go md ops ops.size t (Array.replicate ops.size false) []=l++[m]/\m ∉ l:=by
 have hm:m<ops.size:=by simp only[qI,Bool.and_eq_true,decide_eq_true_eq] at hB;exact hB.1.1
 have e:∀ x d,x<ops.size->(Array.replicate ops.size false).getD x d=false:=λx d h=>by simp[Array.getD,h]
 refine last_of2 hB ops.size t _ ⟨by simp,λx y hx _=>?_⟩ (e m true hm) ?_
 ·by_cases h:x<ops.size
  ·rw [e x false h] at hx;cases hx
  ·simp [Array.getD,h] at hx
 ·have : ∀ n,iO (Array.replicate ops.size false) n<=n:=λn=>by
   induction n with
   | zero=>exact Nat.le_refl _
   | succ n ih=>simp only[iO];split <;> omega
  exact this _
theorem dW {Q:Exit->Act->World->Prop}{X Y:Act->World->Prop}{Z:Exit->Act->World->Prop}(h:∀ a w,X a w->Y a w) (hz:∀ e a w,e≠.normal->Z e a w->Q e a w):∀ (l:List Nat) (a:Act) (w:World),wpOps P ops (Exit.then X Z) l a w->wpOps P ops (Exit.then Y Q) l a w
 | [],a,w,hh=>h _ _ hh
 | i :: l,a,w,hh=>by
   simp only[wpOps] at hh ⊢;cases ho:ops[i]? with
   | none =>
     simp only[ho] at hh;exact dW h hz l a w hh
   | some o =>
     simp only[ho] at hh ⊢
     split
     ·rename_i hw
      simp only[hw,if_true] at hh
      rcases hh with hh | ⟨h1,a2,w2,h2⟩
      ·refine .inl ?_
       have h1:=Oper.wp_mono (K':=wpOps P ops (Exit.then Y Q) l) (λa w=>dW h hz l a w) hh;unfold Oper.wp at h1 ⊢
       revert h1
       cases (execOp a.eval o).run P w with
       | ok n w' =>
         cases n with
         | enter f args =>
           simp only[Oper.upon_enter];refine λhc=>hc.mono λe w'' q=>?_;cases e with
           | returned v=>exact q
           | panicked c=>exact hz (.panic c) _ _ (by simp) q
           | outgrown=>obtain⟨a3,w3,q⟩:=q;exact⟨a3,w3,hz .outgrown _ _ (by simp) q⟩
         | _=>exact λq=>q
       | halt x w' =>
         cases x with
         | panic v=>exact λq=>hz (.panic _) _ _ (by simp) q
         | _=>exact λq=>q
      ·exact .inr ⟨h1,a2,w2,hz .outgrown _ _ (by simp) h2⟩
     ·rename_i hw
      simp only[hw] at hh;exact dW h hz l _ w hh
theorem fV {id:Nat}{Q:Exit->Act->World->Prop}{S:World->Prop}{a:Act}{w:World}(m:Nat) (hm:P.follows .mixedOrders=true) (hlast:qI .any ops m=true) (hg:jL ops m=true)
  (h:wpAnyH P .any (idle ops m) (Exit.then (λa' w'=>wpOps P ops Q [m] a' w') λ_ _ _=>False) S (idle ops m).size (Array.replicate (idle ops m).size false) a w.drew):(Code.region id ops true).wp P Q a w:=by
 refine wp_region_draw λt=>?_;rw[show Region.schedule (P.follows .mixedOrders) ops t=Region.linearise.go .any ops ops.size t (Array.replicate ops.size false) [] from by simp[Region.schedule,hm,Region.linearise]];obtain⟨l,hl,hml⟩:=last_begin hlast t;have hmlt:m<ops.size:=by simp only[qI,Bool.and_eq_true,decide_eq_true_eq] at hlast;exact hlast.1.1
 have hs:(idle ops m).size=ops.size:=by simp[idle]
 have h1:=wpAny_sound _ t _ _ _ (wpAny_of_held _ _ _ _ h);rw[hs,kW,hl,dA,kV hg l hml] at h1;rw[hl,dA];refine dW (λa' w' hz=>?_) (λe a w he hz=>?_) l a _ h1
 ·obtain ⟨o,ho⟩:∃ o,ops[m]?=some o:=⟨_,Array.getElem?_eq_getElem hmlt⟩
  have ho':(idle ops m)[m]?=some { o with dst:=none,op:=.move (.const undef),guard:=none }:=by simp[idle,Array.getElem?_modify,ho]
  have hr:(execOp a'.eval { o with dst:=none,op:=.move (.const undef),guard:=none }).run P w'=.ok (.value undef) w':=by simp[execOp,go_sem,Act.eval]
  have hz':wpOps P (idle ops m) (Exit.then (λa' w'=>wpOps P ops Q [m] a' w') λ_ _ _=>False) [m] a' w':=hz;simp only[wpOps,ho',Region.wanted,if_true] at hz'
  rcases hz' with hz' | ⟨_,a2,w2,hz'⟩
  ·rw [Oper.wp,hr,Oper.upon_value] at hz'
   have:wpOps P ops Q [m] a' w':=hz';exact this
  ·exact hz'.elim
 ·cases e with
  | normal=>exact absurd rfl he
  | _=>exact hz.elim
theorem mJ {Q:Exit->Act->World->Prop}{i:Nat}{K:Act->World->Prop}{a:Act}{w:World}{o:Oper}(ho:ops[i]?=some o) (hw:Region.wanted o (yielded ops a.tmps)=true) (h:o.wp P a w K Q):wpOp P ops Q i K a w:=by
 unfold wpOp;rw[ho];simp only[hw,if_true];exact .inl h
theorem dU {md:Region.Mode}{Q:Exit->Act->World->Prop}{S:World->Prop}{i fuel:Nat}{listed:Array Bool}{a:Act}{w:World}{o:Oper}(hr:Region.ready md ops listed=[i]) (ho:ops[i]?=some o) (hw:Region.wanted o (yielded ops a.tmps)=true) (h:∀ K:Act->World->Prop,(∀ a' w',S w'->wpAnyH P md ops Q S fuel (listed.setIfInBounds i true) a' w'->K a' w')->o.wp P a w K Q):wpAnyH P md ops Q S (fuel+1) listed a w:=
 wpAnyH_all hr (by simp) λj hj=>by
  simp only[List.mem_singleton] at hj;subst hj;exact mJ ho hw (h _ λ_ _ h1 h2=>⟨h1,h2⟩)
theorem aU {md:Region.Mode}{Q:Exit->Act->World->Prop}{S:World->Prop}{i fuel:Nat}{listed:Array Bool}{a:Act}{w:World}{o:Oper}(d:Option Tmp) (hi:ops[i]?=some o) (hd:o.dst=d) (hs:Region.noSelect ops=true) (hf:Region.free md ops listed i=true) (hr:(Region.ready md ops listed).contains i=true)
  (hQ':∀ c a w,¬Q (.panic c) a w) (hg:Region.wanted o (yielded ops a.tmps)=true) (hS:S w)
  (h:∃ v,(∀ wq,S wq->(execOp a.eval o).run P wq=.ok (.value v) wq)/\wpAnyH P md ops Q S fuel (listed.setIfInBounds i true) (a.put d v) w):wpAnyH P md ops Q S (fuel+1) listed a w:=by
 obtain⟨v,h1,h2⟩:=h;subst hd;exact wpAnyH_take hi hs hf hr (λc a w q=>absurd q (hQ' c _ w)) (.inl ⟨hg,h1⟩) hS h2
theorem aX {Q:Exit->Act->World->Prop}{a:Act}{w:World}{o:Oper}(ho:ops[m]?=some o) (h:wpList P ops Q [o] a w):wpOps P ops Q [m] a w:=by
 simp only[wpOps,ho]
 simpa [wpList] using h
end
end Go.Turn
namespace Go.Turn
section
variable {P:Program}{ops:Array Oper}{m:Nat}
def rJ (md:Region.Mode) (ops:Array Oper) (m:Nat):Nat->Nat->Bool
 | 0,j=>waits md ops m j
 | f+1,j=>waits md ops m j || (List.range ops.size).any (λi=>waits md ops i j && rJ md ops m f i)
def mC (md:Region.Mode) (ops:Array Oper) (m:Nat):Bool:=decide (m<ops.size) && (List.range ops.size).all (λi=>(ops[i]?).all λo=>o.after.all λe=>decide (e.on<i)) && (List.range ops.size).all (λj=>j==m || rJ md ops m ops.size j)
theorem kM {md:Region.Mode}{listed:Array Bool}(hc:oX md ops listed) (hi:m∈Region.ready md ops listed):∀ (f j:Nat),rJ md ops m f j=true->listed.getD j false=true
 | 0,j,h=>fA hi h
 | f+1,j,h=>by
   simp only[rJ,Bool.or_eq_true,List.any_eq_true,Bool.and_eq_true] at h
   rcases h with h | ⟨x,_,h1,h2⟩
   ·exact fA hi h
   ·exact hc.2 x j (kM hc hi f x h2) h1
theorem last_of3 {md:Region.Mode}(hB:mC md ops m=true):∀ (f t:Nat) (listed:Array Bool),oX md ops listed->listed.getD m true=false->iO listed ops.size<=f->∃ l,Region.linearise.go md ops f t listed []=l++[m]/\m ∉ l:=by
 have hB':=hB;simp only[mC,Bool.and_eq_true,decide_eq_true_eq] at hB';obtain⟨⟨hm,hb⟩,hall⟩:=hB';intro f
 induction f with
 | zero =>
   intro t listed hc h0 hf;have:=nU (listed:=listed) ops.size hm (by rw[fB listed (by rw[hc.1];exact hm) false true];exact h0)
   omega
 | succ f ih =>
   intro t listed hc h0 hf;simp only[Region.linearise.go]
   change ∃ l,(match (Region.ready md ops listed)[t%(Region.ready md ops listed).length]? with
    | some i=>Region.linearise.go md ops f (t / (Region.ready md ops listed).length) (listed.setIfInBounds i true) [i]
    | none=>[].reverse)=l++[m]/\m ∉ l
   have hne:Region.ready md ops listed≠[]:=nN hb hc.1 m hm (by rw[fB listed (by rw[hc.1];exact hm) false true];exact h0);have hlt:t%(Region.ready md ops listed).length<(Region.ready md ops listed).length:=Nat.mod_lt _ (List.length_pos_iff.2 hne);rw[List.getElem?_eq_getElem hlt];have hi:=List.getElem_mem hlt;generalize (Region.ready md ops listed)[t%(Region.ready md ops listed).length]=i at hi;simp only[];rw[linearise_go_acc]
   by_cases e:i=m
   ·subst e
    have key:Region.ready md ops (listed.setIfInBounds i true)=[]:=by
     apply Classical.byContradiction;intro hn;obtain⟨j,hj⟩:=List.exists_mem_of_ne_nil _ hn;obtain⟨h1,o,ho,_⟩:=mem_ready.1 hj;have hjlt:j<ops.size:=(Array.getElem?_eq_some_iff.1 ho).1;rw[gW] at h1
     split at h1
     ·cases h1
     ·rename_i hne'
      have hji:j≠i:=λz=>hne' ⟨z.symm,by rw[hc.1];exact hjlt⟩;have h2:=(List.all_eq_true.1 hall) j (List.mem_range.2 hjlt)
      have h3:listed.getD j false=true:=by
       simp only[Bool.or_eq_true,beq_iff_eq] at h2
       rcases h2 with h2 | h2
       ·exact absurd h2 hji
       ·exact kM hc hi _ _ h2
      rw[fB listed (by rw[hc.1];exact hjlt) true false,h3] at h1;cases h1
    rw[go_nil key];exact⟨[],rfl,by simp⟩
   ·have hlt':i<listed.size:=by
     obtain⟨_,o,ho,_⟩:=mem_ready.1 hi;rw[hc.1];exact(Array.getElem?_eq_some_iff.1 ho).1
    have h2:=nT hlt' (mem_ready.1 hi).1 ops.size;rw[if_pos (by rw[<-hc.1];exact hlt')] at h2;obtain⟨l,h3,h4⟩:=ih (t / (Region.ready md ops listed).length) _ (mE hc hi) (by rw[gW,if_neg (λh=>e h.1)];exact h0) (by omega);rw[h3];exact⟨i::l,by simp,by simp[h4,Ne.symm e]⟩
theorem mB {md:Region.Mode}(hB:mC md ops m=true) (t:Nat):∃ l,Region.linearise.go md ops ops.size t (Array.replicate ops.size false) []=l++[m]/\m ∉ l:=by
 have hm:m<ops.size:=by simp only[mC,Bool.and_eq_true,decide_eq_true_eq] at hB;exact hB.1.1
 have e:∀ x d,x<ops.size->(Array.replicate ops.size false).getD x d=false:=λx d h=>by simp[Array.getD,h]
 refine last_of3 hB ops.size t _ ⟨by simp,λx y hx _=>?_⟩ (e m true hm) ?_
 ·by_cases h:x<ops.size
  ·rw [e x false h] at hx;cases hx
  ·simp [Array.getD,h] at hx
 ·have : ∀ n,iO (Array.replicate ops.size false) n<=n:=λn=>by
   induction n with
   | zero=>exact Nat.le_refl _
   | succ n ih=>simp only[iO];split <;> omega
  exact this _
theorem bV {id:Nat}{Q:Exit->Act->World->Prop}{S:World->Prop}{a:Act}{w:World}(m:Nat) (hm:P.follows .mixedOrders=true) (hlast:mC .any ops m=true) (hg:jL ops m=true)
  (h:wpAnyH P .any (idle ops m) (Exit.then (λa' w'=>wpOps P ops Q [m] a' w') λ_ _ _=>False) S (idle ops m).size (Array.replicate (idle ops m).size false) a w.drew):(Code.region id ops true).wp P Q a w:=by
 refine wp_region_draw λt=>?_;rw[show Region.schedule (P.follows .mixedOrders) ops t=Region.linearise.go .any ops ops.size t (Array.replicate ops.size false) [] from by simp[Region.schedule,hm,Region.linearise]];obtain⟨l,hl,hml⟩:=mB hlast t;have hmlt:m<ops.size:=by simp only[mC,Bool.and_eq_true,decide_eq_true_eq] at hlast;exact hlast.1.1
 have hs:(idle ops m).size=ops.size:=by simp[idle]
 have h1:=wpAny_sound _ t _ _ _ (wpAny_of_held _ _ _ _ h);rw[hs,kW,hl,dA,kV hg l hml] at h1;rw[hl,dA];refine dW (λa' w' hz=>?_) (λe a w he hz=>?_) l a _ h1
 ·obtain ⟨o,ho⟩:∃ o,ops[m]?=some o:=⟨_,Array.getElem?_eq_getElem hmlt⟩
  have ho':(idle ops m)[m]?=some { o with dst:=none,op:=.move (.const undef),guard:=none }:=by simp[idle,Array.getElem?_modify,ho]
  have hr:(execOp a'.eval { o with dst:=none,op:=.move (.const undef),guard:=none }).run P w'=.ok (.value undef) w':=by simp[execOp,go_sem,Act.eval]
  have hz':wpOps P (idle ops m) (Exit.then (λa' w'=>wpOps P ops Q [m] a' w') λ_ _ _=>False) [m] a' w':=hz;simp only[wpOps,ho',Region.wanted,if_true] at hz'
  rcases hz' with hz' | ⟨_,a2,w2,hz'⟩
  ·rw [Oper.wp,hr,Oper.upon_value] at hz'
   have:wpOps P ops Q [m] a' w':=hz';exact this
  ·exact hz'.elim
 ·cases e with
  | normal=>exact absurd rfl he
  | _=>exact hz.elim
theorem aR {id:Nat}{Q:Exit->Act->World->Prop}{a:Act}{w:World}(m:Nat) (hm:P.follows .mixedOrders=true) (hlast:mC .any ops m=true) (hg:jL ops m=true) (hB:Region.lexB .any (idle ops m)=true)
  (h:wpQuiet P (idle ops m) (λw'=>∃ n,w'=w.drewN n) (λa'=>∀ w',(∃ n,w'=w.drewN n)->wpOps P ops Q [m] a' w') (idle ops m).toList a):(Code.region id ops true).wp P Q a w:=by
 refine wp_region_draw λt=>?_;rw[show Region.schedule (P.follows .mixedOrders) ops t=Region.linearise.go .any ops ops.size t (Array.replicate ops.size false) [] from by simp[Region.schedule,hm,Region.linearise]];obtain⟨l,hl,hml⟩:=mB hlast t;have hmlt:m<ops.size:=by simp only[mC,Bool.and_eq_true,decide_eq_true_eq] at hlast;exact hlast.1.1
 have hs:(idle ops m).size=ops.size:=by simp[idle]
 simp only[Region.lexB,Bool.and_eq_true] at hB
 have h1:wpOps P (idle ops m) (Exit.then (λa' w'=>wpOps P ops Q [m] a' w') λ_ _ _=>False) (Region.linearise.go .any (idle ops m) (idle ops m).size t (Array.replicate (idle ops m).size false) []) a w.drew:=by
  refine wpAny_sound _ _ _ _ _ (wpAny_of_quiet (C:=λw'=>∃ n,w'=w.drewN n) (Q:=λa'=>∀ w',(∃ n,w'=w.drewN n)->wpOps P ops Q [m] a' w') (λ_ _ hc hk=>hk _ hc) _ _ _ _ ⟨1,rfl⟩ ?_);have:=wpAnyQ_lex (C:=λw'=>∃ n,w'=w.drewN n) (md:=.any) hB.1 (idle ops m).toList 0 (Array.replicate (idle ops m).size false) a (by simp) (by simpa using hB.2) h
  simpa using this
 rw[hs,kW,hl,dA,kV hg l hml] at h1;rw[hl,dA];refine dW (λa' w' hz=>?_) (λe a w he hz=>?_) l a _ h1
 ·obtain ⟨o,ho⟩:∃ o,ops[m]?=some o:=⟨_,Array.getElem?_eq_getElem hmlt⟩
  have ho':(idle ops m)[m]?=some { o with dst:=none,op:=.move (.const undef),guard:=none }:=by simp[idle,Array.getElem?_modify,ho]
  have hr:(execOp a'.eval { o with dst:=none,op:=.move (.const undef),guard:=none }).run P w'=.ok (.value undef) w':=by simp[execOp,go_sem,Act.eval]
  have hz':wpOps P (idle ops m) (Exit.then (λa' w'=>wpOps P ops Q [m] a' w') λ_ _ _=>False) [m] a' w':=hz;simp only[wpOps,ho',Region.wanted,if_true] at hz'
  rcases hz' with hz' | ⟨_,a2,w2,hz'⟩
  ·rw [Oper.wp,hr,Oper.upon_value] at hz'
   have:wpOps P ops Q [m] a' w':=hz';exact this
  ·exact hz'.elim
 ·cases e with
  | normal=>exact absurd rfl he
  | _=>exact hz.elim
end
end Go.Turn
